/- Walks: read. -/
import Derived.Test.YtoihlclmilhpdaaDoorW14
namespace Go.Proofs.YtoihlclmilhpdaaDoor
open Go Go.RowKit

def ReadPost (k : Nat) (ws : List W.Bs) (w : World) (en : Ending) (w' : World) : Prop :=
  ∃ kv, en = .returned (.tuple #[.agg (evCells (W.readL k ws).1 kv), .bool (W.readL k ws).2]) ∧ w'.ownsRow w.heap.size 3 1 kv (W.readL k ws).1.keep.length (intVals (W.readL k ws).1.keep) ∧ Below w.heap.size w w'

theorem RowAt.form {w : World} {v : Value} {xs : List Value} (h : RowAt w v xs) : ∃ ao cap, v = .slice ao xs.length cap := by
  rcases h with ⟨rfl, rfl | ⟨a, c, rfl⟩⟩ | ⟨b, off, c, rfl, _, _⟩
  · exact ⟨_, _, rfl⟩
  · exact ⟨_, _, rfl⟩
  · exact ⟨_, _, rfl⟩
theorem RowAt.row {w : World} {ao : Option Addr} {n cap : Nat} {xs : List Value} (h : RowAt w (.slice ao n cap) xs) (hp : 0 < xs.length) : ∃ b off, ao = some ⟨b, off, none⟩ ∧ ∀ i x, xs[i]? = some x → w.cell? ⟨b, off + i, none⟩ = some x := by
  rcases h with ⟨rfl, _⟩ | ⟨b, off, c, he, _, hc⟩
  · simp at hp
  · injection he with h1 h2 h3
    exact ⟨b, off, h1, hc⟩

def kindCells (k : Nat) : Array Value := #[.int .i64 k, .string ⟨#[]⟩, .string ⟨#[]⟩, .string ⟨#[]⟩, .int .i64 0, .bool false, .slice none 0 0]
theorem kind_cells (k : Nat) : evCells { kind := (k : Int) } (.slice none 0 0) = kindCells k := rfl

set_option maxHeartbeats 2000000 in
set_option maxRecDepth 100000 in
theorem read_short (k : Nat) (hk : k < 13) (ws : List W.Bs) (v : Value) (w : World) (hv : RowAt w v (strVals ws)) (hE : Env w) (hkk : W.lettersL k ≠ [107]) (hl : ws.length ≠ (W.lettersL k).length) :
    Calls Tryd.prog 17 #[.int .i64 k, v] w (ReadPost k ws w) := by
  obtain ⟨ao, cap, rfl⟩ := hv.form
  rw [strVals_len] at hv ⊢
  have hres : W.readL k ws = ({ kind := k }, false) := by
    unfold W.readL W.lettersOf
    rw [if_neg hkk, if_pos hl]
  have HR := Lib.hid hres
  obtain ⟨lets, hlets⟩ : ∃ l, l = ba (W.lettersL k) := ⟨_, rfl⟩
  have hr := (hE.rows k hk).2
  rw [Nat.mul_comm] at hr
  have b1 : (lets.toList == [107]) = false := by rw [Lib.toList_data, hlets, ba_list]; simpa using hkk
  have hsz : lets.size = (W.lettersL k).length := by rw [hlets, ba_size]
  have b2 : ((ws.length : Int) == (lets.size : Int)) = false := by rw [hsz]; simp; omega
  have b3 : ((ws.length : Int) != (lets.size : Int)) = true := by rw [hsz]; simp; omega
  have r1 : ∀ o p, ((w.alloc o).alloc p).cell? ⟨0, k * 2 + 1, none⟩ = some (.string lets) := by
    intro o p; rw [(two_boxed w o p).cell (cell_lt hr), hlets]; exact hr
  clear hlets hr hres hsz hkk hl
  go_enter Tryd.func17, Tryd.ntmps17
  go_wp2_with fail
  refine bodyPost_ret (v := .tuple #[.agg (kindCells k), .bool false]) (by simp [results, Tryd.results17, go_sem, kindCells]) rfl ?_
  unfold ReadPost
  rw [HR.out]
  exact ⟨.slice none 0 0, rfl, World.ownsRow_nil _ _ _ _, two_boxed _ _ _⟩
theorem Keeps.belowH {be H : Nat} {kv : Value} {w w3 w4 : World} (h1 : Below H w w3) (hk : Keeps be kv w3 w4) (hbe : H ≤ be) (hkv : ∀ g, kv.ownBlock = some g → H ≤ g) (hsz : H ≤ w.heap.size) : Below H w w4 where
  os := hk.os.trans h1.os
  tape := hk.tape.trans h1.tape
  output := hk.output.trans h1.output
  size := Nat.le_trans h1.size hk.size
  block := fun k hlt => by
    have hw3 : k < w3.heap.size := Nat.lt_of_lt_of_le hlt (Nat.le_trans hsz h1.size)
    have e1 : w3.heap[k]? = some w3.heap[k] := Array.getElem?_eq_getElem hw3
    rw [hk.block k _ (by omega) (fun e => by have := hkv k e; omega) e1, ← e1, h1.block k hlt]
theorem EvBlk.kvge {B be : Nat} {e : W.Ev} {kv : Value} {w : World} (h : EvBlk B be e kv w) : ∀ g, kv.ownBlock = some g → B ≤ g := fun g hg => (h.own.lt g hg).1
theorem EvBlk.kvlt {B be : Nat} {e : W.Ev} {kv : Value} {w : World} (h : EvBlk B be e kv w) : ∀ g, kv.ownBlock = some g → g < w.heap.size := fun g hg => (h.own.lt g hg).2
theorem EvBlk.kvform {B be : Nat} {e : W.Ev} {kv : Value} {w : World} (h : EvBlk B be e kv w) : ∃ ao n cap, kv = .slice ao n cap := by
  rcases h.own.2 with ⟨hv, _⟩ | ⟨g, cap, cur, hv, _⟩
  · exact ⟨_, _, _, hv⟩
  · exact ⟨_, _, _, hv⟩
/-- An event is copied into the result's block. -/
theorem copied {H t : Nat} {w : World} {a0 a1 a2 a3 a4 a5 a6 : Value} (h : w.heap[H]? = some (.cells (kindCells 0) t (0, 0))) :
    (((((((w.setCell ⟨H, 0, none⟩ a0).setCell ⟨H, 1, none⟩ a1).setCell ⟨H, 2, none⟩ a2).setCell ⟨H, 3, none⟩ a3).setCell ⟨H, 4, none⟩ a4).setCell ⟨H, 5, none⟩ a5).setCell ⟨H, 6, none⟩ a6).heap[H]? = some (.cells #[a0, a1, a2, a3, a4, a5, a6] t (0, 0)) := by
  have h0 := heap_setCell _ H 0 a0 _ _ _ h
  have h1 := heap_setCell _ H 1 a1 _ _ _ h0
  have h2 := heap_setCell _ H 2 a2 _ _ _ h1
  have h3 := heap_setCell _ H 3 a3 _ _ _ h2
  have h4 := heap_setCell _ H 4 a4 _ _ _ h3
  have h5 := heap_setCell _ H 5 a5 _ _ _ h4
  exact heap_setCell _ H 6 a6 _ _ _ h5
theorem copied_other {H k : Nat} {w : World} {a0 a1 a2 a3 a4 a5 a6 : Value} (h : k ≠ H) :
    (((((((w.setCell ⟨H, 0, none⟩ a0).setCell ⟨H, 1, none⟩ a1).setCell ⟨H, 2, none⟩ a2).setCell ⟨H, 3, none⟩ a3).setCell ⟨H, 4, none⟩ a4).setCell ⟨H, 5, none⟩ a5).setCell ⟨H, 6, none⟩ a6).heap[k]? = w.heap[k]? := by
  simp only [heap_setCell_other _ _ _ _ _ h]
theorem below_same {H : Nat} {w w4 w5 : World} (h : Below H w w4) (h1 : w5.os = w4.os) (h2 : w5.tape = w4.tape) (h3 : w5.output = w4.output) (h4 : w5.heap.size = w4.heap.size) (h5 : ∀ k, k ≠ H → w5.heap[k]? = w4.heap[k]?) : Below H w w5 :=
  ⟨h1.trans h.os, h2.trans h.tape, h3.trans h.output, by rw [h4]; exact h.size, fun k hk => by rw [h5 k (by omega)]; exact h.block k hk⟩
theorem own_same {w4 w5 : World} {B e n : Nat} {kv : Value} {xs : List Value} {H : Nat} (h : w4.ownsRow B e 1 kv n xs) (hk : ∀ g, kv.ownBlock = some g → g ≠ H) (h5 : ∀ k, k ≠ H → w5.heap[k]? = w4.heap[k]?) : w5.ownsRow B e 1 kv n xs := by
  refine ⟨h.1, h.2.imp id ?_⟩
  rintro ⟨g, cap, cur, h1, h2, h3, h4⟩
  refine ⟨g, cap, cur, h1, h2, ?_, h4⟩
  rw [h5 g (hk g (by rw [h1]; rfl))]; exact h3
theorem take_keep (c : Int) (e : W.Ev) (l : W.Bs) : (W.takeL c e l).1.keep.length ≤ e.keep.length + 1 := by
  unfold W.takeL
  repeat' split
  all_goals simp

/-- The loop's relation. -/
def ReadRel (k : Nat) (ws : List W.Bs) (lets : W.Bs) (lb : ByteArray) (it : Nat) (w : World) (wr : World) : Prop :=
  ∃ j e kv, j ≤ lets.length ∧ wr.heap[it]? = some (.stringIter lb j) ∧ wr.heap[w.heap.size]? = some (.cells (kindCells 0) 24 (0, 0)) ∧
    EvBlk (w.heap.size + 2) (w.heap.size + 1) e kv wr ∧ W.readL k ws = W.readGo e (lets.drop j) (ws.drop j) ∧ e.keep.length ≤ j ∧ Below w.heap.size w wr

theorem byte_at {lb : ByteArray} {lets : W.Bs} {j : Nat} (h : lb.data.toList = lets) (hj : j < lb.size) (hl : j < lets.length) : lb[j] = lets[j] := by
  subst h
  rw [← getD_list _ j hj, List.getD_eq_getElem?_getD, List.getElem?_eq_getElem hl]; rfl
set_option maxHeartbeats 1000000 in
theorem results_read (tmps : Array Value) (u : World) (H : Nat) (b : Bool) (a0 a1 a2 a3 a4 a5 a6 : Value) (h4 : tmps.getD 4 undef = .pointer (some ⟨H, 0, none⟩)) (h5 : tmps.getD 5 undef = .bool b)
    (hg : u.heap[H]? = some (.cells #[a0, a1, a2, a3, a4, a5, a6] 24 (0, 0))) : (results Tryd.f17 tmps).run Tryd.prog u = .ok (.tuple #[.agg #[a0, a1, a2, a3, a4, a5, a6], .bool b]) u := by
  have g := fun i => cell_of_row u H i _ _ _ hg
  have g0 := g 0
  have g1 := g 1
  have g2 := g 2
  have g3 := g 3
  have g4 := g 4
  have g5 := g 5
  have g6 := g 6
  clear g
  simp at g0 g1 g2 g3 g4 g5 g6
  simp only [Array.getD_eq_getD_getElem?] at h4 h5
  simp [results, Tryd.results17, go_sem, h4, h5, g0, g1, g2, g3, g4, g5, g6]
theorem readEnd {k : Nat} {ws : List W.Bs} {w w4 : World} {e : W.Ev} {kv : Value} {b : Bool} (hE : EvBlk (w.heap.size + 2) (w.heap.size + 1) e kv w4) (hb : Below w.heap.size w w4) (hst : W.readL k ws = (e, b)) {a0 a1 a2 a3 a4 a5 a6 : Value} :
    ReadPost k ws w (.returned (.tuple #[.agg (evCells e kv), .bool b])) (((((((w4.setCell ⟨w.heap.size, 0, none⟩ a0).setCell ⟨w.heap.size, 1, none⟩ a1).setCell ⟨w.heap.size, 2, none⟩ a2).setCell ⟨w.heap.size, 3, none⟩ a3).setCell ⟨w.heap.size, 4, none⟩ a4).setCell ⟨w.heap.size, 5, none⟩ a5).setCell ⟨w.heap.size, 6, none⟩ a6) := by
  have h5 : ∀ j, j ≠ w.heap.size → (((((((w4.setCell ⟨w.heap.size, 0, none⟩ a0).setCell ⟨w.heap.size, 1, none⟩ a1).setCell ⟨w.heap.size, 2, none⟩ a2).setCell ⟨w.heap.size, 3, none⟩ a3).setCell ⟨w.heap.size, 4, none⟩ a4).setCell ⟨w.heap.size, 5, none⟩ a5).setCell ⟨w.heap.size, 6, none⟩ a6).heap[j]? = w4.heap[j]? := fun j hj => copied_other hj
  have hs : ∀ (u : World) (a : Addr) (x : Value), (u.setCell a x).heap.size = u.heap.size ∧ (u.setCell a x).os = u.os ∧ (u.setCell a x).tape = u.tape ∧ (u.setCell a x).output = u.output := fun u a x => ⟨by simp [World.setCell], rfl, rfl, rfl⟩
  obtain ⟨w5, hw5⟩ : ∃ w5, w5 = (((((((w4.setCell ⟨w.heap.size, 0, none⟩ a0).setCell ⟨w.heap.size, 1, none⟩ a1).setCell ⟨w.heap.size, 2, none⟩ a2).setCell ⟨w.heap.size, 3, none⟩ a3).setCell ⟨w.heap.size, 4, none⟩ a4).setCell ⟨w.heap.size, 5, none⟩ a5).setCell ⟨w.heap.size, 6, none⟩ a6) := ⟨_, rfl⟩
  rw [← hw5] at h5 ⊢
  have q2 : w5.heap.size = w4.heap.size := by rw [hw5]; simp only [hs]
  have q3 : w5.os = w4.os := by rw [hw5]; simp only [hs]
  have q4 : w5.tape = w4.tape := by rw [hw5]; simp only [hs]
  have q5 : w5.output = w4.output := by rw [hw5]; simp only [hs]
  unfold ReadPost
  rw [hst]
  exact ⟨kv, rfl, (own_same (H := w.heap.size) hE.own (fun g h => by have := hE.kvge g h; omega) h5).mono_base (by omega), below_same hb q3 q4 q5 q2 h5⟩
/-- What is known when a letter is read. -/
theorem readGo_step {e : W.Ev} {c : UInt8} {b : W.Bs} {lets : W.Bs} {ws : List W.Bs} {j : Nat} (h1 : j < lets.length) (h2 : j < ws.length) (hc : lets[j] = c) (hb : ws[j] = b) :
    W.readGo e (lets.drop j) (ws.drop j) = if (W.takeL (c.toNat : Int) e b).2 then W.readGo (W.takeL (c.toNat : Int) e b).1 (lets.drop (j + 1)) (ws.drop (j + 1)) else ((W.takeL (c.toNat : Int) e b).1, false) := by
  rw [List.drop_eq_getElem_cons h1, List.drop_eq_getElem_cons h2, hc, hb]
  rfl
end Go.Proofs.YtoihlclmilhpdaaDoor
