/- Walks: the closure that adds a number. -/
import Derived.Test.YtoihlclmilhpdaaDoorW12
import Derived.Test.YtoihlclmilhpdaaDoorW11
import Derived.Deep.AppendLies
namespace Go.Proofs.YtoihlclmilhpdaaDoor
open Go Go.RowKit

theorem EvBlk.grown {B be : Nat} {e : W.Ev} {kv kv' : Value} {n : Int} {w w' : World} (h : EvBlk B be e kv w) 
    (hown : w'.ownsRow B 3 1 kv' (e.keep.length + 1) (intVals e.keep ++ [.int .i64 n])) (hne : kv'.ownBlock ≠ some be) (hw : w'.heap[be]? = w.heap[be]?) :
    EvBlk B be { e with keep := e.keep ++ [n] } kv' (w'.setCell ⟨be, 6, none⟩ kv') := by
  refine ⟨?_, ?_⟩
  · rw [heap_setCell _ _ _ _ _ _ _ (by rw [hw]; exact h.blk)]; rfl
  · have : (intVals (e.keep ++ [n])) = intVals e.keep ++ [.int .i64 n] := by simp [intVals]
    show (w'.setCell ⟨be, 6, none⟩ kv').ownsRow B 3 1 kv' (e.keep ++ [n]).length (intVals (e.keep ++ [n]))
    rw [this, List.length_append]
    exact own_setCell hown hne
theorem Keeps.grown {be i : Nat} {kv x : Value} {w w1 w2 w3 : World} (h1 : Below w.heap.size w w1) (h2 : Below w1.heap.size w1 w2) (hg : w2.grownBy w3 kv.ownBlock) : Keeps be kv w (w3.setCell ⟨be, i, none⟩ x) where
  os := hg.os.trans (h2.os.trans h1.os)
  tape := hg.tape.trans (h2.tape.trans h1.tape)
  output := hg.output.trans (h2.output.trans h1.output)
  size := by
    have : (w3.setCell ⟨be, i, none⟩ x).heap.size = w3.heap.size := by simp [World.setCell]
    rw [this]; exact Nat.le_trans h1.size (Nat.le_trans h2.size hg.size)
  block := fun k ob hk hne h => by
    have q1 : w1.heap[k]? = some ob := by rw [h1.block k (heap_lt h)]; exact h
    have q2 : w2.heap[k]? = some ob := by rw [h2.block k (heap_lt q1)]; exact q1
    rw [heap_setCell_other _ _ _ _ _ hk, hg.block k (heap_lt q2) (fun e => hne e.symm)]; exact q2

theorem infoInt : (Tryd.prog.info? 3).map (fun i => (i.zero, i.size, i.bytes)) = some (some (.int .i64 0), 1, 8) := by kernel_rfl

/-- A number is added to the event's list: a step of a region that draws. -/
theorem step_push {ops : Array Oper} {o : Oper} {a : Act} {K : Act → World → Prop} {Q : Exit → Act → World → Prop} {E : Prop} {w0 : World} {B be nb : Nat} {e : W.Ev} {kv : Value} {n : Int} (hgd : o.guard = none) (s x : Operand)
    (ho : o.op = .call { callee := .builtin .append, args := #[s, x], argTypes := #[22, 22] }) (hs : a.eval s = kv) (hE : EvBlk B be e kv w0) (hx : a.eval x = .slice (some ⟨nb, 0, none⟩) 1 1)
    (hn : w0.heap[nb]? = some (.cells #[.int .i64 n] 3 (0, 0))) (hB : B ≤ w0.heap.size) (hl : e.keep.length ≤ 1000000000)
    (h : ∀ g cap w', w0.grownBy w' kv.ownBlock → w'.ownsRow B 3 1 (.slice (some ⟨g, 0, none⟩) (e.keep.length + 1) cap) (e.keep.length + 1) (intVals e.keep ++ [.int .i64 n]) → g ≠ be → K (a.put o.dst (.slice (some ⟨g, 0, none⟩) (e.keep.length + 1) cap)) w') :
    if Region.wanted o (yielded ops a.tmps) = true then Oper.wp Tryd.prog o a w0 K Q else E := by
  obtain ⟨i0, hi, hz0, hz1, hz2⟩ := info_parts infoInt
  refine step_append_lies w0 hgd s x _ ho B 3 i0 _ 1 8 Tryd.underlying22 hi hz0 hz1 hz2 rfl (by decide) kv e.keep.length (intVals e.keep) hs hE.own _ 1 1 [.int .i64 n] hx rfl (World.news_of_block hn) ?_ (by decide) ?_ ?_ hB _ rfl ?_
  · intro u hu; simp at hu; subst hu; rfl
  · unfold maxLen; omega
  · omega
  · intro g cap w' hown hgrow hat hlt
    refine h g cap w' hgrow hown ?_
    rcases hat with hat | hat
    · intro hg; exact hE.apart (by rw [hat, hg])
    · have := heap_lt hE.blk; omega

set_option maxHeartbeats 1000000 in
set_option maxRecDepth 100000 in
theorem clo_k (B be bt : Nat) (e : W.Ev) (kv : Value) (s : ByteArray) (w : World) (hs : s.size ≤ 1000000000) (hl : e.keep.length ≤ 1000000000) (hBw : B ≤ w.heap.size) (hEv : Env w) (hE : EvBlk B be e kv w) (hbt : w.cell? ⟨bt, 0, none⟩ = some (.pointer (some ⟨be, 0, none⟩)))
    (hkb : kv.ownBlock ≠ some bt) :
    Calls Tryd.prog 50 #[.string s, .pointer (some ⟨bt, 0, none⟩)] w (CloPost B be 107 e kv s w) := by
  have hres : W.takeL 107 e s.data.toList = ({ e with keep := e.keep ++ [W.atoiVal s.data.toList] }, intOk s.data.toList) := rfl
  have HR := Lib.hid hres
  have CI := Lib.hid (integer_any s)
  have EV := Lib.hid hEv
  clear hres hEv
  go_enter Tryd.func50, Tryd.ntmps50
  go_wp2_with fail
  refine (CI.out _ hs EV.out).mono ?_
  rintro e1 w1 ⟨rfl, hb1⟩
  have hE1 := Lib.hid (hE.below hb1)
  have q1 := hE1.out.cell 6 kv rfl
  have q2 := hE1.out.free 6
  have q3 : w1.cell? ⟨bt, 0, none⟩ = some (.pointer (some ⟨be, 0, none⟩)) := by rw [hb1.cell (cell_lt hbt)]; exact hbt
  have hb2 : Below w1.heap.size w1 (w1.drew.alloc (.cells #[.int .i64 (W.atoiVal s.data.toList)] 3)) := (Below.mk rfl rfl rfl (Nat.le_refl _) (fun _ _ => rfl) : Below w1.heap.size w1 w1.drew).alloc (Nat.le_refl _) _
  go_wp2_with fail
  have q8 : (w1.alloc (.cells #[.int .i64 (W.atoiVal s.data.toList)] 3)).cell? ⟨be, 6, none⟩ = some kv := (hb2.cell (cell_lt q1)).trans q1
  have q9 : (w1.alloc (.cells #[.int .i64 (W.atoiVal s.data.toList)] 3)).cell? ⟨bt, 0, none⟩ = some (.pointer (some ⟨be, 0, none⟩)) := (hb2.cell (cell_lt q3)).trans q3
  go_region_law
    (refine step_push (w0 := w1.drew.alloc (.cells #[.int .i64 (W.atoiVal s.data.toList)] 3)) rfl (.tmp 15) (.tmp 17) rfl (by simp [Act.eval]) (hE1.out.below hb2) (by simp [Act.eval]) (alloc_new _ _) (Nat.le_trans hBw (Nat.le_trans hb1.size hb2.size)) hl ?_
     intro g cap w' hgrow hown hg
     have q4 : w'.cell? ⟨bt, 0, none⟩ = some (.pointer (some ⟨be, 0, none⟩)) := by { rw [hgrow.cell_far _ (Nat.lt_of_lt_of_le (cell_lt q3) hb2.size) (Ne.symm hkb), hb2.cell (cell_lt q3)]; exact q3 }
     have q5 : w'.heap[be]? = (w1.drew.alloc (.cells #[.int .i64 (W.atoiVal s.data.toList)] 3)).heap[be]? := hgrow.block be (heap_lt (hE1.out.below hb2).blk) (Ne.symm (hE1.out.apart))
     have q6 : w'.frozen? ⟨be, 6, none⟩ = false := by { unfold World.frozen?; rw [q5, (hE1.out.below hb2).blk]; simp }
     have q7 : w'.cell? ⟨be, 6, none⟩ = some kv := by { unfold World.cell?; rw [q5, (hE1.out.below hb2).blk]; rfl })
  all_goals
    go_wp2_with fail
    go_ret
    unfold CloPost
    rw [HR.out]
    exact ⟨_, rfl, (hE1.out.below hb2).grown hown (by simp [Value.ownBlock, hg]) q5, Keeps.grown hb1 hb2 hgrow⟩
end Go.Proofs.YtoihlclmilhpdaaDoor
