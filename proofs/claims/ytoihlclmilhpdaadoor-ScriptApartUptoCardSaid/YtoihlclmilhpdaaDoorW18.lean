/- Walks: Parse. -/
import Derived.Test.YtoihlclmilhpdaaDoorW17
import Derived.Deep.MidRow
import Derived.BigQuiet
namespace Go.Proofs.YtoihlclmilhpdaaDoor
open Go Go.RowKit

def ParsePost (s : ByteArray) (w : World) (en : Ending) (w' : World) : Prop :=
  ∃ kv, en = .returned (.tuple #[.agg (evCells ((W.parseL s.data.toList).getD {}) kv), .int .i64 (if (W.parseL s.data.toList).isSome then 0 else 260)]) ∧
    w'.ownsRow w.heap.size 3 1 kv ((W.parseL s.data.toList).getD {}).keep.length (intVals ((W.parseL s.data.toList).getD {}).keep) ∧ Below w.heap.size w w'

theorem partsF_len : ∀ (f : Nat) (l : W.Bs) (ws : List W.Bs), W.partsF f l = some ws → ws.length ≤ l.length ∧ ∀ x ∈ ws, x.length ≤ l.length := by
  intro f
  induction f with
  | zero =>
    intro l ws h
    unfold W.partsF at h
    cases ht : Lib.trimLeftB l 32 with
    | nil => rw [ht] at h; simp at h; subst h; simp
    | cons c t => rw [ht] at h; cases h
  | succ f ih =>
    intro l ws h
    have hl := W.trim_len l
    unfold W.partsF at h
    cases ht : Lib.trimLeftB l 32 with
    | nil => rw [ht] at h; simp at h; subst h; simp
    | cons c t =>
      rw [ht] at h hl
      simp only at h
      split at h
      · cases h
      · have hc := W.cutN_pos c t (W.trim_head ht)
        cases hp : W.partsF f ((c :: t).drop (W.cutN (c :: t))) with
        | none => rw [hp] at h; cases h
        | some us =>
          rw [hp] at h
          simp only [Option.map_some, Option.some.injEq] at h
          subst h
          obtain ⟨h1, h2⟩ := ih _ _ hp
          rw [List.length_drop] at h1
          refine ⟨by rw [List.length_cons]; omega, ?_⟩
          intro x hx
          rcases List.mem_cons.1 hx with rfl | hx
          · rw [List.length_take]; omega
          · have := h2 x hx
            rw [List.length_drop] at this
            omega

/-- The table's cells. -/
def rowB (i : Nat) : ByteArray := if i % 2 = 0 then ba (W.firstL (i / 2)) else ba (W.lettersL (i / 2))
theorem row_cells {w : World} (h : Env w) : ∀ i, i < 26 → w.cell? ⟨0, i, none⟩ = some (.string (rowB i)) := by
  intro i hi
  have hr := h.rows (i / 2) (by omega)
  unfold rowB
  by_cases hp : i % 2 = 0
  · rw [if_pos hp]
    have e : 2 * (i / 2) = i := by omega
    rw [e] at hr; exact hr.1
  · rw [if_neg hp]
    have e : 2 * (i / 2) + 1 = i := by omega
    rw [e] at hr; exact hr.2

def rowVals : List Value := (List.range 26).map fun i => Value.string (rowB i)
theorem row_range {w : World} (h : Env w) : w.rangeAt 0 0 rowVals := by
  intro i v hv
  unfold rowVals at hv
  rw [List.getElem?_map] at hv
  by_cases hi : i < 26
  · rw [List.getElem?_range hi] at hv
    injection hv with hv
    rw [← hv, Nat.zero_add]
    exact row_cells h i hi
  · rw [List.getElem?_eq_none (by simp; omega)] at hv; cases hv
theorem row_len : rowVals.length = 26 := by simp [rowVals]
theorem row_size26 : (Tryd.prog.info? 48).map (·.size) = some 26 := by kernel_rfl
theorem row_size : (Tryd.prog.info? 48).map (·.size) = some rowVals.length := by rw [row_len]; exact row_size26
theorem row_desc : Tryd.prog.underlying 48 = some (.array 13 47) := by kernel_rfl
theorem row_extract (j : Nat) (hj : j < 13) : List.take 2 (List.drop (j * 2) rowVals) = [.string (rowB (j * 2)), .string (rowB (j * 2 + 1))] := by
  have : j = 0 ∨ j = 1 ∨ j = 2 ∨ j = 3 ∨ j = 4 ∨ j = 5 ∨ j = 6 ∨ j = 7 ∨ j = 8 ∨ j = 9 ∨ j = 10 ∨ j = 11 ∨ j = 12 := by omega
  rcases this with rfl | rfl | rfl | rfl | rfl | rfl | rfl | rfl | rfl | rfl | rfl | rfl | rfl <;> rfl
theorem row_index (j : Nat) (hj : j < 13) (u : World) : (Instr.index 48 (.agg rowVals.toArray) (.int .i64 j)).run Tryd.prog u = .ok (.agg #[.string (rowB (j * 2)), .string (rowB (j * 2 + 1))]) u := by
  have h13 : (j : Int) < 13 := by omega
  simp [Instr.index, asIntOf, run_underlying row_desc, part, go_sem, hj, row_extract j hj]

def ParseRel (w0 : W.Bs) (ws : List W.Bs) (v : Value) (w : World) (u : Value) (wr : World) : Prop :=
  ∃ j : Nat, j ≤ 13 ∧ u = .int .i64 j ∧ wr.heap[w.heap.size]? = some (.cells (kindCells 0) 24 (0, 0)) ∧ RowAt wr v (strVals (w0 :: ws)) ∧ Below w.heap.size w wr ∧
    (List.range j).findSome? (W.tryL w0 ws) = none

set_option maxHeartbeats 1000000 in
theorem results_parse (tmps : Array Value) (u : World) (H : Nat) (n : Int) (a0 a1 a2 a3 a4 a5 a6 : Value) (h4 : tmps.getD 2 undef = .pointer (some ⟨H, 0, none⟩)) (h5 : tmps.getD 3 undef = .int .i64 n)
    (hg : u.heap[H]? = some (.cells #[a0, a1, a2, a3, a4, a5, a6] 24 (0, 0))) : (results Tryd.f8 tmps).run Tryd.prog u = .ok (.tuple #[.agg #[a0, a1, a2, a3, a4, a5, a6], .int .i64 n]) u := by
  have g := fun i => cell_of_row u H i _ _ _ hg
  have g0 := g 0
  have g1 := g 1
  have g2 := g 2
  have g3 := g 3
  have g4 := g 4
  have g5 := g 5
  have g6 := g 6
  clear g
  simp at g0 g1 g2 g3 g4 g5 g6
  simp only [Array.getD_eq_getD_getElem?] at h4 h5
  simp [results, Tryd.results8, go_sem, h4, h5, g0, g1, g2, g3, g4, g5, g6]
theorem parseEnd {s : ByteArray} {w w4 : World} {e : W.Ev} {kv : Value} {n : Int} (hown : w4.ownsRow (w.heap.size + 1) 3 1 kv e.keep.length (intVals e.keep)) (hb : Below w.heap.size w w4)
    (hst : (W.parseL s.data.toList).getD {} = e) (hn : (if (W.parseL s.data.toList).isSome then (0 : Int) else 260) = n) {a0 a1 a2 a3 a4 a5 a6 : Value} :
    ParsePost s w (.returned (.tuple #[.agg (evCells e kv), .int .i64 n])) (((((((w4.setCell ⟨w.heap.size, 0, none⟩ a0).setCell ⟨w.heap.size, 1, none⟩ a1).setCell ⟨w.heap.size, 2, none⟩ a2).setCell ⟨w.heap.size, 3, none⟩ a3).setCell ⟨w.heap.size, 4, none⟩ a4).setCell ⟨w.heap.size, 5, none⟩ a5).setCell ⟨w.heap.size, 6, none⟩ a6) := by
  have h5 : ∀ j, j ≠ w.heap.size → (((((((w4.setCell ⟨w.heap.size, 0, none⟩ a0).setCell ⟨w.heap.size, 1, none⟩ a1).setCell ⟨w.heap.size, 2, none⟩ a2).setCell ⟨w.heap.size, 3, none⟩ a3).setCell ⟨w.heap.size, 4, none⟩ a4).setCell ⟨w.heap.size, 5, none⟩ a5).setCell ⟨w.heap.size, 6, none⟩ a6).heap[j]? = w4.heap[j]? := fun j hj => copied_other hj
  have hs : ∀ (u : World) (a : Addr) (x : Value), (u.setCell a x).heap.size = u.heap.size ∧ (u.setCell a x).os = u.os ∧ (u.setCell a x).tape = u.tape ∧ (u.setCell a x).output = u.output := fun u a x => ⟨by simp [World.setCell], rfl, rfl, rfl⟩
  obtain ⟨w5, hw5⟩ : ∃ w5, w5 = (((((((w4.setCell ⟨w.heap.size, 0, none⟩ a0).setCell ⟨w.heap.size, 1, none⟩ a1).setCell ⟨w.heap.size, 2, none⟩ a2).setCell ⟨w.heap.size, 3, none⟩ a3).setCell ⟨w.heap.size, 4, none⟩ a4).setCell ⟨w.heap.size, 5, none⟩ a5).setCell ⟨w.heap.size, 6, none⟩ a6) := ⟨_, rfl⟩
  rw [← hw5] at h5 ⊢
  have q2 : w5.heap.size = w4.heap.size := by rw [hw5]; simp only [hs]
  have q3 : w5.os = w4.os := by rw [hw5]; simp only [hs]
  have q4 : w5.tape = w4.tape := by rw [hw5]; simp only [hs]
  have q5 : w5.output = w4.output := by rw [hw5]; simp only [hs]
  unfold ParsePost
  rw [hst, hn]
  exact ⟨kv, rfl, (own_same (H := w.heap.size) hown (fun g h => by have := (hown.lt g h).1; omega) h5).mono_base (by omega), below_same hb q3 q4 q5 q2 h5⟩

theorem find_first {α β : Type} (g : α → Option β) (l r : List α) (a : α) (b : β) (h1 : l.findSome? g = none) (h2 : g a = some b) : (l ++ a :: r).findSome? g = some b := by
  rw [List.findSome?_append, h1]
  simp [h2]
theorem range_split (j : Nat) (hj : j < 13) : ∃ r, List.range 13 = List.range j ++ j :: r := by
  have : j = 0 ∨ j = 1 ∨ j = 2 ∨ j = 3 ∨ j = 4 ∨ j = 5 ∨ j = 6 ∨ j = 7 ∨ j = 8 ∨ j = 9 ∨ j = 10 ∨ j = 11 ∨ j = 12 := by omega
  rcases this with rfl | rfl | rfl | rfl | rfl | rfl | rfl | rfl | rfl | rfl | rfl | rfl | rfl <;> exact ⟨_, rfl⟩
theorem range_next {β : Type} (g : Nat → Option β) (j : Nat) (h1 : (List.range j).findSome? g = none) (h2 : g j = none) : (List.range (j + 1)).findSome? g = none := by
  rw [List.range_succ, List.findSome?_append, h1]
  simp [h2]
theorem first_eq (j : Nat) (w0 : W.Bs) : ((rowB (j * 2)).toList == (ba w0).toList) = (W.firstL j == w0) := by
  unfold rowB
  rw [if_pos (by omega), Lib.toList_data, Lib.toList_data, ba_list, ba_list, show j * 2 / 2 = j by omega]
end Go.Proofs.YtoihlclmilhpdaaDoor
