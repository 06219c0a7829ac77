/- Walks: used. -/
import Derived.Test.YtoihlclmilhpdaaDoorW21
namespace Go.Proofs.YtoihlclmilhpdaaDoor
open Go Go.RowKit

def UsedPost (a : W.Ev) (w : World) (e : Ending) (w' : World) : Prop :=
  ∃ kv, e = .returned (.agg (evCells (W.usedL a) kv)) ∧ RowAt w' kv (intVals (W.usedL a).keep) ∧ Below w.heap.size w w'

theorem mid_block (w : World) (A B C : Obj) : (((w.alloc A).alloc B).alloc C).heap[w.heap.size + 1]? = some B := by
  rw [Lib.alloc_old _ _ _ (by rw [alloc_size, alloc_size]; omega)]
  have := alloc_new (w.alloc A) B
  rw [alloc_size] at this; exact this
theorem three_boxed (w : World) (A B C : Obj) : Below w.heap.size w (((w.alloc A).alloc B).alloc C) := (two_boxed w A B).alloc (two_boxed w A B).size _
set_option maxHeartbeats 1000000 in
theorem results_used (tmps : Array Value) (u : World) (H : Nat) (a0 a1 a2 a3 a4 a5 a6 : Value) (h4 : tmps.getD 2 undef = .pointer (some ⟨H, 0, none⟩))
    (hg : u.heap[H]? = some (.cells #[a0, a1, a2, a3, a4, a5, a6] 24 (0, 0))) : (results Tryd.f10 tmps).run Tryd.prog u = .ok (.agg #[a0, a1, a2, a3, a4, a5, a6]) u := by
  have g := fun i => cell_of_row u H i _ _ _ hg
  have g0 := g 0
  have g1 := g 1
  have g2 := g 2
  have g3 := g 3
  have g4 := g 4
  have g5 := g 5
  have g6 := g 6
  clear g
  simp at g0 g1 g2 g3 g4 g5 g6
  simp only [Array.getD_eq_getD_getElem?] at h4
  simp [results, Tryd.results10, go_sem, h4, g0, g1, g2, g3, g4, g5, g6]

set_option maxHeartbeats 4000000 in
set_option maxRecDepth 100000 in
theorem used_1 (a : W.Ev) (ka : Value) (w : World) (hv : RowAt w ka (intVals a.keep)) (hk : a.kind = 1) :
    Calls Tryd.prog 10 #[.agg (evCells a ka)] w (UsedPost a w) := by
  obtain ⟨la, ca, rfl⟩ := hv.form
  unfold UsedPost W.usedL
  unfold evCells
  obtain ⟨k, n, o, d, i, y, l⟩ := a
  simp only at hk hv ⊢
  subst hk
  go_enter Tryd.func10, Tryd.ntmps10
  go_wp2_with fail
  refine bodyPost_ret (results_used _ _ (w.heap.size + 1) _ _ _ _ _ _ _ rfl (mid_block _ _ _ _)) rfl ?_
  exact ⟨_, rfl, Or.inl ⟨rfl, Or.inl rfl⟩, three_boxed _ _ _ _⟩
set_option maxHeartbeats 4000000 in
set_option maxRecDepth 100000 in
theorem used_3 (a : W.Ev) (ka : Value) (w : World) (hv : RowAt w ka (intVals a.keep)) (hk : a.kind = 3) :
    Calls Tryd.prog 10 #[.agg (evCells a ka)] w (UsedPost a w) := by
  obtain ⟨la, ca, rfl⟩ := hv.form
  unfold UsedPost W.usedL
  unfold evCells
  obtain ⟨k, n, o, d, i, y, l⟩ := a
  simp only at hk hv ⊢
  subst hk
  go_enter Tryd.func10, Tryd.ntmps10
  go_wp2_with fail
  refine bodyPost_ret (results_used _ _ (w.heap.size + 1) _ _ _ _ _ _ _ rfl (mid_block _ _ _ _)) rfl ?_
  exact ⟨_, rfl, Or.inl ⟨rfl, Or.inl rfl⟩, three_boxed _ _ _ _⟩
set_option maxHeartbeats 4000000 in
set_option maxRecDepth 100000 in
theorem used_5 (a : W.Ev) (ka : Value) (w : World) (hv : RowAt w ka (intVals a.keep)) (hk : a.kind = 5) :
    Calls Tryd.prog 10 #[.agg (evCells a ka)] w (UsedPost a w) := by
  obtain ⟨la, ca, rfl⟩ := hv.form
  unfold UsedPost W.usedL
  unfold evCells
  obtain ⟨k, n, o, d, i, y, l⟩ := a
  simp only at hk hv ⊢
  subst hk
  go_enter Tryd.func10, Tryd.ntmps10
  go_wp2_with fail
  refine bodyPost_ret (results_used _ _ (w.heap.size + 1) _ _ _ _ _ _ _ rfl (mid_block _ _ _ _)) rfl ?_
  exact ⟨_, rfl, Or.inl ⟨rfl, Or.inl rfl⟩, three_boxed _ _ _ _⟩
set_option maxHeartbeats 4000000 in
set_option maxRecDepth 100000 in
theorem used_6 (a : W.Ev) (ka : Value) (w : World) (hv : RowAt w ka (intVals a.keep)) (hk : a.kind = 6) :
    Calls Tryd.prog 10 #[.agg (evCells a ka)] w (UsedPost a w) := by
  obtain ⟨la, ca, rfl⟩ := hv.form
  unfold UsedPost W.usedL
  unfold evCells
  obtain ⟨k, n, o, d, i, y, l⟩ := a
  simp only at hk hv ⊢
  subst hk
  go_enter Tryd.func10, Tryd.ntmps10
  go_wp2_with fail
  refine bodyPost_ret (results_used _ _ (w.heap.size + 1) _ _ _ _ _ _ _ rfl (mid_block _ _ _ _)) rfl ?_
  exact ⟨_, rfl, Or.inl ⟨rfl, Or.inl rfl⟩, three_boxed _ _ _ _⟩
set_option maxHeartbeats 4000000 in
set_option maxRecDepth 100000 in
theorem used_2 (a : W.Ev) (ka : Value) (w : World) (hv : RowAt w ka (intVals a.keep)) (hk : a.kind = 2) :
    Calls Tryd.prog 10 #[.agg (evCells a ka)] w (UsedPost a w) := by
  obtain ⟨la, ca, rfl⟩ := hv.form
  unfold UsedPost W.usedL
  unfold evCells
  obtain ⟨k, n, o, d, i, y, l⟩ := a
  simp only at hk hv ⊢
  subst hk
  go_enter Tryd.func10, Tryd.ntmps10
  go_wp2_with fail
  refine bodyPost_ret (results_used _ _ (w.heap.size + 1) _ _ _ _ _ _ _ rfl (mid_block _ _ _ _)) rfl ?_
  exact ⟨_, rfl, Or.inl ⟨rfl, Or.inl rfl⟩, three_boxed _ _ _ _⟩
set_option maxHeartbeats 4000000 in
set_option maxRecDepth 100000 in
theorem used_4 (a : W.Ev) (ka : Value) (w : World) (hv : RowAt w ka (intVals a.keep)) (hk : a.kind = 4) :
    Calls Tryd.prog 10 #[.agg (evCells a ka)] w (UsedPost a w) := by
  obtain ⟨la, ca, rfl⟩ := hv.form
  unfold UsedPost W.usedL
  unfold evCells
  obtain ⟨k, n, o, d, i, y, l⟩ := a
  simp only at hk hv ⊢
  subst hk
  go_enter Tryd.func10, Tryd.ntmps10
  go_wp2_with fail
  refine bodyPost_ret (results_used _ _ (w.heap.size + 1) _ _ _ _ _ _ _ rfl (mid_block _ _ _ _)) rfl ?_
  exact ⟨_, rfl, Or.inl ⟨rfl, Or.inl rfl⟩, three_boxed _ _ _ _⟩
set_option maxHeartbeats 4000000 in
set_option maxRecDepth 100000 in
theorem used_7 (a : W.Ev) (ka : Value) (w : World) (hv : RowAt w ka (intVals a.keep)) (hk : a.kind = 7) :
    Calls Tryd.prog 10 #[.agg (evCells a ka)] w (UsedPost a w) := by
  obtain ⟨la, ca, rfl⟩ := hv.form
  unfold UsedPost W.usedL
  unfold evCells
  obtain ⟨k, n, o, d, i, y, l⟩ := a
  simp only at hk hv ⊢
  subst hk
  go_enter Tryd.func10, Tryd.ntmps10
  go_wp2_with fail
  refine bodyPost_ret (results_used _ _ (w.heap.size + 1) _ _ _ _ _ _ _ rfl (mid_block _ _ _ _)) rfl ?_
  exact ⟨_, rfl, Or.inl ⟨rfl, Or.inl rfl⟩, three_boxed _ _ _ _⟩
set_option maxHeartbeats 4000000 in
set_option maxRecDepth 100000 in
theorem used_10 (a : W.Ev) (ka : Value) (w : World) (hv : RowAt w ka (intVals a.keep)) (hk : a.kind = 10) :
    Calls Tryd.prog 10 #[.agg (evCells a ka)] w (UsedPost a w) := by
  obtain ⟨la, ca, rfl⟩ := hv.form
  unfold UsedPost W.usedL
  unfold evCells
  obtain ⟨k, n, o, d, i, y, l⟩ := a
  simp only at hk hv ⊢
  subst hk
  go_enter Tryd.func10, Tryd.ntmps10
  go_wp2_with fail
  refine bodyPost_ret (results_used _ _ (w.heap.size + 1) _ _ _ _ _ _ _ rfl (mid_block _ _ _ _)) rfl ?_
  exact ⟨_, rfl, Or.inl ⟨rfl, Or.inl rfl⟩, three_boxed _ _ _ _⟩
set_option maxHeartbeats 4000000 in
set_option maxRecDepth 100000 in
theorem used_9 (a : W.Ev) (ka : Value) (w : World) (hv : RowAt w ka (intVals a.keep)) (hk : a.kind = 9) :
    Calls Tryd.prog 10 #[.agg (evCells a ka)] w (UsedPost a w) := by
  obtain ⟨la, ca, rfl⟩ := hv.form
  unfold UsedPost W.usedL
  unfold evCells
  obtain ⟨k, n, o, d, i, y, l⟩ := a
  simp only at hk hv ⊢
  subst hk
  go_enter Tryd.func10, Tryd.ntmps10
  go_wp2_with fail
  refine bodyPost_ret (results_used _ _ (w.heap.size + 1) _ _ _ _ _ _ _ rfl (mid_block _ _ _ _)) rfl ?_
  exact ⟨_, rfl, Or.inl ⟨rfl, Or.inl rfl⟩, three_boxed _ _ _ _⟩
set_option maxHeartbeats 4000000 in
set_option maxRecDepth 100000 in
theorem used_12 (a : W.Ev) (ka : Value) (w : World) (hv : RowAt w ka (intVals a.keep)) (hk : a.kind = 12) :
    Calls Tryd.prog 10 #[.agg (evCells a ka)] w (UsedPost a w) := by
  obtain ⟨la, ca, rfl⟩ := hv.form
  unfold UsedPost W.usedL
  unfold evCells
  obtain ⟨k, n, o, d, i, y, l⟩ := a
  simp only at hk hv ⊢
  subst hk
  go_enter Tryd.func10, Tryd.ntmps10
  go_wp2_with fail
  refine bodyPost_ret (results_used _ _ (w.heap.size + 1) _ _ _ _ _ _ _ rfl (mid_block _ _ _ _)) rfl ?_
  exact ⟨_, rfl, hv.below (three_boxed _ _ _ _), three_boxed _ _ _ _⟩
set_option maxHeartbeats 4000000 in
set_option maxRecDepth 100000 in
theorem used_else (a : W.Ev) (ka : Value) (w : World) (hv : RowAt w ka (intVals a.keep)) (h1 : a.kind ≠ 1) (h2 : a.kind ≠ 2) (h3 : a.kind ≠ 3) (h4 : a.kind ≠ 4) (h5 : a.kind ≠ 5) (h6 : a.kind ≠ 6) (h7 : a.kind ≠ 7) (h9 : a.kind ≠ 9) (h10 : a.kind ≠ 10) (h12 : a.kind ≠ 12) :
    Calls Tryd.prog 10 #[.agg (evCells a ka)] w (UsedPost a w) := by
  obtain ⟨la, ca, rfl⟩ := hv.form
  have hu : W.usedL a = { kind := a.kind } := by unfold W.usedL; simp [h1, h2, h3, h4, h5, h6, h7, h9, h10, h12]
  unfold UsedPost
  rw [hu]
  unfold evCells
  obtain ⟨k, n, o, d, i, y, l⟩ := a
  simp only at h1 h2 h3 h4 h5 h6 h7 h9 h10 h12 ⊢
  have q1 : (k == 1) = false := by simpa using h1
  have q2 : (k == 2) = false := by simpa using h2
  have q3 : (k == 3) = false := by simpa using h3
  have q4 : (k == 4) = false := by simpa using h4
  have q5 : (k == 5) = false := by simpa using h5
  have q6 : (k == 6) = false := by simpa using h6
  have q7 : (k == 7) = false := by simpa using h7
  have q9 : (k == 9) = false := by simpa using h9
  have q10 : (k == 10) = false := by simpa using h10
  have q12 : (k == 12) = false := by simpa using h12
  clear hu h1 h2 h3 h4 h5 h6 h7 h9 h10 h12
  go_enter Tryd.func10, Tryd.ntmps10
  go_wp2_with fail
  refine bodyPost_ret (results_used _ _ (w.heap.size + 1) _ _ _ _ _ _ _ rfl (mid_block _ _ _ _)) rfl ?_
  exact ⟨_, rfl, Or.inl ⟨rfl, Or.inl rfl⟩, three_boxed _ _ _ _⟩
theorem used_any (a : W.Ev) (ka : Value) (w : World) (hv : RowAt w ka (intVals a.keep)) : Calls Tryd.prog 10 #[.agg (evCells a ka)] w (UsedPost a w) := by
  by_cases h1 : a.kind = 1
  · exact used_1 a ka w hv h1
  by_cases h2 : a.kind = 2
  · exact used_2 a ka w hv h2
  by_cases h3 : a.kind = 3
  · exact used_3 a ka w hv h3
  by_cases h4 : a.kind = 4
  · exact used_4 a ka w hv h4
  by_cases h5 : a.kind = 5
  · exact used_5 a ka w hv h5
  by_cases h6 : a.kind = 6
  · exact used_6 a ka w hv h6
  by_cases h7 : a.kind = 7
  · exact used_7 a ka w hv h7
  by_cases h9 : a.kind = 9
  · exact used_9 a ka w hv h9
  by_cases h10 : a.kind = 10
  · exact used_10 a ka w hv h10
  by_cases h12 : a.kind = 12
  · exact used_12 a ka w hv h12
  exact used_else a ka w hv h1 h2 h3 h4 h5 h6 h7 h9 h10 h12
end Go.Proofs.YtoihlclmilhpdaaDoor
