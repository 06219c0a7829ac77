/- Walks: same, used. -/
import Derived.Test.YtoihlclmilhpdaaDoorW21
namespace Go.Proofs.YtoihlclmilhpdaaDoor
open Go Go.RowKit

def sameL (a b : W.Ev) : Bool := a.kind == b.kind && a.name == b.name && a.other == b.other && a.data == b.data && a.n == b.n && a.yes == b.yes && a.keep == b.keep
theorem sameL_eq (a b : W.Ev) : sameL a b = (a == b) := by
  unfold sameL
  obtain ⟨k, n, o, d, i, y, l⟩ := a
  obtain ⟨k', n', o', d', i', y', l'⟩ := b
  rw [Bool.eq_iff_iff]
  simp [and_assoc]

set_option maxHeartbeats 4000000 in
set_option maxRecDepth 100000 in
theorem same_any (a b : W.Ev) (ka kb : Value) (w : World) (hv : RowAt w ka (intVals a.keep)) (hu : RowAt w kb (intVals b.keep)) (hN : a.keep.length ≤ 1000000000) :
    Calls Tryd.prog 9 #[.agg (evCells a ka), .agg (evCells b kb)] w (fun e w' => e = .returned (.bool (a == b)) ∧ Below w.heap.size w w') := by
  rw [← sameL_eq]
  have hb := two_boxed w (.cells (evCells a ka) 24) (.cells (evCells b kb) 24)
  have CS := Lib.hid (fun u hh => sameInts_any a.keep b.keep ka kb u (hv.below hh) (hu.below hh) hN)
  obtain ⟨la, ca, rfl⟩ := hv.form
  obtain ⟨lb, cb, rfl⟩ := hu.form
  unfold evCells at hb ⊢
  unfold sameL
  obtain ⟨k, n, o, d, i, y, l⟩ := a
  obtain ⟨k', n', o', d', i', y', l'⟩ := b
  simp only at hb CS ⊢
  cases h1 : k == k' with
  | false =>
    go_enter Tryd.func9, Tryd.ntmps9
    go_wp2_with fail
    go_ret
    exact ⟨rfl, hb⟩
  | true =>
    cases h2 : n == n' with
    | false =>
      go_enter Tryd.func9, Tryd.ntmps9
      go_wp2_with fail
      go_ret
      exact ⟨rfl, hb⟩
    | true =>
      cases h3 : o == o' with
      | false =>
        go_enter Tryd.func9, Tryd.ntmps9
        go_wp2_with fail
        go_ret
        exact ⟨rfl, hb⟩
      | true =>
        cases h4 : d == d' with
        | false =>
          go_enter Tryd.func9, Tryd.ntmps9
          go_wp2_with fail
          go_ret
          exact ⟨rfl, hb⟩
        | true =>
          cases h5 : i == i' with
          | false =>
            go_enter Tryd.func9, Tryd.ntmps9
            go_wp2_with fail
            go_ret
            exact ⟨rfl, hb⟩
          | true =>
            cases h6 : y == y' with
            | false =>
              go_enter Tryd.func9, Tryd.ntmps9
              go_wp2_with fail
              go_ret
              exact ⟨rfl, hb⟩
            | true =>
              go_enter Tryd.func9, Tryd.ntmps9
              go_wp2_with fail
              refine (CS.out _ hb).mono ?_
              unfold BoolPost
              rintro e1 w1 ⟨rfl, q, rfl⟩
              go_wp2_with fail
              go_ret
              exact ⟨rfl, below_drewN hb _⟩
end Go.Proofs.YtoihlclmilhpdaaDoor
