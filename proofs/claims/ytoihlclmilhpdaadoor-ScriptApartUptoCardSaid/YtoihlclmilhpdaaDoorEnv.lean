/- What the package-level variables hold, as one word, and that it stands behind new memory. -/
import Derived.Test.YtoihlclmilhpdaaDoorShelf
import Derived.WalkSmall
import Derived.Test.YtoihlclmilhpdaaDoorScript
namespace Go.Proofs.YtoihlclmilhpdaaDoor
open Go Go.RowKit

structure Env (w : World) : Prop where
  utf : Lib.Utf8Tabs 1 2 w
  pow : Lib.TabIs Tryd.prog w "internal/strconv.uint64pow10" .u64 Lib.pow10Tab
  syn : ∃ tp p, w.var? Tryd.prog "strconv.ErrSyntax" = some #[.iface tp p]
  rng : ∃ tp p, w.var? Tryd.prog "strconv.ErrRange" = some #[.iface tp p]
  rows : ∀ k, k < 13 → w.cell? ⟨0, 2 * k, none⟩ = some (.string ⟨(W.firstL k).toArray⟩) ∧ w.cell? ⟨0, 2 * k + 1, none⟩ = some (.string ⟨(W.lettersL k).toArray⟩)

theorem cell_lt {w : World} {a : Addr} {v : Value} (h : w.cell? a = some v) : a.block < w.heap.size := by
  rcases Nat.lt_or_ge a.block w.heap.size with h' | h'
  · exact h'
  · unfold World.cell? at h; simp [Array.getElem?_eq_none h'] at h

theorem var_lt {w : World} {n : String} {g : Nat} {cs : Array Value} (hg : Tryd.prog.globalNamed n = some g) (hv : w.var? Tryd.prog n = some cs) : g < w.heap.size := by
  rcases Nat.lt_or_ge g w.heap.size with h' | h'
  · exact h'
  · unfold World.var? at hv; simp [hg, Array.getElem?_eq_none h'] at hv
theorem gPow : Tryd.prog.globalNamed "internal/strconv.uint64pow10" = some 4 := by kernel_rfl
theorem gSyn : Tryd.prog.globalNamed "strconv.ErrSyntax" = some 5 := by kernel_rfl
theorem gRng : Tryd.prog.globalNamed "strconv.ErrRange" = some 6 := by kernel_rfl

theorem Env.below {w w' : World} (h : Env w) (hb : Below w.heap.size w w') : Env w' where
  utf := Utf8Tabs_below h.utf hb
  pow := var?_below hb gPow (var_lt gPow h.pow) h.pow
  syn := by obtain ⟨tp, p, hv⟩ := h.syn; exact ⟨tp, p, var?_below hb gSyn (var_lt gSyn hv) hv⟩
  rng := by obtain ⟨tp, p, hv⟩ := h.rng; exact ⟨tp, p, var?_below hb gRng (var_lt gRng hv) hv⟩
  rows := fun k hk => by
    have := h.rows k hk
    exact ⟨by rw [hb.cell (cell_lt this.1)]; exact this.1, by rw [hb.cell (cell_lt this.2)]; exact this.2⟩
end Go.Proofs.YtoihlclmilhpdaaDoor
