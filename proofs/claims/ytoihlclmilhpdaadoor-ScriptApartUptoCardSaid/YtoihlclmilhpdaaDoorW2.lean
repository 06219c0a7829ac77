/- Walks: nibble, byNumber, escape. -/
import Derived.Test.YtoihlclmilhpdaaDoorW1
namespace Go.Proofs.YtoihlclmilhpdaaDoor
open Go Go.RowKit

theorem nibble_any (c : UInt8) (w : World) :
    Calls Tryd.prog 61 #[.int .u8 (c.toNat : Int)] w fun e w' => e = .returned (.int .i64 (W.nib c)) ∧ w = w' := by
  go_enter Tryd.func61, Tryd.ntmps61
  go_wp2_with (go_at_call 42; refine (Tryd.strings_IndexByte _ _ _).mono ?_; rintro e w' ⟨rfl, rfl⟩)
  go_ret
  refine ⟨?_, rfl⟩
  unfold W.nib
  congr 2

theorem hex_cut (a : Nat) (h : a < 16) : ({ data := #[48, 49, 50, 51, 52, 53, 54, 55, 56, 57, 97, 98, 99, 100, 101, 102] } : ByteArray).extract a (a + 1) = ⟨#[W.hexAt a]⟩ := by
  have : ∀ a : Fin 16, ({ data := #[48, 49, 50, 51, 52, 53, 54, 55, 56, 57, 97, 98, 99, 100, 101, 102] } : ByteArray).extract a.1 (a.1 + 1) = ⟨#[W.hexAt a.1]⟩ := by decide
  exact this ⟨a, h⟩
theorem byNumber_any (c : UInt8) (w : World) :
    Calls Tryd.prog 34 #[.int .u8 (c.toNat : Int)] w fun e w' => e = .returned (.string ⟨(W.byNumber c).toArray⟩) ∧ ∃ n, w' = w.drewN n := by
  have hc : c.toNat < 256 := c.toNat_lt
  have e1 : IntKind.u8.wrap ((c.toNat : Int) / 16) = ((c.toNat / 16 : Nat) : Int) := IntWalk.u8_in _ (by omega)
  have e2 : IntKind.u8.wrap (((c.toNat / 16 : Nat) : Int) + 1) = ((c.toNat / 16 : Nat) : Int) + 1 := IntWalk.u8_in _ (by omega)
  have e3 : (c.toNat : Int).tmod 16 = ((c.toNat % 16 : Nat) : Int) := by rw [Int.tmod_eq_emod_of_nonneg (by omega)]; omega
  have e4 : IntKind.u8.wrap (((c.toNat % 16 : Nat) : Int) + 1) = ((c.toNat % 16 : Nat) : Int) + 1 := IntWalk.u8_in _ (by omega)
  have b1 : c.toNat / 16 < 16 := by omega
  have b2 : c.toNat % 16 < 16 := by omega
  obtain ⟨a, ha⟩ : ∃ a, a = c.toNat / 16 := ⟨_, rfl⟩
  obtain ⟨b, hb⟩ : ∃ b, b = c.toNat % 16 := ⟨_, rfl⟩
  have hsp : W.byNumber c = [92, 120, W.hexAt a, W.hexAt b] := by rw [ha, hb]; rfl
  rw [hsp]
  rw [← ha] at e1 e2 b1
  rw [← hb] at e3 e4 b2
  clear ha hb hsp hc
  have g1 : (0 : Int) ≤ a := by omega
  have g2 : (a : Int) ≤ a + 1 := by omega
  have g3 : (a : Int) + 1 ≤ 16 := by omega
  have g4 : (0 : Int) ≤ b := by omega
  have g5 : (b : Int) ≤ b + 1 := by omega
  have g6 : (b : Int) + 1 ≤ 16 := by omega
  have x1 := hex_cut a b1
  have x2 := hex_cut b b2
  have y1 : ∀ u, (Op.stringOp .add ⟨#[92, 120]⟩ ⟨#[W.hexAt a]⟩).run Tryd.prog u = .ok (.string ⟨#[92, 120, W.hexAt a]⟩) u := fun u => run_string_add_sum u _ _ (by simp [ByteArray.size])
  have y2 : ∀ u, (Op.stringOp .add ⟨#[92, 120, W.hexAt a]⟩ ⟨#[W.hexAt b]⟩).run Tryd.prog u = .ok (.string ⟨#[92, 120, W.hexAt a, W.hexAt b]⟩) u := fun u => run_string_add_sum u _ _ (by simp [ByteArray.size])
  go_enter Tryd.func34, Tryd.ntmps34
  go_wp2
  go_quiet (fail)
  go_wp2
  go_ret
  exact ⟨rfl, _, rfl⟩

end Go.Proofs.YtoihlclmilhpdaaDoor
