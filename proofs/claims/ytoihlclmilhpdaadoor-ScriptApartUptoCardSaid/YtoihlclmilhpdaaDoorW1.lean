/- Walks: the small functions of words and lines that only read. -/
import Derived.WalkKit
import Derived.BigQuiet
import Derived.Deep.QuietTactic
import Derived.Lib.Hide
import Derived.Handy
import Derived.Test.YtoihlclmilhpdaaDoorShelf
import Derived.Test.YtoihlclmilhpdaaDoorScript
namespace Go.Proofs.YtoihlclmilhpdaaDoor
open Go Go.RowKit

theorem ret_bool {a b : Bool} (h : a = b) : Ending.returned (.bool a) = .returned (.bool b) := by rw [h]
theorem ret_int {k : IntKind} {a b : Int} (h : a = b) : Ending.returned (.int k a) = .returned (.int k b) := by rw [h]
theorem take_snoc (s : ByteArray) (k : Nat) (h : k < s.size) : s.data.toList.take (k + 1) = s.data.toList.take k ++ [s[k]] := by
  rw [List.take_succ_eq_append_getElem (by simpa using h)]; rfl
theorem size_list (s : ByteArray) : s.data.toList.length = s.size := by rw [Array.length_toList]; rfl
theorem getD_list (s : ByteArray) (k : Nat) (h : k < s.size) : s.data.toList.getD k 0 = s[k] := by
  rw [List.getD_eq_getElem?_getD, List.getElem?_eq_getElem (by simpa using h)]; rfl

/-! ### isPlain -/
theorem plain_step {s : ByteArray} {k : Nat} (hk : k < s.size) (h : (s.data.toList.take k).all W.plainB = true) (h1 : W.plainB s[k] = true) : (s.data.toList.take (k + 1)).all W.plainB = true := by
  rw [take_snoc s k hk, List.all_append, h]; simpa using h1
theorem plain_stop {s : ByteArray} {k : Nat} (hk : k < s.size) (h1 : W.plainB s[k] = false) : W.isPlain s.data.toList = false := by
  have : s.data.toList.all W.plainB = false := by
    rw [List.all_eq_false]
    exact ⟨s[k], Array.getElem_mem_toList (xs := s.data) (i := k) hk, by rw [h1]; simp⟩
  unfold W.isPlain; rw [this]; rfl
theorem plain_end {s : ByteArray} {k : Nat} (hk : s.size ≤ k) (h : (s.data.toList.take k).all W.plainB = true) : W.isPlain s.data.toList = !s.toList.isEmpty := by
  rw [List.take_of_length_le (by rw [size_list]; exact hk)] at h
  unfold W.isPlain
  rw [h, Lib.toList_data]
  rfl

theorem isPlain_any (s : ByteArray) (w : World) (hs : s.size ≤ 9223372036854775807) :
    Calls Tryd.prog 31 #[.string s] w fun e w' => e = .returned (.bool (W.isPlain s.data.toList)) ∧ w = w' := by
  go_enter Tryd.func31, Tryd.ntmps31
  go_wp2
  go_loop [7] (fun i => ∃ k : Nat, k ≤ s.size ∧ i = .int .i64 k ∧ Hid ((s.data.toList.take k).all W.plainB = true)) (fun i => s.size - (intOf i).toNat)
  case atStart => exact ⟨0, Nat.zero_le _, rfl, Lib.hid rfl⟩
  case round =>
    obtain ⟨k, hk, rfl, hall⟩ := hrel
    by_cases hlt : k < s.size
    · by_cases hp : W.plainB s[k] = true
      · have hp' := hp
        simp only [W.plainB, Bool.and_eq_true, decide_eq_true_eq, bne_iff_ne, ne_eq] at hp'
        obtain ⟨⟨⟨⟨a1, a2⟩, a3⟩, a4⟩, a5⟩ := hp'
        have H := Lib.hid (plain_step hlt hall.out hp)
        have b3 : ((s[k].toNat : Int) == 34) = false := by simp; omega
        have b4 : ((s[k].toNat : Int) == 92) = false := by simp; omega
        have b5 : ((s[k].toNat : Int) == 35) = false := by simp; omega
        clear hp a3 a4 a5
        go_wp2
        go_round
        case rel => exact ⟨k + 1, by omega, by go_num, H⟩
        case measure => simp [intOf]; omega
      · have H := Lib.hid (plain_stop hlt (by simpa using hp))
        have hp' : s[k].toNat < 33 ∨ 126 < s[k].toNat ∨ s[k].toNat = 34 ∨ s[k].toNat = 92 ∨ s[k].toNat = 35 := by
          simp only [W.plainB, Bool.and_eq_true, decide_eq_true_eq, bne_iff_ne, ne_eq] at hp
          omega
        clear hp
        rcases hp' with hp' | hp' | hp' | hp' | hp'
        all_goals
          go_wp2
          all_goals first
            | (exfalso; omega)
            | (exfalso; simp only [beq_eq_false_iff_ne, ne_eq] at *; omega)
            | (go_ret; exact ⟨ret_bool H.out.symm, rfl⟩)
    · have H := Lib.hid (plain_end (by omega) hall.out)
      go_wp2
      go_ret
      exact ⟨ret_bool H.out.symm, rfl⟩
end Go.Proofs.YtoihlclmilhpdaaDoor
