/- Walks: escape. -/
import Derived.Test.YtoihlclmilhpdaaDoorW2
namespace Go.Proofs.YtoihlclmilhpdaaDoor
open Go Go.RowKit

theorem list_cons (s : ByteArray) (h : 0 < s.size) : s.data.toList = s[0] :: s.data.toList.drop 1 := by
  have h' : 0 < s.data.toList.length := by rw [size_list]; exact h
  have := List.drop_eq_getElem_cons h'
  rw [List.drop_zero] at this
  exact this
theorem drop_getD (l : List UInt8) (i j : Nat) : (l.drop i).getD j 0 = l.getD (i + j) 0 := by
  simp [List.getD_eq_getElem?_getD]
theorem nib_range (c : UInt8) : -1 ≤ W.nib c ∧ W.nib c ≤ 15 := by
  have : ∀ c : Fin 256, -1 ≤ W.nib (UInt8.ofNat c.1) ∧ W.nib (UInt8.ofNat c.1) ≤ 15 := by decide +kernel
  have h := this ⟨c.toNat, c.toNat_lt⟩
  simpa using h
theorem emptyB (s : ByteArray) (h : s.size = 0) : s.toList.isEmpty = true := by
  rw [Lib.toList_data, List.isEmpty_iff]; exact List.eq_nil_of_length_eq_zero (by rw [size_list]; exact h)
theorem fullB (s : ByteArray) (h : 0 < s.size) : s.toList.isEmpty = false := by
  rw [Lib.toList_data, Bool.eq_false_iff]; intro h'; rw [List.isEmpty_iff] at h'; rw [← size_list, h'] at h; exact absurd h (by simp)

abbrev EscPost (s : ByteArray) (w : World) : Ending → World → Prop := fun e w' => e = .returned (.tuple #[.int .u8 ((W.escape s.data.toList).1.toNat : Int), .int .i64 (W.escape s.data.toList).2]) ∧ ∃ n, w' = w.drewN n

set_option maxRecDepth 100000 in
theorem escape_nil (s : ByteArray) (w : World) (h0 : s.size = 0) : Calls Tryd.prog 43 #[.string s] w (EscPost s w) := by
  have h1 := emptyB s h0
  have hf : W.escape s.data.toList = (0, 0) := by
    have : s.data.toList = [] := List.eq_nil_of_length_eq_zero (by rw [size_list]; exact h0)
    rw [this]; rfl
  unfold EscPost
  rw [hf]
  clear h0 hf
  go_enter Tryd.func43, Tryd.ntmps43
  go_wp2
  go_ret2
  exact ⟨rfl, 0, rfl⟩

theorem escape_at (s : ByteArray) (h : 0 < s.size) : W.escape s.data.toList =
    if s[0] = 34 ∨ s[0] = 92 then (s[0], 1) else if s[0] = 110 then (10, 1) else if s[0] = 116 then (9, 1)
    else if s[0] = 120 ∧ 2 < s.size ∧ 0 ≤ W.nib (s.data.toList.getD 1 0) ∧ 0 ≤ W.nib (s.data.toList.getD 2 0) then ((16 * W.nib (s.data.toList.getD 1 0) + W.nib (s.data.toList.getD 2 0)).toNat.toUInt8, 3)
    else (0, 0) := by
  conv => lhs; rw [list_cons s h]
  simp only [W.escape, drop_getD, List.length_drop, size_list]
  have e : (2 ≤ s.size - 1) = (2 < s.size) := propext ⟨fun h => by omega, fun h => by omega⟩
  simp only [e]

set_option maxRecDepth 100000 in
theorem escape_mark (s : ByteArray) (w : World) (h0 : 0 < s.size) (h : s[0].toNat = 34 ∨ s[0].toNat = 92) : Calls Tryd.prog 43 #[.string s] w (EscPost s w) := by
  have h1 := fullB s h0
  have hf : W.escape s.data.toList = (s[0], 1) := by
    rw [escape_at s h0]
    rw [if_pos (h.imp (fun h => UInt8.toNat_inj.1 h) (fun h => UInt8.toNat_inj.1 h))]
  unfold EscPost
  rw [hf]
  clear hf
  rcases h with h | h
  · have b0 : ((s[0].toNat : Int) == 34) = true := by simp [h]
    clear h
    go_enter Tryd.func43, Tryd.ntmps43
    go_wp2
    go_ret2
    exact ⟨rfl, 0, rfl⟩
  · have b0 : ((s[0].toNat : Int) == 34) = false := by simp [h]
    have b1 : ((s[0].toNat : Int) == 92) = true := by simp [h]
    clear h
    go_enter Tryd.func43, Tryd.ntmps43
    go_wp2
    go_ret2
    exact ⟨rfl, 0, rfl⟩

set_option maxRecDepth 100000 in
theorem escape_n (s : ByteArray) (w : World) (h0 : 0 < s.size) (h : s[0].toNat = 110) : Calls Tryd.prog 43 #[.string s] w (EscPost s w) := by
  have h1 := fullB s h0
  have hf : W.escape s.data.toList = (10, 1) := by
    rw [escape_at s h0, UInt8.toNat_inj.1 (show s[0].toNat = (110 : UInt8).toNat from h)]
    rfl
  unfold EscPost
  rw [hf]
  have b0 : ((s[0].toNat : Int) == 34) = false := by simp [h]
  have b1 : ((s[0].toNat : Int) == 92) = false := by simp [h]
  have b2 : ((s[0].toNat : Int) == 110) = true := by simp [h]
  clear h hf
  go_enter Tryd.func43, Tryd.ntmps43
  go_wp2
  go_ret2
  exact ⟨rfl, 0, rfl⟩

set_option maxRecDepth 100000 in
theorem escape_t (s : ByteArray) (w : World) (h0 : 0 < s.size) (h : s[0].toNat = 116) : Calls Tryd.prog 43 #[.string s] w (EscPost s w) := by
  have h1 := fullB s h0
  have hf : W.escape s.data.toList = (9, 1) := by
    rw [escape_at s h0, UInt8.toNat_inj.1 (show s[0].toNat = (116 : UInt8).toNat from h)]
    rfl
  unfold EscPost
  rw [hf]
  have b0 : ((s[0].toNat : Int) == 34) = false := by simp [h]
  have b1 : ((s[0].toNat : Int) == 92) = false := by simp [h]
  have b2 : ((s[0].toNat : Int) == 110) = false := by simp [h]
  have b3 : ((s[0].toNat : Int) == 116) = true := by simp [h]
  clear h hf
  go_enter Tryd.func43, Tryd.ntmps43
  go_wp2
  go_ret2
  exact ⟨rfl, 0, rfl⟩

set_option maxRecDepth 100000 in
theorem escape_no (s : ByteArray) (w : World) (h0 : 0 < s.size) (h : ¬ (s[0].toNat = 34 ∨ s[0].toNat = 92 ∨ s[0].toNat = 110 ∨ s[0].toNat = 116 ∨ s[0].toNat = 120)) : Calls Tryd.prog 43 #[.string s] w (EscPost s w) := by
  have h1 := fullB s h0
  have hf : W.escape s.data.toList = (0, 0) := by
    rw [escape_at s h0]
    rw [if_neg (by rintro (e | e) <;> (rw [e] at h; simp at h)), if_neg (by intro e; rw [e] at h; simp at h), if_neg (by intro e; rw [e] at h; simp at h), if_neg (by rintro ⟨e, _⟩; rw [e] at h; simp at h)]
  unfold EscPost
  rw [hf]
  have b0 : ((s[0].toNat : Int) == 34) = false := by simp; omega
  have b1 : ((s[0].toNat : Int) == 92) = false := by simp; omega
  have b2 : ((s[0].toNat : Int) == 110) = false := by simp; omega
  have b3 : ((s[0].toNat : Int) == 116) = false := by simp; omega
  have b4 : ((s[0].toNat : Int) == 120) = false := by simp; omega
  clear h hf
  go_enter Tryd.func43, Tryd.ntmps43
  go_wp2
  go_ret2
  exact ⟨rfl, 0, rfl⟩

set_option maxRecDepth 100000 in
theorem escape_x (s : ByteArray) (w : World) (h0 : 0 < s.size) (h : s[0].toNat = 120) (hs : s.size ≤ 9223372036854775807) : Calls Tryd.prog 43 #[.string s] w (EscPost s w) := by
  have h1 := fullB s h0
  have hf := escape_at s h0
  rw [UInt8.toNat_inj.1 (show s[0].toNat = (120 : UInt8).toNat from h)] at hf
  simp only [show ¬ ((120 : UInt8) = 34 ∨ (120 : UInt8) = 92) from by decide, show ¬ ((120 : UInt8) = 110) from by decide, show ¬ ((120 : UInt8) = 116) from by decide, if_false, true_and] at hf
  unfold EscPost
  have b0 : ((s[0].toNat : Int) == 34) = false := by simp [h]
  have b1 : ((s[0].toNat : Int) == 92) = false := by simp [h]
  have b2 : ((s[0].toNat : Int) == 110) = false := by simp [h]
  have b3 : ((s[0].toNat : Int) == 116) = false := by simp [h]
  have b4 : ((s[0].toNat : Int) == 120) = true := by simp [h]
  clear h
  by_cases hz : 2 < s.size
  · have g1 : (1 : Int) < s.size := by omega
    have g2 : (2 : Int) < s.size := by omega
    rw [getD_list s 1 (by omega), getD_list s 2 (by omega)] at hf
    have r1 := nib_range s[1]
    have r2 := nib_range s[2]
    obtain ⟨n1, hn1⟩ : ∃ n1, n1 = W.nib s[1] := ⟨_, rfl⟩
    obtain ⟨n2, hn2⟩ : ∃ n2, n2 = W.nib s[2] := ⟨_, rfl⟩
    have c1 := nibble_any s[1]
    have c2 := nibble_any s[2]
    rw [← hn1] at hf r1 c1
    rw [← hn2] at hf r2 c2
    clear hn1 hn2
    have C1 := Lib.hid c1
    have C2 := Lib.hid c2
    clear c1 c2
    by_cases p1 : 0 ≤ n1
    · by_cases p2 : 0 ≤ n2
      · rw [if_pos ⟨hz, p1, p2⟩] at hf
        have hv : ((16 * n1 + n2).toNat.toUInt8).toNat = (16 * n1 + n2).toNat := by
          have : (16 * n1 + n2).toNat % 256 = (16 * n1 + n2).toNat := Nat.mod_eq_of_lt (by omega)
          simpa using this
        rw [hf]
        simp only []
        rw [hv, show (((16 * n1 + n2).toNat : Nat) : Int) = 16 * n1 + n2 from by omega]
        clear hf hv
        have e1 : IntKind.i64.wrap (16 * n1) = 16 * n1 := IntWalk.i64_in _ (by omega)
        have e2 : IntKind.i64.wrap (16 * n1 + n2) = 16 * n1 + n2 := IntWalk.i64_in _ (by omega)
        have e3 : IntKind.u8.wrap (16 * n1 + n2) = 16 * n1 + n2 := IntWalk.u8_in _ (by omega)
        go_enter Tryd.func43, Tryd.ntmps43
        go_wp2_with fail
        refine (C1.out _).mono ?_
        rintro e w' ⟨rfl, rfl⟩
        go_wp2_with fail
        refine (C2.out _).mono ?_
        rintro e w' ⟨rfl, rfl⟩
        go_wp2_with fail
        go_quiet ((go_at_call 61; first | exact Calls.quiet_of_same ((C1.out _).mono fun _ _ h => ⟨h.1, h.2.symm⟩) | exact Calls.quiet_of_same ((C2.out _).mono fun _ _ h => ⟨h.1, h.2.symm⟩)))
        go_wp2_with fail
        go_ret2
        exact ⟨rfl, _, rfl⟩
      · rw [if_neg (fun h => p2 h.2.2)] at hf
        rw [hf]
        clear hf
        go_enter Tryd.func43, Tryd.ntmps43
        go_wp2_with fail
        refine (C1.out _).mono ?_
        rintro e w' ⟨rfl, rfl⟩
        go_wp2_with fail
        refine (C2.out _).mono ?_
        rintro e w' ⟨rfl, rfl⟩
        go_wp2_with fail
        go_ret2
        exact ⟨rfl, 0, rfl⟩
    · rw [if_neg (fun h => p1 h.2.1)] at hf
      rw [hf]
      clear hf
      go_enter Tryd.func43, Tryd.ntmps43
      go_wp2_with fail
      refine (C1.out _).mono ?_
      rintro e w' ⟨rfl, rfl⟩
      go_wp2_with fail
      go_ret2
      exact ⟨rfl, 0, rfl⟩
  · rw [if_neg (fun h => hz h.1)] at hf
    rw [hf]
    have g2 : ¬ (2 : Int) < s.size := by omega
    clear hf hz
    go_enter Tryd.func43, Tryd.ntmps43
    go_wp2
    go_ret2
    exact ⟨rfl, 0, rfl⟩

theorem escape_any (s : ByteArray) (w : World) (hs : s.size ≤ 9223372036854775807) : Calls Tryd.prog 43 #[.string s] w (EscPost s w) := by
  by_cases h0 : s.size = 0
  · exact escape_nil s w h0
  · have h0' : 0 < s.size := by omega
    by_cases h : s[0].toNat = 34 ∨ s[0].toNat = 92
    · exact escape_mark s w h0' h
    · by_cases h2 : s[0].toNat = 110
      · exact escape_n s w h0' h2
      · by_cases h3 : s[0].toNat = 116
        · exact escape_t s w h0' h3
        · by_cases h4 : s[0].toNat = 120
          · exact escape_x s w h0' h4 hs
          · exact escape_no s w h0' (by omega)
end Go.Proofs.YtoihlclmilhpdaaDoor
