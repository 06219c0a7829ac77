/- Plain Lean: what decoding the front of a list of bytes says of these bytes: they are the rune's own. -/
import Derived.Lib.TrimUEq
import Derived.Lib.RuneBytes
namespace Go.Proofs.YtoihlclmilhpdaaDoor.W
open Go
abbrev Bs := List UInt8

/-- decode's cases, as a list's first bytes. -/
theorem dec_ascii (c : UInt8) (t : Bs) (h : c.toNat < 128) : Lib.decodeL (c :: t) = (c.toNat, 1) := by
  rw [Lib.decodeL_N]; unfold Lib.decodeN; simp [h]

theorem enc_ascii (c : UInt8) (h : c.toNat < 128) : Lib.encodeRune (c.toNat : Int) = [c] := by
  unfold Lib.encodeRune
  rw [Lib.encodeRuneZ_one (by omega) (by omega)]
  simp

/-- What decoding a sequence of two bytes or more says: the bytes are the rune's. -/
theorem dec_cases (c : UInt8) (t : Bs) (h : 128 ≤ c.toNat) :
    (Lib.decodeL (c :: t) = (65533, 1)) ∨
    (2 ≤ (Lib.decodeL (c :: t)).2 ∧ (Lib.decodeL (c :: t)).2 ≤ (c :: t).length ∧ 128 ≤ (Lib.decodeL (c :: t)).1 ∧ Lib.encodeRune ((Lib.decodeL (c :: t)).1 : Int) = (c :: t).take (Lib.decodeL (c :: t)).2 ∧ (∀ x ∈ (c :: t).take (Lib.decodeL (c :: t)).2, 128 ≤ x.toNat)) := by
  rw [Lib.decodeL_N]
  unfold Lib.decodeN
  have hc : c.toNat < 256 := c.toNat_lt
  have h0 : ¬ c.toNat < 128 := by omega
  simp only [List.getD_cons_zero, List.getD_cons_succ, List.length_cons, h0, if_false]
  split
  · rename_i h2
    obtain ⟨ha, hn, hb⟩ := h2
    cases t with
    | nil => simp at hn
    | cons b1 t =>
      simp only [List.getD_cons_zero] at hb ⊢
      have hb1 : b1.toNat < 256 := b1.toNat_lt
      split
      · right
        rename_i hr
        refine ⟨Nat.le_refl _, by simp, hr, ?_, ?_⟩
        · simp only []
          unfold Lib.encodeRune
          rw [Lib.encodeRuneZ_two (by omega) (by omega)]
          simp only [List.map_cons, List.map_nil, List.take_succ_cons, List.take_zero]
          congr 1
          · rw [show (192 + (((c.toNat % 32 * 64 + b1.toNat % 64 : Nat) : Int)) / 64).toNat = c.toNat from by omega]; simp
          · congr 1
            rw [show (128 + (((c.toNat % 32 * 64 + b1.toNat % 64 : Nat) : Int)) % 64).toNat = b1.toNat from by omega]; simp
        · intro x hx; simp at hx; rcases hx with rfl | rfl <;> omega
      · left; rfl
  · split
    · rename_i h2
      obtain ⟨ha, ⟨hn1, hb1⟩, ⟨hn2, hb2⟩⟩ := h2
      match t, hn1, hn2, hb1, hb2 with
      | b1 :: b2 :: t, _, _, hb1, hb2 =>
        simp only [List.getD_cons_zero, List.getD_cons_succ] at hb1 hb2 ⊢
        have l1 : b1.toNat < 256 := b1.toNat_lt
        have l2 : b2.toNat < 256 := b2.toNat_lt
        split
        · right
          rename_i hr
          refine ⟨by omega, by simp, by omega, ?_, ?_⟩
          · simp only []
            unfold Lib.encodeRune
            rw [Lib.encodeRuneZ_three (by omega)]
            simp only [List.map_cons, List.map_nil, List.take_succ_cons, List.take_zero]
            congr 1
            · rw [show (224 + (((c.toNat % 16 * 4096 + b1.toNat % 64 * 64 + b2.toNat % 64 : Nat) : Int)) / 4096).toNat = c.toNat from by omega]; simp
            · congr 1
              · rw [show (128 + (((c.toNat % 16 * 4096 + b1.toNat % 64 * 64 + b2.toNat % 64 : Nat) : Int)) / 64 % 64).toNat = b1.toNat from by omega]; simp
              · congr 1
                rw [show (128 + (((c.toNat % 16 * 4096 + b1.toNat % 64 * 64 + b2.toNat % 64 : Nat) : Int)) % 64).toNat = b2.toNat from by omega]; simp
          · intro x hx; simp at hx; rcases hx with rfl | rfl | rfl <;> omega
        · left; rfl
    · split
      · rename_i h2
        obtain ⟨ha, ⟨hn1, hb1⟩, ⟨hn2, hb2⟩, ⟨hn3, hb3⟩⟩ := h2
        match t, hn1, hn2, hn3, hb1, hb2, hb3 with
        | b1 :: b2 :: b3 :: t, _, _, _, hb1, hb2, hb3 =>
          simp only [List.getD_cons_zero, List.getD_cons_succ] at hb1 hb2 hb3 ⊢
          have l1 : b1.toNat < 256 := b1.toNat_lt
          have l2 : b2.toNat < 256 := b2.toNat_lt
          have l3 : b3.toNat < 256 := b3.toNat_lt
          split
          · right
            rename_i hr
            refine ⟨by omega, by simp, by omega, ?_, ?_⟩
            · simp only []
              unfold Lib.encodeRune
              rw [Lib.encodeRuneZ_four (by omega) (by omega)]
              simp only [List.map_cons, List.map_nil, List.take_succ_cons, List.take_zero]
              congr 1
              · rw [show (240 + (((c.toNat % 8 * 262144 + b1.toNat % 64 * 4096 + b2.toNat % 64 * 64 + b3.toNat % 64 : Nat) : Int)) / 262144).toNat = c.toNat from by omega]; simp
              · congr 1
                · rw [show (128 + (((c.toNat % 8 * 262144 + b1.toNat % 64 * 4096 + b2.toNat % 64 * 64 + b3.toNat % 64 : Nat) : Int)) / 4096 % 64).toNat = b1.toNat from by omega]; simp
                · congr 1
                  · rw [show (128 + (((c.toNat % 8 * 262144 + b1.toNat % 64 * 4096 + b2.toNat % 64 * 64 + b3.toNat % 64 : Nat) : Int)) / 64 % 64).toNat = b2.toNat from by omega]; simp
                  · congr 1
                    rw [show (128 + (((c.toNat % 8 * 262144 + b1.toNat % 64 * 4096 + b2.toNat % 64 * 64 + b3.toNat % 64 : Nat) : Int)) % 64).toNat = b3.toNat from by omega]; simp
            · intro x hx; simp at hx; rcases hx with rfl | rfl | rfl | rfl <;> omega
          · left; rfl
      · left; rfl

end Go.Proofs.YtoihlclmilhpdaaDoor.W
