/- Walks: cut. -/
import Derived.Test.YtoihlclmilhpdaaDoorW4
namespace Go.Proofs.YtoihlclmilhpdaaDoor
open Go Go.RowKit

def cutOk (l : W.Bs) : Bool := W.cutN l == l.length || l.getD (W.cutN l) 0 == 32
abbrev CutPost (s : ByteArray) (w : World) : Ending → World → Prop := fun e w' => e = .returned (.tuple #[.string (s.extract 0 (W.cutN s.data.toList)), .string (s.extract (W.cutN s.data.toList) s.size), .bool (cutOk s.data.toList)]) ∧ ∃ n, w' = w.drewN n

theorem index_blank (l : List UInt8) : Lib.indexByte (l ++ [32]) 32 = ((l.takeWhile (· != 32)).length : Int) := by
  induction l with
  | nil => simp [Lib.indexByte]
  | cons a l ih =>
    simp only [List.cons_append, Lib.indexByte, List.takeWhile_cons]
    by_cases h : a = 32
    · simp [h]
    · have h1 : (a == 32) = false := by simpa using h
      have h2 : (a != 32) = true := by simpa using h
      rw [ih, h1, h2]
      simp only [Bool.false_eq_true, if_false, if_true, List.length_cons]
      rw [if_neg (by simp)]
      omega

def qAt (l : W.Bs) (k : Nat) : Nat := W.qscan l.length (l.drop k)
theorem qAt_end {l : W.Bs} {k : Nat} (h : l.length ≤ k) : qAt l k = 0 := by
  unfold qAt; rw [List.drop_of_length_le h]; cases l.length <;> rfl
theorem qAt_quote {l : W.Bs} {k : Nat} (h : k < l.length) (hq : l.getD k 0 = 34) : qAt l k = 0 := by
  unfold qAt
  rw [List.drop_eq_getElem_cons h]
  rw [List.getD_eq_getElem?_getD, List.getElem?_eq_getElem h] at hq
  obtain ⟨f, hf⟩ : ∃ f, l.length = f + 1 := ⟨l.length - 1, by omega⟩
  rw [hf]
  simp only [W.qscan]
  rw [if_pos (by simpa using hq)]
theorem qAt_back {l : W.Bs} {k : Nat} (h : k < l.length) (hq : l.getD k 0 = 92) : qAt l k = 2 + qAt l (k + 2) := by
  unfold qAt
  rw [List.drop_eq_getElem_cons h]
  rw [List.getD_eq_getElem?_getD, List.getElem?_eq_getElem h] at hq
  have hq' : l[k] = 92 := by simpa using hq
  obtain ⟨f, hf⟩ : ∃ f, l.length = f + 1 := ⟨l.length - 1, by omega⟩
  rw [hf]
  simp only [W.qscan]
  rw [hq', if_neg (by decide), if_pos rfl, List.drop_drop]
  congr 1
  exact W.qscan_fuel _ _ _ (by rw [List.length_drop]; omega) (by rw [List.length_drop]; omega)
theorem qAt_other {l : W.Bs} {k : Nat} (h : k < l.length) (h1 : l.getD k 0 ≠ 34) (h2 : l.getD k 0 ≠ 92) : qAt l k = 1 + qAt l (k + 1) := by
  unfold qAt
  rw [List.drop_eq_getElem_cons h]
  rw [List.getD_eq_getElem?_getD, List.getElem?_eq_getElem h] at h1 h2
  have h1' : l[k] ≠ 34 := by simpa using h1
  have h2' : l[k] ≠ 92 := by simpa using h2
  obtain ⟨f, hf⟩ : ∃ f, l.length = f + 1 := ⟨l.length - 1, by omega⟩
  rw [hf]
  simp only [W.qscan, if_neg h1', if_neg h2']
  congr 1
  exact W.qscan_fuel _ _ _ (by rw [List.length_drop]; omega) (by rw [List.length_drop]; omega)
theorem cutN_quote (l : W.Bs) (h : l.getD 0 0 = 34) : W.cutN l = min (1 + qAt l 1 + 1) l.length := by
  unfold W.cutN qAt; rw [if_pos h]
theorem cutN_plain (l : W.Bs) (h : l.getD 0 0 ≠ 34) : W.cutN l = (l.takeWhile (· != 32)).length := by
  unfold W.cutN; rw [if_neg h]

theorem extract_all (s : ByteArray) : s.extract 0 s.size = s := by simp
theorem extract_none (s : ByteArray) : s.extract s.size s.size = ByteArray.empty := by
  rw [Lib.extract_eq, Nat.sub_self, List.take_zero]; rfl
theorem add_blank (s : ByteArray) (hs : s.size ≤ 1000000000) : ∀ u : World, (Op.stringOp .add s ⟨#[32]⟩).run Tryd.prog u = .ok (.string (s ++ ⟨#[32]⟩)) u := by
  intro u
  have h1 : (⟨#[32]⟩ : ByteArray).size = 1 := rfl
  exact run_string_add_sum u _ _ (by rw [h1]; omega)
theorem index_cut (s : ByteArray) : Lib.indexByte (s ++ ⟨#[32]⟩ : ByteArray).data.toList (32 : Int).toNat.toUInt8 = ((s.data.toList.takeWhile (· != 32)).length : Int) := by
  rw [← index_blank]; congr 1

set_option maxRecDepth 100000 in
theorem cut_plain (s : ByteArray) (w : World) (h0 : 0 < s.size) (hs : s.size ≤ 1000000000) (hq : s.data.toList.getD 0 0 ≠ 34) : Calls Tryd.prog 26 #[.string s] w (CutPost s w) := by
  have hn := cutN_plain _ hq
  have hle : (s.data.toList.takeWhile (· != 32)).length ≤ s.size := by rw [← size_list]; exact (List.takeWhile_prefix _).length_le
  have hadd := add_blank s hs
  have CI := fun u => Tryd.strings_IndexByte (s ++ ⟨#[32]⟩) 32 u
  rw [index_cut] at CI
  unfold CutPost cutOk
  rw [size_list]
  rw [getD_list s 0 h0] at hq
  have d0 : ((s[0].toNat : Int) == 34) = false := by
    simp only [beq_eq_false_iff_ne, ne_eq]; intro h; exact hq (UInt8.toNat_inj.1 (show _ = 34 by omega))
  rw [hn]
  obtain ⟨n, hnn⟩ : ∃ n, n = (s.data.toList.takeWhile (· != 32)).length := ⟨_, rfl⟩
  rw [← hnn] at hle CI ⊢
  have k1 : (0 : Int) ≤ n := by omega
  have k2 : (n : Int) ≤ s.size := by omega
  clear hn hq hnn
  have CH := Lib.hid CI
  clear CI
  by_cases he : n = s.size
  · have d1 : ((n : Int) == (s.size : Int)) = true := by simp [he]
    have hb : (n == s.size || s.data.toList.getD n 0 == 32) = true := by simp [he]
    rw [hb]
    clear he hb hle
    go_enter Tryd.func26, Tryd.ntmps26
    go_wp2_with (go_at_call 42; refine (CH.out _).mono ?_; rintro e w' ⟨rfl, rfl⟩)
    go_quiet (fail)
    go_wp2
    go_ret3
    exact ⟨rfl, _, rfl⟩
  · have d1 : ((n : Int) == (s.size : Int)) = false := by simp; omega
    have k3 : (n : Int) < s.size := by omega
    have k4 : n < s.size := by omega
    have hb : (n == s.size || s.data.toList.getD n 0 == 32) = ((s[n].toNat : Int) == 32) := by
      rw [getD_list s n k4, Bool.eq_iff_iff]
      simp only [Bool.or_eq_true, beq_iff_eq]
      constructor
      · rintro (h | h)
        · exact absurd h he
        · rw [h]; rfl
      · intro h; exact Or.inr (UInt8.toNat_inj.1 (show _ = 32 by omega))
    rw [hb]
    clear he hb hle
    go_enter Tryd.func26, Tryd.ntmps26
    go_wp2_with (go_at_call 42; refine (CH.out _).mono ?_; rintro e w' ⟨rfl, rfl⟩)
    go_quiet (fail)
    go_wp2
    go_ret3
    exact ⟨rfl, _, rfl⟩

set_option maxRecDepth 100000 in
theorem cut_quote (s : ByteArray) (w : World) (h0 : 0 < s.size) (hs : s.size ≤ 1000000000) (hq : s.data.toList.getD 0 0 = 34) : Calls Tryd.prog 26 #[.string s] w (CutPost s w) := by
  have hn := cutN_quote _ hq
  rw [size_list] at hn
  have hadd := add_blank s hs
  have CI := fun u => Tryd.strings_IndexByte (s ++ ⟨#[32]⟩) 32 u
  have HN := Lib.hid hn
  clear hn
  rw [getD_list s 0 h0] at hq
  have d0 : ((s[0].toNat : Int) == 34) = true := by simp [hq]
  have CH := Lib.hid CI
  clear CI hq
  have hl := size_list s
  have HL := Lib.hid hl
  clear hl
  obtain ⟨l, hl⟩ : ∃ l, l = s.data.toList := ⟨_, rfl⟩
  unfold CutPost cutOk
  rw [← hl] at HN HL ⊢
  have HS := Lib.hid hl
  clear hl
  go_enter Tryd.func26, Tryd.ntmps26
  go_wp2_with (go_at_call 42; refine (CH.out _).mono ?_; rintro e w' ⟨rfl, rfl⟩)
  go_loop [5] (fun i => ∃ k : Nat, 1 ≤ k ∧ k ≤ s.size + 1 ∧ i = .int .i64 k ∧ Hid (k + qAt l k = 1 + qAt l 1)) (fun i => s.size + 1 - (intOf i).toNat)
  case atStart => exact ⟨1, Nat.le_refl _, by omega, rfl, Lib.hid rfl⟩
  case round =>
    obtain ⟨k, hk1, hk2, rfl, hk⟩ := hrel
    by_cases hlt : k < s.size
    · have hgd : l.getD k 0 = s[k] := by rw [HS.out]; exact getD_list s k hlt
      by_cases h34 : s[k] = 34
      · have e0 : ((s[k].toNat : Int) != 34) = false := by simp [h34]
        have h1 := qAt_quote (l := l) (k := k) (by rw [HL.out]; exact hlt) (by rw [hgd]; exact h34)
        have hcn : W.cutN l = k + 1 := by rw [HN.out, ← hk.out, h1]; omega
        have HCN := Lib.hid hcn
        clear h1 hgd h34
        have f2 : (k : Int) + 1 ≤ s.size := by omega
        have f4 : (0 : Int) ≤ (k : Int) + 1 := by omega
        have f5 : min ((k : Int) + 1) (s.size : Int) = (k : Int) + 1 := by omega
        by_cases he : k + 1 = s.size
        · have g1 : (((k : Int) + 1) == (s.size : Int)) = true := by simp; omega
          have hb : (W.cutN l == l.length || l.getD (W.cutN l) 0 == 32) = true := by rw [hcn, HL.out, he]; simp
          have HB := Lib.hid hb
          clear hcn hb he
          go_wp2
          go_quiet (fail)
          go_wp2
          go_ret3
          rw [HB.out, HCN.out]
          exact ⟨rfl, _, rfl⟩
        · have g1 : (((k : Int) + 1) == (s.size : Int)) = false := by simp; omega
          have g2 : (k : Int) + 1 < s.size := by omega
          have g3 : k + 1 < s.size := by omega
          have hb : (W.cutN l == l.length || l.getD (W.cutN l) 0 == 32) = ((s[k + 1].toNat : Int) == 32) := by
            rw [hcn, HL.out, HS.out, getD_list s (k + 1) g3, Bool.eq_iff_iff]
            simp only [Bool.or_eq_true, beq_iff_eq]
            constructor
            · rintro (h | h)
              · exact absurd h he
              · rw [h]; rfl
            · intro h; exact Or.inr (UInt8.toNat_inj.1 (show _ = 32 by omega))
          have HB := Lib.hid hb
          clear hcn hb he
          go_wp2
          go_quiet (fail)
          go_wp2
          go_ret3
          rw [HB.out, HCN.out]
          exact ⟨rfl, _, rfl⟩
      · have e0 : ((s[k].toNat : Int) != 34) = true := by
          simp only [bne_iff_ne, ne_eq]; intro h; exact h34 (UInt8.toNat_inj.1 (show _ = 34 by omega))
        by_cases h92 : s[k] = 92
        · have e1 : ((s[k].toNat : Int) == 92) = true := by simp [h92]
          have hst := qAt_back (l := l) (k := k) (by rw [HL.out]; exact hlt) (by rw [hgd]; exact h92)
          have HST := Lib.hid (show k + 2 + qAt l (k + 2) = 1 + qAt l 1 by rw [← hk.out, hst]; omega)
          clear hst hgd h34 h92
          go_wp2
          go_round
          case rel => exact ⟨k + 2, by omega, by omega, by go_num, HST⟩
          case measure => simp [intOf]; omega
        · have e1 : ((s[k].toNat : Int) == 92) = false := by
            simp only [beq_eq_false_iff_ne, ne_eq]; intro h; exact h92 (UInt8.toNat_inj.1 (show _ = 92 by omega))
          have hst := qAt_other (l := l) (k := k) (by rw [HL.out]; exact hlt) (by rw [hgd]; exact h34) (by rw [hgd]; exact h92)
          have HST := Lib.hid (show k + 1 + qAt l (k + 1) = 1 + qAt l 1 by rw [← hk.out, hst]; omega)
          clear hst hgd h34 h92
          go_wp2
          go_round
          case rel => exact ⟨k + 1, by omega, by omega, by go_num, HST⟩
          case measure => simp [intOf]; omega
    · have h1 := qAt_end (l := l) (k := k) (by rw [HL.out]; omega)
      have hcn : W.cutN l = s.size := by rw [HN.out, ← hk.out, h1]; omega
      have hb : (W.cutN l == l.length || l.getD (W.cutN l) 0 == 32) = true := by rw [hcn, HL.out]; simp
      have HB := Lib.hid hb
      have HCN := Lib.hid hcn
      clear h1 hcn hb
      have f1 : ¬ (k : Int) < s.size := by omega
      have f2 : (s.size : Int) ≤ (k : Int) + 1 := by omega
      have f3 : ((s.size : Int) == (s.size : Int)) = true := by simp
      have f4 : (0 : Int) ≤ (s.size : Int) := by omega
      have f5 : min ((k : Int) + 1) (s.size : Int) = (s.size : Int) := by omega
      go_wp2
      go_quiet (fail)
      go_wp2
      go_ret3
      rw [HB.out, HCN.out, extract_all, extract_none]
      exact ⟨rfl, _, rfl⟩

theorem cut_any (s : ByteArray) (w : World) (h0 : 0 < s.size) (hs : s.size ≤ 1000000000) : Calls Tryd.prog 26 #[.string s] w (CutPost s w) := by
  by_cases hq : s.data.toList.getD 0 0 = 34
  · exact cut_quote s w h0 hs hq
  · exact cut_plain s w h0 hs hq
end Go.Proofs.YtoihlclmilhpdaaDoor
