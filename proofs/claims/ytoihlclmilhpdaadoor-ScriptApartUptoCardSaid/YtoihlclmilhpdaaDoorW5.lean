/- Walks: Unquote's loop. -/
import Derived.Test.YtoihlclmilhpdaaDoorW4
import Derived.WalkSmall
namespace Go.Proofs.YtoihlclmilhpdaaDoor
open Go Go.RowKit

/-- The loop's relation: what has been gathered, what is left. -/
def UnqRel (B : Nat) (N : Nat) (w : World) (goal : Option W.Bs) (v u : Value) (wr : World) : Prop :=
  ∃ (r : ByteArray) (acc : List UInt8), u = .string r ∧ wr.ownsRow B 5 1 v acc.length (Lib.byteCells acc) ∧ goal = (W.unqF r.size r.data.toList).map (acc ++ ·) ∧ Below B w wr ∧ acc.length + r.size ≤ N

theorem unq_end {r : ByteArray} {acc : List UInt8} (h : r.size = 0) : (W.unqF r.size r.data.toList).map (acc ++ ·) = some acc := by
  have : r.data.toList = [] := List.eq_nil_of_length_eq_zero (by rw [size_list]; exact h)
  rw [h, this]; simp [W.unqF]
/-- One round that takes a byte that stands by itself. -/
theorem unq_one {r : ByteArray} {acc : List UInt8} (h : 0 < r.size) (h1 : r[0] ≠ 92) (h2 : ¬ (r[0].toNat < 32 ∨ r[0].toNat = 127 ∨ r[0] = 34)) :
    (W.unqF r.size r.data.toList).map (acc ++ ·) = (W.unqF (r.extract 1 r.size).size (r.extract 1 r.size).data.toList).map ((acc ++ [r[0]]) ++ ·) := by
  obtain ⟨f, hf⟩ : ∃ f, r.size = f + 1 := ⟨r.size - 1, by omega⟩
  conv => lhs; rw [list_cons r h, hf]
  simp only [W.unqF, if_neg h1, if_neg h2]
  rw [Lib.extract_to_end, ByteArray.size_extract, Nat.min_self, hf, Nat.add_sub_cancel, Option.map_map]
  congr 1
  funext x
  simp
theorem unq_stop {r : ByteArray} {acc : List UInt8} (h : 0 < r.size) (h1 : r[0] ≠ 92) (h2 : r[0].toNat < 32 ∨ r[0].toNat = 127 ∨ r[0] = 34) :
    (W.unqF r.size r.data.toList).map (acc ++ ·) = none := by
  obtain ⟨f, hf⟩ : ∃ f, r.size = f + 1 := ⟨r.size - 1, by omega⟩
  conv => lhs; rw [list_cons r h, hf]
  simp only [W.unqF, if_neg h1, if_pos h2]
  rfl
theorem esc_le (l : List UInt8) : (W.escape l).2 ≤ l.length := by
  unfold W.escape
  cases l with
  | nil => simp
  | cons c r =>
    simp only
    split
    · simp
    · split
      · simp
      · split
        · simp
        · split
          · rename_i h; simp; omega
          · simp
theorem unq_esc {r : ByteArray} {acc : List UInt8} (h : 0 < r.size) (h1 : r[0] = 92) (b : UInt8) (n : Nat) (he : W.escape (r.data.toList.drop 1) = (b, n)) (h2 : n ≠ 0) :
    (W.unqF r.size r.data.toList).map (acc ++ ·) = (W.unqF (r.extract (n + 1) r.size).size (r.extract (n + 1) r.size).data.toList).map ((acc ++ [b]) ++ ·) := by
  obtain ⟨f, hf⟩ : ∃ f, r.size = f + 1 := ⟨r.size - 1, by omega⟩
  have hle := esc_le (r.data.toList.drop 1)
  rw [he, List.length_drop, size_list] at hle
  simp only at hle
  conv => lhs; rw [list_cons r h, hf]
  simp only [W.unqF, h1, if_true, he, if_neg h2]
  rw [Lib.extract_to_end, ByteArray.size_extract, Nat.min_self, hf, List.drop_drop, Option.map_map, show 1 + n = n + 1 from by omega, show f + 1 - (n + 1) = f - n from by omega]
  rw [W.unqF_fuel f (f - n) (r.data.toList.drop (n + 1)) (by rw [List.length_drop, size_list]; omega) (by rw [List.length_drop, size_list]; omega)]
  congr 1
  funext x
  simp
theorem unq_esc_no {r : ByteArray} {acc : List UInt8} (h : 0 < r.size) (h1 : r[0] = 92) (he : (W.escape (r.data.toList.drop 1)).2 = 0) :
    (W.unqF r.size r.data.toList).map (acc ++ ·) = none := by
  obtain ⟨f, hf⟩ : ∃ f, r.size = f + 1 := ⟨r.size - 1, by omega⟩
  conv => lhs; rw [list_cons r h, hf]
  simp only [W.unqF, h1, if_true, he]
  rfl

theorem unq_good (s : ByteArray) (h : W.isPlain s.data.toList = false) (h2 : 2 ≤ s.size) (h3 : s.data.toList.getD 0 0 = 34) (h4 : s.data.toList.getD (s.size - 1) 0 = 34) :
    W.unquote s.data.toList = (W.unqF (s.extract 1 (s.size - 1)).size (s.extract 1 (s.size - 1)).data.toList).map (([] : List UInt8) ++ ·) := by
  unfold W.unquote
  rw [h, if_neg (by simp), if_neg (by rw [size_list]; rintro (h | h | h); omega; exact h h3; exact h h4)]
  have e : (s.extract 1 (s.size - 1)).data.toList = (s.data.toList.drop 1).dropLast := by
    rw [Lib.extract_data, List.dropLast_eq_take, List.length_drop, size_list]
  rw [e, ByteArray.size_extract, size_list]
  have : (fun x : List UInt8 => [] ++ x) = id := by funext x; simp
  rw [this, Option.map_id, id, show min (s.size - 1) s.size - 1 = s.size - 2 from by omega]

theorem byteCells_snoc {w : World} {B t : Nat} {v : Value} {acc : List UInt8} {b : UInt8} (h : w.ownsRow B t 1 v (acc.length + 1) (Lib.byteCells acc ++ [.int .u8 (b.toNat : Int)])) :
    w.ownsRow B t 1 v (acc ++ [b]).length (Lib.byteCells (acc ++ [b])) := by
  simpa [Lib.byteCells] using h

set_option maxHeartbeats 1000000 in
set_option maxRecDepth 100000 in
theorem unquote_loop (s : ByteArray) (w : World) (hs : s.size ≤ 1000000000) (h : W.isPlain s.data.toList = false) (h2 : 2 ≤ s.size) (h3 : s.data.toList.getD 0 0 = 34) (h4 : s.data.toList.getD (s.size - 1) 0 = 34) :
    Calls Tryd.prog 27 #[.string s] w (UnqPost s w) := by
  have hf := unq_good s h h2 h3 h4
  unfold UnqPost
  obtain ⟨goal, hgoal⟩ : ∃ goal, goal = W.unquote s.data.toList := ⟨_, rfl⟩
  rw [← hgoal] at hf ⊢
  clear hgoal
  have HF := Lib.hid hf
  clear hf
  have C := isPlain_any s w (by omega)
  rw [h] at C
  clear h
  have CH := Lib.hid C
  clear C
  have g2 : ¬ (s.size : Int) < 2 := by omega
  have g3 : 0 < s.size := by omega
  have g4 : s.size - 1 < s.size := by omega
  rw [getD_list s 0 g3] at h3
  rw [getD_list s (s.size - 1) g4] at h4
  have b0 : ((s[0].toNat : Int) != 34) = false := by simp [h3]
  have b1 : ((s[s.size - 1].toNat : Int) != 34) = false := by simp [h4]
  clear h3 h4
  obtain ⟨i0, hi, hz0, hz1, hz2⟩ := info_parts infoU8
  have k1 : (1 : Int) ≤ (s.size : Int) - 1 := by omega
  have k2 : (s.size : Int) - 1 ≤ (s.size : Int) := by omega
  have k3 : (2 : Int) ≤ (s.size : Int) := by omega
  go_enter Tryd.func27, Tryd.ntmps27
  go_wp2_with (go_at_call 31; refine CH.out.mono ?_; rintro e w' ⟨rfl, rfl⟩)
  clear CH
  go_loopw [4, 5] (fun v u wr => UnqRel w.heap.size s.size w goal v u wr) (fun _ u _ => strLen u)
  case atStart => exact ⟨s.extract 1 (s.size - 1), [], rfl, World.ownsRow_nil _ _ _ _, HF.out, Below.refl _ _, by rw [ByteArray.size_extract]; simp; omega⟩
  case round =>
    obtain ⟨r, acc, rfl, hown, hg, hbel, hlen⟩ := hrel
    have HG := Lib.hid hg
    clear hg
    by_cases hr : r.size = 0
    · have he := emptyB r hr
      have hfin := unq_end (acc := acc) hr
      rw [← HG.out] at hfin
      have HFIN := Lib.hid hfin
      clear hfin
      have hc := run_own_string (P := Tryd.prog) (dst := 9) Tryd.underlying61 Tryd.underlying5 Tryd.underlying9 hown
      clear hr hown
      go_wp2
      go_ret2
      rw [HFIN.out]
      exact ⟨rfl, hbel⟩
    · have hr0 : 0 < r.size := by omega
      have he := fullB r hr0
      have f0 : (0 : Int) < r.size := by omega
      have f1 : (1 : Int) ≤ r.size := by omega
      clear hr
      by_cases h92 : r[0] = 92
      · have d0 : ((r[0].toNat : Int) == 92) = true := by simp [h92]
        have hsz : (r.extract 1 r.size).size = r.size - 1 := by rw [ByteArray.size_extract, Nat.min_self]
        have CE := Lib.hid (escape_any (r.extract 1 r.size))
        have hle := esc_le (r.data.toList.drop 1)
        rw [List.length_drop, size_list] at hle
        have hdd : (r.extract 1 r.size).data.toList = r.data.toList.drop 1 := Lib.extract_to_end r 1
        obtain ⟨b, hb⟩ : ∃ b, b = (W.escape (r.data.toList.drop 1)).1 := ⟨_, rfl⟩
        obtain ⟨n, hn⟩ : ∃ n, n = (W.escape (r.data.toList.drop 1)).2 := ⟨_, rfl⟩
        have hpair : W.escape (r.data.toList.drop 1) = (b, n) := by rw [hb, hn]
        rw [← hn] at hle
        by_cases hn0 : n = 0
        · have hfin := unq_esc_no (acc := acc) hr0 h92 (by rw [← hn]; exact hn0)
          rw [← HG.out] at hfin
          have HFIN := Lib.hid hfin
          subst hn0
          have HP := Lib.hid hpair
          have HD := Lib.hid hdd
          clear hfin hb hn hpair hdd h92 hsz
          go_wp2_with fail
          refine (CE.out _ (by rw [ByteArray.size_extract]; omega)).mono ?_
          rintro e w' ⟨rfl, k, rfl⟩
          rw [HD.out, HP.out]
          go_wp2_with fail
          go_ret2
          rw [HFIN.out]
          exact ⟨rfl, below_drewN hbel _⟩
        · have hstep := unq_esc (acc := acc) hr0 h92 b n hpair hn0
          rw [← HG.out] at hstep
          have HS := Lib.hid hstep
          have HP := Lib.hid hpair
          have HD := Lib.hid hdd
          have m0 : ((n : Int) == 0) = false := by simp; omega
          have m1 : (0 : Int) ≤ (n : Int) + 1 := by omega
          have m2 : (n : Int) + 1 ≤ r.size := by omega
          clear hstep hb hn hpair hdd h92 hsz
          go_wp2_with fail
          refine (CE.out _ (by rw [ByteArray.size_extract]; omega)).mono ?_
          rintro e w1 ⟨rfl, k, hw1⟩
          rw [HD.out, HP.out]
          have hown1 : w1.ownsRow w.heap.size 5 1 u4 acc.length (Lib.byteCells acc) := by rw [hw1]; exact hown
          have hbel1 : Below w.heap.size w w1 := by rw [hw1]; exact below_drewN hbel k
          clear hw1 hown hbel CE HD HP
          go_wp2_with (at_builtin; refine push_own rfl _ _ rfl Tryd.underlying61 hi hz0 hz1 hz2 rfl rfl hown1 rfl rfl hbel1 (by omega) ?_)
          intro v' w2 hown' hbel2
          clear hown1 hbel1
          go_wp2
          go_roundw
          case rel => exact ⟨_, acc ++ [b], rfl, byteCells_snoc hown', HS.out, hbel2, by rw [ByteArray.size_extract]; simp; omega⟩
          case measure => simp only [strLen, ByteArray.size_extract]; omega
      · have d0 : ((r[0].toNat : Int) == 92) = false := by
          simp only [beq_eq_false_iff_ne, ne_eq]; intro h; exact h92 (UInt8.toNat_inj.1 (show _ = 92 by omega))
        by_cases hbad : r[0].toNat < 32 ∨ r[0].toNat = 127 ∨ r[0] = 34
        · have hfin := unq_stop (acc := acc) hr0 h92 hbad
          rw [← HG.out] at hfin
          have HFIN := Lib.hid hfin
          have hbad' : r[0].toNat < 32 ∨ r[0].toNat = 127 ∨ r[0].toNat = 34 := by
            rcases hbad with h | h | h
            · exact Or.inl h
            · exact Or.inr (Or.inl h)
            · right; right; rw [h]; rfl
          clear hfin hbad h92
          rcases hbad' with h | h | h
          · have t1 : (r[0].toNat : Int) < 32 := by omega
            clear h
            go_wp2
            go_ret2
            rw [HFIN.out]
            exact ⟨rfl, hbel⟩
          · have t1 : ¬ (r[0].toNat : Int) < 32 := by omega
            have t2 : ((r[0].toNat : Int) == 127) = true := by simp [h]
            clear h
            go_wp2
            go_ret2
            rw [HFIN.out]
            exact ⟨rfl, hbel⟩
          · have t1 : ¬ (r[0].toNat : Int) < 32 := by omega
            have t2 : ((r[0].toNat : Int) == 127) = false := by simp [h]
            have t3 : ((r[0].toNat : Int) == 34) = true := by simp [h]
            clear h
            go_wp2
            go_ret2
            rw [HFIN.out]
            exact ⟨rfl, hbel⟩
        · have hstep := unq_one (acc := acc) hr0 h92 hbad
          rw [← HG.out] at hstep
          have HS := Lib.hid hstep
          have t1 : ¬ (r[0].toNat : Int) < 32 := by omega
          have t2 : ((r[0].toNat : Int) == 127) = false := by simp; omega
          have t3 : ((r[0].toNat : Int) == 34) = false := by
            simp only [beq_eq_false_iff_ne, ne_eq]; intro h; exact hbad (Or.inr (Or.inr (UInt8.toNat_inj.1 (show _ = 34 by omega))))
          clear hstep hbad h92
          go_wp2_with (at_builtin; refine push_own rfl _ _ rfl Tryd.underlying61 hi hz0 hz1 hz2 rfl rfl hown rfl rfl hbel (by omega) ?_)
          intro v' w2 hown' hbel2
          clear hown hbel
          go_wp2
          go_roundw
          case rel => exact ⟨_, acc ++ [r[0]], rfl, byteCells_snoc hown', HS.out, hbel2, by rw [ByteArray.size_extract]; simp; omega⟩
          case measure => simp only [strLen, ByteArray.size_extract]; omega

theorem unquote_any (s : ByteArray) (w : World) (hs : s.size ≤ 1000000000) : Calls Tryd.prog 27 #[.string s] w (UnqPost s w) := by
  cases hp : W.isPlain s.data.toList with
  | true => exact unquote_plain s w (by omega) hp
  | false =>
    by_cases hb : s.size < 2 ∨ s.data.toList.getD 0 0 ≠ 34 ∨ s.data.toList.getD (s.size - 1) 0 ≠ 34
    · exact unquote_bad s w (by omega) hp hb
    · have h1 : ¬ s.size < 2 := fun h => hb (Or.inl h)
      have h2 : s.data.toList.getD 0 0 = 34 := Decidable.of_not_not fun h => hb (Or.inr (Or.inl h))
      have h3 : s.data.toList.getD (s.size - 1) 0 = 34 := Decidable.of_not_not fun h => hb (Or.inr (Or.inr h))
      exact unquote_loop s w hs hp (by omega) h2 h3
end Go.Proofs.YtoihlclmilhpdaaDoor
