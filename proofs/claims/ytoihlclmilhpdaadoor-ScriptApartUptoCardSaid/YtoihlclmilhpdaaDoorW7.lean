/- Walks: parts. -/
import Derived.Test.YtoihlclmilhpdaaDoorW5
import Derived.Test.YtoihlclmilhpdaaDoorW6
namespace Go.Proofs.YtoihlclmilhpdaaDoor
open Go Go.RowKit

theorem infoStr : (Tryd.prog.info? 9).map (fun i => (i.zero, i.size, i.bytes)) = some (some (.string .empty), 1, 16) := by kernel_rfl

def strVals (ws : List W.Bs) : List Value := ws.map fun b => Value.string ⟨b.toArray⟩
theorem strVals_snoc {w : World} {B t : Nat} {v : Value} {acc : List W.Bs} {s : ByteArray} {b : W.Bs} (hb : b = s.data.toList) (h : w.ownsRow B t 1 v (acc.length + 1) (strVals acc ++ [.string s])) :
    w.ownsRow B t 1 v (acc ++ [b]).length (strVals (acc ++ [b])) := by
  subst hb
  have e : (⟨s.data.toList.toArray⟩ : ByteArray) = s := Lib.mk_data s
  simpa [strVals, e] using h

theorem ownsRow_below {w w' : World} {base e size n : Nat} {v : Value} {xs : List Value} (h : w.ownsRow base e size v n xs) (hb : Below w.heap.size w w') : w'.ownsRow base e size v n xs := by
  refine ⟨h.1, h.2.imp id ?_⟩
  rintro ⟨g, cap, cur, h1, h2, h3, h4, h5, h6, h7⟩
  have hg : g < w.heap.size := by
    rcases Nat.lt_or_ge g w.heap.size with h' | h'
    · exact h'
    · simp [Array.getElem?_eq_none h'] at h3
  exact ⟨g, cap, cur, h1, h2, by rw [hb.block g hg]; exact h3, h4, h5, h6, h7⟩

/-- What parts leaves: the row of the parts, or nil. -/
def PartsOwn (B : Nat) (o : Option (List W.Bs)) (v : Value) (w : World) : Prop :=
  match o with
  | some ws => w.ownsRow B 9 1 v ws.length (strVals ws)
  | none => v = .slice none 0 0
def PartsPost (s : ByteArray) (w : World) (e : Ending) (w' : World) : Prop :=
  ∃ v, e = .returned (.tuple #[v, .bool (W.parts s.data.toList).isSome]) ∧ PartsOwn w.heap.size (W.parts s.data.toList) v w' ∧ Below w.heap.size w w'

/-- The loop's relation. -/
def PartsRel (B N : Nat) (w : World) (goal : Option (List W.Bs)) (u v : Value) (wr : World) : Prop :=
  ∃ (r : ByteArray) (acc : List W.Bs), u = .string r ∧ wr.ownsRow B 9 1 v acc.length (strVals acc) ∧ goal = (W.partsF r.size r.data.toList).map (acc ++ ·) ∧ Below B w wr ∧ acc.length + r.size ≤ N

theorem parts_end {r : ByteArray} {acc : List W.Bs} (h : Lib.trimLeftB r.data.toList 32 = []) : (W.partsF r.size r.data.toList).map (acc ++ ·) = some acc := by
  unfold W.partsF; rw [h]; simp
theorem parts_go {r t : ByteArray} {acc : List W.Bs} (ht : t.data.toList = Lib.trimLeftB r.data.toList 32) (h : 0 < t.size) :
    (W.partsF r.size r.data.toList).map (acc ++ ·) =
      if W.unquote (t.extract 0 (W.cutN t.data.toList)).data.toList = none ∨ cutOk t.data.toList = false then none
      else (W.partsF (t.extract (W.cutN t.data.toList) t.size).size (t.extract (W.cutN t.data.toList) t.size).data.toList).map ((acc ++ [(t.extract 0 (W.cutN t.data.toList)).data.toList]) ++ ·) := by
  have hl := list_cons t h
  have hle := W.trim_len r.data.toList
  rw [← ht, size_list, size_list] at hle
  obtain ⟨f, hf⟩ : ∃ f, r.size = f + 1 := ⟨r.size - 1, by omega⟩
  have hne : t[0] ≠ 32 := W.trim_head (l := r.data.toList) (by rw [← ht]; exact hl)
  have hcp := W.cutN_pos t[0] (t.data.toList.drop 1) hne
  rw [← hl] at hcp
  have e0 : (t.extract 0 (W.cutN t.data.toList)).data.toList = t.data.toList.take (W.cutN t.data.toList) := by rw [Lib.extract_data]; simp
  have e1 : (t.extract (W.cutN t.data.toList) t.size).data.toList = t.data.toList.drop (W.cutN t.data.toList) := Lib.extract_to_end t _
  rw [e0, e1, ByteArray.size_extract, Nat.min_self, hf]
  obtain ⟨n, hn⟩ : ∃ n, n = W.cutN t.data.toList := ⟨_, rfl⟩
  have hco : (cutOk t.data.toList = false) = ¬ (n = t.data.toList.length ∨ t.data.toList.getD n 0 = 32) := by
    unfold cutOk
    rw [← hn]
    apply propext
    constructor
    · intro h h'
      simp only [Bool.or_eq_false_iff, beq_eq_false_iff_ne, ne_eq] at h
      rcases h' with h' | h'
      · exact h.1 h'
      · exact h.2 h'
    · intro h
      simp only [Bool.or_eq_false_iff, beq_eq_false_iff_ne, ne_eq]
      exact ⟨fun h' => h (Or.inl h'), fun h' => h (Or.inr h')⟩
  conv => lhs; unfold W.partsF
  rw [← ht]
  rw [← hn] at hcp ⊢
  conv => lhs; rw [hl]
  simp only []
  rw [← hl, ← hn]
  simp only [hco]
  split
  · rfl
  · rw [Option.map_map, W.partsF_fuel f (t.size - n) (t.data.toList.drop n) (by rw [List.length_drop, size_list]; rw [size_list] at hcp; omega) (by rw [List.length_drop, size_list]; omega)]
    congr 1
    funext x
    simp

set_option maxHeartbeats 1000000 in
set_option maxRecDepth 100000 in
theorem parts_any (s : ByteArray) (w : World) (hs : s.size ≤ 1000000000) : Calls Tryd.prog 16 #[.string s] w (PartsPost s w) := by
  obtain ⟨goal, hgoal⟩ : ∃ goal, goal = W.parts s.data.toList := ⟨_, rfl⟩
  have hg0 : goal = (W.partsF s.size s.data.toList).map (([] : List W.Bs) ++ ·) := by
    have : (fun x : List W.Bs => [] ++ x) = id := by funext x; simp
    rw [hgoal, this, Option.map_id]; unfold W.parts; rw [size_list]; rfl
  have HG0 := Lib.hid hg0
  have HGOAL := Lib.hid hgoal
  clear hg0 hgoal
  obtain ⟨i0, hi, hz0, hz1, hz2⟩ := info_parts infoStr
  go_enter Tryd.func16, Tryd.ntmps16
  go_wp2
  go_loopw [0, 4] (fun u v wr => PartsRel w.heap.size s.size w goal u v wr) (fun u _ _ => strLen u)
  case atStart => exact ⟨s, [], rfl, World.ownsRow_nil _ _ _ _, HG0.out, Below.refl _ _, by simp⟩
  case round =>
    obtain ⟨r, acc, rfl, hown, hg, hbel, hlen⟩ := hrel
    obtain ⟨t, ht⟩ : ∃ t : ByteArray, t = ⟨(Lib.trimLeftB r.data.toList 32).toArray⟩ := ⟨_, rfl⟩
    have htl : t.data.toList = Lib.trimLeftB r.data.toList 32 := by rw [ht]
    have hts := W.trim_len r.data.toList
    rw [← htl, size_list, size_list] at hts
    have CT := Lib.hid (Tryd.strings_TrimLeft_one r 32 (by decide))
    have HT := Lib.hid ht
    clear ht
    have HG := Lib.hid hg
    clear hg
    by_cases hz : t.size = 0
    · have he := emptyB t hz
      have hfin := parts_end (acc := acc) (r := r) (by rw [← htl]; exact List.eq_nil_of_length_eq_zero (by rw [size_list]; exact hz))
      rw [← HG.out] at hfin
      have HF := Lib.hid hfin
      clear hfin hz htl
      go_wp2_with fail
      refine (CT.out _).mono ?_
      rintro e w1 ⟨rfl, rfl⟩
      rw [← HT.out]
      go_wp2_with fail
      go_ret2
      unfold PartsPost
      rw [← HGOAL.out, HF.out]
      exact ⟨_, rfl, hown, hbel⟩
    · have hz' : 0 < t.size := by omega
      have he := fullB t hz'
      have hstep := parts_go (acc := acc) htl hz'
      rw [← HG.out] at hstep
      have hcn : 1 ≤ W.cutN t.data.toList ∧ W.cutN t.data.toList ≤ t.size := by
        have hl := list_cons t hz'
        have := W.cutN_pos t[0] (t.data.toList.drop 1) (W.trim_head (l := r.data.toList) (by rw [← htl]; exact hl))
        rw [← hl, size_list] at this
        exact this
      have CC := Lib.hid (cut_any t)
      obtain ⟨n, hn⟩ : ∃ n, n = W.cutN t.data.toList := ⟨_, rfl⟩
      obtain ⟨ok, hok⟩ : ∃ ok, ok = cutOk t.data.toList := ⟨_, rfl⟩
      obtain ⟨o, ho⟩ : ∃ o, o = W.unquote (t.extract 0 n).data.toList := ⟨_, rfl⟩
      rw [← hn] at hstep hcn
      rw [← hok, ← ho] at hstep
      have HN := Lib.hid hn
      have HOK := Lib.hid hok
      have HO := Lib.hid ho
      have HS := Lib.hid hstep
      have hexs : (t.extract 0 n).size = n := by rw [ByteArray.size_extract]; omega
      have hexs2 : (t.extract n t.size).size = t.size - n := by rw [ByteArray.size_extract]; omega
      have CU := Lib.hid (fun u => unquote_any (t.extract 0 n) u (by rw [hexs]; omega))
      have HX2 := Lib.hid hexs2
      clear hn ho hstep hz htl hexs hexs2
      cases hokv : ok with
      | false =>
        subst hokv
        have hfin : goal = none := by rw [HS.out, if_pos (Or.inr rfl)]
        have HF := Lib.hid hfin
        clear hfin hok
        go_wp2_with fail
        refine (CT.out _).mono ?_
        rintro e w1 ⟨rfl, rfl⟩
        rw [← HT.out]
        go_wp2_with fail
        refine (CC.out _ hz' (by omega)).mono ?_
        rintro e w2 ⟨rfl, k, hw2⟩
        rw [← HN.out, ← HOK.out]
        have hbel2 : Below w.heap.size w w2 := by rw [hw2]; exact below_drewN hbel k
        clear hw2 hown
        go_wp2_with fail
        refine (CU.out _).mono ?_
        rintro e w3 ⟨rfl, hb3⟩
        have hbel3 := hbel2.trans (hb3.mono hbel2.size)
        clear hbel hbel2 hb3
        go_wp2_with fail
        go_ret2
        unfold PartsPost
        rw [← HGOAL.out, HF.out]
        exact ⟨_, rfl, rfl, hbel3⟩
      | true =>
        subst hokv
        cases hov : o with
        | none =>
          have e1 : unqErr none = 230 := rfl
          have hfin : goal = none := by rw [HS.out, if_pos (Or.inl hov)]
          have HF := Lib.hid hfin
          have HV := Lib.hid hov
          clear hfin hok hov
          go_wp2_with fail
          refine (CT.out _).mono ?_
          rintro e w1 ⟨rfl, rfl⟩
          rw [← HT.out]
          go_wp2_with fail
          refine (CC.out _ hz' (by omega)).mono ?_
          rintro e w2 ⟨rfl, k, hw2⟩
          rw [← HN.out, ← HOK.out]
          have hbel2 : Below w.heap.size w w2 := by rw [hw2]; exact below_drewN hbel k
          clear hw2 hown
          go_wp2_with fail
          refine (CU.out _).mono ?_
          rintro e w3 ⟨rfl, hb3⟩
          have hbel3 := hbel2.trans (hb3.mono hbel2.size)
          clear hbel hbel2 hb3
          rw [← HO.out, HV.out]
          go_wp2_with fail
          go_ret2
          unfold PartsPost
          rw [← HGOAL.out, HF.out]
          exact ⟨_, rfl, rfl, hbel3⟩
        | some b =>
          have e1 : unqErr (some b) = 0 := rfl
          have hfin : goal = (W.partsF (t.extract n t.size).size (t.extract n t.size).data.toList).map ((acc ++ [(t.extract 0 n).data.toList]) ++ ·) := by
            rw [HS.out, if_neg (by rw [hov]; simp)]
          have HF := Lib.hid hfin
          have HV := Lib.hid hov
          clear hfin hok hov
          go_wp2_with fail
          refine (CT.out _).mono ?_
          rintro e w1 ⟨rfl, rfl⟩
          rw [← HT.out]
          go_wp2_with fail
          refine (CC.out _ hz' (by omega)).mono ?_
          rintro e w2 ⟨rfl, k, hw2⟩
          rw [← HN.out, ← HOK.out]
          have hbel2 : Below w.heap.size w w2 := by rw [hw2]; exact below_drewN hbel k
          have hown2 : w2.ownsRow w.heap.size 9 1 u4 acc.length (strVals acc) := by rw [hw2]; exact hown
          clear hw2 hown
          go_wp2_with fail
          refine (CU.out _).mono ?_
          rintro e w3 ⟨rfl, hb3⟩
          have hown3 := ownsRow_below hown2 hb3
          have hbel3 := hbel2.trans (hb3.mono hbel2.size)
          clear hbel hbel2 hb3 hown2
          rw [← HO.out, HV.out]
          go_wp2_with (at_builtin; refine push_own rfl _ _ rfl Tryd.underlying49 hi hz0 hz1 hz2 rfl rfl hown3 rfl rfl hbel3 (by omega) ?_)
          intro v' w4 hown4 hbel4
          clear hown3 hbel3
          go_wp2
          go_roundw
          case rel => exact ⟨_, acc ++ [(t.extract 0 n).data.toList], rfl, strVals_snoc rfl hown4, HF.out, hbel4, by rw [HX2.out]; simp; omega⟩
          case measure => simp only [strLen, HX2.out]; omega
end Go.Proofs.YtoihlclmilhpdaaDoor
