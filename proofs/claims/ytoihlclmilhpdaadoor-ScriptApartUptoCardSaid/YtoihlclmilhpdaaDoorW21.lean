/- Walks: the law's own small functions: sameInts, oneLine. -/
import Derived.Test.YtoihlclmilhpdaaDoorW9
import Derived.Test.YtoihlclmilhpdaaDoorW10
import Derived.Test.YtoihlclmilhpdaaDoorW15
import Derived.BigQuiet
namespace Go.Proofs.YtoihlclmilhpdaaDoor
open Go Go.RowKit

def BoolPost (b : Bool) (w : World) (e : Ending) (w' : World) : Prop := e = .returned (.bool b) ∧ ∃ n, w' = w.drewN n

theorem ints_at {w : World} {v : Value} {xs : List Int} (h : RowAt w v (intVals xs)) (j : Nat) (hj : j < xs.length) : ∃ b off cap, v = .slice (some ⟨b, off, none⟩) xs.length cap ∧ ∀ k, w.cell? ⟨b, off + k, none⟩ = w.cell? ⟨b, off + k, none⟩ ∧ w.cell? ⟨b, off + j, none⟩ = some (.int .i64 xs[j]) := by
  rcases h with ⟨h0, _⟩ | ⟨b, off, c, hv, _, hc⟩
  · have : xs = [] := by cases xs with | nil => rfl | cons a l => simp [intVals] at h0
    subst this; simp at hj
  · refine ⟨b, off, c, by rw [hv]; simp [intVals], fun k => ⟨rfl, hc j _ (by simp [intVals, List.getElem?_eq_getElem hj])⟩⟩
theorem intVals_len (xs : List Int) : (intVals xs).length = xs.length := by simp [intVals]
theorem take_eq_all {xs ys : List Int} {i : Nat} (hl : xs.length = ys.length) (h : xs.take i = ys.take i) (hi : xs.length ≤ i) : xs = ys := by
  rw [List.take_of_length_le hi, List.take_of_length_le (by omega)] at h; exact h
theorem take_next {xs ys : List Int} {i : Nat} (h1 : i < xs.length) (h2 : i < ys.length) (h : xs.take i = ys.take i) (he : xs[i] = ys[i]) : xs.take (i + 1) = ys.take (i + 1) := by
  rw [take_snoc' xs i h1, take_snoc' ys i h2, h, he]
theorem ne_at {xs ys : List Int} {i : Nat} (h1 : i < xs.length) (h2 : i < ys.length) (he : xs[i] ≠ ys[i]) : xs ≠ ys := by
  intro h; subst h; exact he rfl

theorem sameInts_len (xs ys : List Int) (v u : Value) (w : World) (hv : RowAt w v (intVals xs)) (hu : RowAt w u (intVals ys)) (hl : xs.length ≠ ys.length) :
    Calls Tryd.prog 18 #[v, u] w (BoolPost (xs == ys) w) := by
  obtain ⟨ao, c, rfl⟩ := hv.form
  obtain ⟨bo, d, rfl⟩ := hu.form
  rw [intVals_len, intVals_len]
  have hne : (xs == ys) = false := by simp; intro h; exact hl (by rw [h])
  rw [hne]
  have q : ((xs.length : Int) != (ys.length : Int)) = true := by simp; omega
  go_enter Tryd.func18, Tryd.ntmps18
  go_wp2_with fail
  go_ret
  exact ⟨rfl, 0, rfl⟩

set_option maxHeartbeats 1000000 in
set_option maxRecDepth 100000 in
theorem sameInts_any (xs ys : List Int) (v u : Value) (w : World) (hv : RowAt w v (intVals xs)) (hu : RowAt w u (intVals ys)) (hN : xs.length ≤ 1000000000) :
    Calls Tryd.prog 18 #[v, u] w (BoolPost (xs == ys) w) := by
  by_cases hl : xs.length = ys.length
  · obtain ⟨ao, c, rfl⟩ := hv.form
    obtain ⟨bo, d, rfl⟩ := hu.form
    rw [intVals_len] at hv hu ⊢
    rw [intVals_len]
    have q : ((xs.length : Int) != (ys.length : Int)) = false := by simp; omega
    have HV := Lib.hid hv
    have HU := Lib.hid hu
    have HL := Lib.hid hl
    obtain ⟨n, hn⟩ : ∃ n, n = xs.length := ⟨_, rfl⟩
    obtain ⟨m, hm⟩ : ∃ m, m = ys.length := ⟨_, rfl⟩
    have HN := Lib.hid hn
    have HM := Lib.hid hm
    rw [← hn, ← hm] at q ⊢
    rw [← hn] at hN
    clear hv hu hl hn hm
    go_enter Tryd.func18, Tryd.ntmps18
    go_wp2_with fail
    go_loopw [5] (fun t wr => ∃ i : Nat, t = .int .i64 i ∧ i ≤ n ∧ xs.take i = ys.take i ∧ ∃ k, wr = w.drewN k) (fun t _ => match t with | .int _ i => (n - i).toNat | _ => 0)
    case atStart => exact ⟨0, rfl, by omega, rfl, 0, rfl⟩
    case round =>
      obtain ⟨i, rfl, hi, ht, k, rfl⟩ := hrel
      by_cases hlt : i < n
      · have h1 : i < xs.length := by rw [← HN.out]; exact hlt
        have h2 : i < ys.length := by rw [← HL.out]; exact h1
        obtain ⟨b, off, c1, he, hc⟩ := ints_at HV.out i h1
        obtain ⟨b', off', c2, he', hc'⟩ := ints_at HU.out i h2
        injection he with he1 he2 he3
        injection he' with he4 he5 he6
        subst he1
        subst he4
        have k1 := (hc 0).2
        have k2 := (hc' 0).2
        have q0 : (i : Int) < n := by omega
        have q1 : (i : Int) < m := by rw [HM.out]; omega
        have q2 : (i : Int) + 1 ≤ 9223372036854775807 := by omega
        obtain ⟨x, hx⟩ : ∃ x, x = xs[i] := ⟨_, rfl⟩
        obtain ⟨y, hy⟩ : ∃ y, y = ys[i] := ⟨_, rfl⟩
        rw [← hx] at k1
        rw [← hy] at k2
        have HX := Lib.hid hx
        have HY := Lib.hid hy
        have HT := Lib.hid ht
        clear hx hy ht hc hc' he2 he3 he5 he6
        by_cases hxy : x = y
        · have q3 : (x != y) = false := by simpa using hxy
          have HT2 := Lib.hid (take_next h1 h2 HT.out (by rw [← HX.out, ← HY.out]; exact hxy))
          clear hxy
          go_wp2_with fail
          go_quiet (fail)
          go_wp2_with fail
          go_roundw
          case rel => exact ⟨i + 1, by push_cast; rfl, by omega, HT2.out, _, rfl⟩
          case measure => simp only; omega
        · have q3 : (x != y) = true := by simpa using hxy
          have hne : (xs == ys) = false := by
            have := ne_at h1 h2 (by rw [← HX.out, ← HY.out]; exact hxy)
            simpa using this
          have HNE := Lib.hid hne
          clear hne hxy
          go_wp2_with fail
          go_quiet (fail)
          go_wp2_with fail
          go_ret
          unfold BoolPost
          rw [HNE.out]
          exact ⟨rfl, _, World.drewN_drewN ..⟩
      · have q0 : ¬ (i : Int) < n := by omega
        have heq : (xs == ys) = true := by
          have := take_eq_all HL.out ht (by have := HN.out; omega)
          simpa using this
        have HE := Lib.hid heq
        clear heq ht
        go_wp2_with fail
        go_ret
        unfold BoolPost
        rw [HE.out]
        exact ⟨rfl, _, rfl⟩
  · exact sameInts_len xs ys v u w hv hu hl

/-- A line without a newline. -/
def noLf (l : W.Bs) : Bool := l.all (· != 10)
theorem noLf_take {s : ByteArray} {i : Nat} (hi : i < s.size) (h : (s.data.toList.take i).all (· != 10) = true) (hb : s[i] ≠ 10) : (s.data.toList.take (i + 1)).all (· != 10) = true := by
  have hl : i < s.data.toList.length := by rw [size_list]; exact hi
  rw [take_snoc' _ i hl, List.all_append, h]
  have : s.data.toList[i] = s[i] := by rw [byte_at rfl hi hl]
  rw [this]; simpa using hb
theorem noLf_bad {s : ByteArray} {i : Nat} (hi : i < s.size) (hb : s[i] = 10) : noLf s.data.toList = false := by
  have hl : i < s.data.toList.length := by rw [size_list]; exact hi
  have e : s.data.toList[i] = 10 := by rw [← byte_at rfl hi hl]; exact hb
  unfold noLf
  rw [List.all_eq_false]
  exact ⟨_, List.getElem_mem hl, by rw [e]; decide⟩

set_option maxHeartbeats 1000000 in
set_option maxRecDepth 100000 in
theorem oneLine_any (s : ByteArray) (w : World) (hs : s.size ≤ 1000000000) :
    Calls Tryd.prog 11 #[.string s] w (fun e w' => e = .returned (.bool (noLf s.data.toList)) ∧ w' = w) := by
  go_enter Tryd.func11, Tryd.ntmps11
  go_wp2_with fail
  go_loopw [3] (fun t wr => ∃ i : Nat, t = .int .i64 i ∧ i ≤ s.size ∧ (s.data.toList.take i).all (· != 10) = true ∧ wr = w) (fun t _ => match t with | .int _ i => (s.size - i).toNat | _ => 0)
  case atStart => exact ⟨0, rfl, by omega, rfl, rfl⟩
  case round =>
    obtain ⟨i, rfl, hi, ht, rfl⟩ := hrel
    by_cases hlt : i < s.size
    · have q0 : (i : Int) < s.size := by omega
      have q2 : (i : Int) + 1 ≤ 9223372036854775807 := by omega
      have hlt' : i < s.size := hlt
      by_cases hb : s[i] = 10
      · have HB := Lib.hid (noLf_bad hlt hb)
        have q3 : (((s[i]).toNat : Int) == 10) = true := by rw [hb]; rfl
        clear hb ht
        go_wp2_with fail
        go_ret
        rw [HB.out]; exact ⟨rfl, rfl⟩
      · have HT := Lib.hid (noLf_take hlt ht hb)
        have q3 : (((s[i]).toNat : Int) == 10) = false := by
          have : (s[i]).toNat ≠ 10 := fun h => hb (UInt8.toNat_inj.1 h)
          simp; omega
        clear hb ht
        go_wp2_with fail
        go_roundw
        case rel => exact ⟨i + 1, by push_cast; rfl, by omega, HT.out, trivial⟩
        case measure => simp only; omega
    · have q0 : ¬ (i : Int) < s.size := by omega
      have hres : noLf s.data.toList = true := by
        unfold noLf
        rw [List.take_of_length_le (by rw [size_list]; omega)] at ht; exact ht
      have HRES := Lib.hid hres
      clear hres ht
      go_wp2_with fail
      go_ret
      rw [HRES.out]; exact ⟨rfl, rfl⟩
end Go.Proofs.YtoihlclmilhpdaaDoor
