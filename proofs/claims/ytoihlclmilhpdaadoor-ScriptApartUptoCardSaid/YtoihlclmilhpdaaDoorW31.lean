/- Two marks, two alerts, compared. Walks: told. -/
import Derived.Test.YtoihlclmilhpdaaDoorW30
namespace Go.Proofs.YtoihlclmilhpdaaDoor
open Go Go.RowKit

theorem mark_ext (x y : W.Mk) : (x == y) = (x.serial == y.serial && (x.inode == y.inode && (x.gen == y.gen && (x.off == y.off && (x.missed == y.missed && (x.gone == y.gone && (x.cuts == y.cuts && (x.tails == y.tails && x.long == y.long)))))))) := by
  obtain ⟨a, b, c, d, e, f, g, h, i⟩ := x
  obtain ⟨a', b', c', d', e', f', g', h', i'⟩ := y
  rw [Bool.eq_iff_iff]
  simp
theorem run_eql_mark (x y : W.Mk) (u : World) : (Go.binOp .eql 37 (.agg (markVals x).toArray) (.agg (markVals y).toArray)).run Tryd.prog u = .ok (.bool (x == y)) u := by
  rw [mark_ext]
  unfold markVals W.markNums
  simp [go_sem]
  repeat' split
  all_goals simp_all
theorem run_neq_mark (x y : W.Mk) (u : World) : (Go.binOp .neq 37 (.agg (markVals x).toArray) (.agg (markVals y).toArray)).run Tryd.prog u = .ok (.bool (!(x == y))) u := by
  rw [mark_ext]
  unfold markVals W.markNums
  simp [go_sem]
  repeat' split
  all_goals simp_all
def alertSame (a b : W.Nt) : Bool := W.placeNums a == W.placeNums b && a.text == b.text && a.rules == b.rules
theorem alert_ext (a b : W.Nt) : alertSame a b = (a.path == b.path && (a.mark.serial == b.mark.serial && (a.mark.inode == b.mark.inode && (a.mark.gen == b.mark.gen && (a.mark.off == b.mark.off && (a.text == b.text && a.rules == b.rules)))))) := by
  unfold alertSame W.placeNums
  rw [Bool.eq_iff_iff]
  simp [and_assoc]
theorem run_eql_alert (a b : W.Nt) (s t : ByteArray) (hs : s = ba a.text) (ht : t = ba b.text) (u : World) : (Go.binOp .eql 40 (.agg #[.int .i64 a.path, .int .i64 a.mark.serial, .int .i64 a.mark.inode, .int .i64 a.mark.gen, .int .i64 a.mark.off, .int .i64 0, .int .i64 0, .int .i64 0, .int .i64 0, .int .i64 0, .string s, .int .u32 a.rules]) (.agg #[.int .i64 b.path, .int .i64 b.mark.serial, .int .i64 b.mark.inode, .int .i64 b.mark.gen, .int .i64 b.mark.off, .int .i64 0, .int .i64 0, .int .i64 0, .int .i64 0, .int .i64 0, .string t, .int .u32 b.rules])).run Tryd.prog u = .ok (.bool (alertSame a b)) u := by
  rw [alert_ext]
  have e : (a.text == b.text) = (s.toList == t.toList) := by
    rw [hs, ht, Bool.eq_iff_iff]
    simp [ByteArray.toList_eq]
  rw [e]
  simp [go_sem]
  repeat' split
  all_goals simp_all

theorem four_boxed (w : World) (A B C D : Obj) : Below w.heap.size w ((((w.alloc A).alloc B).alloc C).alloc D) := by
  have h := (two_boxed w A B)
  exact (h.alloc h.size C).alloc (h.alloc h.size C).size D

set_option maxHeartbeats 4000000 in
set_option maxRecDepth 100000 in
theorem told_1 (a b : W.Nt) (ma mb : Value) (w : World) (hk : a.kind = 1) :
    Calls Tryd.prog 13 #[.agg (noteCells a ma), .agg (noteCells b mb)] w (fun e w' => e = .returned (.bool (W.toldSame a b)) ∧ Below w.heap.size w w') := by
  have hres : W.toldSame a b = (alertSame a b && (a.attempt == b.attempt)) := by unfold W.toldSame alertSame; rw [hk]; rfl
  rw [hres]
  obtain ⟨s, hs⟩ : ∃ s, s = ba a.text := ⟨_, rfl⟩
  obtain ⟨t, ht⟩ : ∃ s, s = ba b.text := ⟨_, rfl⟩
  have hal := run_eql_alert a b s t hs ht
  have hb := fun C D => four_boxed w (.cells (noteCells a ma) 43) (.cells (noteCells b mb) 43) C D
  unfold noteCells at hb ⊢
  rw [hk, ← hs, ← ht] at hb ⊢
  have HB := Lib.hid hb
  clear hk hres hs ht hb
  go_enter Tryd.func13, Tryd.ntmps13
  cases hs1 : alertSame a b with
  | false =>
    rw [hs1] at hal
    go_wp2_with fail
    go_ret
    exact ⟨rfl, HB.out _ _⟩
  | true =>
    rw [hs1] at hal
    go_wp2_with fail
    go_ret
    exact ⟨rfl, HB.out _ _⟩

set_option maxHeartbeats 4000000 in
set_option maxRecDepth 100000 in
theorem told_2 (a b : W.Nt) (ma mb : Value) (w : World) (hk : a.kind = 2) :
    Calls Tryd.prog 13 #[.agg (noteCells a ma), .agg (noteCells b mb)] w (fun e w' => e = .returned (.bool (W.toldSame a b)) ∧ Below w.heap.size w w') := by
  have hres : W.toldSame a b = alertSame a b := by unfold W.toldSame alertSame; rw [hk]; simp
  rw [hres]
  obtain ⟨s, hs⟩ : ∃ s, s = ba a.text := ⟨_, rfl⟩
  obtain ⟨t, ht⟩ : ∃ s, s = ba b.text := ⟨_, rfl⟩
  have hal := run_eql_alert a b s t hs ht
  have hb := fun C D => four_boxed w (.cells (noteCells a ma) 43) (.cells (noteCells b mb) 43) C D
  unfold noteCells at hb ⊢
  rw [hk, ← hs, ← ht] at hb ⊢
  have HB := Lib.hid hb
  clear hk hres hs ht hb
  go_enter Tryd.func13, Tryd.ntmps13
  cases hs1 : alertSame a b with
  | false =>
    rw [hs1] at hal
    go_wp2_with fail
    go_ret
    exact ⟨rfl, HB.out _ _⟩
  | true =>
    rw [hs1] at hal
    go_wp2_with fail
    go_ret
    exact ⟨rfl, HB.out _ _⟩

set_option maxHeartbeats 4000000 in
set_option maxRecDepth 100000 in
theorem told_3 (a b : W.Nt) (ma mb : Value) (w : World) (hk : a.kind = 3) :
    Calls Tryd.prog 13 #[.agg (noteCells a ma), .agg (noteCells b mb)] w (fun e w' => e = .returned (.bool (W.toldSame a b)) ∧ Below w.heap.size w w') := by
  have hres : W.toldSame a b = alertSame a b := by unfold W.toldSame alertSame; rw [hk]; simp
  rw [hres]
  obtain ⟨s, hs⟩ : ∃ s, s = ba a.text := ⟨_, rfl⟩
  obtain ⟨t, ht⟩ : ∃ s, s = ba b.text := ⟨_, rfl⟩
  have hal := run_eql_alert a b s t hs ht
  have hb := fun C D => four_boxed w (.cells (noteCells a ma) 43) (.cells (noteCells b mb) 43) C D
  unfold noteCells at hb ⊢
  rw [hk, ← hs, ← ht] at hb ⊢
  have HB := Lib.hid hb
  clear hk hres hs ht hb
  go_enter Tryd.func13, Tryd.ntmps13
  cases hs1 : alertSame a b with
  | false =>
    rw [hs1] at hal
    go_wp2_with fail
    go_ret
    exact ⟨rfl, HB.out _ _⟩
  | true =>
    rw [hs1] at hal
    go_wp2_with fail
    go_ret
    exact ⟨rfl, HB.out _ _⟩

set_option maxHeartbeats 4000000 in
set_option maxRecDepth 100000 in
theorem told_else (a b : W.Nt) (ma mb : Value) (w : World) (h1 : a.kind ≠ 1) (h2 : a.kind ≠ 2) (h3 : a.kind ≠ 3) (h4 : a.kind ≠ 4) :
    Calls Tryd.prog 13 #[.agg (noteCells a ma), .agg (noteCells b mb)] w (fun e w' => e = .returned (.bool (W.toldSame a b)) ∧ Below w.heap.size w w') := by
  have hres : W.toldSame a b = true := by unfold W.toldSame; rw [if_neg (by omega), if_neg h4]
  rw [hres]
  have hb := two_boxed w (.cells (noteCells a ma) 43) (.cells (noteCells b mb) 43)
  unfold noteCells at hb ⊢
  have HB := Lib.hid hb
  have q1 : (a.kind == 1) = false := by simpa using h1
  have q2 : (a.kind == 2) = false := by simpa using h2
  have q3 : (a.kind == 3) = false := by simpa using h3
  have q4 : (a.kind == 4) = false := by simpa using h4
  clear h1 h2 h3 h4 hres hb
  go_enter Tryd.func13, Tryd.ntmps13
  go_wp2_with fail
  go_ret
  exact ⟨rfl, HB.out⟩

theorem takem_next {xs ys : List W.Mk} {i : Nat} (h1 : i < xs.length) (h2 : i < ys.length) (h : xs.take i = ys.take i) (he : xs[i] = ys[i]) : xs.take (i + 1) = ys.take (i + 1) := by
  rw [take_snoc' xs i h1, take_snoc' ys i h2, h, he]
theorem nem_at {xs ys : List W.Mk} {i : Nat} (h1 : i < xs.length) (h2 : i < ys.length) (he : xs[i] ≠ ys[i]) : xs ≠ ys := by
  intro h; subst h; exact he rfl
theorem takem_all {xs ys : List W.Mk} {i : Nat} (hl : xs.length = ys.length) (h : xs.take i = ys.take i) (hi : xs.length ≤ i) : xs = ys := by
  rw [List.take_of_length_le hi, List.take_of_length_le (by omega)] at h; exact h

set_option maxHeartbeats 4000000 in
set_option maxRecDepth 100000 in
theorem told_len (a b : W.Nt) (ma mb : Value) (w : World) (hv : MarksAt w ma a.marks) (hu : MarksAt w mb b.marks) (hk : a.kind = 4) (hl : a.marks.length ≠ b.marks.length) :
    Calls Tryd.prog 13 #[.agg (noteCells a ma), .agg (noteCells b mb)] w (fun e w' => e = .returned (.bool (W.toldSame a b)) ∧ Below w.heap.size w w') := by
  have hres : W.toldSame a b = false := by
    unfold W.toldSame; rw [hk, if_neg (by decide), if_pos rfl]
    simp only [beq_eq_false_iff_ne]
    intro e; rw [e] at hl; exact hl rfl
  rw [hres]
  have hb := two_boxed w (.cells (noteCells a ma) 43) (.cells (noteCells b mb) 43)
  obtain ⟨la, ca, rfl, _⟩ := hv
  obtain ⟨lb, cb, rfl, _⟩ := hu
  have q : ((a.marks.length : Int) != (b.marks.length : Int)) = true := by simp; omega
  unfold noteCells at hb ⊢
  rw [hk] at hb ⊢
  have HB := Lib.hid hb
  clear hk hres hb hl
  go_enter Tryd.func13, Tryd.ntmps13
  go_wp2_with fail
  go_ret
  exact ⟨rfl, HB.out⟩

set_option maxHeartbeats 4000000 in
set_option maxRecDepth 100000 in
theorem told_4 (a b : W.Nt) (ma mb : Value) (w : World) (hv : MarksAt w ma a.marks) (hu : MarksAt w mb b.marks) (hN : a.marks.length ≤ 4000000) (hk : a.kind = 4) (hl : a.marks.length = b.marks.length) :
    Calls Tryd.prog 13 #[.agg (noteCells a ma), .agg (noteCells b mb)] w (fun e w' => e = .returned (.bool (W.toldSame a b)) ∧ Below w.heap.size w w') := by
  have hres : W.toldSame a b = (a.marks == b.marks) := by unfold W.toldSame; rw [hk, if_neg (by decide), if_pos rfl]
  rw [hres]
  obtain ⟨wA, hwA⟩ : ∃ u, u = (w.alloc (.cells (noteCells a ma) 43)).alloc (.cells (noteCells b mb) 43) := ⟨_, rfl⟩
  have hbA : Below w.heap.size w wA := by rw [hwA]; exact two_boxed w _ _
  have kA : wA.heap[w.heap.size]? = some (.cells (noteCells a ma) 43 (0, 0)) := by
    rw [hwA, Lib.alloc_old _ _ _ (by rw [alloc_size]; omega)]; exact alloc_new _ _
  have kB : wA.heap[w.heap.size + 1]? = some (.cells (noteCells b mb) 43 (0, 0)) := by
    have := alloc_new (w.alloc (.cells (noteCells a ma) 43)) (.cells (noteCells b mb) 43)
    rw [alloc_size] at this; rw [hwA]; exact this
  have cA : wA.cell? ⟨w.heap.size, 14, none⟩ = some ma := by unfold World.cell?; rw [kA]; rfl
  have cB : wA.cell? ⟨w.heap.size + 1, 14, none⟩ = some mb := by unfold World.cell?; rw [kB]; rfl
  have hvA := hv.below hbA
  have huA := hu.below hbA
  obtain ⟨la, ca, rfl, hx⟩ := hvA
  obtain ⟨lb, cb, rfl, hy⟩ := huA
  obtain ⟨n, hn⟩ : ∃ n, n = a.marks.length := ⟨_, rfl⟩
  obtain ⟨m, hm⟩ : ∃ m, m = b.marks.length := ⟨_, rfl⟩
  have q : ((n : Int) != (m : Int)) = false := by simp; omega
  have HX := Lib.hid hx
  have HY := Lib.hid hy
  have HL := Lib.hid hl
  have HN := Lib.hid hn
  have HM := Lib.hid hm
  have HR := Lib.hid hres
  obtain ⟨xs, has⟩ : ∃ l, l = a.marks := ⟨_, rfl⟩
  obtain ⟨ys, hbs⟩ : ∃ l, l = b.marks := ⟨_, rfl⟩
  rw [← hn] at hN
  have CA : Hid (wA.cell? ⟨w.heap.size, 14, none⟩ = some (.slice la n ca)) := Lib.hid (by rw [hn]; exact cA)
  have CB : Hid (wA.cell? ⟨w.heap.size + 1, 14, none⟩ = some (.slice lb m cb)) := Lib.hid (by rw [hm]; exact cB)
  unfold noteCells at hwA ⊢
  rw [hk] at hwA ⊢
  rw [← hn, ← hm] at hwA ⊢
  rw [← has, ← hbs]
  rw [← has] at HX HL HN
  rw [← hbs] at HY HL HM
  have HWA := Lib.hid hwA
  have HBA := Lib.hid hbA
  clear hv hu hk hres hwA hbA kA kB cA cB hx hy hl hn hm has hbs HR
  go_enter Tryd.func13, Tryd.ntmps13
  go_wp2_with fail
  rw [← HWA.out]
  go_loopw [7] (fun t wr => ∃ i : Nat, t = .int .i64 i ∧ i ≤ n ∧ xs.take i = ys.take i ∧ Below wA.heap.size wA wr) (fun t _ => match t with | .int _ i => (n - i).toNat | _ => 0)
  case atStart => exact ⟨0, rfl, by omega, rfl, Below.refl _ _⟩
  case round =>
    obtain ⟨i, rfl, hi, ht, hbel⟩ := hrel
    have c14 : wr.cell? ⟨w.heap.size, 14, none⟩ = some (.slice la n ca) := by rw [hbel.cell (cell_lt CA.out)]; exact CA.out
    have d14 : wr.cell? ⟨w.heap.size + 1, 14, none⟩ = some (.slice lb m cb) := by rw [hbel.cell (cell_lt CB.out)]; exact CB.out
    by_cases hlt : i < n
    · have h1 : i < xs.length := by rw [← HN.out]; exact hlt
      have h2 : i < ys.length := by rw [← HL.out]; exact h1
      obtain ⟨ba, oa, rfl, hxa⟩ := HX.out i h1
      obtain ⟨bb, ob, rfl, hxb⟩ := HY.out i h2
      have hxr : ∀ j x, (markVals xs[i])[j]? = some x → wr.cell? ⟨ba, oa + i * 9 + j, none⟩ = some x := fun j x hj => by have := hxa j x hj; rw [hbel.cell (cell_lt this)]; exact this
      have hyr : ∀ j x, (markVals ys[i])[j]? = some x → wr.cell? ⟨bb, ob + i * 9 + j, none⟩ = some x := fun j x hj => by have := hxb j x hj; rw [hbel.cell (cell_lt this)]; exact this
      have q0 : (i : Int) < n := by omega
      have q1 : (i : Int) < m := by rw [HM.out, ← HL.out, ← HN.out]; omega
      have q2 : (i : Int) + 1 ≤ 9223372036854775807 := by omega
      obtain ⟨x, hx⟩ : ∃ x, x = xs[i] := ⟨_, rfl⟩
      obtain ⟨y, hy⟩ : ∃ y, y = ys[i] := ⟨_, rfl⟩
      rw [← hx] at hxr
      rw [← hy] at hyr
      have c0 := hxr 0 _ rfl
      have c1 := hxr 1 _ rfl
      have c2 := hxr 2 _ rfl
      have c3 := hxr 3 _ rfl
      have c4 := hxr 4 _ rfl
      have c5 := hxr 5 _ rfl
      have c6 := hxr 6 _ rfl
      have c7 := hxr 7 _ rfl
      have c8 := hxr 8 _ rfl
      have d0 := hyr 0 _ rfl
      have d1 := hyr 1 _ rfl
      have d2 := hyr 2 _ rfl
      have d3 := hyr 3 _ rfl
      have d4 := hyr 4 _ rfl
      have d5 := hyr 5 _ rfl
      have d6 := hyr 6 _ rfl
      have d7 := hyr 7 _ rfl
      have d8 := hyr 8 _ rfl
      rw [Nat.add_zero] at c0 d0
      have hne : ∀ u, (Go.binOp .neq 37 (.agg #[.int .i64 x.serial, .int .i64 x.inode, .int .i64 x.gen, .int .i64 x.off, .int .i64 x.missed, .int .i64 x.gone, .int .i64 x.cuts, .int .i64 x.tails, .int .i64 x.long]) (.agg #[.int .i64 y.serial, .int .i64 y.inode, .int .i64 y.gen, .int .i64 y.off, .int .i64 y.missed, .int .i64 y.gone, .int .i64 y.cuts, .int .i64 y.tails, .int .i64 y.long])).run Tryd.prog u = .ok (.bool (!(x == y))) u := run_neq_mark x y
      have HXX := Lib.hid hx
      have HYY := Lib.hid hy
      have HT := Lib.hid ht
      clear hx hy ht hxa hxb hxr hyr
      by_cases hxy : x = y
      · have q3 : (x == y) = true := by simpa using hxy
        rw [q3] at hne
        have HT2 := Lib.hid (takem_next h1 h2 HT.out (by rw [← HXX.out, ← HYY.out]; exact hxy))
        clear hxy q3
        go_wp2_with fail
        go_quiet (fail)
        go_wp2_with fail
        go_roundw
        case rel => exact ⟨i + 1, by push_cast; rfl, by omega, HT2.out, below_drewN hbel _⟩
        case measure => simp only; omega
      · have q3 : (x == y) = false := by simpa using hxy
        rw [q3] at hne
        have hnn : (xs == ys) = false := by
          have := nem_at h1 h2 (by rw [← HXX.out, ← HYY.out]; exact hxy)
          simpa using this
        have HNE := Lib.hid hnn
        clear hnn hxy q3
        go_wp2_with fail
        go_quiet (fail)
        go_wp2_with fail
        go_ret
        rw [HNE.out]
        exact ⟨rfl, HBA.out.trans ((below_drewN hbel _).mono HBA.out.size)⟩
    · have q0 : ¬ (i : Int) < n := by omega
      have heq : (xs == ys) = true := by
        have := takem_all HL.out ht (by have := HN.out; omega)
        simpa using this
      have HE := Lib.hid heq
      clear heq ht
      go_wp2_with fail
      go_ret
      rw [HE.out]
      exact ⟨rfl, HBA.out.trans (hbel.mono HBA.out.size)⟩

theorem told_any2 (a b : W.Nt) (ma mb : Value) (w : World) (hv : NoteAt w a ma) (hu : NoteAt w b mb) :
    Calls Tryd.prog 13 #[.agg (noteCells a ma), .agg (noteCells b mb)] w (fun e w' => e = .returned (.bool (W.toldSame a b)) ∧ Below w.heap.size w w') := by
  by_cases h1 : a.kind = 1
  · exact told_1 a b ma mb w h1
  by_cases h2 : a.kind = 2
  · exact told_2 a b ma mb w h2
  by_cases h3 : a.kind = 3
  · exact told_3 a b ma mb w h3
  by_cases h4 : a.kind = 4
  · by_cases hl : a.marks.length = b.marks.length
    · exact told_4 a b ma mb w hv.marks hu.marks hv.many h4 hl
    · exact told_len a b ma mb w hv.marks hu.marks h4 hl
  exact told_else a b ma mb w h1 h2 h3 h4
end Go.Proofs.YtoihlclmilhpdaaDoor
