/- Walks: ScriptBack. -/
import Derived.Test.YtoihlclmilhpdaaDoorW28
namespace Go.Proofs.YtoihlclmilhpdaaDoor
open Go Go.RowKit

/-- The event's parts are short. -/
def EvFew (x : W.Ev) : Prop := EvLen 1048576 x ∧ x.keep.length ≤ 1048576
theorem print_size2 {x : W.Ev} (hf : x.fit) (hl : EvFew x) : (ba (W.printL x)).size ≤ 50000000 := by
  rw [ba_size]
  unfold W.printL
  have h1 := W.join_len (W.printWords x)
  have h2 := W.printWords_len x hf 1048576 hl.1.1 hl.1.2.1 hl.1.2.2 hl.2
  omega
theorem printed (x : W.Ev) (kv : Value) (w : World) (hx : EvAt w x kv) (hE : Env w) (hm : W.mayKind x = true) : ∀ u, Below w.heap.size w u → Calls Tryd.prog 7 #[.agg (evCells x kv)] u (fun e u' => e = .returned (.tuple #[.string (ba (W.printL x)), .int .i64 0]) ∧ Below u.heap.size u u') := by
  intro u hu
  refine (print_any x kv u (hx.below hu) (hE.below hu)).mono ?_
  unfold PrintPost
  rw [hm]
  rintro e w' ⟨rfl, hb⟩
  exact ⟨rfl, hb⟩
theorem unprinted (x : W.Ev) (kv : Value) (w : World) (hx : EvAt w x kv) (hE : Env w) (hm : W.mayKind x = false) : ∀ u, Below w.heap.size w u → Calls Tryd.prog 7 #[.agg (evCells x kv)] u (fun e u' => e = .returned (.tuple #[.string ⟨#[]⟩, .int .i64 260]) ∧ Below u.heap.size u u') := by
  intro u hu
  refine (print_any x kv u (hx.below hu) (hE.below hu)).mono ?_
  unfold PrintPost
  rw [hm]
  rintro e w' ⟨rfl, hb⟩
  exact ⟨rfl, hb⟩
theorem print_some (x : W.Ev) (kv : Value) (w : World) (hx : EvAt w x kv) (hE : Env w) : ∀ u, Below w.heap.size w u → Calls Tryd.prog 7 #[.agg (evCells x kv)] u (fun e u' => ∃ s n, e = .returned (.tuple #[.string s, .int .i64 n]) ∧ Below u.heap.size u u') := by
  intro u hu
  refine (print_any x kv u (hx.below hu) (hE.below hu)).mono ?_
  unfold PrintPost
  rintro e w' ⟨rfl, hb⟩
  exact ⟨_, _, rfl, hb⟩

set_option maxHeartbeats 4000000 in
set_option maxRecDepth 100000 in
theorem back_no (a b : W.Ev) (ka kb : Value) (w : World) (ha : EvAt w a ka) (hb : EvAt w b kb) (hE : Env w) (hm : W.mayKind a = false) :
    Calls Tryd.prog 3 #[.agg (evCells a ka), .agg (evCells b kb)] w (TruePost w) := by
  have CF := Lib.hid (fun u (h : Below w.heap.size w u) => fixed_any u (hE.below h))
  have CA := Lib.hid (unprinted a ka w ha hE hm)
  have CB := Lib.hid (print_some b kb w hb hE)
  have hkk : ¬ 1 ≤ a.kind ∨ (1 ≤ a.kind ∧ ¬ a.kind ≤ 12) := by
    unfold W.mayKind at hm
    simp only [Bool.and_eq_false_iff, decide_eq_false_iff_not] at hm
    omega
  have kA : ((w.alloc (.cells (evCells a ka) 24)).alloc (.cells (evCells b kb) 24)).heap[w.heap.size]? = some (.cells (evCells a ka) 24 (0, 0)) := by
    rw [Lib.alloc_old _ _ _ (by rw [alloc_size]; omega)]; exact alloc_new _ _
  have kB : ((w.alloc (.cells (evCells a ka) 24)).alloc (.cells (evCells b kb) 24)).heap[w.heap.size + 1]? = some (.cells (evCells b kb) 24 (0, 0)) := by
    have := alloc_new (w.alloc (.cells (evCells a ka) 24)) (.cells (evCells b kb) 24)
    rw [alloc_size] at this; exact this
  have h0 := two_boxed w (.cells (evCells a ka) 24) (.cells (evCells b kb) 24)
  obtain ⟨la, ca, rfl⟩ := ha.keep.form
  obtain ⟨lb, cb, rfl⟩ := hb.keep.form
  clear ha hb hE hm
  obtain ⟨na, hna⟩ : ∃ n, n = (intVals a.keep).length := ⟨_, rfl⟩
  obtain ⟨nb, hnb⟩ : ∃ n, n = (intVals b.keep).length := ⟨_, rfl⟩
  rw [← hna] at CA kA kB h0 ⊢
  rw [← hnb] at CB kA kB h0 ⊢
  clear hna hnb
  have KA := Lib.hid kA
  have KB := Lib.hid kB
  have H0 := Lib.hid h0
  clear kA kB h0
  unfold evCells at CA CB KA KB H0 ⊢
  rcases hkk with h1 | ⟨h1, h2⟩
  all_goals
    go_enter Tryd.func3, Tryd.ntmps3
    go_wp2_with fail
    refine (CF.out _ H0.out).mono ?_
    rintro e1 w1 ⟨rfl, hb1⟩
    have hB1 := H0.out.trans (hb1.mono H0.out.size)
    have k1 := C7.of_block (x := a) (heap_keep KA.out hb1)
    have k1b := C7.of_block (x := b) (heap_keep KB.out hb1)
    obtain ⟨d0, d1, d2, d3, d4, d5, d6⟩ := id k1
    clear hb1 KA KB H0
    go_wp2_with fail
    refine (CA.out _ hB1).mono ?_
    rintro e1 w2 ⟨rfl, hb2⟩
    have hB2 := hB1.trans (hb2.mono hB1.size)
    have k2 := k1.below hb2
    have k2b := k1b.below hb2
    clear hb2 hB1 k1 k1b d0 d1 d2 d3 d4 d5 d6
    obtain ⟨d0, d1, d2, d3, d4, d5, d6⟩ := id k2b
    go_wp2_with fail
    refine (CB.out _ hB2).mono ?_
    rintro e1 w3 ⟨s, n, rfl, hb3⟩
    have hB3 := hB2.trans (hb3.mono hB2.size)
    have k3 := k2.below hb3
    have c3 := k3.1
    clear hb3 hB2 k2 k2b k3 d0 d1 d2 d3 d4 d5 d6
    go_wp2_with fail
    go_ret
    exact ⟨rfl, hB3⟩

set_option maxHeartbeats 4000000 in
set_option maxRecDepth 100000 in
theorem back_one (a b : W.Ev) (ka kb : Value) (w : World) (ha : EvAt w a ka) (hb : EvAt w b kb) (hE : Env w) (hm : W.mayKind a = true) (hn : W.mayKind b = false) :
    Calls Tryd.prog 3 #[.agg (evCells a ka), .agg (evCells b kb)] w (TruePost w) := by
  have CF := Lib.hid (fun u (h : Below w.heap.size w u) => fixed_any u (hE.below h))
  have CA := Lib.hid (printed a ka w ha hE hm)
  have CB := Lib.hid (unprinted b kb w hb hE hn)
  obtain ⟨h1, h2⟩ : 1 ≤ a.kind ∧ a.kind ≤ 12 := by
    unfold W.mayKind at hm
    simpa using hm
  have kA : ((w.alloc (.cells (evCells a ka) 24)).alloc (.cells (evCells b kb) 24)).heap[w.heap.size]? = some (.cells (evCells a ka) 24 (0, 0)) := by
    rw [Lib.alloc_old _ _ _ (by rw [alloc_size]; omega)]; exact alloc_new _ _
  have kB : ((w.alloc (.cells (evCells a ka) 24)).alloc (.cells (evCells b kb) 24)).heap[w.heap.size + 1]? = some (.cells (evCells b kb) 24 (0, 0)) := by
    have := alloc_new (w.alloc (.cells (evCells a ka) 24)) (.cells (evCells b kb) 24)
    rw [alloc_size] at this; exact this
  have h0 := two_boxed w (.cells (evCells a ka) 24) (.cells (evCells b kb) 24)
  obtain ⟨la, ca, rfl⟩ := ha.keep.form
  obtain ⟨lb, cb, rfl⟩ := hb.keep.form
  clear ha hb hE hm hn
  obtain ⟨p, hp⟩ : ∃ p, p = ba (W.printL a) := ⟨_, rfl⟩
  obtain ⟨na, hna⟩ : ∃ n, n = (intVals a.keep).length := ⟨_, rfl⟩
  obtain ⟨nb, hnb⟩ : ∃ n, n = (intVals b.keep).length := ⟨_, rfl⟩
  rw [← hna] at CA kA kB h0 ⊢
  rw [← hnb] at CB kA kB h0 ⊢
  rw [← hp] at CA
  clear hna hnb hp
  have KA := Lib.hid kA
  have KB := Lib.hid kB
  have H0 := Lib.hid h0
  clear kA kB h0
  unfold evCells at CA CB KA KB H0 ⊢
  go_enter Tryd.func3, Tryd.ntmps3
  go_wp2_with fail
  refine (CF.out _ H0.out).mono ?_
  rintro e1 w1 ⟨rfl, hb1⟩
  have hB1 := H0.out.trans (hb1.mono H0.out.size)
  have k1 := C7.of_block (x := a) (heap_keep KA.out hb1)
  have k1b := C7.of_block (x := b) (heap_keep KB.out hb1)
  obtain ⟨d0, d1, d2, d3, d4, d5, d6⟩ := id k1
  clear hb1 KA KB H0
  go_wp2_with fail
  refine (CA.out _ hB1).mono ?_
  rintro e1 w2 ⟨rfl, hb2⟩
  have hB2 := hB1.trans (hb2.mono hB1.size)
  have k2 := k1.below hb2
  have k2b := k1b.below hb2
  clear hb2 hB1 k1 k1b d0 d1 d2 d3 d4 d5 d6
  obtain ⟨d0, d1, d2, d3, d4, d5, d6⟩ := id k2b
  go_wp2_with fail
  refine (CB.out _ hB2).mono ?_
  rintro e1 w3 ⟨rfl, hb3⟩
  have hB3 := hB2.trans (hb3.mono hB2.size)
  have k3 := k2.below hb3
  have c3 := k3.1
  clear hb3 hB2 k2 k2b k3 d0 d1 d2 d3 d4 d5 d6
  go_wp2_with fail
  go_ret
  exact ⟨rfl, hB3⟩

theorem add_two (s : ByteArray) (hs : s.size ≤ 1000000000) : ∀ u : World, (Op.stringOp .add ⟨#[32, 32]⟩ s).run Tryd.prog u = .ok (.string ((⟨#[32, 32]⟩ : ByteArray) ++ s)) u := by
  intro u
  have h1 : (⟨#[32, 32]⟩ : ByteArray).size = 2 := rfl
  exact run_string_add_sum u _ _ (by rw [h1]; omega)
theorem add_space (s : ByteArray) (hs : s.size ≤ 1000000000) : ∀ u : World, (Op.stringOp .add s ⟨#[32]⟩).run Tryd.prog u = .ok (.string (s ++ (⟨#[32]⟩ : ByteArray))) u := by
  intro u
  have h1 : (⟨#[32]⟩ : ByteArray).size = 1 := rfl
  exact run_string_add_sum u _ _ (by rw [h1]; omega)
theorem two_list (s : ByteArray) : ((⟨#[32, 32]⟩ : ByteArray) ++ s).data.toList = 32 :: 32 :: s.data.toList := by simp
theorem blank_list (s : ByteArray) : (s ++ (⟨#[32]⟩ : ByteArray)).data.toList = s.data.toList ++ [32] := by simp
theorem two_size (s : ByteArray) : ((⟨#[32, 32]⟩ : ByteArray) ++ s).size = s.size + 2 := by
  rw [← size_list, two_list, List.length_cons, List.length_cons, size_list]
theorem blank_size (s : ByteArray) : (s ++ (⟨#[32]⟩ : ByteArray)).size = s.size + 1 := by
  rw [← size_list, blank_list, List.length_append, size_list]; rfl
theorem noLf_print {x : W.Ev} (hm : W.mayKind x = true) : noLf (W.printL x) = true := by
  unfold noLf
  rw [List.all_eq_true]
  intro c hc
  have h := W.print_line x hm c hc
  unfold W.lineB at h
  have h2 : c ≠ 10 := by intro e; rw [e] at h; revert h; decide
  simpa using h2
theorem used_many (e : W.Ev) : (W.usedL e).keep.length ≤ e.keep.length := by
  unfold W.usedL
  repeat' split
  all_goals simp

set_option maxHeartbeats 8000000 in
set_option maxRecDepth 100000 in
theorem back_yes (a b : W.Ev) (ka kb : Value) (w : World) (ha : EvAt w a ka) (hb : EvAt w b kb) (hE : Env w) (fa : EvFew a) (hm : W.mayKind a = true) (hn : W.mayKind b = true) :
    Calls Tryd.prog 3 #[.agg (evCells a ka), .agg (evCells b kb)] w (TruePost w) := by
  have CF := Lib.hid (fun u (h : Below w.heap.size w u) => fixed_any u (hE.below h))
  have CA := Lib.hid (printed a ka w ha hE hm)
  have CB := Lib.hid (printed b kb w hb hE hn)
  obtain ⟨h1, h2⟩ : 1 ≤ a.kind ∧ a.kind ≤ 12 := by
    unfold W.mayKind at hm
    simpa using hm
  have psa := print_size2 ha.fit fa
  have hpar := W.parse_print a hm ha.fit
  have hpbl := W.parse_print_blanks a hm ha.fit
  have hlf := noLf_print hm
  have heq := W.print_eq a b hm hn ha.fit hb.fit
  have hkeep : (W.usedL a).keep.length ≤ 1000000000 := by have := fa.2; have := used_many a; omega
  obtain ⟨p, hp⟩ : ∃ p, p = ba (W.printL a) := ⟨_, rfl⟩
  obtain ⟨q, hq⟩ : ∃ p, p = ba (W.printL b) := ⟨_, rfl⟩
  obtain ⟨g, hg⟩ : ∃ g, g = W.usedL a := ⟨_, rfl⟩
  obtain ⟨h, hh⟩ : ∃ g, g = W.usedL b := ⟨_, rfl⟩
  have hpq : (p = q) ↔ (g = h) := by
    rw [hp, hq, hg, hh, ← heq]
    exact ⟨fun h => by have := congrArg (fun x : ByteArray => x.data.toList) h; simpa using this, fun h => by rw [h]⟩
  obtain ⟨t, ht⟩ : ∃ t, t = (⟨#[32, 32]⟩ : ByteArray) ++ p := ⟨_, rfl⟩
  obtain ⟨r, hr⟩ : ∃ t', t' = t ++ (⟨#[32]⟩ : ByteArray) := ⟨_, rfl⟩
  have hsp : p.size ≤ 50000000 := by rw [hp]; exact psa
  have hst : t.size ≤ 50000002 := by rw [ht, two_size]; omega
  have hsr : r.size ≤ 50000003 := by rw [hr, blank_size]; omega
  have hrl : W.parseL r.data.toList = some g := by rw [hr, blank_list, ht, two_list, hp, ba_list, List.cons_append, List.cons_append, hg]; exact hpbl
  have hpl : W.parseL p.data.toList = some g := by rw [hp, ba_list, hg]; exact hpar
  have hol : noLf p.data.toList = true := by rw [hp, ba_list]; exact hlf
  have hadd1 := add_two p (by omega)
  have hadd2 := add_space t (by omega)
  rw [← ht] at hadd1
  rw [← hr] at hadd2
  rw [← hg] at hkeep
  rw [← hp] at CA
  rw [← hq] at CB
  have CP := Lib.hid (fun u (h : Below w.heap.size w u) => parse_yes p g u (by omega) hpl (hE.below h))
  have CR := Lib.hid (fun u (h : Below w.heap.size w u) => parse_yes r g u (by omega) hrl (hE.below h))
  have CO : Hid (∀ u : World, Calls Tryd.prog 11 #[.string p] u (fun e u' => e = .returned (.bool true) ∧ u' = u)) := Lib.hid (by
    intro u
    have := oneLine_any p u (by omega)
    rw [hol] at this; exact this)
  have CUA : Hid (∀ u, Below w.heap.size w u → Calls Tryd.prog 10 #[.agg (evCells a ka)] u (fun e u' => ∃ x c, e = .returned (.agg (evCells g (.slice x g.keep.length c))) ∧ RowAt u' (.slice x g.keep.length c) (intVals g.keep) ∧ Below u.heap.size u u')) := Lib.hid (by
    intro u hu
    refine (used_any a _ u (ha.keep.below hu)).mono ?_
    unfold UsedPost
    rw [← hg]
    rintro e u' ⟨kv, rfl, hrow, hb⟩
    obtain ⟨x, c, rfl⟩ := hrow.form
    rw [intVals_len] at *
    exact ⟨x, c, rfl, hrow, hb⟩)
  have CUB : Hid (∀ u, Below w.heap.size w u → Calls Tryd.prog 10 #[.agg (evCells b kb)] u (fun e u' => ∃ x c, e = .returned (.agg (evCells h (.slice x h.keep.length c))) ∧ RowAt u' (.slice x h.keep.length c) (intVals h.keep) ∧ Below u.heap.size u u')) := Lib.hid (by
    intro u hu
    refine (used_any b _ u (hb.keep.below hu)).mono ?_
    unfold UsedPost
    rw [← hh]
    rintro e u' ⟨kv, rfl, hrow, hb⟩
    obtain ⟨x, c, rfl⟩ := hrow.form
    rw [intVals_len] at *
    exact ⟨x, c, rfl, hrow, hb⟩)
  have kA : ((w.alloc (.cells (evCells a ka) 24)).alloc (.cells (evCells b kb) 24)).heap[w.heap.size]? = some (.cells (evCells a ka) 24 (0, 0)) := by
    rw [Lib.alloc_old _ _ _ (by rw [alloc_size]; omega)]; exact alloc_new _ _
  have kB : ((w.alloc (.cells (evCells a ka) 24)).alloc (.cells (evCells b kb) 24)).heap[w.heap.size + 1]? = some (.cells (evCells b kb) 24 (0, 0)) := by
    have := alloc_new (w.alloc (.cells (evCells a ka) 24)) (.cells (evCells b kb) 24)
    rw [alloc_size] at this; exact this
  have h0 := two_boxed w (.cells (evCells a ka) 24) (.cells (evCells b kb) 24)
  obtain ⟨la, ca, rfl⟩ := ha.keep.form
  obtain ⟨lb, cb, rfl⟩ := hb.keep.form
  clear ha hb hE hm hn fa heq hpar hpbl hlf hol hpl hrl hp hq hg hh ht hr
  obtain ⟨na, hna⟩ : ∃ n, n = (intVals a.keep).length := ⟨_, rfl⟩
  obtain ⟨nb, hnb⟩ : ∃ n, n = (intVals b.keep).length := ⟨_, rfl⟩
  rw [← hna] at CA CUA kA kB h0 ⊢
  rw [← hnb] at CB CUB kA kB h0 ⊢
  clear hna hnb
  obtain ⟨m, hmm⟩ : ∃ n, n = g.keep.length := ⟨_, rfl⟩
  obtain ⟨k, hkk⟩ : ∃ n, n = h.keep.length := ⟨_, rfl⟩
  rw [← hmm] at CP CR CUA hkeep
  rw [← hkk] at CUB
  have HM := Lib.hid hmm
  have HKL := Lib.hid hkeep
  have hpq2 : (p.toList == q.toList) = (g == h) := by
    rw [Bool.eq_iff_iff, beq_iff_eq, beq_iff_eq, ← hpq, ByteArray.toList_eq, ByteArray.toList_eq]
    exact ⟨fun e => by cases p; cases q; simp_all, fun e => by rw [e]⟩
  have HPQ2 := Lib.hid hpq2
  clear hmm hkk hkeep hpq hpq2
  have KA := Lib.hid kA
  have KB := Lib.hid kB
  have H0 := Lib.hid h0
  clear kA kB h0
  unfold evCells at CA CB KA KB H0 ⊢
  go_enter Tryd.func3, Tryd.ntmps3
  go_wp2_with fail
  refine (CF.out _ H0.out).mono ?_
  rintro e1 w1 ⟨rfl, hb1⟩
  have hB1 := H0.out.trans (hb1.mono H0.out.size)
  have k1 := C7.of_block (x := a) (heap_keep KA.out hb1)
  have k1b := C7.of_block (x := b) (heap_keep KB.out hb1)
  obtain ⟨d0, d1, d2, d3, d4, d5, d6⟩ := id k1
  clear hb1 KA KB H0
  go_wp2_with fail
  refine (CA.out _ hB1).mono ?_
  rintro e1 w2 ⟨rfl, hb2⟩
  have hB2 := hB1.trans (hb2.mono hB1.size)
  have k2 := k1.below hb2
  have k2b := k1b.below hb2
  clear hb2 hB1 k1 k1b d0 d1 d2 d3 d4 d5 d6
  obtain ⟨d0, d1, d2, d3, d4, d5, d6⟩ := id k2b
  go_wp2_with fail
  refine (CB.out _ hB2).mono ?_
  rintro e1 w3 ⟨rfl, hb3⟩
  have hB3 := hB2.trans (hb3.mono hB2.size)
  have K3 := k2.below hb3
  have K3b := k2b.below hb3
  clear hb3 hB2 k2 k2b d0 d1 d2 d3 d4 d5 d6
  have c3 := K3.1
  go_wp2_with fail
  refine (CP.out _ hB3).mono ?_
  rintro e1 w4 ⟨a1, c1, rfl, hr4, hb4⟩
  obtain ⟨wC, hwC⟩ : ∃ u, u = w4.alloc (.cells (evCells g (.slice a1 m c1)) 24) := ⟨_, rfl⟩
  have hbC : Below w4.heap.size w4 wC := by rw [hwC]; exact boxed w4 _
  have hBC := hb4.trans (hbC.mono hb4.size)
  have hC := hB3.trans (hBC.mono hB3.size)
  have rC := hr4.below hbC
  have KC := K3.below hBC
  have KCb := K3b.below hBC
  have kX : wC.heap[w4.heap.size]? = some (.cells (evCells g (.slice a1 m c1)) 24 (0, 0)) := by rw [hwC]; exact alloc_new _ _
  clear K3 K3b hb4 hbC hBC hr4 hB3 c3
  unfold evCells at hwC kX ⊢
  go_wp2_with fail
  rw [← hwC]
  have KX := Lib.hid kX
  clear hwC kX
  refine (CR.out _ hC).mono ?_
  rintro e1 w5 ⟨a2, c2, rfl, hr5, hb5⟩
  obtain ⟨wF, hwF⟩ : ∃ u, u = w5.alloc (.cells (evCells g (.slice a2 m c2)) 24) := ⟨_, rfl⟩
  have hbF : Below w5.heap.size w5 wF := by rw [hwF]; exact boxed w5 _
  have hBF := hb5.trans (hbF.mono hb5.size)
  have hF := hC.trans (hBF.mono hC.size)
  have rx := rC.below hBF
  have ry := hr5.below hbF
  have ka := KC.below hBF
  have kb := KCb.below hBF
  have kx := C7.of_block (x := g) (heap_keep KX.out hBF)
  have ky : C7 wF w5.heap.size g (.slice a2 m c2) := C7.of_block (by rw [hwF]; exact alloc_new _ _)
  clear KC KCb KX hb5 hbF hBF hr5 hC rC
  have HSW : Hid (∀ u, Below wF.heap.size wF u → (Below wF.heap.size wF u ∧ u.cell? ⟨w.heap.size, 0, none⟩ = some (.int .i64 a.kind) ∧ u.cell? ⟨w.heap.size, 1, none⟩ = some (.string (ba a.name)) ∧ u.cell? ⟨w.heap.size, 2, none⟩ = some (.string (ba a.other)) ∧ u.cell? ⟨w.heap.size, 3, none⟩ = some (.string (ba a.data)) ∧ u.cell? ⟨w.heap.size, 4, none⟩ = some (.int .i64 a.n) ∧ u.cell? ⟨w.heap.size, 5, none⟩ = some (.bool a.yes) ∧ u.cell? ⟨w.heap.size, 6, none⟩ = some (.slice la na ca) ∧ u.cell? ⟨w4.heap.size, 0, none⟩ = some (.int .i64 g.kind) ∧ u.cell? ⟨w4.heap.size, 1, none⟩ = some (.string (ba g.name)) ∧ u.cell? ⟨w4.heap.size, 2, none⟩ = some (.string (ba g.other)) ∧ u.cell? ⟨w4.heap.size, 3, none⟩ = some (.string (ba g.data)) ∧ u.cell? ⟨w4.heap.size, 4, none⟩ = some (.int .i64 g.n) ∧ u.cell? ⟨w4.heap.size, 5, none⟩ = some (.bool g.yes) ∧ u.cell? ⟨w4.heap.size, 6, none⟩ = some (.slice a1 m c1) ∧ u.cell? ⟨w5.heap.size, 0, none⟩ = some (.int .i64 g.kind) ∧ u.cell? ⟨w5.heap.size, 1, none⟩ = some (.string (ba g.name)) ∧ u.cell? ⟨w5.heap.size, 2, none⟩ = some (.string (ba g.other)) ∧ u.cell? ⟨w5.heap.size, 3, none⟩ = some (.string (ba g.data)) ∧ u.cell? ⟨w5.heap.size, 4, none⟩ = some (.int .i64 g.n) ∧ u.cell? ⟨w5.heap.size, 5, none⟩ = some (.bool g.yes) ∧ u.cell? ⟨w5.heap.size, 6, none⟩ = some (.slice a2 m c2))) := Lib.hid (by
    intro u hu
    obtain ⟨d0, d1, d2, d3, d4, d5, d6⟩ := ka.below hu
    obtain ⟨x0, x1, x2, x3, x4, x5, x6⟩ := kx.below hu
    obtain ⟨y0, y1, y2, y3, y4, y5, y6⟩ := ky.below hu
    exact ⟨hu, d0, d1, d2, d3, d4, d5, d6, x0, x1, x2, x3, x4, x5, x6, y0, y1, y2, y3, y4, y5, y6⟩)
  have CU1 : Hid (∀ u, Below wF.heap.size wF u → Calls Tryd.prog 10 #[.agg (evCells a (.slice la na ca))] u (fun e u' => ∃ x c, e = .returned (.agg (evCells g (.slice x m c))) ∧ RowAt u' (.slice x m c) (intVals g.keep) ∧ (Below wF.heap.size wF u' ∧ u'.cell? ⟨w.heap.size, 0, none⟩ = some (.int .i64 a.kind) ∧ u'.cell? ⟨w.heap.size, 1, none⟩ = some (.string (ba a.name)) ∧ u'.cell? ⟨w.heap.size, 2, none⟩ = some (.string (ba a.other)) ∧ u'.cell? ⟨w.heap.size, 3, none⟩ = some (.string (ba a.data)) ∧ u'.cell? ⟨w.heap.size, 4, none⟩ = some (.int .i64 a.n) ∧ u'.cell? ⟨w.heap.size, 5, none⟩ = some (.bool a.yes) ∧ u'.cell? ⟨w.heap.size, 6, none⟩ = some (.slice la na ca) ∧ u'.cell? ⟨w4.heap.size, 0, none⟩ = some (.int .i64 g.kind) ∧ u'.cell? ⟨w4.heap.size, 1, none⟩ = some (.string (ba g.name)) ∧ u'.cell? ⟨w4.heap.size, 2, none⟩ = some (.string (ba g.other)) ∧ u'.cell? ⟨w4.heap.size, 3, none⟩ = some (.string (ba g.data)) ∧ u'.cell? ⟨w4.heap.size, 4, none⟩ = some (.int .i64 g.n) ∧ u'.cell? ⟨w4.heap.size, 5, none⟩ = some (.bool g.yes) ∧ u'.cell? ⟨w4.heap.size, 6, none⟩ = some (.slice a1 m c1) ∧ u'.cell? ⟨w5.heap.size, 0, none⟩ = some (.int .i64 g.kind) ∧ u'.cell? ⟨w5.heap.size, 1, none⟩ = some (.string (ba g.name)) ∧ u'.cell? ⟨w5.heap.size, 2, none⟩ = some (.string (ba g.other)) ∧ u'.cell? ⟨w5.heap.size, 3, none⟩ = some (.string (ba g.data)) ∧ u'.cell? ⟨w5.heap.size, 4, none⟩ = some (.int .i64 g.n) ∧ u'.cell? ⟨w5.heap.size, 5, none⟩ = some (.bool g.yes) ∧ u'.cell? ⟨w5.heap.size, 6, none⟩ = some (.slice a2 m c2)))) := Lib.hid (by
    intro u hu
    refine (CUA.out u (hF.trans (hu.mono hF.size))).mono ?_
    rintro e u' ⟨x, c, rfl, hrow, hb⟩
    exact ⟨x, c, rfl, hrow, HSW.out _ (hu.trans (hb.mono hu.size))⟩)
  have CS1 : Hid (∀ u x c, Below wF.heap.size wF u → RowAt u (.slice x m c) (intVals g.keep) → Calls Tryd.prog 9 #[.agg (evCells g (.slice a1 m c1)), .agg (evCells g (.slice x m c))] u (fun e u' => e = .returned (.bool true) ∧ (Below wF.heap.size wF u' ∧ u'.cell? ⟨w.heap.size, 0, none⟩ = some (.int .i64 a.kind) ∧ u'.cell? ⟨w.heap.size, 1, none⟩ = some (.string (ba a.name)) ∧ u'.cell? ⟨w.heap.size, 2, none⟩ = some (.string (ba a.other)) ∧ u'.cell? ⟨w.heap.size, 3, none⟩ = some (.string (ba a.data)) ∧ u'.cell? ⟨w.heap.size, 4, none⟩ = some (.int .i64 a.n) ∧ u'.cell? ⟨w.heap.size, 5, none⟩ = some (.bool a.yes) ∧ u'.cell? ⟨w.heap.size, 6, none⟩ = some (.slice la na ca) ∧ u'.cell? ⟨w4.heap.size, 0, none⟩ = some (.int .i64 g.kind) ∧ u'.cell? ⟨w4.heap.size, 1, none⟩ = some (.string (ba g.name)) ∧ u'.cell? ⟨w4.heap.size, 2, none⟩ = some (.string (ba g.other)) ∧ u'.cell? ⟨w4.heap.size, 3, none⟩ = some (.string (ba g.data)) ∧ u'.cell? ⟨w4.heap.size, 4, none⟩ = some (.int .i64 g.n) ∧ u'.cell? ⟨w4.heap.size, 5, none⟩ = some (.bool g.yes) ∧ u'.cell? ⟨w4.heap.size, 6, none⟩ = some (.slice a1 m c1) ∧ u'.cell? ⟨w5.heap.size, 0, none⟩ = some (.int .i64 g.kind) ∧ u'.cell? ⟨w5.heap.size, 1, none⟩ = some (.string (ba g.name)) ∧ u'.cell? ⟨w5.heap.size, 2, none⟩ = some (.string (ba g.other)) ∧ u'.cell? ⟨w5.heap.size, 3, none⟩ = some (.string (ba g.data)) ∧ u'.cell? ⟨w5.heap.size, 4, none⟩ = some (.int .i64 g.n) ∧ u'.cell? ⟨w5.heap.size, 5, none⟩ = some (.bool g.yes) ∧ u'.cell? ⟨w5.heap.size, 6, none⟩ = some (.slice a2 m c2)))) := Lib.hid (by
    intro u x c hu hv
    refine (same_any g g _ _ u (rx.below hu) hv (by rw [← HM.out]; exact HKL.out)).mono ?_
    rintro e u' ⟨rfl, hb⟩
    exact ⟨by simp, HSW.out _ (hu.trans (hb.mono hu.size))⟩)
  have CS2 : Hid (∀ u, Below wF.heap.size wF u → Calls Tryd.prog 9 #[.agg (evCells g (.slice a2 m c2)), .agg (evCells g (.slice a1 m c1))] u (fun e u' => e = .returned (.bool true) ∧ (Below wF.heap.size wF u' ∧ u'.cell? ⟨w.heap.size, 0, none⟩ = some (.int .i64 a.kind) ∧ u'.cell? ⟨w.heap.size, 1, none⟩ = some (.string (ba a.name)) ∧ u'.cell? ⟨w.heap.size, 2, none⟩ = some (.string (ba a.other)) ∧ u'.cell? ⟨w.heap.size, 3, none⟩ = some (.string (ba a.data)) ∧ u'.cell? ⟨w.heap.size, 4, none⟩ = some (.int .i64 a.n) ∧ u'.cell? ⟨w.heap.size, 5, none⟩ = some (.bool a.yes) ∧ u'.cell? ⟨w.heap.size, 6, none⟩ = some (.slice la na ca) ∧ u'.cell? ⟨w4.heap.size, 0, none⟩ = some (.int .i64 g.kind) ∧ u'.cell? ⟨w4.heap.size, 1, none⟩ = some (.string (ba g.name)) ∧ u'.cell? ⟨w4.heap.size, 2, none⟩ = some (.string (ba g.other)) ∧ u'.cell? ⟨w4.heap.size, 3, none⟩ = some (.string (ba g.data)) ∧ u'.cell? ⟨w4.heap.size, 4, none⟩ = some (.int .i64 g.n) ∧ u'.cell? ⟨w4.heap.size, 5, none⟩ = some (.bool g.yes) ∧ u'.cell? ⟨w4.heap.size, 6, none⟩ = some (.slice a1 m c1) ∧ u'.cell? ⟨w5.heap.size, 0, none⟩ = some (.int .i64 g.kind) ∧ u'.cell? ⟨w5.heap.size, 1, none⟩ = some (.string (ba g.name)) ∧ u'.cell? ⟨w5.heap.size, 2, none⟩ = some (.string (ba g.other)) ∧ u'.cell? ⟨w5.heap.size, 3, none⟩ = some (.string (ba g.data)) ∧ u'.cell? ⟨w5.heap.size, 4, none⟩ = some (.int .i64 g.n) ∧ u'.cell? ⟨w5.heap.size, 5, none⟩ = some (.bool g.yes) ∧ u'.cell? ⟨w5.heap.size, 6, none⟩ = some (.slice a2 m c2)))) := Lib.hid (by
    intro u hu
    refine (same_any g g _ _ u (ry.below hu) (rx.below hu) (by rw [← HM.out]; exact HKL.out)).mono ?_
    rintro e u' ⟨rfl, hb⟩
    exact ⟨by simp, HSW.out _ (hu.trans (hb.mono hu.size))⟩)
  have CO2 : Hid (∀ u, Below wF.heap.size wF u → Calls Tryd.prog 11 #[.string p] u (fun e u' => e = .returned (.bool true) ∧ Below w.heap.size w u' ∧ C7 u' w.heap.size a (.slice la na ca) ∧ C7 u' (w.heap.size + 1) b (.slice lb nb cb) ∧ (Below wF.heap.size wF u' ∧ u'.cell? ⟨w.heap.size, 0, none⟩ = some (.int .i64 a.kind) ∧ u'.cell? ⟨w.heap.size, 1, none⟩ = some (.string (ba a.name)) ∧ u'.cell? ⟨w.heap.size, 2, none⟩ = some (.string (ba a.other)) ∧ u'.cell? ⟨w.heap.size, 3, none⟩ = some (.string (ba a.data)) ∧ u'.cell? ⟨w.heap.size, 4, none⟩ = some (.int .i64 a.n) ∧ u'.cell? ⟨w.heap.size, 5, none⟩ = some (.bool a.yes) ∧ u'.cell? ⟨w.heap.size, 6, none⟩ = some (.slice la na ca) ∧ u'.cell? ⟨w4.heap.size, 0, none⟩ = some (.int .i64 g.kind) ∧ u'.cell? ⟨w4.heap.size, 1, none⟩ = some (.string (ba g.name)) ∧ u'.cell? ⟨w4.heap.size, 2, none⟩ = some (.string (ba g.other)) ∧ u'.cell? ⟨w4.heap.size, 3, none⟩ = some (.string (ba g.data)) ∧ u'.cell? ⟨w4.heap.size, 4, none⟩ = some (.int .i64 g.n) ∧ u'.cell? ⟨w4.heap.size, 5, none⟩ = some (.bool g.yes) ∧ u'.cell? ⟨w4.heap.size, 6, none⟩ = some (.slice a1 m c1) ∧ u'.cell? ⟨w5.heap.size, 0, none⟩ = some (.int .i64 g.kind) ∧ u'.cell? ⟨w5.heap.size, 1, none⟩ = some (.string (ba g.name)) ∧ u'.cell? ⟨w5.heap.size, 2, none⟩ = some (.string (ba g.other)) ∧ u'.cell? ⟨w5.heap.size, 3, none⟩ = some (.string (ba g.data)) ∧ u'.cell? ⟨w5.heap.size, 4, none⟩ = some (.int .i64 g.n) ∧ u'.cell? ⟨w5.heap.size, 5, none⟩ = some (.bool g.yes) ∧ u'.cell? ⟨w5.heap.size, 6, none⟩ = some (.slice a2 m c2)))) := Lib.hid (by
    intro u hu
    refine (CO.out u).mono ?_
    rintro e u' ⟨rfl, rfl⟩
    exact ⟨rfl, hF.trans (hu.mono hF.size), ka.below hu, kb.below hu, HSW.out _ hu⟩)
  have HS3 : Hid (∀ u, Below w.heap.size w u → C7 u w.heap.size a (.slice la na ca) → C7 u (w.heap.size + 1) b (.slice lb nb cb) → (Below w.heap.size w u ∧ u.cell? ⟨w.heap.size, 0, none⟩ = some (.int .i64 a.kind) ∧ u.cell? ⟨w.heap.size, 1, none⟩ = some (.string (ba a.name)) ∧ u.cell? ⟨w.heap.size, 2, none⟩ = some (.string (ba a.other)) ∧ u.cell? ⟨w.heap.size, 3, none⟩ = some (.string (ba a.data)) ∧ u.cell? ⟨w.heap.size, 4, none⟩ = some (.int .i64 a.n) ∧ u.cell? ⟨w.heap.size, 5, none⟩ = some (.bool a.yes) ∧ u.cell? ⟨w.heap.size, 6, none⟩ = some (.slice la na ca) ∧ u.cell? ⟨w.heap.size + 1, 0, none⟩ = some (.int .i64 b.kind) ∧ u.cell? ⟨w.heap.size + 1, 1, none⟩ = some (.string (ba b.name)) ∧ u.cell? ⟨w.heap.size + 1, 2, none⟩ = some (.string (ba b.other)) ∧ u.cell? ⟨w.heap.size + 1, 3, none⟩ = some (.string (ba b.data)) ∧ u.cell? ⟨w.heap.size + 1, 4, none⟩ = some (.int .i64 b.n) ∧ u.cell? ⟨w.heap.size + 1, 5, none⟩ = some (.bool b.yes) ∧ u.cell? ⟨w.heap.size + 1, 6, none⟩ = some (.slice lb nb cb))) := Lib.hid (by
    intro u hu ha hb
    obtain ⟨d0, d1, d2, d3, d4, d5, d6⟩ := ha
    obtain ⟨x0, x1, x2, x3, x4, x5, x6⟩ := hb
    exact ⟨hu, d0, d1, d2, d3, d4, d5, d6, x0, x1, x2, x3, x4, x5, x6⟩)
  have HS4 : Hid (∀ u u' : World, (Below w.heap.size w u ∧ u.cell? ⟨w.heap.size, 0, none⟩ = some (.int .i64 a.kind) ∧ u.cell? ⟨w.heap.size, 1, none⟩ = some (.string (ba a.name)) ∧ u.cell? ⟨w.heap.size, 2, none⟩ = some (.string (ba a.other)) ∧ u.cell? ⟨w.heap.size, 3, none⟩ = some (.string (ba a.data)) ∧ u.cell? ⟨w.heap.size, 4, none⟩ = some (.int .i64 a.n) ∧ u.cell? ⟨w.heap.size, 5, none⟩ = some (.bool a.yes) ∧ u.cell? ⟨w.heap.size, 6, none⟩ = some (.slice la na ca) ∧ u.cell? ⟨w.heap.size + 1, 0, none⟩ = some (.int .i64 b.kind) ∧ u.cell? ⟨w.heap.size + 1, 1, none⟩ = some (.string (ba b.name)) ∧ u.cell? ⟨w.heap.size + 1, 2, none⟩ = some (.string (ba b.other)) ∧ u.cell? ⟨w.heap.size + 1, 3, none⟩ = some (.string (ba b.data)) ∧ u.cell? ⟨w.heap.size + 1, 4, none⟩ = some (.int .i64 b.n) ∧ u.cell? ⟨w.heap.size + 1, 5, none⟩ = some (.bool b.yes) ∧ u.cell? ⟨w.heap.size + 1, 6, none⟩ = some (.slice lb nb cb)) → Below u.heap.size u u' → (Below w.heap.size w u' ∧ u'.cell? ⟨w.heap.size, 0, none⟩ = some (.int .i64 a.kind) ∧ u'.cell? ⟨w.heap.size, 1, none⟩ = some (.string (ba a.name)) ∧ u'.cell? ⟨w.heap.size, 2, none⟩ = some (.string (ba a.other)) ∧ u'.cell? ⟨w.heap.size, 3, none⟩ = some (.string (ba a.data)) ∧ u'.cell? ⟨w.heap.size, 4, none⟩ = some (.int .i64 a.n) ∧ u'.cell? ⟨w.heap.size, 5, none⟩ = some (.bool a.yes) ∧ u'.cell? ⟨w.heap.size, 6, none⟩ = some (.slice la na ca) ∧ u'.cell? ⟨w.heap.size + 1, 0, none⟩ = some (.int .i64 b.kind) ∧ u'.cell? ⟨w.heap.size + 1, 1, none⟩ = some (.string (ba b.name)) ∧ u'.cell? ⟨w.heap.size + 1, 2, none⟩ = some (.string (ba b.other)) ∧ u'.cell? ⟨w.heap.size + 1, 3, none⟩ = some (.string (ba b.data)) ∧ u'.cell? ⟨w.heap.size + 1, 4, none⟩ = some (.int .i64 b.n) ∧ u'.cell? ⟨w.heap.size + 1, 5, none⟩ = some (.bool b.yes) ∧ u'.cell? ⟨w.heap.size + 1, 6, none⟩ = some (.slice lb nb cb))) := Lib.hid (by
    intro u u' hS hb
    obtain ⟨hu, d0, d1, d2, d3, d4, d5, d6, x0, x1, x2, x3, x4, x5, x6⟩ := hS
    exact HS3.out u' (hu.trans (hb.mono hu.size)) (C7.below ⟨d0, d1, d2, d3, d4, d5, d6⟩ hb) (C7.below ⟨x0, x1, x2, x3, x4, x5, x6⟩ hb))
  have CUa : Hid (∀ u, (Below w.heap.size w u ∧ u.cell? ⟨w.heap.size, 0, none⟩ = some (.int .i64 a.kind) ∧ u.cell? ⟨w.heap.size, 1, none⟩ = some (.string (ba a.name)) ∧ u.cell? ⟨w.heap.size, 2, none⟩ = some (.string (ba a.other)) ∧ u.cell? ⟨w.heap.size, 3, none⟩ = some (.string (ba a.data)) ∧ u.cell? ⟨w.heap.size, 4, none⟩ = some (.int .i64 a.n) ∧ u.cell? ⟨w.heap.size, 5, none⟩ = some (.bool a.yes) ∧ u.cell? ⟨w.heap.size, 6, none⟩ = some (.slice la na ca) ∧ u.cell? ⟨w.heap.size + 1, 0, none⟩ = some (.int .i64 b.kind) ∧ u.cell? ⟨w.heap.size + 1, 1, none⟩ = some (.string (ba b.name)) ∧ u.cell? ⟨w.heap.size + 1, 2, none⟩ = some (.string (ba b.other)) ∧ u.cell? ⟨w.heap.size + 1, 3, none⟩ = some (.string (ba b.data)) ∧ u.cell? ⟨w.heap.size + 1, 4, none⟩ = some (.int .i64 b.n) ∧ u.cell? ⟨w.heap.size + 1, 5, none⟩ = some (.bool b.yes) ∧ u.cell? ⟨w.heap.size + 1, 6, none⟩ = some (.slice lb nb cb)) → Calls Tryd.prog 10 #[.agg (evCells a (.slice la na ca))] u (fun e u' => ∃ x c, e = .returned (.agg (evCells g (.slice x m c))) ∧ RowAt u' (.slice x m c) (intVals g.keep) ∧ Below u.heap.size u u' ∧ (Below w.heap.size w u' ∧ u'.cell? ⟨w.heap.size, 0, none⟩ = some (.int .i64 a.kind) ∧ u'.cell? ⟨w.heap.size, 1, none⟩ = some (.string (ba a.name)) ∧ u'.cell? ⟨w.heap.size, 2, none⟩ = some (.string (ba a.other)) ∧ u'.cell? ⟨w.heap.size, 3, none⟩ = some (.string (ba a.data)) ∧ u'.cell? ⟨w.heap.size, 4, none⟩ = some (.int .i64 a.n) ∧ u'.cell? ⟨w.heap.size, 5, none⟩ = some (.bool a.yes) ∧ u'.cell? ⟨w.heap.size, 6, none⟩ = some (.slice la na ca) ∧ u'.cell? ⟨w.heap.size + 1, 0, none⟩ = some (.int .i64 b.kind) ∧ u'.cell? ⟨w.heap.size + 1, 1, none⟩ = some (.string (ba b.name)) ∧ u'.cell? ⟨w.heap.size + 1, 2, none⟩ = some (.string (ba b.other)) ∧ u'.cell? ⟨w.heap.size + 1, 3, none⟩ = some (.string (ba b.data)) ∧ u'.cell? ⟨w.heap.size + 1, 4, none⟩ = some (.int .i64 b.n) ∧ u'.cell? ⟨w.heap.size + 1, 5, none⟩ = some (.bool b.yes) ∧ u'.cell? ⟨w.heap.size + 1, 6, none⟩ = some (.slice lb nb cb)))) := Lib.hid (by
    intro u hS
    refine (CUA.out u hS.1).mono ?_
    rintro e u' ⟨x, c, rfl, hrow, hb⟩
    exact ⟨x, c, rfl, hrow, hb, HS4.out _ _ hS hb⟩)
  have CUb : Hid (∀ u, (Below w.heap.size w u ∧ u.cell? ⟨w.heap.size, 0, none⟩ = some (.int .i64 a.kind) ∧ u.cell? ⟨w.heap.size, 1, none⟩ = some (.string (ba a.name)) ∧ u.cell? ⟨w.heap.size, 2, none⟩ = some (.string (ba a.other)) ∧ u.cell? ⟨w.heap.size, 3, none⟩ = some (.string (ba a.data)) ∧ u.cell? ⟨w.heap.size, 4, none⟩ = some (.int .i64 a.n) ∧ u.cell? ⟨w.heap.size, 5, none⟩ = some (.bool a.yes) ∧ u.cell? ⟨w.heap.size, 6, none⟩ = some (.slice la na ca) ∧ u.cell? ⟨w.heap.size + 1, 0, none⟩ = some (.int .i64 b.kind) ∧ u.cell? ⟨w.heap.size + 1, 1, none⟩ = some (.string (ba b.name)) ∧ u.cell? ⟨w.heap.size + 1, 2, none⟩ = some (.string (ba b.other)) ∧ u.cell? ⟨w.heap.size + 1, 3, none⟩ = some (.string (ba b.data)) ∧ u.cell? ⟨w.heap.size + 1, 4, none⟩ = some (.int .i64 b.n) ∧ u.cell? ⟨w.heap.size + 1, 5, none⟩ = some (.bool b.yes) ∧ u.cell? ⟨w.heap.size + 1, 6, none⟩ = some (.slice lb nb cb)) → Calls Tryd.prog 10 #[.agg (evCells b (.slice lb nb cb))] u (fun e u' => ∃ x c, e = .returned (.agg (evCells h (.slice x k c))) ∧ RowAt u' (.slice x k c) (intVals h.keep) ∧ Below u.heap.size u u' ∧ (Below w.heap.size w u' ∧ u'.cell? ⟨w.heap.size, 0, none⟩ = some (.int .i64 a.kind) ∧ u'.cell? ⟨w.heap.size, 1, none⟩ = some (.string (ba a.name)) ∧ u'.cell? ⟨w.heap.size, 2, none⟩ = some (.string (ba a.other)) ∧ u'.cell? ⟨w.heap.size, 3, none⟩ = some (.string (ba a.data)) ∧ u'.cell? ⟨w.heap.size, 4, none⟩ = some (.int .i64 a.n) ∧ u'.cell? ⟨w.heap.size, 5, none⟩ = some (.bool a.yes) ∧ u'.cell? ⟨w.heap.size, 6, none⟩ = some (.slice la na ca) ∧ u'.cell? ⟨w.heap.size + 1, 0, none⟩ = some (.int .i64 b.kind) ∧ u'.cell? ⟨w.heap.size + 1, 1, none⟩ = some (.string (ba b.name)) ∧ u'.cell? ⟨w.heap.size + 1, 2, none⟩ = some (.string (ba b.other)) ∧ u'.cell? ⟨w.heap.size + 1, 3, none⟩ = some (.string (ba b.data)) ∧ u'.cell? ⟨w.heap.size + 1, 4, none⟩ = some (.int .i64 b.n) ∧ u'.cell? ⟨w.heap.size + 1, 5, none⟩ = some (.bool b.yes) ∧ u'.cell? ⟨w.heap.size + 1, 6, none⟩ = some (.slice lb nb cb)))) := Lib.hid (by
    intro u hS
    refine (CUB.out u hS.1).mono ?_
    rintro e u' ⟨x, c, rfl, hrow, hb⟩
    exact ⟨x, c, rfl, hrow, hb, HS4.out _ _ hS hb⟩)
  have CS3 : Hid (∀ u x c y d, (Below w.heap.size w u ∧ u.cell? ⟨w.heap.size, 0, none⟩ = some (.int .i64 a.kind) ∧ u.cell? ⟨w.heap.size, 1, none⟩ = some (.string (ba a.name)) ∧ u.cell? ⟨w.heap.size, 2, none⟩ = some (.string (ba a.other)) ∧ u.cell? ⟨w.heap.size, 3, none⟩ = some (.string (ba a.data)) ∧ u.cell? ⟨w.heap.size, 4, none⟩ = some (.int .i64 a.n) ∧ u.cell? ⟨w.heap.size, 5, none⟩ = some (.bool a.yes) ∧ u.cell? ⟨w.heap.size, 6, none⟩ = some (.slice la na ca) ∧ u.cell? ⟨w.heap.size + 1, 0, none⟩ = some (.int .i64 b.kind) ∧ u.cell? ⟨w.heap.size + 1, 1, none⟩ = some (.string (ba b.name)) ∧ u.cell? ⟨w.heap.size + 1, 2, none⟩ = some (.string (ba b.other)) ∧ u.cell? ⟨w.heap.size + 1, 3, none⟩ = some (.string (ba b.data)) ∧ u.cell? ⟨w.heap.size + 1, 4, none⟩ = some (.int .i64 b.n) ∧ u.cell? ⟨w.heap.size + 1, 5, none⟩ = some (.bool b.yes) ∧ u.cell? ⟨w.heap.size + 1, 6, none⟩ = some (.slice lb nb cb)) → RowAt u (.slice x m c) (intVals g.keep) → RowAt u (.slice y k d) (intVals h.keep) → Calls Tryd.prog 9 #[.agg (evCells g (.slice x m c)), .agg (evCells h (.slice y k d))] u (fun e u' => e = .returned (.bool (p.toList == q.toList)) ∧ (Below w.heap.size w u' ∧ u'.cell? ⟨w.heap.size, 0, none⟩ = some (.int .i64 a.kind) ∧ u'.cell? ⟨w.heap.size, 1, none⟩ = some (.string (ba a.name)) ∧ u'.cell? ⟨w.heap.size, 2, none⟩ = some (.string (ba a.other)) ∧ u'.cell? ⟨w.heap.size, 3, none⟩ = some (.string (ba a.data)) ∧ u'.cell? ⟨w.heap.size, 4, none⟩ = some (.int .i64 a.n) ∧ u'.cell? ⟨w.heap.size, 5, none⟩ = some (.bool a.yes) ∧ u'.cell? ⟨w.heap.size, 6, none⟩ = some (.slice la na ca) ∧ u'.cell? ⟨w.heap.size + 1, 0, none⟩ = some (.int .i64 b.kind) ∧ u'.cell? ⟨w.heap.size + 1, 1, none⟩ = some (.string (ba b.name)) ∧ u'.cell? ⟨w.heap.size + 1, 2, none⟩ = some (.string (ba b.other)) ∧ u'.cell? ⟨w.heap.size + 1, 3, none⟩ = some (.string (ba b.data)) ∧ u'.cell? ⟨w.heap.size + 1, 4, none⟩ = some (.int .i64 b.n) ∧ u'.cell? ⟨w.heap.size + 1, 5, none⟩ = some (.bool b.yes) ∧ u'.cell? ⟨w.heap.size + 1, 6, none⟩ = some (.slice lb nb cb)))) := Lib.hid (by
    intro u x c y d hS hv hv2
    refine (same_any g h _ _ u hv hv2 (by rw [← HM.out]; exact HKL.out)).mono ?_
    rintro e u' ⟨rfl, hb⟩
    refine ⟨?_, HS4.out _ _ hS hb⟩
    rw [HPQ2.out])
  have hS0 := HSW.out wF.drew ⟨rfl, rfl, rfl, Nat.le_refl _, fun _ _ => rfl⟩
  clear rx ry ka kb kx ky HSW hF CF CA CB CP CR CO CUA CUB HPQ2 HM HKL
  unfold evCells at hwF CU1 CS1 CS2 CUa CUb CS3 ⊢
  go_wp2_with fail
  rw [← hwF]
  clear hwF
  go_region_held3 (fun u => (Below wF.heap.size wF u ∧ u.cell? ⟨w.heap.size, 0, none⟩ = some (.int .i64 a.kind) ∧ u.cell? ⟨w.heap.size, 1, none⟩ = some (.string (ba a.name)) ∧ u.cell? ⟨w.heap.size, 2, none⟩ = some (.string (ba a.other)) ∧ u.cell? ⟨w.heap.size, 3, none⟩ = some (.string (ba a.data)) ∧ u.cell? ⟨w.heap.size, 4, none⟩ = some (.int .i64 a.n) ∧ u.cell? ⟨w.heap.size, 5, none⟩ = some (.bool a.yes) ∧ u.cell? ⟨w.heap.size, 6, none⟩ = some (.slice la na ca) ∧ u.cell? ⟨w4.heap.size, 0, none⟩ = some (.int .i64 g.kind) ∧ u.cell? ⟨w4.heap.size, 1, none⟩ = some (.string (ba g.name)) ∧ u.cell? ⟨w4.heap.size, 2, none⟩ = some (.string (ba g.other)) ∧ u.cell? ⟨w4.heap.size, 3, none⟩ = some (.string (ba g.data)) ∧ u.cell? ⟨w4.heap.size, 4, none⟩ = some (.int .i64 g.n) ∧ u.cell? ⟨w4.heap.size, 5, none⟩ = some (.bool g.yes) ∧ u.cell? ⟨w4.heap.size, 6, none⟩ = some (.slice a1 m c1) ∧ u.cell? ⟨w5.heap.size, 0, none⟩ = some (.int .i64 g.kind) ∧ u.cell? ⟨w5.heap.size, 1, none⟩ = some (.string (ba g.name)) ∧ u.cell? ⟨w5.heap.size, 2, none⟩ = some (.string (ba g.other)) ∧ u.cell? ⟨w5.heap.size, 3, none⟩ = some (.string (ba g.data)) ∧ u.cell? ⟨w5.heap.size, 4, none⟩ = some (.int .i64 g.n) ∧ u.cell? ⟨w5.heap.size, 5, none⟩ = some (.bool g.yes) ∧ u.cell? ⟨w5.heap.size, 6, none⟩ = some (.slice a2 m c2)))
    (first | exact hSO | exact hST | exact hSS | exact hSU | exact hS0)
    (first
    | (go_at_call 10; refine (CU1.out _ hS0.1).mono ?_; rintro e1 wU ⟨x, c, rfl, hrU, hSU⟩)
    | (go_at_call 11; refine (CO2.out _ hST.1).mono ?_; rintro e1 wO ⟨rfl, hO, oa, ob, hSO⟩)
    | (go_at_call 9; refine (CS2.out _ hSS.1).mono ?_; rintro e1 wT ⟨rfl, hST⟩)
    | (go_at_call 9; refine (CS1.out _ _ _ hSU.1 hrU).mono ?_; rintro e1 wS ⟨rfl, hSS⟩))
  all_goals
    have hS := HS3.out _ hO.drew (oa.below (Below.refl wO.heap.size wO).drew) (ob.below (Below.refl wO.heap.size wO).drew)
    clear CU1 CS1 CS2 CO2 hS0 hSU hSS hST hSO hrU hO oa ob HS3 HS4
    go_wp2_with fail
    go_region_held3 (fun u => (Below w.heap.size w u ∧ u.cell? ⟨w.heap.size, 0, none⟩ = some (.int .i64 a.kind) ∧ u.cell? ⟨w.heap.size, 1, none⟩ = some (.string (ba a.name)) ∧ u.cell? ⟨w.heap.size, 2, none⟩ = some (.string (ba a.other)) ∧ u.cell? ⟨w.heap.size, 3, none⟩ = some (.string (ba a.data)) ∧ u.cell? ⟨w.heap.size, 4, none⟩ = some (.int .i64 a.n) ∧ u.cell? ⟨w.heap.size, 5, none⟩ = some (.bool a.yes) ∧ u.cell? ⟨w.heap.size, 6, none⟩ = some (.slice la na ca) ∧ u.cell? ⟨w.heap.size + 1, 0, none⟩ = some (.int .i64 b.kind) ∧ u.cell? ⟨w.heap.size + 1, 1, none⟩ = some (.string (ba b.name)) ∧ u.cell? ⟨w.heap.size + 1, 2, none⟩ = some (.string (ba b.other)) ∧ u.cell? ⟨w.heap.size + 1, 3, none⟩ = some (.string (ba b.data)) ∧ u.cell? ⟨w.heap.size + 1, 4, none⟩ = some (.int .i64 b.n) ∧ u.cell? ⟨w.heap.size + 1, 5, none⟩ = some (.bool b.yes) ∧ u.cell? ⟨w.heap.size + 1, 6, none⟩ = some (.slice lb nb cb)))
      (first | exact hSC | exact hSB | exact hSA | exact hS)
      (first
      | (go_at_call 10; (with_reducible refine (CUa.out _ hS).mono ?_); rintro e1 uA ⟨xa, cA, rfl, hrA, hbA, hSA⟩)
      | (go_at_call 10; (with_reducible refine (CUb.out _ hSA).mono ?_); rintro e1 uB ⟨xb, cB, rfl, hrB, hbB, hSB⟩)
      | (go_at_call 9; refine (CS3.out _ _ _ _ _ hSB (hrA.below hbB) hrB).mono ?_; rintro e1 uS ⟨rfl, hSC⟩))
    all_goals
      go_wp2_with fail
      go_ret
      exact ⟨by simp, hSC.1⟩

theorem back_any (a b : W.Ev) (ka kb : Value) (w : World) (ha : EvAt w a ka) (hb : EvAt w b kb) (hE : Env w) (fa : EvFew a) :
    Calls Tryd.prog 3 #[.agg (evCells a ka), .agg (evCells b kb)] w (TruePost w) := by
  cases hm : W.mayKind a with
  | false => exact back_no a b ka kb w ha hb hE hm
  | true =>
    cases hn : W.mayKind b with
    | false => exact back_one a b ka kb w ha hb hE hm hn
    | true => exact back_yes a b ka kb w ha hb hE fa hm hn
end Go.Proofs.YtoihlclmilhpdaaDoor
