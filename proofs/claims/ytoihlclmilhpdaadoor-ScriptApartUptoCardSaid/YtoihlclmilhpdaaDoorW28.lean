/- Walks: ScriptLines. -/
import Derived.Test.YtoihlclmilhpdaaDoorW27
import Derived.Deep.RegionHeld3
namespace Go.Proofs.YtoihlclmilhpdaaDoor
open Go Go.RowKit

/-- An event's seven cells in a block. -/
def C7 (u : World) (b : Nat) (x : W.Ev) (kv : Value) : Prop :=
  u.cell? ⟨b, 0, none⟩ = some (.int .i64 x.kind) ∧ u.cell? ⟨b, 1, none⟩ = some (.string (ba x.name)) ∧ u.cell? ⟨b, 2, none⟩ = some (.string (ba x.other)) ∧ u.cell? ⟨b, 3, none⟩ = some (.string (ba x.data)) ∧
    u.cell? ⟨b, 4, none⟩ = some (.int .i64 x.n) ∧ u.cell? ⟨b, 5, none⟩ = some (.bool x.yes) ∧ u.cell? ⟨b, 6, none⟩ = some kv
theorem C7.of_block {u : World} {b : Nat} {x : W.Ev} {kv : Value} (h : u.heap[b]? = some (.cells (evCells x kv) 24 (0, 0))) : C7 u b x kv :=
  ⟨cell_of_row u b 0 _ _ _ h, cell_of_row u b 1 _ _ _ h, cell_of_row u b 2 _ _ _ h, cell_of_row u b 3 _ _ _ h, cell_of_row u b 4 _ _ _ h, cell_of_row u b 5 _ _ _ h, cell_of_row u b 6 _ _ _ h⟩
theorem C7.below {u u' : World} {b : Nat} {x : W.Ev} {kv : Value} (h : C7 u b x kv) (hb : Below u.heap.size u u') : C7 u' b x kv :=
  ⟨cellB h.1 hb, cellB h.2.1 hb, cellB h.2.2.1 hb, cellB h.2.2.2.1 hb, cellB h.2.2.2.2.1 hb, cellB h.2.2.2.2.2.1 hb, cellB h.2.2.2.2.2.2 hb⟩

/-- Parse, of a line that is an event. -/
theorem parse_yes (s : ByteArray) (x : W.Ev) (w : World) (hs : s.size ≤ 100000000) (hp : W.parseL s.data.toList = some x) (hE : Env w) :
    Calls Tryd.prog 8 #[.string s] w fun e w' => ∃ ao c, e = .returned (.tuple #[.agg (evCells x (.slice ao x.keep.length c)), .int .i64 0]) ∧ RowAt w' (.slice ao x.keep.length c) (intVals x.keep) ∧ Below w.heap.size w w' := by
  refine (parse_any s w hs hE).mono ?_
  unfold ParsePost
  rw [hp]
  rintro e w' ⟨kv, rfl, hown, hb⟩
  have hrow : RowAt w' kv (intVals x.keep) := RowAt.of_own (by rw [intVals_len]; exact hown)
  obtain ⟨ao, c, rfl⟩ := hrow.form
  rw [intVals_len] at *
  exact ⟨ao, c, rfl, hrow, hb⟩
theorem parse_no (s : ByteArray) (w : World) (hs : s.size ≤ 100000000) (hp : W.parseL s.data.toList = none) (hE : Env w) :
    Calls Tryd.prog 8 #[.string s] w fun e w' => ∃ ao c, e = .returned (.tuple #[.agg (evCells {} (.slice ao 0 c)), .int .i64 260]) ∧ RowAt w' (.slice ao 0 c) (intVals []) ∧ Below w.heap.size w w' := by
  refine (parse_any s w hs hE).mono ?_
  unfold ParsePost
  rw [hp]
  rintro e w' ⟨kv, rfl, hown, hb⟩
  have hrow : RowAt w' kv (intVals []) := RowAt.of_own (by rw [intVals_len]; exact hown)
  obtain ⟨ao, c, rfl⟩ := hrow.form
  exact ⟨ao, c, rfl, hrow, hb⟩

def TruePost (w : World) (e : Ending) (w' : World) : Prop := e = .returned (.bool true) ∧ Below w.heap.size w w'

set_option maxHeartbeats 4000000 in
set_option maxRecDepth 100000 in
theorem lines_none (s : ByteArray) (w : World) (hs : s.size ≤ 1048576) (hE : Env w) (hp : W.parseL s.data.toList = none) : Calls Tryd.prog 4 #[.string s] w (TruePost w) := by
  have CF := Lib.hid (fixed_any w hE)
  have CP := Lib.hid (fun u (h : Below w.heap.size w u) => parse_no s u (by omega) hp (hE.below h))
  have CS : Hid (∀ (u : World) a c, RowAt u (.slice a 0 c) (intVals []) → Calls Tryd.prog 9 #[.agg (evCells {} (.slice a 0 c)), .agg (evCells {} (.slice none 0 0))] u (fun e u' => e = .returned (.bool true) ∧ Below u.heap.size u u')) := Lib.hid (by
    intro u a c hv
    exact (same_any {} {} _ _ u hv (Or.inl ⟨rfl, Or.inl rfl⟩) (by simp)).mono fun e w' ⟨h1, h2⟩ => ⟨by rw [h1]; rfl, h2⟩)
  clear hp hE
  go_enter Tryd.func4, Tryd.ntmps4
  go_wp2_with fail
  refine CF.out.mono ?_
  rintro e1 w1 ⟨rfl, hb1⟩
  go_wp2_with fail
  refine (CP.out _ hb1).mono ?_
  rintro e1 w2 ⟨ao, c, rfl, hr, hb2⟩
  have hB := hb1.trans (hb2.mono hb1.size)
  have hbx := boxed w2 (.cells (evCells {} (.slice ao 0 c)) 24)
  have hr2 := hr.below hbx
  have hB2 := hB.trans (hbx.mono hB.size)
  obtain ⟨w3, hw3⟩ : ∃ u, u = w2.alloc (.cells (evCells {} (.slice ao 0 c)) 24) := ⟨_, rfl⟩
  rw [← hw3] at hr2 hB2
  have hk : w3.heap[w2.heap.size]? = some (.cells (evCells {} (.slice ao 0 c)) 24 (0, 0)) := by rw [hw3]; exact alloc_new _ _
  unfold evCells at hw3 ⊢
  clear hb1 hb2 hr hB hbx
  go_wp2_with fail
  rw [← hw3]
  refine (CS.out _ _ _ hr2).mono ?_
  rintro e1 w4 ⟨rfl, hb4⟩
  have hB4 := hB2.trans (hb4.mono hB2.size)
  go_wp2_with fail
  go_ret
  exact ⟨rfl, hB4⟩
theorem add_one (s : ByteArray) (hs : s.size ≤ 1000000000) : ∀ u : World, (Op.stringOp .add s ⟨#[32, 49]⟩).run Tryd.prog u = .ok (.string (s ++ ⟨#[32, 49]⟩)) u := by
  intro u
  have h1 : (⟨#[32, 49]⟩ : ByteArray).size = 2 := rfl
  exact run_string_add_sum u _ _ (by rw [h1]; omega)
theorem add_one_list (s : ByteArray) : (s ++ (⟨#[32, 49]⟩ : ByteArray)).data.toList = s.data.toList ++ [32, 49] := by simp
theorem add_one_size (s : ByteArray) : (s ++ (⟨#[32, 49]⟩ : ByteArray)).size = s.size + 2 := by
  rw [← size_list, add_one_list, List.length_append, size_list]; rfl
theorem print_size {x : W.Ev} (hf : x.fit) {N : Nat} (hN : N ≤ 1048576) (hl : EvLen N x) (hk : x.keep.length ≤ N) : (ba (W.printL x)).size ≤ 100000000 := by
  rw [ba_size]
  unfold W.printL
  have h1 := W.join_len (W.printWords x)
  have h2 := W.printWords_len x hf N hl.1 hl.2.1 hl.2.2 hk
  omega

set_option maxHeartbeats 8000000 in
set_option maxRecDepth 100000 in
theorem lines_crash (s : ByteArray) (w : World) (hs : s.size ≤ 1048576) (hE : Env w) (x : W.Ev) (hp : W.parseL s.data.toList = some x) (hcr : (x.kind == 12) = true) : Calls Tryd.prog 4 #[.string s] w (TruePost w) := by
  obtain ⟨hmk, hfit, hused⟩ := W.parse_inv hp
  obtain ⟨hel, hkl⟩ := parse_len hp
  rw [size_list] at hel hkl
  have hk1 : 1 ≤ x.kind := by unfold W.mayKind at hmk; simp at hmk; exact hmk.1
  have hk2 : x.kind ≤ 12 := by unfold W.mayKind at hmk; simp at hmk; exact hmk.2
  have hag := W.parse_again hp
  have hmo := W.parse_more hp
  rw [hcr] at hmo
  have hps := print_size hfit hs hel hkl
  obtain ⟨p, hpp⟩ : ∃ p, p = ba (W.printL x) := ⟨_, rfl⟩
  obtain ⟨t, ht⟩ : ∃ t, t = s ++ (⟨#[32, 49]⟩ : ByteArray) := ⟨_, rfl⟩
  have hadd := add_one s (by omega)
  rw [← ht] at hadd
  have CF := Lib.hid (fixed_any w hE)
  have CP := Lib.hid (fun u (h : Below w.heap.size w u) => parse_yes s x u (by omega) hp (hE.below h))
  have CR : Hid (∀ u kv, Below w.heap.size w u → RowAt u kv (intVals x.keep) → Calls Tryd.prog 7 #[.agg (evCells x kv)] u (fun e u' => e = .returned (.tuple #[.string p, .int .i64 0]) ∧ Below u.heap.size u u')) := Lib.hid (by
    intro u kv hu hv
    refine (print_any x kv u ⟨hv, hfit, by have := hel.1; omega, by have := hel.2.1; omega, by have := hel.2.2; omega, by omega⟩ (hE.below hu)).mono ?_
    unfold PrintPost
    rw [hmk]
    rintro e w' ⟨rfl, hb⟩
    exact ⟨by rw [hpp]; rfl, hb⟩)
  have CA : Hid (∀ u, Below w.heap.size w u → Calls Tryd.prog 8 #[.string p] u fun e w' => ∃ ao c, e = .returned (.tuple #[.agg (evCells x (.slice ao x.keep.length c)), .int .i64 0]) ∧ RowAt w' (.slice ao x.keep.length c) (intVals x.keep) ∧ Below u.heap.size u w') := Lib.hid (by
    intro u hu
    rw [hpp]
    exact parse_yes (ba (W.printL x)) x u hps (by rw [ba_list]; exact hag) (hE.below hu))
  have CM : Hid (∀ u, Below w.heap.size w u → Calls Tryd.prog 8 #[.string t] u fun e w' => ∃ a0 a1 a2 a3 a4 a5 a n c, e = .returned (.tuple #[.agg #[.int .i64 a0, .string a1, .string a2, .string a3, .int .i64 a4, .bool a5, .slice a n c], .int .i64 0]) ∧ Below u.heap.size u w') := Lib.hid (by
    intro u hu
    rw [ht]
    refine (parse_any _ u (by rw [add_one_size]; omega) (hE.below hu)).mono ?_
    unfold ParsePost
    rw [add_one_list, hmo]
    rintro e w' ⟨kv, rfl, hown, hb⟩
    have hrow := RowAt.of_own (by rw [intVals_len]; exact hown)
    obtain ⟨ao, c, rfl⟩ := hrow.form
    exact ⟨_, _, _, _, _, _, _, _, _, rfl, hb⟩)
  have HUS := Lib.hid hused
  have HKL : Hid (x.keep.length ≤ 1000000000) := Lib.hid (by omega)
  clear hp hE hmk hag hmo hps hpp ht hel hkl hused
  obtain ⟨m, hm⟩ : ∃ m, m = x.keep.length := ⟨_, rfl⟩
  rw [← hm] at CP CA
  have HM := Lib.hid hm
  clear hm
  go_enter Tryd.func4, Tryd.ntmps4
  go_wp2_with fail
  refine CF.out.mono ?_
  rintro e1 w1 ⟨rfl, hb1⟩
  go_wp2_with fail
  refine (CP.out _ hb1).mono ?_
  rintro e1 w2 ⟨a1, c1, rfl, hr, hb2⟩
  obtain ⟨wA, hwA⟩ : ∃ u, u = w2.alloc (.cells (evCells x (.slice a1 m c1)) 24) := ⟨_, rfl⟩
  have hbA : Below w2.heap.size w2 wA := by rw [hwA]; exact boxed w2 _
  have hA := hb1.trans ((hb2.trans (hbA.mono hb2.size)).mono hb1.size)
  have hrA := hr.below hbA
  have kA : wA.heap[w2.heap.size]? = some (.cells (evCells x (.slice a1 m c1)) 24 (0, 0)) := by rw [hwA]; exact alloc_new _ _
  unfold evCells at hwA ⊢
  clear hb1 hb2 hr hbA
  go_wp2_with fail
  rw [← hwA]
  refine (CR.out _ _ hA hrA).mono ?_
  rintro e1 w3 ⟨rfl, hb3⟩
  have hB := hA.trans (hb3.mono hA.size)
  have hrB := hrA.below hb3
  have kB := heap_keep kA hb3
  clear hwA hA hrA kA hb3
  go_wp2_with fail
  refine (CA.out _ hB).mono ?_
  rintro e1 w4 ⟨a2, c2, rfl, hr2, hb4⟩
  obtain ⟨wC, hwC⟩ : ∃ u, u = w4.alloc (.cells (evCells x (.slice a2 m c2)) 24) := ⟨_, rfl⟩
  have hbC : Below w4.heap.size w4 wC := by rw [hwC]; exact boxed w4 _
  have hBC := hb4.trans (hbC.mono hb4.size)
  have hC := hB.trans (hBC.mono hB.size)
  have hrC := hrB.below hBC
  have kC := heap_keep kB hBC
  have hr2C := hr2.below hbC
  have k2C : wC.heap[w4.heap.size]? = some (.cells (evCells x (.slice a2 m c2)) 24 (0, 0)) := by rw [hwC]; exact alloc_new _ _
  unfold evCells at hwC ⊢
  clear hB hrB kB hb4 hbC hBC hr2
  go_wp2_with fail
  rw [← hwC]
  refine (CM.out _ hC).mono ?_
  rintro e1 w5 ⟨z0, z1, z2, z3, z4, z5, za, zn, zc, rfl, hb5⟩
  obtain ⟨wF, hwF⟩ : ∃ u, u = w5.alloc (.cells #[.int .i64 z0, .string z1, .string z2, .string z3, .int .i64 z4, .bool z5, .slice za zn zc] 24) := ⟨_, rfl⟩
  have hbF : Below w5.heap.size w5 wF := by rw [hwF]; exact boxed w5 _
  have hBF := hb5.trans (hbF.mono hb5.size)
  have hF := hC.trans (hBF.mono hC.size)
  have rx := hrC.below hBF
  have ry := hr2C.below hBF
  have kx := C7.of_block (heap_keep kC hBF)
  have ky := C7.of_block (heap_keep k2C hBF)
  clear hwC hC hrC kC hr2C k2C hb5 hbF hBF
  have HSW : Hid (∀ u, Below wF.heap.size wF u → (Below wF.heap.size wF u ∧ u.cell? ⟨w2.heap.size, 0, none⟩ = some (.int .i64 x.kind) ∧ u.cell? ⟨w2.heap.size, 1, none⟩ = some (.string (ba x.name)) ∧ u.cell? ⟨w2.heap.size, 2, none⟩ = some (.string (ba x.other)) ∧ u.cell? ⟨w2.heap.size, 3, none⟩ = some (.string (ba x.data)) ∧ u.cell? ⟨w2.heap.size, 4, none⟩ = some (.int .i64 x.n) ∧ u.cell? ⟨w2.heap.size, 5, none⟩ = some (.bool x.yes) ∧ u.cell? ⟨w2.heap.size, 6, none⟩ = some (.slice a1 m c1) ∧ u.cell? ⟨w4.heap.size, 0, none⟩ = some (.int .i64 x.kind) ∧ u.cell? ⟨w4.heap.size, 1, none⟩ = some (.string (ba x.name)) ∧ u.cell? ⟨w4.heap.size, 2, none⟩ = some (.string (ba x.other)) ∧ u.cell? ⟨w4.heap.size, 3, none⟩ = some (.string (ba x.data)) ∧ u.cell? ⟨w4.heap.size, 4, none⟩ = some (.int .i64 x.n) ∧ u.cell? ⟨w4.heap.size, 5, none⟩ = some (.bool x.yes) ∧ u.cell? ⟨w4.heap.size, 6, none⟩ = some (.slice a2 m c2))) := Lib.hid (by
    intro u hu
    obtain ⟨d0, d1, d2, d3, d4, d5, d6⟩ := kx.below hu
    obtain ⟨y0, y1, y2, y3, y4, y5, y6⟩ := ky.below hu
    exact ⟨hu, d0, d1, d2, d3, d4, d5, d6, y0, y1, y2, y3, y4, y5, y6⟩)
  have CU : Hid (∀ u, Below wF.heap.size wF u → Calls Tryd.prog 10 #[.agg (evCells x (.slice a1 m c1))] u (fun e u' => ∃ a c, e = .returned (.agg (evCells x (.slice a m c))) ∧ RowAt u' (.slice a m c) (intVals x.keep) ∧ (Below wF.heap.size wF u' ∧ u'.cell? ⟨w2.heap.size, 0, none⟩ = some (.int .i64 x.kind) ∧ u'.cell? ⟨w2.heap.size, 1, none⟩ = some (.string (ba x.name)) ∧ u'.cell? ⟨w2.heap.size, 2, none⟩ = some (.string (ba x.other)) ∧ u'.cell? ⟨w2.heap.size, 3, none⟩ = some (.string (ba x.data)) ∧ u'.cell? ⟨w2.heap.size, 4, none⟩ = some (.int .i64 x.n) ∧ u'.cell? ⟨w2.heap.size, 5, none⟩ = some (.bool x.yes) ∧ u'.cell? ⟨w2.heap.size, 6, none⟩ = some (.slice a1 m c1) ∧ u'.cell? ⟨w4.heap.size, 0, none⟩ = some (.int .i64 x.kind) ∧ u'.cell? ⟨w4.heap.size, 1, none⟩ = some (.string (ba x.name)) ∧ u'.cell? ⟨w4.heap.size, 2, none⟩ = some (.string (ba x.other)) ∧ u'.cell? ⟨w4.heap.size, 3, none⟩ = some (.string (ba x.data)) ∧ u'.cell? ⟨w4.heap.size, 4, none⟩ = some (.int .i64 x.n) ∧ u'.cell? ⟨w4.heap.size, 5, none⟩ = some (.bool x.yes) ∧ u'.cell? ⟨w4.heap.size, 6, none⟩ = some (.slice a2 m c2)))) := Lib.hid (by
    intro u hu
    refine (used_any x _ u (rx.below hu)).mono ?_
    unfold UsedPost
    rw [HUS.out]
    rintro e u' ⟨kv, rfl, hrow, hb⟩
    obtain ⟨a, c, rfl⟩ := hrow.form
    rw [intVals_len, ← HM.out] at *
    have hh := hu.trans (hb.mono hu.size)
    exact ⟨a, c, rfl, hrow, (HSW.out _ hh)⟩)
  have CS1 : Hid (∀ u a c, Below wF.heap.size wF u → RowAt u (.slice a m c) (intVals x.keep) → Calls Tryd.prog 9 #[.agg (evCells x (.slice a1 m c1)), .agg (evCells x (.slice a m c))] u (fun e u' => e = .returned (.bool true) ∧ (Below wF.heap.size wF u' ∧ u'.cell? ⟨w2.heap.size, 0, none⟩ = some (.int .i64 x.kind) ∧ u'.cell? ⟨w2.heap.size, 1, none⟩ = some (.string (ba x.name)) ∧ u'.cell? ⟨w2.heap.size, 2, none⟩ = some (.string (ba x.other)) ∧ u'.cell? ⟨w2.heap.size, 3, none⟩ = some (.string (ba x.data)) ∧ u'.cell? ⟨w2.heap.size, 4, none⟩ = some (.int .i64 x.n) ∧ u'.cell? ⟨w2.heap.size, 5, none⟩ = some (.bool x.yes) ∧ u'.cell? ⟨w2.heap.size, 6, none⟩ = some (.slice a1 m c1) ∧ u'.cell? ⟨w4.heap.size, 0, none⟩ = some (.int .i64 x.kind) ∧ u'.cell? ⟨w4.heap.size, 1, none⟩ = some (.string (ba x.name)) ∧ u'.cell? ⟨w4.heap.size, 2, none⟩ = some (.string (ba x.other)) ∧ u'.cell? ⟨w4.heap.size, 3, none⟩ = some (.string (ba x.data)) ∧ u'.cell? ⟨w4.heap.size, 4, none⟩ = some (.int .i64 x.n) ∧ u'.cell? ⟨w4.heap.size, 5, none⟩ = some (.bool x.yes) ∧ u'.cell? ⟨w4.heap.size, 6, none⟩ = some (.slice a2 m c2)))) := Lib.hid (by
    intro u a c hu hv
    refine (same_any x x _ _ u (rx.below hu) hv HKL.out).mono ?_
    rintro e u' ⟨rfl, hb⟩
    have hh := hu.trans (hb.mono hu.size)
    exact ⟨by simp, (HSW.out _ hh)⟩)
  have CS2 : Hid (∀ u, Below wF.heap.size wF u → Calls Tryd.prog 9 #[.agg (evCells x (.slice a2 m c2)), .agg (evCells x (.slice a1 m c1))] u (fun e u' => e = .returned (.bool true) ∧ Below w.heap.size w u' ∧ (Below wF.heap.size wF u' ∧ u'.cell? ⟨w2.heap.size, 0, none⟩ = some (.int .i64 x.kind) ∧ u'.cell? ⟨w2.heap.size, 1, none⟩ = some (.string (ba x.name)) ∧ u'.cell? ⟨w2.heap.size, 2, none⟩ = some (.string (ba x.other)) ∧ u'.cell? ⟨w2.heap.size, 3, none⟩ = some (.string (ba x.data)) ∧ u'.cell? ⟨w2.heap.size, 4, none⟩ = some (.int .i64 x.n) ∧ u'.cell? ⟨w2.heap.size, 5, none⟩ = some (.bool x.yes) ∧ u'.cell? ⟨w2.heap.size, 6, none⟩ = some (.slice a1 m c1) ∧ u'.cell? ⟨w4.heap.size, 0, none⟩ = some (.int .i64 x.kind) ∧ u'.cell? ⟨w4.heap.size, 1, none⟩ = some (.string (ba x.name)) ∧ u'.cell? ⟨w4.heap.size, 2, none⟩ = some (.string (ba x.other)) ∧ u'.cell? ⟨w4.heap.size, 3, none⟩ = some (.string (ba x.data)) ∧ u'.cell? ⟨w4.heap.size, 4, none⟩ = some (.int .i64 x.n) ∧ u'.cell? ⟨w4.heap.size, 5, none⟩ = some (.bool x.yes) ∧ u'.cell? ⟨w4.heap.size, 6, none⟩ = some (.slice a2 m c2)))) := Lib.hid (by
    intro u hu
    refine (same_any x x _ _ u (ry.below hu) (rx.below hu) HKL.out).mono ?_
    rintro e u' ⟨rfl, hb⟩
    have hh := hu.trans (hb.mono hu.size)
    exact ⟨by simp, hF.trans (hh.mono hF.size), (HSW.out _ hh)⟩)
  have hS0 := HSW.out wF.drew ⟨rfl, rfl, rfl, Nat.le_refl _, fun _ _ => rfl⟩
  clear rx ry kx ky HSW
  go_wp2_with fail
  rw [← hwF]
  clear hwF
  go_region_held3 (fun u => (Below wF.heap.size wF u ∧ u.cell? ⟨w2.heap.size, 0, none⟩ = some (.int .i64 x.kind) ∧ u.cell? ⟨w2.heap.size, 1, none⟩ = some (.string (ba x.name)) ∧ u.cell? ⟨w2.heap.size, 2, none⟩ = some (.string (ba x.other)) ∧ u.cell? ⟨w2.heap.size, 3, none⟩ = some (.string (ba x.data)) ∧ u.cell? ⟨w2.heap.size, 4, none⟩ = some (.int .i64 x.n) ∧ u.cell? ⟨w2.heap.size, 5, none⟩ = some (.bool x.yes) ∧ u.cell? ⟨w2.heap.size, 6, none⟩ = some (.slice a1 m c1) ∧ u.cell? ⟨w4.heap.size, 0, none⟩ = some (.int .i64 x.kind) ∧ u.cell? ⟨w4.heap.size, 1, none⟩ = some (.string (ba x.name)) ∧ u.cell? ⟨w4.heap.size, 2, none⟩ = some (.string (ba x.other)) ∧ u.cell? ⟨w4.heap.size, 3, none⟩ = some (.string (ba x.data)) ∧ u.cell? ⟨w4.heap.size, 4, none⟩ = some (.int .i64 x.n) ∧ u.cell? ⟨w4.heap.size, 5, none⟩ = some (.bool x.yes) ∧ u.cell? ⟨w4.heap.size, 6, none⟩ = some (.slice a2 m c2)))
    (first | exact hST | exact hSS | exact hSU | exact hS0)
    (first
    | (go_at_call 10; refine (CU.out _ hS0.1).mono ?_; rintro e1 wU ⟨a, c, rfl, hrU, hSU⟩)
    | (go_at_call 9; refine (CS2.out _ hSS.1).mono ?_; rintro e1 wT ⟨rfl, hT, hST⟩)
    | (go_at_call 9; refine (CS1.out _ _ _ hSU.1 hrU).mono ?_; rintro e1 wS ⟨rfl, hSS⟩))
  all_goals
    go_wp2_with fail
    go_ret
    exact ⟨rfl, hT⟩

set_option maxHeartbeats 8000000 in
set_option maxRecDepth 100000 in
theorem lines_other (s : ByteArray) (w : World) (hs : s.size ≤ 1048576) (hE : Env w) (x : W.Ev) (hp : W.parseL s.data.toList = some x) (hcr : (x.kind == 12) = false) : Calls Tryd.prog 4 #[.string s] w (TruePost w) := by
  obtain ⟨hmk, hfit, hused⟩ := W.parse_inv hp
  obtain ⟨hel, hkl⟩ := parse_len hp
  rw [size_list] at hel hkl
  have hk1 : 1 ≤ x.kind := by unfold W.mayKind at hmk; simp at hmk; exact hmk.1
  have hk2 : x.kind ≤ 12 := by unfold W.mayKind at hmk; simp at hmk; exact hmk.2
  have hag := W.parse_again hp
  have hmo := W.parse_more hp
  rw [hcr] at hmo
  have hps := print_size hfit hs hel hkl
  obtain ⟨p, hpp⟩ : ∃ p, p = ba (W.printL x) := ⟨_, rfl⟩
  obtain ⟨t, ht⟩ : ∃ t, t = s ++ (⟨#[32, 49]⟩ : ByteArray) := ⟨_, rfl⟩
  have hadd := add_one s (by omega)
  rw [← ht] at hadd
  have CF := Lib.hid (fixed_any w hE)
  have CP := Lib.hid (fun u (h : Below w.heap.size w u) => parse_yes s x u (by omega) hp (hE.below h))
  have CR : Hid (∀ u kv, Below w.heap.size w u → RowAt u kv (intVals x.keep) → Calls Tryd.prog 7 #[.agg (evCells x kv)] u (fun e u' => e = .returned (.tuple #[.string p, .int .i64 0]) ∧ Below u.heap.size u u')) := Lib.hid (by
    intro u kv hu hv
    refine (print_any x kv u ⟨hv, hfit, by have := hel.1; omega, by have := hel.2.1; omega, by have := hel.2.2; omega, by omega⟩ (hE.below hu)).mono ?_
    unfold PrintPost
    rw [hmk]
    rintro e w' ⟨rfl, hb⟩
    exact ⟨by rw [hpp]; rfl, hb⟩)
  have CA : Hid (∀ u, Below w.heap.size w u → Calls Tryd.prog 8 #[.string p] u fun e w' => ∃ ao c, e = .returned (.tuple #[.agg (evCells x (.slice ao x.keep.length c)), .int .i64 0]) ∧ RowAt w' (.slice ao x.keep.length c) (intVals x.keep) ∧ Below u.heap.size u w') := Lib.hid (by
    intro u hu
    rw [hpp]
    exact parse_yes (ba (W.printL x)) x u hps (by rw [ba_list]; exact hag) (hE.below hu))
  have CM : Hid (∀ u, Below w.heap.size w u → Calls Tryd.prog 8 #[.string t] u fun e w' => ∃ a0 a1 a2 a3 a4 a5 a n c, e = .returned (.tuple #[.agg #[.int .i64 a0, .string a1, .string a2, .string a3, .int .i64 a4, .bool a5, .slice a n c], .int .i64 260]) ∧ Below u.heap.size u w') := Lib.hid (by
    intro u hu
    rw [ht]
    refine (parse_any _ u (by rw [add_one_size]; omega) (hE.below hu)).mono ?_
    unfold ParsePost
    rw [add_one_list, hmo]
    rintro e w' ⟨kv, rfl, hown, hb⟩
    have hrow := RowAt.of_own (by rw [intVals_len]; exact hown)
    obtain ⟨ao, c, rfl⟩ := hrow.form
    exact ⟨_, _, _, _, _, _, _, _, _, rfl, hb⟩)
  have HUS := Lib.hid hused
  have HKL : Hid (x.keep.length ≤ 1000000000) := Lib.hid (by omega)
  clear hp hE hmk hag hmo hps hpp ht hel hkl hused
  obtain ⟨m, hm⟩ : ∃ m, m = x.keep.length := ⟨_, rfl⟩
  rw [← hm] at CP CA
  have HM := Lib.hid hm
  clear hm
  go_enter Tryd.func4, Tryd.ntmps4
  go_wp2_with fail
  refine CF.out.mono ?_
  rintro e1 w1 ⟨rfl, hb1⟩
  go_wp2_with fail
  refine (CP.out _ hb1).mono ?_
  rintro e1 w2 ⟨a1, c1, rfl, hr, hb2⟩
  obtain ⟨wA, hwA⟩ : ∃ u, u = w2.alloc (.cells (evCells x (.slice a1 m c1)) 24) := ⟨_, rfl⟩
  have hbA : Below w2.heap.size w2 wA := by rw [hwA]; exact boxed w2 _
  have hA := hb1.trans ((hb2.trans (hbA.mono hb2.size)).mono hb1.size)
  have hrA := hr.below hbA
  have kA : wA.heap[w2.heap.size]? = some (.cells (evCells x (.slice a1 m c1)) 24 (0, 0)) := by rw [hwA]; exact alloc_new _ _
  unfold evCells at hwA ⊢
  clear hb1 hb2 hr hbA
  go_wp2_with fail
  rw [← hwA]
  refine (CR.out _ _ hA hrA).mono ?_
  rintro e1 w3 ⟨rfl, hb3⟩
  have hB := hA.trans (hb3.mono hA.size)
  have hrB := hrA.below hb3
  have kB := heap_keep kA hb3
  clear hwA hA hrA kA hb3
  go_wp2_with fail
  refine (CA.out _ hB).mono ?_
  rintro e1 w4 ⟨a2, c2, rfl, hr2, hb4⟩
  obtain ⟨wC, hwC⟩ : ∃ u, u = w4.alloc (.cells (evCells x (.slice a2 m c2)) 24) := ⟨_, rfl⟩
  have hbC : Below w4.heap.size w4 wC := by rw [hwC]; exact boxed w4 _
  have hBC := hb4.trans (hbC.mono hb4.size)
  have hC := hB.trans (hBC.mono hB.size)
  have hrC := hrB.below hBC
  have kC := heap_keep kB hBC
  have hr2C := hr2.below hbC
  have k2C : wC.heap[w4.heap.size]? = some (.cells (evCells x (.slice a2 m c2)) 24 (0, 0)) := by rw [hwC]; exact alloc_new _ _
  unfold evCells at hwC ⊢
  clear hB hrB kB hb4 hbC hBC hr2
  go_wp2_with fail
  rw [← hwC]
  refine (CM.out _ hC).mono ?_
  rintro e1 w5 ⟨z0, z1, z2, z3, z4, z5, za, zn, zc, rfl, hb5⟩
  obtain ⟨wF, hwF⟩ : ∃ u, u = w5.alloc (.cells #[.int .i64 z0, .string z1, .string z2, .string z3, .int .i64 z4, .bool z5, .slice za zn zc] 24) := ⟨_, rfl⟩
  have hbF : Below w5.heap.size w5 wF := by rw [hwF]; exact boxed w5 _
  have hBF := hb5.trans (hbF.mono hb5.size)
  have hF := hC.trans (hBF.mono hC.size)
  have rx := hrC.below hBF
  have ry := hr2C.below hBF
  have kx := C7.of_block (heap_keep kC hBF)
  have ky := C7.of_block (heap_keep k2C hBF)
  clear hwC hC hrC kC hr2C k2C hb5 hbF hBF
  have HSW : Hid (∀ u, Below wF.heap.size wF u → (Below wF.heap.size wF u ∧ u.cell? ⟨w2.heap.size, 0, none⟩ = some (.int .i64 x.kind) ∧ u.cell? ⟨w2.heap.size, 1, none⟩ = some (.string (ba x.name)) ∧ u.cell? ⟨w2.heap.size, 2, none⟩ = some (.string (ba x.other)) ∧ u.cell? ⟨w2.heap.size, 3, none⟩ = some (.string (ba x.data)) ∧ u.cell? ⟨w2.heap.size, 4, none⟩ = some (.int .i64 x.n) ∧ u.cell? ⟨w2.heap.size, 5, none⟩ = some (.bool x.yes) ∧ u.cell? ⟨w2.heap.size, 6, none⟩ = some (.slice a1 m c1) ∧ u.cell? ⟨w4.heap.size, 0, none⟩ = some (.int .i64 x.kind) ∧ u.cell? ⟨w4.heap.size, 1, none⟩ = some (.string (ba x.name)) ∧ u.cell? ⟨w4.heap.size, 2, none⟩ = some (.string (ba x.other)) ∧ u.cell? ⟨w4.heap.size, 3, none⟩ = some (.string (ba x.data)) ∧ u.cell? ⟨w4.heap.size, 4, none⟩ = some (.int .i64 x.n) ∧ u.cell? ⟨w4.heap.size, 5, none⟩ = some (.bool x.yes) ∧ u.cell? ⟨w4.heap.size, 6, none⟩ = some (.slice a2 m c2))) := Lib.hid (by
    intro u hu
    obtain ⟨d0, d1, d2, d3, d4, d5, d6⟩ := kx.below hu
    obtain ⟨y0, y1, y2, y3, y4, y5, y6⟩ := ky.below hu
    exact ⟨hu, d0, d1, d2, d3, d4, d5, d6, y0, y1, y2, y3, y4, y5, y6⟩)
  have CU : Hid (∀ u, Below wF.heap.size wF u → Calls Tryd.prog 10 #[.agg (evCells x (.slice a1 m c1))] u (fun e u' => ∃ a c, e = .returned (.agg (evCells x (.slice a m c))) ∧ RowAt u' (.slice a m c) (intVals x.keep) ∧ (Below wF.heap.size wF u' ∧ u'.cell? ⟨w2.heap.size, 0, none⟩ = some (.int .i64 x.kind) ∧ u'.cell? ⟨w2.heap.size, 1, none⟩ = some (.string (ba x.name)) ∧ u'.cell? ⟨w2.heap.size, 2, none⟩ = some (.string (ba x.other)) ∧ u'.cell? ⟨w2.heap.size, 3, none⟩ = some (.string (ba x.data)) ∧ u'.cell? ⟨w2.heap.size, 4, none⟩ = some (.int .i64 x.n) ∧ u'.cell? ⟨w2.heap.size, 5, none⟩ = some (.bool x.yes) ∧ u'.cell? ⟨w2.heap.size, 6, none⟩ = some (.slice a1 m c1) ∧ u'.cell? ⟨w4.heap.size, 0, none⟩ = some (.int .i64 x.kind) ∧ u'.cell? ⟨w4.heap.size, 1, none⟩ = some (.string (ba x.name)) ∧ u'.cell? ⟨w4.heap.size, 2, none⟩ = some (.string (ba x.other)) ∧ u'.cell? ⟨w4.heap.size, 3, none⟩ = some (.string (ba x.data)) ∧ u'.cell? ⟨w4.heap.size, 4, none⟩ = some (.int .i64 x.n) ∧ u'.cell? ⟨w4.heap.size, 5, none⟩ = some (.bool x.yes) ∧ u'.cell? ⟨w4.heap.size, 6, none⟩ = some (.slice a2 m c2)))) := Lib.hid (by
    intro u hu
    refine (used_any x _ u (rx.below hu)).mono ?_
    unfold UsedPost
    rw [HUS.out]
    rintro e u' ⟨kv, rfl, hrow, hb⟩
    obtain ⟨a, c, rfl⟩ := hrow.form
    rw [intVals_len, ← HM.out] at *
    have hh := hu.trans (hb.mono hu.size)
    exact ⟨a, c, rfl, hrow, (HSW.out _ hh)⟩)
  have CS1 : Hid (∀ u a c, Below wF.heap.size wF u → RowAt u (.slice a m c) (intVals x.keep) → Calls Tryd.prog 9 #[.agg (evCells x (.slice a1 m c1)), .agg (evCells x (.slice a m c))] u (fun e u' => e = .returned (.bool true) ∧ (Below wF.heap.size wF u' ∧ u'.cell? ⟨w2.heap.size, 0, none⟩ = some (.int .i64 x.kind) ∧ u'.cell? ⟨w2.heap.size, 1, none⟩ = some (.string (ba x.name)) ∧ u'.cell? ⟨w2.heap.size, 2, none⟩ = some (.string (ba x.other)) ∧ u'.cell? ⟨w2.heap.size, 3, none⟩ = some (.string (ba x.data)) ∧ u'.cell? ⟨w2.heap.size, 4, none⟩ = some (.int .i64 x.n) ∧ u'.cell? ⟨w2.heap.size, 5, none⟩ = some (.bool x.yes) ∧ u'.cell? ⟨w2.heap.size, 6, none⟩ = some (.slice a1 m c1) ∧ u'.cell? ⟨w4.heap.size, 0, none⟩ = some (.int .i64 x.kind) ∧ u'.cell? ⟨w4.heap.size, 1, none⟩ = some (.string (ba x.name)) ∧ u'.cell? ⟨w4.heap.size, 2, none⟩ = some (.string (ba x.other)) ∧ u'.cell? ⟨w4.heap.size, 3, none⟩ = some (.string (ba x.data)) ∧ u'.cell? ⟨w4.heap.size, 4, none⟩ = some (.int .i64 x.n) ∧ u'.cell? ⟨w4.heap.size, 5, none⟩ = some (.bool x.yes) ∧ u'.cell? ⟨w4.heap.size, 6, none⟩ = some (.slice a2 m c2)))) := Lib.hid (by
    intro u a c hu hv
    refine (same_any x x _ _ u (rx.below hu) hv HKL.out).mono ?_
    rintro e u' ⟨rfl, hb⟩
    have hh := hu.trans (hb.mono hu.size)
    exact ⟨by simp, (HSW.out _ hh)⟩)
  have CS2 : Hid (∀ u, Below wF.heap.size wF u → Calls Tryd.prog 9 #[.agg (evCells x (.slice a2 m c2)), .agg (evCells x (.slice a1 m c1))] u (fun e u' => e = .returned (.bool true) ∧ Below w.heap.size w u' ∧ (Below wF.heap.size wF u' ∧ u'.cell? ⟨w2.heap.size, 0, none⟩ = some (.int .i64 x.kind) ∧ u'.cell? ⟨w2.heap.size, 1, none⟩ = some (.string (ba x.name)) ∧ u'.cell? ⟨w2.heap.size, 2, none⟩ = some (.string (ba x.other)) ∧ u'.cell? ⟨w2.heap.size, 3, none⟩ = some (.string (ba x.data)) ∧ u'.cell? ⟨w2.heap.size, 4, none⟩ = some (.int .i64 x.n) ∧ u'.cell? ⟨w2.heap.size, 5, none⟩ = some (.bool x.yes) ∧ u'.cell? ⟨w2.heap.size, 6, none⟩ = some (.slice a1 m c1) ∧ u'.cell? ⟨w4.heap.size, 0, none⟩ = some (.int .i64 x.kind) ∧ u'.cell? ⟨w4.heap.size, 1, none⟩ = some (.string (ba x.name)) ∧ u'.cell? ⟨w4.heap.size, 2, none⟩ = some (.string (ba x.other)) ∧ u'.cell? ⟨w4.heap.size, 3, none⟩ = some (.string (ba x.data)) ∧ u'.cell? ⟨w4.heap.size, 4, none⟩ = some (.int .i64 x.n) ∧ u'.cell? ⟨w4.heap.size, 5, none⟩ = some (.bool x.yes) ∧ u'.cell? ⟨w4.heap.size, 6, none⟩ = some (.slice a2 m c2)))) := Lib.hid (by
    intro u hu
    refine (same_any x x _ _ u (ry.below hu) (rx.below hu) HKL.out).mono ?_
    rintro e u' ⟨rfl, hb⟩
    have hh := hu.trans (hb.mono hu.size)
    exact ⟨by simp, hF.trans (hh.mono hF.size), (HSW.out _ hh)⟩)
  have hS0 := HSW.out wF.drew ⟨rfl, rfl, rfl, Nat.le_refl _, fun _ _ => rfl⟩
  clear rx ry kx ky HSW
  go_wp2_with fail
  rw [← hwF]
  clear hwF
  go_region_held3 (fun u => (Below wF.heap.size wF u ∧ u.cell? ⟨w2.heap.size, 0, none⟩ = some (.int .i64 x.kind) ∧ u.cell? ⟨w2.heap.size, 1, none⟩ = some (.string (ba x.name)) ∧ u.cell? ⟨w2.heap.size, 2, none⟩ = some (.string (ba x.other)) ∧ u.cell? ⟨w2.heap.size, 3, none⟩ = some (.string (ba x.data)) ∧ u.cell? ⟨w2.heap.size, 4, none⟩ = some (.int .i64 x.n) ∧ u.cell? ⟨w2.heap.size, 5, none⟩ = some (.bool x.yes) ∧ u.cell? ⟨w2.heap.size, 6, none⟩ = some (.slice a1 m c1) ∧ u.cell? ⟨w4.heap.size, 0, none⟩ = some (.int .i64 x.kind) ∧ u.cell? ⟨w4.heap.size, 1, none⟩ = some (.string (ba x.name)) ∧ u.cell? ⟨w4.heap.size, 2, none⟩ = some (.string (ba x.other)) ∧ u.cell? ⟨w4.heap.size, 3, none⟩ = some (.string (ba x.data)) ∧ u.cell? ⟨w4.heap.size, 4, none⟩ = some (.int .i64 x.n) ∧ u.cell? ⟨w4.heap.size, 5, none⟩ = some (.bool x.yes) ∧ u.cell? ⟨w4.heap.size, 6, none⟩ = some (.slice a2 m c2)))
    (first | exact hST | exact hSS | exact hSU | exact hS0)
    (first
    | (go_at_call 10; refine (CU.out _ hS0.1).mono ?_; rintro e1 wU ⟨a, c, rfl, hrU, hSU⟩)
    | (go_at_call 9; refine (CS2.out _ hSS.1).mono ?_; rintro e1 wT ⟨rfl, hT, hST⟩)
    | (go_at_call 9; refine (CS1.out _ _ _ hSU.1 hrU).mono ?_; rintro e1 wS ⟨rfl, hSS⟩))
  all_goals
    go_wp2_with fail
    go_ret
    exact ⟨rfl, hT⟩

theorem lines_any (s : ByteArray) (w : World) (hs : s.size ≤ 1048576) (hE : Env w) : Calls Tryd.prog 4 #[.string s] w (TruePost w) := by
  cases hp : W.parseL s.data.toList with
  | none => exact lines_none s w hs hE hp
  | some x =>
    cases hk : x.kind == 12 with
    | true => exact lines_crash s w hs hE x hp hk
    | false => exact lines_other s w hs hE x hp hk
end Go.Proofs.YtoihlclmilhpdaaDoor
