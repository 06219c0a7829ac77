/- Walks: fixed. -/
import Derived.Test.YtoihlclmilhpdaaDoorW25
import Derived.Test.YtoihlclmilhpdaaDoorW23
import Derived.Test.YtoihlclmilhpdaaDoorW22
import Derived.Test.YtoihlclmilhpdaaDoorW20
namespace Go.Proofs.YtoihlclmilhpdaaDoor
open Go Go.RowKit

/-- What Parse says of a line that is an event without numbers kept. -/
theorem parse_of (l : W.Bs) (e0 : W.Ev) (w : World) (hs : l.length ≤ 100) (hp : W.parseL l = some e0) (hk : e0.keep = []) (hE : Env w) :
    Calls Tryd.prog 8 #[.string (ba l)] w fun e w' => ∃ ao c, e = .returned (.tuple #[.agg (evCells e0 (.slice ao 0 c)), .int .i64 0]) ∧ RowAt w' (.slice ao 0 c) (intVals e0.keep) ∧ Below w.heap.size w w' := by
  refine (parse_any (ba l) w (by rw [ba_size]; omega) hE).mono ?_
  unfold ParsePost
  rw [ba_list, hp]
  rintro e w' ⟨kv, rfl, hown, hb⟩
  have hrow : RowAt w' kv (intVals e0.keep) := RowAt.of_own (by rw [intVals_len]; exact hown)
  obtain ⟨ao, c, rfl⟩ := hrow.form
  rw [intVals_len, hk] at *
  exact ⟨ao, c, rfl, hrow, hb⟩
theorem parse_not (l : W.Bs) (w : World) (hs : l.length ≤ 100) (hp : W.parseL l = none) (hE : Env w) :
    Calls Tryd.prog 8 #[.string (ba l)] w fun e w' => ∃ ao c, e = .returned (.tuple #[.agg (evCells {} (.slice ao 0 c)), .int .i64 260]) ∧ Below w.heap.size w w' := by
  refine (parse_any (ba l) w (by rw [ba_size]; omega) hE).mono ?_
  unfold ParsePost
  rw [ba_list, hp]
  rintro e w' ⟨kv, rfl, hown, hb⟩
  have hrow : RowAt w' kv (intVals []) := RowAt.of_own (by rw [intVals_len]; exact hown)
  obtain ⟨ao, c, rfl⟩ := hrow.form
  exact ⟨ao, c, rfl, hb⟩

def evF : W.Ev := { kind := 12, keep := [1, -2], n := 7 }
def ntF : W.Nt := { kind := 1, mark := { serial := 1, inode := 1, off := 3 }, text := [97, 32, 98], rules := 5, attempt := 2 }
theorem evF_fit : evF.fit := by
  refine ⟨by unfold W.i64 evF; decide, ?_⟩
  intro x hx
  simp [evF] at hx
  unfold W.i64
  rcases hx with rfl | rfl <;> decide
theorem ntF_fit : AlertAt ntF := by
  refine ⟨⟨by unfold W.i64; decide, ?_, by unfold W.i64; decide, by unfold W.i64; decide, by intro m hm; simp [ntF] at hm⟩, by decide, by decide⟩
  intro x hx
  simp [ntF, W.markNums] at hx
  unfold W.i64
  omega

set_option maxHeartbeats 4000000 in
set_option maxRecDepth 100000 in
theorem fixed_any (w : World) (hE : Env w) : Calls Tryd.prog 6 #[] w (fun e w' => e = .returned (.bool true) ∧ Below w.heap.size w w') := by
  have P1 := Lib.hid (fun u (h : Below w.heap.size w u) => parse_of line1 _ u (by decide) fix1 rfl (hE.below h))
  have P2 := Lib.hid (fun u (h : Below w.heap.size w u) => parse_of line2 _ u (by decide) fix2 rfl (hE.below h))
  have P3 := Lib.hid (fun u (h : Below w.heap.size w u) => parse_not line3 u (by decide) fix3 (hE.below h))
  have P4 : Hid (∀ u v, Below w.heap.size w u → RowAt u v (intVals [1, -2]) → Calls Tryd.prog 7 #[.agg (evCells evF v)] u (fun e u' => e = .returned (.tuple #[.string ⟨#[99, 114, 97, 115, 104, 32, 49, 32, 45, 50]⟩, .int .i64 0]) ∧ Below u.heap.size u u')) := Lib.hid (by
    intro u v hu hv
    refine (print_any evF v u ⟨hv, evF_fit, by decide, by decide, by decide, by decide⟩ (hE.below hu)).mono ?_
    unfold PrintPost
    have hp : W.printL evF = [99, 114, 97, 115, 104, 32, 49, 32, 45, 50] := fix4
    rw [hp]
    rintro e w' ⟨rfl, hb⟩
    exact ⟨rfl, hb⟩)
  have P5 : Hid (∀ u, Below w.heap.size w u → Calls Tryd.prog 12 #[.agg (noteCells ntF (.slice none 0 0))] u (fun e u' => e = .returned (.string ⟨#[115, 101, 110, 116, 32, 48, 32, 49, 32, 49, 32, 48, 32, 51, 32, 50, 32, 53, 32, 34, 97, 32, 98, 34]⟩) ∧ Below u.heap.size u u')) := Lib.hid (by
    intro u hu
    refine (tell_1 ntF _ u ntF_fit rfl (hE.below hu)).mono ?_
    unfold TellPost
    have hp : W.tellL ntF = [115, 101, 110, 116, 32, 48, 32, 49, 32, 49, 32, 48, 32, 51, 32, 50, 32, 53, 32, 34, 97, 32, 98, 34] := fix5
    rw [hp]
    rintro e w' ⟨rfl, hb⟩
    exact ⟨rfl, hb⟩)
  have P6 : Hid (∀ (u : World) a c, RowAt u (.slice a 0 c) (intVals []) → Calls Tryd.prog 9 #[.agg (evCells { kind := 9, n := -3, yes := false } (.slice a 0 c)), .agg (evCells { kind := 9, n := -3, yes := false } (.slice none 0 0))] u (fun e u' => e = .returned (.bool true) ∧ Below u.heap.size u u')) := Lib.hid (by
    intro u a c hv
    exact (same_any { kind := 9, n := -3, yes := false } { kind := 9, n := -3, yes := false } _ _ u hv (Or.inl ⟨rfl, Or.inl rfl⟩) (by simp)).mono fun e w' ⟨h1, h2⟩ => ⟨by rw [h1]; rfl, h2⟩)
  have hEnv := Lib.hid hE
  clear hE
  go_enter Tryd.func6, Tryd.ntmps6
  go_wp2_with fail
  refine (P1.out _ (Below.refl _ _)).mono ?_
  rintro e1 w1 ⟨a1, c1, rfl, hr1, hb1⟩
  obtain ⟨wA, hwA⟩ : ∃ u, u = w1.alloc (.cells (evCells { kind := 9, n := -3, yes := false } (.slice a1 0 c1)) 24) := ⟨_, rfl⟩
  have hbA : Below w1.heap.size w1 wA := by rw [hwA]; exact boxed w1 _
  have hA := hb1.trans (hbA.mono hb1.size)
  have hk1 : wA.heap[w1.heap.size]? = some (.cells (evCells { kind := 9, n := -3, yes := false } (.slice a1 0 c1)) 24 (0, 0)) := by rw [hwA]; exact alloc_new _ _
  have hrA := hr1.below hbA
  unfold evCells at hwA hk1 ⊢
  go_wp2_with fail
  rw [← hwA]
  refine (P2.out _ hA).mono ?_
  rintro e1 w2 ⟨a2, c2, rfl, hr2, hb2⟩
  obtain ⟨wB, hwB⟩ : ∃ u, u = w2.alloc (.cells (evCells { kind := 2, name := [97, 46, 108, 111, 103], data := [120, 32, 121, 10] } (.slice a2 0 c2)) 24) := ⟨_, rfl⟩
  have hbB : Below w2.heap.size w2 wB := by rw [hwB]; exact boxed w2 _
  have hB := hA.trans ((hb2.trans (hbB.mono hb2.size)).mono hA.size)
  have hk2 : wB.heap[w2.heap.size]? = some (.cells (evCells { kind := 2, name := [97, 46, 108, 111, 103], data := [120, 32, 121, 10] } (.slice a2 0 c2)) 24 (0, 0)) := by rw [hwB]; exact alloc_new _ _
  have hk1B := heap_keep hk1 (hb2.trans (hbB.mono hb2.size))
  have hrB := hrA.below (hb2.trans (hbB.mono hb2.size))
  unfold evCells at hwB hk2 ⊢
  clear hwA hbA hA hk1 hb1 hb2 hbB hr1 hrA hr2
  go_wp2_with fail
  rw [← hwB]
  refine (P3.out _ hB).mono ?_
  rintro e1 w3 ⟨a3, c3, rfl, hb3⟩
  obtain ⟨wC, hwC⟩ : ∃ u, u = w3.alloc (.cells (evCells {} (.slice a3 0 c3)) 24) := ⟨_, rfl⟩
  have hbC : Below w3.heap.size w3 wC := by rw [hwC]; exact boxed w3 _
  have hsC : wC.heap.size = w3.heap.size + 1 := by rw [hwC, alloc_size]
  have hBC := hb3.trans (hbC.mono hb3.size)
  have hC := hB.trans (hBC.mono hB.size)
  have hk1C := heap_keep hk1B hBC
  have hk2C := heap_keep hk2 hBC
  have hrC := hrB.below hBC
  obtain ⟨wD, hwD⟩ : ∃ u, u = wC.alloc (.cells #[.int .i64 1, .int .i64 (-2)] 3) := ⟨_, rfl⟩
  have hbD : Below wC.heap.size wC wD := by rw [hwD]; exact boxed wC _
  have hD := hC.trans (hbD.mono hC.size)
  have hk1D := heap_keep hk1C hbD
  have hk2D := heap_keep hk2C hbD
  have hrD := hrC.below hbD
  have hrK : RowAt wD (.slice (some ⟨w3.heap.size + 1, 0, none⟩) 2 2) (intVals [1, -2]) := by
    rw [hwD, ← hsC]; exact own_lits wC 3 [.int .i64 1, .int .i64 (-2)]
  rw [hwC] at hwD
  unfold evCells at hwD ⊢
  clear hwB hB hk1B hk2 hb3 hwC hbC hsC hBC hC hk1C hk2C hrB hrC hbD
  go_wp2_with fail
  rw [← hwD]
  refine (P4.out _ _ hD hrK).mono ?_
  rintro e1 w4 ⟨rfl, hb4⟩
  have hE4 := hD.trans (hb4.mono hD.size)
  have hk1E := heap_keep hk1D hb4
  have hk2E := heap_keep hk2D hb4
  have hrE := hrD.below hb4
  clear hwD hD hk1D hk2D hrD hrK hb4
  go_wp2_with fail
  refine (P5.out _ hE4).mono ?_
  rintro e1 w5 ⟨rfl, hb5⟩
  have hF := hE4.trans (hb5.mono hE4.size)
  have hk1F := heap_keep hk1E hb5
  have hk2F := heap_keep hk2E hb5
  have hrF := hrE.below hb5
  clear hE4 hk1E hk2E hrE hb5
  have cc := fun i => cell_of_row w5 w1.heap.size i _ _ _ hk1F
  have c0 := cc 0
  have c1 := cc 1
  have c2 := cc 2
  have c3 := cc 3
  have c4 := cc 4
  have c5 := cc 5
  have c6 := cc 6
  have cd := cell_of_row w5 w2.heap.size 3 _ _ _ hk2F
  simp at c0 c1 c2 c3 c4 c5 c6 cd
  clear cc hk1F hk2F
  go_wp2_with fail
  refine (P6.out _ _ _ hrF).mono ?_
  rintro e1 w6 ⟨rfl, hb6⟩
  have hG := hF.trans (hb6.mono hF.size)
  have cd6 : w6.cell? ⟨w2.heap.size, 3, none⟩ = some (.string ⟨#[120, 32, 121, 10]⟩) := by rw [hb6.cell (cell_lt cd)]; exact cd
  clear hb6 hF hrF
  go_wp2_with fail
  go_ret
  exact ⟨rfl, hG⟩
end Go.Proofs.YtoihlclmilhpdaaDoor
