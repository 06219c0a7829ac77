/- Walks: alert. -/
import Derived.Test.YtoihlclmilhpdaaDoorW21
import Derived.Test.YtoihlclmilhpdaaDoorPush
import Derived.Deep.AppendLies
namespace Go.Proofs.YtoihlclmilhpdaaDoor
open Go Go.RowKit

def markVals (m : W.Mk) : List Value := (W.markNums m).map (Value.int .i64)
def alertCells (n : W.Nt) : Array Value := #[.int .i64 n.path, .int .i64 n.mark.serial, .int .i64 n.mark.inode, .int .i64 n.mark.gen, .int .i64 n.mark.off, .int .i64 n.mark.missed, .int .i64 n.mark.gone, .int .i64 n.mark.cuts, .int .i64 n.mark.tails, .int .i64 n.mark.long, .string (ba n.text), .int .u32 n.rules]

structure AlertAt (n : W.Nt) : Prop where
  fit : n.fit
  rules : 0 ≤ n.rules ∧ n.rules < 4294967296
  text : n.text.length ≤ 10000000

def AlertPost (first : W.Bs) (n : W.Nt) (more : List Int) (w : World) (e : Ending) (w' : World) : Prop :=
  e = .returned (.string (ba (Lib.join (W.alertWords first n more) [32]))) ∧ Below w.heap.size w w'

theorem own_lits (w : World) (e : Nat) (xs : List Value) : RowAt (w.alloc (.cells xs.toArray e)) (.slice (some ⟨w.heap.size, 0, none⟩) xs.length xs.length) xs := by
  refine Or.inr ⟨w.heap.size, 0, xs.length, rfl, Nat.le_refl _, ?_⟩
  intro i x hx
  unfold World.cell?
  rw [Nat.zero_add, alloc_new]
  simpa using hx
theorem step_words {ops : Array Oper} {o : Oper} {a : Act} {K : Act → World → Prop} {Q : Exit → Act → World → Prop} {E : Prop} {u : World} {B nb : Nat} {v : Value} {ws : List W.Bs} {x y : ByteArray} (hgd : o.guard = none) (s t : Operand)
    (ho : o.op = .call { callee := .builtin .append, args := #[s, t], argTypes := #[49, 49] }) (hs : a.eval s = v) (hown : u.ownsRow B 9 1 v ws.length (strVals ws)) (hx : a.eval t = .slice (some ⟨nb, 0, none⟩) 2 2)
    (hn : u.heap[nb]? = some (.cells #[.string x, .string y] 9 (0, 0))) (hB : B ≤ u.heap.size) (hl : ws.length ≤ 1000000000)
    (h : ∀ g cap u', u.grownBy u' v.ownBlock → u'.ownsRow B 9 1 (.slice (some ⟨g, 0, none⟩) (ws.length + 2) cap) (ws.length + 2) (strVals ws ++ [.string x, .string y]) → K (a.put o.dst (.slice (some ⟨g, 0, none⟩) (ws.length + 2) cap)) u') :
    if Region.wanted o (yielded ops a.tmps) = true then Oper.wp Tryd.prog o a u K Q else E := by
  obtain ⟨i0, hi, hz0, hz1, hz2⟩ := info_parts infoStr
  refine step_append_lies u hgd s t _ ho B 9 i0 _ 1 16 Tryd.underlying49 hi hz0 hz1 hz2 rfl (by decide) v ws.length (strVals ws) hs hown _ 2 2 [.string x, .string y] hx rfl (World.news_of_block hn) ?_ (by decide) ?_ ?_ hB _ rfl ?_
  · intro z hz; simp at hz; rcases hz with rfl | rfl <;> rfl
  · unfold maxLen; omega
  · omega
  · intro g cap w' hown' hgrow _ _
    exact h g cap w' hgrow hown'

set_option maxHeartbeats 2000000 in
set_option maxRecDepth 100000 in
theorem alert_any (first : W.Bs) (n : W.Nt) (more : List Int) (v : Value) (w : World) (hf : first.length ≤ 100) (hn : AlertAt n) (hm : ∀ x ∈ more, W.i64 x) (hml : more.length ≤ 1) (hv : RowAt w v (intVals more)) (hE : Env w) :
    Calls Tryd.prog 19 #[.string (ba first), .agg (alertCells n), v] w (AlertPost first n more w) := by
  obtain ⟨i0, hi, hz0, hz1, hz2⟩ := info_parts infoStr
  have hEnv := Lib.hid hE
  have hrow := Lib.hid hv
  obtain ⟨lm, cm, rfl⟩ := hv.form
  unfold alertCells
  obtain ⟨F, hF⟩ : ∃ F, F = ba first := ⟨_, rfl⟩
  obtain ⟨T, hT⟩ : ∃ T, T = ba n.text := ⟨_, rfl⟩
  rw [← hF, ← hT]
  have CN := Lib.hid (fun xs v u (h : RowAt u v (intVals xs)) => numbers_any xs v u h)
  have HF := Lib.hid hF
  have HT := Lib.hid hT
  clear hF hT hv
  go_enter Tryd.func19, Tryd.ntmps19
  go_wp2_with fail
  obtain ⟨wB, hwB⟩ : ∃ u, u = w.alloc (.cells #[.int .i64 n.path, .int .i64 n.mark.serial, .int .i64 n.mark.inode, .int .i64 n.mark.gen, .int .i64 n.mark.off, .int .i64 n.mark.missed, .int .i64 n.mark.gone, .int .i64 n.mark.cuts, .int .i64 n.mark.tails, .int .i64 n.mark.long, .string T, .int .u32 n.rules] 40) := ⟨_, rfl⟩
  have hsB : wB.heap.size = w.heap.size + 1 := by rw [hwB, alloc_size]
  have hbB : Below w.heap.size w wB := by rw [hwB]; exact boxed w _
  have hHB : wB.heap[w.heap.size]? = some (.cells #[.int .i64 n.path, .int .i64 n.mark.serial, .int .i64 n.mark.inode, .int .i64 n.mark.gen, .int .i64 n.mark.off, .int .i64 n.mark.missed, .int .i64 n.mark.gone, .int .i64 n.mark.cuts, .int .i64 n.mark.tails, .int .i64 n.mark.long, .string T, .int .u32 n.rules] 40 (0, 0)) := by rw [hwB]; exact alloc_new _ _
  rw [← hwB]
  obtain ⟨wM, hwM⟩ : ∃ u, u = wB.alloc (.cells #[.int .i64 n.mark.serial, .int .i64 n.mark.inode, .int .i64 n.mark.gen, .int .i64 n.mark.off, .int .i64 n.mark.missed, .int .i64 n.mark.gone, .int .i64 n.mark.cuts, .int .i64 n.mark.tails, .int .i64 n.mark.long] 37) := ⟨_, rfl⟩
  have hsM : wM.heap.size = w.heap.size + 1 + 1 := by rw [hwM, alloc_size, hsB]
  have hbM : Below wB.heap.size wB wM := by rw [hwM]; exact boxed wB _
  rw [← hwM]
  have own0 := own_lit wM wB.heap.size 9 (.string F) hbM.size
  obtain ⟨wF, hwF⟩ : ∃ u, u = wM.alloc (.cells #[.string F] 9) := ⟨_, rfl⟩
  have hsF : wF.heap.size = w.heap.size + 1 + 1 + 1 := by rw [hwF, alloc_size, hsM]
  rw [← hwF] at own0 ⊢
  rw [hsM] at own0
  have hbF : Below wB.heap.size wB wF := by rw [hwF]; exact hbM.alloc hbM.size _
  have row5 := own_lits wF 3 (intVals (W.placeNums n))
  obtain ⟨wI, hwI⟩ : ∃ u, u = wF.alloc (.cells #[.int .i64 n.path, .int .i64 n.mark.serial, .int .i64 n.mark.inode, .int .i64 n.mark.gen, .int .i64 n.mark.off] 3) := ⟨_, rfl⟩
  have row5' : RowAt wI (.slice (some ⟨w.heap.size + 1 + 1 + 1, 0, none⟩) 5 5) (intVals (W.placeNums n)) := by rw [hwI, ← hsF]; exact row5
  rw [← hwI]
  have hbI : Below wB.heap.size wB wI := by rw [hwI]; exact hbF.alloc hbF.size _
  have ownI : wI.ownsRow wB.heap.size 9 1 (.slice (some ⟨w.heap.size + 1 + 1, 0, none⟩) 1 1) 1 [.string F] := by rw [hwI]; exact ownsRow_below own0 (boxed wF _)
  have hbwI := hbB.trans (hbI.mono hbB.size)
  have HSB := Lib.hid hsB
  clear row5 own0 hwI hwF hwM hwB hbM hbF hsM hsF hsB
  have fitP : ∀ x ∈ W.placeNums n, W.i64 x := by
    intro x hx
    have hf := hn.fit
    have hmk := hf.2.1
    unfold W.Mk.fit at hmk
    unfold W.placeNums at hx
    simp only [List.mem_cons, List.mem_nil_iff, or_false] at hx
    rcases hx with rfl | rfl | rfl | rfl | rfl
    · exact hf.1
    all_goals exact hmk _ (by simp [W.markNums])
  refine (CN.out (W.placeNums n) _ _ row5' fitP (by simp [W.placeNums]) (hEnv.out.below hbwI)).mono ?_
  rintro e1 w1 ⟨v1, rfl, hown1, hb1⟩
  have ownA : w1.ownsRow wB.heap.size 9 1 (.slice (some ⟨w.heap.size + 1 + 1, 0, none⟩) 1 1) 1 [.string F] := ownsRow_below ownI hb1
  have hbA : Below wB.heap.size wB w1 := hbI.trans (hb1.mono hbI.size)
  have hrow1 : RowAt w1 v1 (strVals (numWords (W.placeNums n))) := RowAt.of_own (by rw [strVals_len]; exact hown1)
  clear hown1 hb1 ownI hbI hbwI row5'
  go_wp2_with (at_builtin; refine push_row rfl _ _ rfl Tryd.underlying49 hi hz0 hz1 hz2 rfl rfl ownA rfl hrow1 (strs_flat _) hbA ⟨by rw [strVals_len]; simp [numWords, W.placeNums], by decide⟩ ?_)
  intro v2 w2 hown2 hbel2 hkeep2
  have hbw2 := hbB.trans (hbel2.mono hbB.size)
  obtain ⟨ws1, hws1⟩ : ∃ ws1, ws1 = first :: numWords (W.placeNums n) := ⟨_, rfl⟩
  have hl1 : ws1.length = 6 := by rw [hws1]; simp [numWords, W.placeNums]
  have hown2' : w2.ownsRow wB.heap.size 9 1 v2 ws1.length (strVals ws1) := by
    rw [hws1]
    rw [strVals_len, Nat.add_comm] at hown2
    rw [HF.out] at hown2
    exact hown2
  have HWS1 := Lib.hid hws1
  have HL1 := Lib.hid hl1
  clear ownA hbA hrow1 hkeep2 hown2 hws1 hl1
  go_wp2_with fail
  refine (CN.out more _ _ (hrow.out.below hbw2) hm (by omega) (hEnv.out.below hbw2)).mono ?_
  rintro e1 w3 ⟨v3, rfl, hown3, hb3⟩
  have ownC := ownsRow_below hown2' hb3
  have hbC : Below wB.heap.size wB w3 := hbel2.trans (hb3.mono hbel2.size)
  have hrow3 : RowAt w3 v3 (strVals (numWords more)) := RowAt.of_own (by rw [strVals_len]; exact hown3)
  clear hown3 hb3 hown2' hbel2 hbw2
  go_wp2_with (at_builtin; refine push_row rfl _ _ rfl Tryd.underlying49 hi hz0 hz1 hz2 rfl rfl ownC rfl hrow3 (strs_flat _) hbC ⟨by rw [strVals_len, HL1.out]; simp [numWords]; omega, by decide⟩ ?_)
  intro v4 w4 hown4 hbel4 hkeep4
  have hbw4 := hbB.trans (hbel4.mono hbB.size)
  obtain ⟨ws2, hws2⟩ : ∃ ws2, ws2 = ws1 ++ numWords more := ⟨_, rfl⟩
  have hl2 : ws2.length ≤ 7 := by rw [hws2, List.length_append, HL1.out]; simp [numWords]; omega
  have hown4' : w4.ownsRow wB.heap.size 9 1 v4 ws2.length (strVals ws2) := by
    rw [hws2, List.length_append]
    rw [strVals_len] at hown4
    unfold strVals at hown4 ⊢
    rw [List.map_append]
    exact hown4
  have hH4 := heap_keep hHB hbel4
  have hEnv4 := hEnv.out.below hbw4
  have HWS2 := Lib.hid hws2
  have HL2 := Lib.hid hl2
  have HOWN4 := Lib.hid hown4'
  have HBEL4 := Lib.hid hbel4
  have HE4 := Lib.hid hEnv4
  have c10 : w4.cell? ⟨w.heap.size, 10, none⟩ = some (.string T) := by unfold World.cell?; rw [hH4]; rfl
  have c11 : w4.cell? ⟨w.heap.size, 11, none⟩ = some (.int .u32 n.rules) := by unfold World.cell?; rw [hH4]; rfl
  have hr64 : W.i64 n.rules := hn.fit.2.2.1
  have hwr : IntKind.i64.wrap n.rules = n.rules := by have := hn.rules; exact IntWalk.i64_in _ (by omega)
  obtain ⟨Q, hQ⟩ : ∃ Q, Q = ba (W.quote n.text) := ⟨_, rfl⟩
  obtain ⟨I, hI⟩ : ∃ I, I = ba (Lib.itoa n.rules) := ⟨_, rfl⟩
  have CNR : Hid (∀ u v, Below w4.heap.size w4 u → RowAt u v (intVals [n.rules]) → Calls Tryd.prog 20 #[v] u fun e u' => ∃ g cap, e = .returned (.slice (some ⟨g, 0, none⟩) 1 cap) ∧ u'.cell? ⟨g, 0, none⟩ = some (.string I) ∧ Below w4.heap.size w4 u' ∧ Below u.heap.size u u') := Lib.hid (by
    intro u v hcu hrv
    refine (CN.out [n.rules] v u hrv (by intro x hx; simp at hx; subst hx; exact hr64) (by simp) (HE4.out.below hcu)).mono ?_
    rintro e u' ⟨v', rfl, hown, hb⟩
    obtain ⟨g, cap, rfl, _, _⟩ := hown.form (by simp [numWords])
    refine ⟨g, cap, rfl, ?_, hcu.trans (hb.mono hcu.size), hb⟩
    rw [hown.cellAt 0 (by simp [numWords]), hI]; rfl)
  have CQR : Hid (∀ u, Below w4.heap.size w4 u → Calls Tryd.prog 21 #[.string T] u fun e u' => e = .returned (.string Q) ∧ Below w4.heap.size w4 u' ∧ Below u.heap.size u u') := Lib.hid (by
    intro u hcu
    refine (quote_any T u (by rw [HT.out, ba_size]; have := hn.text; omega) (HE4.out.below hcu)).mono ?_
    rintro e u' ⟨rfl, hb⟩
    refine ⟨?_, hcu.trans (hb.mono hcu.size), hb⟩
    rw [hQ, HT.out, ba_list]; rfl)
  have CJ : Hid (∀ u v, Below wB.heap.size wB u → RowAt u v (strVals (W.alertWords first n more)) → Calls Tryd.prog 15 #[v, .string ⟨#[32]⟩] u fun e u' => e = .returned (.string (ba (Lib.join (W.alertWords first n more) [32]))) ∧ Below w.heap.size w u') := Lib.hid (by
    intro u v hbu hrv
    have t1 := W.join_len (W.alertWords first n more)
    have t2 := W.length_total (W.alertWords first n more)
    have t3 := W.total_itoa (W.placeNums n) fitP
    have t4 := W.total_itoa more hm
    have t5 := W.itoa_len n.rules hr64
    have t6 := W.quote_length n.text
    have t7 := hn.text
    have t8 : (W.placeNums n).length = 5 := by simp [W.placeNums]
    have t9 : W.total (W.alertWords first n more) ≤ 100000000 := by
      unfold W.alertWords
      rw [W.total_cons, W.total_append, W.total_append, W.total_cons, W.total_cons, W.total_nil]
      omega
    refine (join_any (W.alertWords first n more) v u hrv (by omega) (by omega)).mono ?_
    rintro e u' ⟨rfl, hb⟩
    exact ⟨rfl, (hbB.trans (hbu.mono hbB.size)).trans (hb.mono (Nat.le_trans hbB.size hbu.size))⟩)
  have hAll : strVals (W.alertWords first n more) = strVals ws2 ++ [.string I, .string Q] := by
    rw [HWS2.out, HWS1.out, hI, hQ]
    unfold W.alertWords strVals numWords
    simp
  have HALL := Lib.hid hAll
  clear ownC hbC hrow3 hkeep4 hown4 hown4' hbel4 hEnv4 hH4 hHB hws2 hl2 hAll hI hQ
  have hc4 : Below w4.heap.size w4 w4.drew := ⟨rfl, rfl, rfl, Nat.le_refl _, fun _ _ => rfl⟩
  have STEP : Hid (∀ u, Below w4.heap.size w4 u → u.ownsRow wB.heap.size 9 1 v4 ws2.length (strVals ws2) ∧ wB.heap.size ≤ u.heap.size ∧
      ∀ g cap w', u.grownBy w' v4.ownBlock → w'.ownsRow wB.heap.size 9 1 (.slice (some ⟨g, 0, none⟩) (ws2.length + 2) cap) (ws2.length + 2) (strVals ws2 ++ [.string I, .string Q]) →
        Below wB.heap.size wB w' ∧ RowAt w' (.slice (some ⟨g, 0, none⟩) (ws2.length + 2) cap) (strVals (W.alertWords first n more))) := Lib.hid (by
    intro u hu
    have hbu : Below wB.heap.size wB u := HBEL4.out.trans (hu.mono HBEL4.out.size)
    have hou := ownsRow_below HOWN4.out hu
    refine ⟨hou, hbu.size, ?_⟩
    intro g cap w' hgrow hown'
    refine ⟨hbu.grown hgrow hbu.size (fun k hk => (hou.lt k hk).1), ?_⟩
    rw [HALL.out]
    exact RowAt.of_own (by rw [List.length_append, strVals_len]; exact hown'))
  have hcw : Below w4.heap.size w4 (w4.alloc (.cells #[.int .i64 n.rules] 3)).drew := (boxed w4 _).trans ⟨rfl, rfl, rfl, Nat.le_refl _, fun _ _ => rfl⟩
  have hrw : RowAt (w4.alloc (.cells #[.int .i64 n.rules] 3)).drew (.slice (some ⟨w4.heap.size, 0, none⟩) 1 1) (intVals [n.rules]) := own_lits w4 3 [.int .i64 n.rules]
  have HRR : Hid (∀ u : World, RowAt (u.alloc (.cells #[.int .i64 n.rules] 3)) (.slice (some ⟨u.heap.size, 0, none⟩) 1 1) (intVals [n.rules])) := Lib.hid (fun u => own_lits u 3 [.int .i64 n.rules])
  have c10a : ∀ o, (w4.alloc o).cell? ⟨w.heap.size, 10, none⟩ = some (.string T) := fun o => ((boxed w4 o).cell (cell_lt c10)).trans c10
  have c11a : ∀ o, (w4.alloc o).cell? ⟨w.heap.size, 11, none⟩ = some (.int .u32 n.rules) := fun o => ((boxed w4 o).cell (cell_lt c11)).trans c11
  go_wp2_with fail
  go_region_law (first
    | (refine step_words (v := v4) (ws := ws2) (B := wB.heap.size) (x := I) (y := Q) rfl (.tmp 30) (.tmp 41) rfl (by simp [Act.eval]) (STEP.out _ (by first | exact hcq.alloc hcq.size _ | exact hcn.alloc hcn.size _)).1 (by simp [Act.eval]) (alloc_new _ _) (STEP.out _ (by first | exact hcq.alloc hcq.size _ | exact hcn.alloc hcn.size _)).2.1 (Nat.le_trans HL2.out (by decide)) ?_; intro g2 cap2 w' hgrow hown'; have hS := (STEP.out _ (by first | exact hcq.alloc hcq.size _ | exact hcn.alloc hcn.size _)).2.2 g2 cap2 w' hgrow hown')
    | (go_simp; go_at_call 15; refine (CJ.out _ _ hS.1 hS.2).mono ?_; rintro e1 wj ⟨rfl, hbj⟩)
    | (go_simp; go_at_call 20; refine (CNR.out _ _ (by first | exact hcw | exact hcq | exact hcq.alloc hcq.size _) (by first | exact hrw | exact hrq | exact HRR.out wq)).mono ?_; rintro e1 wn ⟨g, cap, rfl, hgc, hcn, hbn⟩; have c10n : wn.cell? ⟨w.heap.size, 10, none⟩ = some (.string T) := (hcn.cell (cell_lt c10)).trans c10)
    | (go_simp; go_at_call 21; refine (CQR.out _ (by first | exact hcn | exact hcw | exact hc4)).mono ?_; rintro e1 wq ⟨rfl, hcq, hbq⟩; have c11q : wq.cell? ⟨w.heap.size, 11, none⟩ = some (.int .u32 n.rules) := (hcq.cell (cell_lt c11)).trans c11; try have hgq : wq.cell? ⟨g, 0, none⟩ = some (.string I) := (hbq.cell (cell_lt hgc)).trans hgc; try have hrq : RowAt wq (.slice (some ⟨w4.heap.size, 0, none⟩) 1 1) (intVals [n.rules]) := hrw.below hbq))
  all_goals
    go_wp2_with fail
    go_ret
    exact ⟨rfl, hbj⟩
end Go.Proofs.YtoihlclmilhpdaaDoor
