/- Walks: Tell of the kept marks. -/
import Derived.Test.YtoihlclmilhpdaaDoorW25
namespace Go.Proofs.YtoihlclmilhpdaaDoor
open Go Go.RowKit

/-- The slice v reads as these marks. -/
def MarksAt (w : World) (v : Value) (ms : List W.Mk) : Prop :=
  ∃ a c, v = .slice a ms.length c ∧ ∀ k, (h : k < ms.length) → ∃ b off, a = some ⟨b, off, none⟩ ∧ ∀ j x, (markVals ms[k])[j]? = some x → w.cell? ⟨b, off + k * 9 + j, none⟩ = some x
theorem MarksAt.below {w w' : World} {v : Value} {ms : List W.Mk} (h : MarksAt w v ms) (hb : Below w.heap.size w w') : MarksAt w' v ms := by
  obtain ⟨a, c, hv, hc⟩ := h
  refine ⟨a, c, hv, fun k hk => ?_⟩
  obtain ⟨b, off, ha, hx⟩ := hc k hk
  exact ⟨b, off, ha, fun j x hj => by have := hx j x hj; rw [hb.cell (cell_lt this)]; exact this⟩

def keptWords (ms : List W.Mk) : List W.Bs := W.keptB :: (ms.map fun m => (W.markNums m).map Lib.itoa).flatten
theorem kept_snoc {ms : List W.Mk} {k : Nat} (h : k < ms.length) : keptWords (ms.take k) ++ numWords (W.markNums ms[k]) = keptWords (ms.take (k + 1)) := by
  unfold keptWords numWords
  rw [take_snoc' ms k h, List.map_append, List.flatten_append]
  simp
theorem kept_len : ∀ ms : List W.Mk, (keptWords ms).length = 9 * ms.length + 1 := by
  intro ms
  unfold keptWords
  induction ms with
  | nil => simp
  | cons m ms ih =>
    simp only [List.map_cons, List.flatten_cons, List.length_cons, List.length_append, List.length_map] at ih ⊢
    have : (W.markNums m).length = 9 := by simp [W.markNums]
    omega
theorem kept_total : ∀ ms : List W.Mk, (∀ m ∈ ms, m.fit) → W.total (keptWords ms) ≤ 189 * ms.length + 5 := by
  intro ms
  unfold keptWords
  induction ms with
  | nil => intro _; simp [W.total, W.keptB]
  | cons m ms ih =>
    intro h
    have h1 := ih (fun x hx => h x (by simp [hx]))
    rw [W.total_cons] at h1 ⊢
    rw [List.map_cons, List.flatten_cons, W.total_append, List.length_cons]
    have h2 := W.total_itoa (W.markNums m) (h m (by simp))
    have : (W.markNums m).length = 9 := by simp [W.markNums]
    omega
def KeptRel (ms : List W.Mk) (wA : World) (u i : Value) (wr : World) : Prop :=
  ∃ k, k ≤ ms.length ∧ i = .int .i64 k ∧ wr.ownsRow wA.heap.size 9 1 u (keptWords (ms.take k)).length (strVals (keptWords (ms.take k))) ∧ Below wA.heap.size wA wr

set_option maxHeartbeats 4000000 in
set_option maxRecDepth 100000 in
theorem tell_4 (n : W.Nt) (mv : Value) (w : World) (hv : MarksAt w mv n.marks) (hf : ∀ m ∈ n.marks, m.fit) (hN : n.marks.length ≤ 4000000) (hk : n.kind = 4) (hE : Env w) : Calls Tryd.prog 12 #[.agg (noteCells n mv)] w (TellPost n w) := by
  obtain ⟨i0, hi, hz0, hz1, hz2⟩ := info_parts infoStr
  have hres : W.tellL n = Lib.join (keptWords n.marks) [32] := by unfold W.tellL W.tellWords; rw [hk]; rfl
  have HR := Lib.hid hres
  obtain ⟨wA, hwA⟩ : ∃ u, u = w.alloc (.cells (noteCells n mv) 43) := ⟨_, rfl⟩
  have hbA : Below w.heap.size w wA := by rw [hwA]; exact boxed w _
  have hsA : wA.heap.size = w.heap.size + 1 := by rw [hwA, alloc_size]
  have kA : wA.heap[w.heap.size]? = some (.cells (noteCells n mv) 43 (0, 0)) := by rw [hwA]; exact alloc_new _ _
  have own0 := own_lit wA wA.heap.size 9 (.string ⟨#[107, 101, 112, 116]⟩) (Nat.le_refl _)
  have bel0 := boxed wA (.cells #[.string ⟨#[107, 101, 112, 116]⟩] 9)
  have hvA := hv.below hbA
  have hEA := hE.below hbA
  obtain ⟨ms, hms⟩ : ∃ l, l = n.marks := ⟨_, rfl⟩
  rw [← hms] at hvA hf hN hres HR
  have CN := Lib.hid (fun xs v u (hb : Below wA.heap.size wA u) (h : RowAt u v (intVals xs)) (hx : ∀ x ∈ xs, W.i64 x) (hN : xs.length ≤ 1000000000) => numbers_any xs v u h hx hN (hEA.below hb))
  have CJ : Hid (∀ u v, Below wA.heap.size wA u → RowAt u v (strVals (keptWords ms)) → Calls Tryd.prog 15 #[v, .string ⟨#[32]⟩] u fun e u' => e = .returned (.string (ba (Lib.join (keptWords ms) [32]))) ∧ Below w.heap.size w u') := Lib.hid (by
    intro u v hu hr
    have t1 := W.join_len (keptWords ms)
    have t2 := kept_total ms hf
    have t3 := kept_len ms
    refine (join_any (keptWords ms) v u hr (by omega) (by omega)).mono ?_
    rintro e u' ⟨rfl, hb⟩
    exact ⟨rfl, (hbA.trans (hu.mono hbA.size)).trans (hb.mono (Nat.le_trans hbA.size hu.size))⟩)
  obtain ⟨a, c, rfl, hcell⟩ := hvA
  unfold noteCells at hwA kA ⊢
  rw [hk] at hwA kA ⊢
  have HF := Lib.hid hf
  have HKA := Lib.hid kA
  have HSA := Lib.hid hsA
  have HCELL := Lib.hid hcell
  have OWN0 := Lib.hid own0
  have BEL0 := Lib.hid bel0
  have HWA := Lib.hid hwA
  clear hres hk hE hv hEA hf hms kA hsA hcell own0 bel0 hwA
  go_enter Tryd.func12, Tryd.ntmps12
  go_wp2_with fail
  rw [← HWA.out]
  go_loopw [3, 33] (fun u i wr => KeptRel ms wA u i wr) (fun _ i _ => ms.length - (intOf i).toNat)
  case atStart =>
    refine ⟨0, Nat.zero_le _, rfl, ?_, BEL0.out⟩
    have := OWN0.out
    rw [HSA.out] at this ⊢
    exact this
  case round =>
    obtain ⟨k, hkk, rfl, hown, hbel⟩ := hrel
    by_cases hlt : k < ms.length
    · obtain ⟨b, off, rfl, hx⟩ := HCELL.out k hlt
      have hxr : ∀ j x, (markVals ms[k])[j]? = some x → wr.cell? ⟨b, off + k * 9 + j, none⟩ = some x := fun j x hj => by have := hx j x hj; rw [hbel.cell (cell_lt this)]; exact this
      have hfk := HF.out _ (List.getElem_mem hlt)
      have HNX := Lib.hid (kept_snoc hlt)
      obtain ⟨x, hxk⟩ : ∃ x, x = ms[k] := ⟨_, rfl⟩
      rw [← hxk] at hxr hfk HNX
      clear hx hxk
      have c0 := hxr 0 _ rfl
      rw [Nat.add_zero] at c0
      have c1 := hxr 1 _ rfl
      have c2 := hxr 2 _ rfl
      have c3 := hxr 3 _ rfl
      have c4 := hxr 4 _ rfl
      have c5 := hxr 5 _ rfl
      have c6 := hxr 6 _ rfl
      have c7 := hxr 7 _ rfl
      have c8 := hxr 8 _ rfl
      clear hxr
      go_wp2_with fail
      have hb3 := ((boxed wr (.cells #[.int .i64 x.serial, .int .i64 x.inode, .int .i64 x.gen, .int .i64 x.off, .int .i64 x.missed, .int .i64 x.gone, .int .i64 x.cuts, .int .i64 x.tails, .int .i64 x.long] 37)).alloc (by rw [alloc_size]; omega) (.cells #[.int .i64 x.missed, .int .i64 x.gone, .int .i64 x.cuts, .int .i64 x.tails, .int .i64 x.long] 35)).alloc (by rw [alloc_size, alloc_size]; omega) (.cells (intVals (W.markNums x)).toArray 3)
      have hrow := own_lits ((wr.alloc (.cells #[.int .i64 x.serial, .int .i64 x.inode, .int .i64 x.gen, .int .i64 x.off, .int .i64 x.missed, .int .i64 x.gone, .int .i64 x.cuts, .int .i64 x.tails, .int .i64 x.long] 37)).alloc (.cells #[.int .i64 x.missed, .int .i64 x.gone, .int .i64 x.cuts, .int .i64 x.tails, .int .i64 x.long] 35)) 3 (intVals (W.markNums x))
      rw [alloc_size, alloc_size] at hrow
      have hbel3 := hbel.trans (hb3.mono hbel.size)
      refine (CN.out (W.markNums x) _ _ hbel3 hrow hfk (by simp [W.markNums])).mono ?_
      rintro e1 w1 ⟨v1, rfl, hown1, hb1⟩
      have hownA := ownsRow_below (ownsRow_below hown hb3) hb1
      have hbelA := hbel3.trans (hb1.mono hbel3.size)
      have hrow1 : RowAt w1 v1 (strVals (numWords (W.markNums x))) := RowAt.of_own (by rw [strVals_len]; exact hown1)
      have hlen : (keptWords (ms.take k)).length + (strVals (numWords (W.markNums x))).length ≤ 1073741824 := by
        rw [kept_len, strVals_len, List.length_take]
        simp [numWords, W.markNums]
        omega
      obtain ⟨acc, hacc⟩ : ∃ acc, acc = keptWords (ms.take k) := ⟨_, rfl⟩
      obtain ⟨tl, htl⟩ : ∃ tl, tl = numWords (W.markNums x) := ⟨_, rfl⟩
      rw [← hacc] at hownA hlen HNX
      rw [← htl] at hrow1 hlen HNX
      clear hacc htl hrow hb3 hbel3 hown hbel hown1 hb1 c0 c1 c2 c3 c4 c5 c6 c7 c8
      go_wp2_with (at_builtin; refine push_row rfl _ _ rfl Tryd.underlying49 hi hz0 hz1 hz2 rfl rfl hownA rfl hrow1 (strs_flat _) hbelA ⟨hlen, by decide⟩ ?_)
      intro v4 w4 hown4 hbel4 hkeep
      have hown5 : w4.ownsRow wA.heap.size 9 1 v4 (acc ++ tl).length (strVals (acc ++ tl)) := by
        rw [List.length_append]
        rw [strVals_len] at hown4
        unfold strVals at hown4 ⊢
        rw [List.map_append]
        exact hown4
      rw [HNX.out] at hown5
      clear hkeep hown4 hownA hbelA hrow1 hlen
      go_wp2_with fail
      go_roundw
      case rel => exact ⟨k + 1, by omega, by go_num, hown5, hbel4⟩
      case measure => simp [intOf]; omega
    · have hrow : RowAt wr u3 (strVals (keptWords ms)) := by
        rw [List.take_of_length_le (by omega)] at hown
        exact RowAt.of_own (by rw [strVals_len]; exact hown)
      have hbw := hbA.trans (hbel.mono hbA.size)
      clear hown
      go_wp2_with fail
      refine (CJ.out _ _ hbel hrow).mono ?_
      rintro e1 w1 ⟨rfl, hb1⟩
      go_wp2_with fail
      go_ret
      unfold TellPost
      rw [HR.out]
      exact ⟨rfl, hb1⟩
/-- What Tell tells, of any note. -/
structure NoteAt (w : World) (n : W.Nt) (mv : Value) : Prop where
  at1 : AlertAt n
  marks : MarksAt w mv n.marks
  many : n.marks.length ≤ 4000000
theorem tell_any (n : W.Nt) (mv : Value) (w : World) (hn : NoteAt w n mv) (hE : Env w) : Calls Tryd.prog 12 #[.agg (noteCells n mv)] w (TellPost n w) := by
  by_cases h1 : n.kind = 1
  · exact tell_1 n mv w hn.at1 h1 hE
  by_cases h2 : n.kind = 2
  · exact tell_2 n mv w hn.at1 h2 hE
  by_cases h3 : n.kind = 3
  · exact tell_3 n mv w hn.at1 h3 hE
  by_cases h4 : n.kind = 4
  · exact tell_4 n mv w hn.marks hn.at1.fit.2.2.2.2 hn.many h4 hE
  by_cases h5 : n.kind = 5
  · exact tell_5 n mv w h5
  exact tell_else n mv w h1 h2 h3 h4 h5
end Go.Proofs.YtoihlclmilhpdaaDoor
