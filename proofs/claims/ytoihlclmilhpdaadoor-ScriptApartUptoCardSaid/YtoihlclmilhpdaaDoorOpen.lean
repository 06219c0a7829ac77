/- Arguments opened: events and notes; how much they hold. -/
import Derived.Test.YtoihlclmilhpdaaDoorW29
import Derived.Test.YtoihlclmilhpdaaDoorW30
import Derived.Test.YtoihlclmilhpdaaDoorRows
import Derived.Lib.SmallJoins
import Derived.Deep.Slices
import Derived.ChangeSlices
import Derived.OpenShut
namespace Go.Proofs.YtoihlclmilhpdaaDoor
open Go Go.RowKit Go.ChangeShapes Go.WideShapes Go.Deep Go.Joins

theorem bulk_one {H : Type} (d : DataW H) : 1 ≤ Rows.uptoBulk d := by
  cases d with
  | lit l => cases l <;> simp [Rows.uptoBulk]
  | nil => simp [Rows.uptoBulk]
  | ptr d => simp [Rows.uptoBulk]
  | slice elems spare => simp [Rows.uptoBulk]
  | agg parts => simp [Rows.uptoBulk]
  | iface t d => simp [Rows.uptoBulk]
  | map entries => simp [Rows.uptoBulk]
  | held h => simp [Rows.uptoBulk]
theorem bulk_len {H : Type} (l : List (DataW H)) : l.length ≤ Rows.uptoBulkAll l := by
  induction l with
  | nil => simp [Rows.uptoBulkAll]
  | cons x r ih => have := bulk_one x; simp only [Rows.uptoBulkAll, List.length_cons]; omega
theorem bulk_slice {H : Type} (elems spare : List (DataW H)) : elems.length ≤ Rows.uptoBulk (.slice elems spare) := by
  have := bulk_len elems
  simp only [Rows.uptoBulk]; omega
theorem spot_none {w : World} {a : Addr} {v : Value} (h : w.cell? a = some v) : a.spot = none := by
  unfold World.cell? at h
  split at h
  · split at h
    · cases h
    · rename_i hs; simpa using hs
  · cases h
theorem list5 {α : Type} {l : List α} (h : l.length = 5) : ∃ a b c d e, l = [a, b, c, d, e] := by
  match l, h with
  | [a, b, c, d, e], _ => exact ⟨a, b, c, d, e, rfl⟩
theorem list4 {α : Type} {l : List α} (h : l.length = 4) : ∃ a b c d, l = [a, b, c, d] := by
  match l, h with
  | [a, b, c, d], _ => exact ⟨a, b, c, d, rfl⟩
theorem list7 {α : Type} {l : List α} (h : l.length = 7) : ∃ a b c d e f g, l = [a, b, c, d, e, f, g] := by
  match l, h with
  | [a, b, c, d, e, f, g], _ => exact ⟨a, b, c, d, e, f, g, rfl⟩
theorem list9 {α : Type} {l : List α} (h : l.length = 9) : ∃ a b c d e f g i j, l = [a, b, c, d, e, f, g, i, j] := by
  match l, h with
  | [a, b, c, d, e, f, g, i, j], _ => exact ⟨a, b, c, d, e, f, g, i, j, rfl⟩
theorem list12 {α : Type} {l : List α} (h : l.length = 12) : ∃ a b c d e f g i j k m n, l = [a, b, c, d, e, f, g, i, j, k, m, n] := by
  match l, h with
  | [a, b, c, d, e, f, g, i, j, k, m, n], _ => exact ⟨a, b, c, d, e, f, g, i, j, k, m, n, rfl⟩
theorem list15 {α : Type} {l : List α} (h : l.length = 15) : ∃ a b c d e f g i j k m n o p q, l = [a, b, c, d, e, f, g, i, j, k, m, n, o, p, q] := by
  match l, h with
  | [a, b, c, d, e, f, g, i, j, k, m, n, o, p, q], _ => exact ⟨a, b, c, d, e, f, g, i, j, k, m, n, o, p, q, rfl⟩
theorem cInt : Tryd.prog.cellsOf 3 = 1 := by kernel_rfl
theorem cStr : Tryd.prog.cellsOf 9 = 1 := by kernel_rfl
theorem cBool : Tryd.prog.cellsOf 4 = 1 := by kernel_rfl
theorem cInts : Tryd.prog.cellsOf 22 = 1 := by kernel_rfl
theorem cU32 : Tryd.prog.cellsOf 38 = 1 := by kernel_rfl
theorem cEv : Tryd.prog.cellsOf 24 = 7 := by kernel_rfl
theorem cLoss : Tryd.prog.cellsOf 35 = 5 := by kernel_rfl
theorem cMark : Tryd.prog.cellsOf 37 = 9 := by kernel_rfl
theorem cAlert : Tryd.prog.cellsOf 40 = 12 := by kernel_rfl
theorem cNote : Tryd.prog.cellsOf 43 = 15 := by kernel_rfl
theorem cMarks : Tryd.prog.cellsOf 41 = 1 := by kernel_rfl

section
variable {H : Type} {enc : TypeId × Value → H} {wr : World}

theorem wf64 {n : Int} (h : (Lit.int .i64 n).wf = true) : W.i64 n := by
  exact bounds_i64 h
/-- A slice of integers that came in. -/
theorem trod_ints {fuel : Nat} {v : Value} {x : DataW H × List MemPlace} (h : DataW.trod enc Tryd.prog wr 0 (fun _ => true) true fuel 22 [v] = some x) :
    ∃ l : List Int, RowAt wr v (intVals l) ∧ (∀ n ∈ l, W.i64 n) ∧ l.length ≤ Rows.uptoBulk x.1 := by
  rcases open_ints Tryd.underlying22 Tryd.underlying3 cInt h with ⟨hc, rfl⟩ | ⟨a, len, cap, zs, hc, _, hl, _, hz, rfl, hcell, hwf⟩
  · simp only [List.cons.injEq, and_true] at hc
    subst hc
    exact ⟨[], Or.inl ⟨rfl, Or.inl rfl⟩, by simp, by simp⟩
  · simp only [List.cons.injEq, and_true] at hc
    subst hc
    simp only [if_true] at hz
    refine ⟨zs.take len, ?_, fun n hn => wf64 (hwf n (List.mem_of_mem_take hn)), ?_⟩
    · cases len with
      | zero => exact Or.inl ⟨by simp [intVals], Or.inr ⟨a, cap, rfl⟩⟩
      | succ len =>
        have hs := spot_none (hcell 0 (by omega))
        simp only [Addr.add, if_true] at hs
        obtain ⟨b, off, sp⟩ := a
        simp only at hs
        subst hs
        refine Or.inr ⟨b, off, cap, by simp [intVals]; omega, by simp [intVals]; omega, ?_⟩
        intro i y hi
        have hi' : i < len + 1 := by
          rcases Nat.lt_or_ge i (len + 1) with h | h
          · exact h
          · rw [List.getElem?_eq_none (by simp [intVals]; omega)] at hi; cases hi
        have := hcell i (by omega)
        have e : (⟨b, off, none⟩ : Addr).add i = ⟨b, off + i, none⟩ := by unfold Addr.add; split <;> simp_all
        rw [e] at this
        rw [this, ← hi]
        simp [intVals, List.getD_eq_getElem?_getD, hi', List.getElem?_eq_getElem (show i < zs.length by omega)]
    · refine Nat.le_trans ?_ (bulk_slice _ _)
      simp [lits]
set_option maxRecDepth 10000 in
theorem trod_ev {fuel : Nat} {cs : List Value} {x : DataW H × List MemPlace} (h : DataW.trod enc Tryd.prog wr 0 (fun _ => true) true fuel 24 cs = some x) :
    ∃ (e : W.Ev) (kv : Value), cs = (evCells e kv).toList ∧ RowAt wr kv (intVals e.keep) ∧ e.fit ∧ e.name.length + e.other.length + e.data.length + e.keep.length ≤ Rows.uptoBulk x.1 := by
  obtain ⟨xs, n, _, rfl, hl, hlen, hf⟩ := DataW.trod_struct Tryd.underlying24 h
  obtain ⟨c0, c1, c2, c3, c4, c5, c6, rfl⟩ := list7 (hl.trans cEv)
  obtain ⟨y0, y1, y2, y3, y4, y5, y6, rfl⟩ := list7 hlen
  have e0 := hf 0 _ rfl
  have e1 := hf 1 _ rfl
  have e2 := hf 2 _ rfl
  have e3 := hf 3 _ rfl
  have e4 := hf 4 _ rfl
  have e5 := hf 5 _ rfl
  have e6 := hf 6 _ rfl
  simp [cInt, cStr, cBool, cInts] at e0 e1 e2 e3 e4 e5 e6
  obtain ⟨k, h0, r0, _⟩ := DataW.trod_int Tryd.underlying3 e0
  obtain ⟨s1, h1, r1, _⟩ := DataW.trod_string Tryd.underlying9 e1
  obtain ⟨s2, h2, r2, _⟩ := DataW.trod_string Tryd.underlying9 e2
  obtain ⟨s3, h3, r3, _⟩ := DataW.trod_string Tryd.underlying9 e3
  obtain ⟨m, h4, r4, w4⟩ := DataW.trod_int Tryd.underlying3 e4
  obtain ⟨b, h5, r5⟩ := DataW.trod_bool Tryd.underlying4 e5
  obtain ⟨l, hrow, hi, hb⟩ := trod_ints e6
  simp only [List.cons.injEq, and_true] at h0 h1 h2 h3 h4 h5
  refine ⟨{ kind := k, name := s1.data.toList, other := s2.data.toList, data := s3.data.toList, n := m, yes := b, keep := l }, c6, ?_, hrow, ⟨wf64 w4, hi⟩, ?_⟩
  · simp [evCells, h0, h1, h2, h3, h4, h5]
  · simp only [List.map_cons, List.map_nil, Rows.uptoBulk, Rows.uptoBulkAll, r1, r2, r3]
    omega

set_option maxRecDepth 10000 in
theorem trod_mark {fuel : Nat} {cs : List Value} {x : DataW H × List MemPlace} (h : DataW.trod enc Tryd.prog wr 0 (fun _ => true) true fuel 37 cs = some x) : ∃ m : W.Mk, cs = markVals m ∧ m.fit := by
  obtain ⟨xs, n, _, rfl, hl, hlen, hf⟩ := DataW.trod_struct Tryd.underlying37 h
  obtain ⟨c0, c1, c2, c3, c4, c5, c6, c7, c8, rfl⟩ := list9 (hl.trans cMark)
  obtain ⟨y0, y1, y2, y3, y4, rfl⟩ := list5 hlen
  have e0 := hf 0 _ rfl
  have e1 := hf 1 _ rfl
  have e2 := hf 2 _ rfl
  have e3 := hf 3 _ rfl
  have e4 := hf 4 _ rfl
  simp [cInt, cLoss] at e0 e1 e2 e3 e4
  obtain ⟨k0, h0, _, w0⟩ := DataW.trod_int Tryd.underlying3 e0
  obtain ⟨k1, h1, _, w1⟩ := DataW.trod_int Tryd.underlying3 e1
  obtain ⟨k2, h2, _, w2⟩ := DataW.trod_int Tryd.underlying3 e2
  obtain ⟨k3, h3, _, w3⟩ := DataW.trod_int Tryd.underlying3 e3
  obtain ⟨xs', n', _, _, _, hlen', hf'⟩ := DataW.trod_struct Tryd.underlying35 e4
  obtain ⟨z0, z1, z2, z3, z4, rfl⟩ := list5 hlen'
  have g0 := hf' 0 _ rfl
  have g1 := hf' 1 _ rfl
  have g2 := hf' 2 _ rfl
  have g3 := hf' 3 _ rfl
  have g4 := hf' 4 _ rfl
  simp [cInt] at g0 g1 g2 g3 g4
  obtain ⟨k4, h4, _, w4⟩ := DataW.trod_int Tryd.underlying3 g0
  obtain ⟨k5, h5, _, w5⟩ := DataW.trod_int Tryd.underlying3 g1
  obtain ⟨k6, h6, _, w6⟩ := DataW.trod_int Tryd.underlying3 g2
  obtain ⟨k7, h7, _, w7⟩ := DataW.trod_int Tryd.underlying3 g3
  obtain ⟨k8, h8, _, w8⟩ := DataW.trod_int Tryd.underlying3 g4
  simp only [List.cons.injEq, and_true] at h0 h1 h2 h3 h4 h5 h6 h7 h8
  refine ⟨{ serial := k0, inode := k1, gen := k2, off := k3, missed := k4, gone := k5, cuts := k6, tails := k7, long := k8 }, ?_, ?_⟩
  · simp [markVals, W.markNums, h0, h1, h2, h3, h4, h5, h6, h7, h8]
  · intro y hy
    simp only [W.markNums, List.mem_cons, List.mem_nil_iff, or_false] at hy
    rcases hy with rfl | rfl | rfl | rfl | rfl | rfl | rfl | rfl | rfl <;> exact wf64 (by assumption)
theorem trod_marks {fuel : Nat} {v : Value} {x : DataW H × List MemPlace} (h : DataW.trod enc Tryd.prog wr 0 (fun _ => true) true fuel 41 [v] = some x) :
    ∃ l : List W.Mk, MarksAt wr v l ∧ (∀ m ∈ l, m.fit) ∧ l.length ≤ Rows.uptoBulk x.1 := by
  rcases open_slice Tryd.underlying41 h with ⟨hc, rfl⟩ | ⟨a, len, cap, m, n, D, Pl, hc, _, hl, _, hm, rfl, hx⟩
  · simp only [List.cons.injEq, and_true] at hc
    subst hc
    exact ⟨[], ⟨none, 0, rfl, fun k hk => absurd hk (by simp)⟩, by simp, by simp⟩
  · simp only [List.cons.injEq, and_true] at hc
    subst hc
    simp only [if_true] at hm
    subst hm
    rw [cMark] at hx
    have : Inhabited W.Mk := ⟨{}⟩
    obtain ⟨V, hV⟩ := choose_lt (α := W.Mk) (n := m) (p := fun i k => k.fit ∧ ∀ j y, (markVals k)[j]? = some y → wr.cell? ((a.add (i * 9)).add j) = some y) (fun i hi => by
      obtain ⟨cs, hcs, ht⟩ := hx i hi
      obtain ⟨k, rfl, hk⟩ := trod_mark ht
      obtain ⟨_, hlen, hat⟩ := World.cells?_some hcs
      refine ⟨k, hk, fun j y hj => ?_⟩
      have hj9 : j < 9 := by
        rcases Nat.lt_or_ge j 9 with h | h
        · exact h
        · rw [List.getElem?_eq_none (by omega)] at hj; cases hj
      rw [hat j hj9, hj])
    refine ⟨(List.range len).map V, ⟨some a, m, by simp, ?_⟩, ?_, ?_⟩
    · intro k hk
      have hk' : k < len := by simpa using hk
      have hs : a.spot = none := by
        have := (hV 0 (by omega)).2 0 (.int .i64 (V 0).serial) rfl
        simpa [Addr.add] using spot_none this
      obtain ⟨b, off, sp⟩ := a
      simp only at hs
      subst hs
      refine ⟨b, off, rfl, fun j y hj => ?_⟩
      have e0 : ((List.range len).map V)[k] = V k := by simp
      rw [e0] at hj
      have := (hV k (by omega)).2 j y hj
      have e : (((⟨b, off, none⟩ : Addr).add (k * 9)).add j) = ⟨b, off + k * 9 + j, none⟩ := by
        unfold Addr.add
        split <;> split <;> simp_all
      rw [e] at this
      exact this
    · intro k hk
      simp only [List.mem_map, List.mem_range] at hk
      obtain ⟨i, hi, rfl⟩ := hk
      exact (hV i (by omega)).1
    · refine Nat.le_trans ?_ (bulk_slice _ _)
      simp
set_option maxRecDepth 10000 in
theorem trod_note {fuel : Nat} {cs : List Value} {x : DataW H × List MemPlace} (h : DataW.trod enc Tryd.prog wr 0 (fun _ => true) true fuel 43 cs = some x) :
    ∃ (e : W.Nt) (mv : Value), cs = (noteCells e mv).toList ∧ MarksAt wr mv e.marks ∧ e.fit ∧ (0 ≤ e.rules ∧ e.rules < 4294967296) ∧ e.text.length + e.marks.length ≤ Rows.uptoBulk x.1 := by
  obtain ⟨xs, n, _, rfl, hl, hlen, hf⟩ := DataW.trod_struct Tryd.underlying43 h
  obtain ⟨c0, c1, c2, c3, c4, c5, c6, c7, c8, c9, c10, c11, c12, c13, c14, rfl⟩ := list15 (hl.trans cNote)
  obtain ⟨y0, y1, y2, y3, rfl⟩ := list4 hlen
  have e0 := hf 0 _ rfl
  have e1 := hf 1 _ rfl
  have e2 := hf 2 _ rfl
  have e3 := hf 3 _ rfl
  simp [cInt, cAlert, cMarks] at e0 e1 e2 e3
  obtain ⟨k, h0, _, _⟩ := DataW.trod_int Tryd.underlying3 e0
  obtain ⟨k2, h2, _, w2⟩ := DataW.trod_int Tryd.underlying3 e2
  obtain ⟨l, hml, hlf, hlb⟩ := trod_marks e3
  obtain ⟨xs', n', _, r1, _, hlen', hf'⟩ := DataW.trod_struct Tryd.underlying40 e1
  obtain ⟨z0, z1, z2, z3, rfl⟩ := list4 hlen'
  have g0 := hf' 0 _ rfl
  have g1 := hf' 1 _ rfl
  have g2 := hf' 2 _ rfl
  have g3 := hf' 3 _ rfl
  simp [cInt, cMark, cStr, cU32] at g0 g1 g2 g3
  obtain ⟨p, hp, _, wp⟩ := DataW.trod_int Tryd.underlying3 g0
  obtain ⟨mk, hmk, hmf⟩ := trod_mark g1
  obtain ⟨s, hs, rs, _⟩ := DataW.trod_string Tryd.underlying9 g2
  obtain ⟨r, hr, _, wr'⟩ := DataW.trod_int Tryd.underlying38 g3
  have hru := bounds_u32 wr'
  simp only [List.cons.injEq, and_true, markVals, W.markNums, List.map_cons, List.map_nil] at h0 h2 hp hmk hs hr
  obtain ⟨m0, m1, m2, m3, m4, m5, m6, m7, m8⟩ := hmk
  refine ⟨{ kind := k, path := p, mark := mk, text := s.data.toList, rules := r, attempt := k2, marks := l }, c14, ?_, hml, ⟨wf64 wp, hmf, show W.i64 r from ⟨by omega, by omega⟩, wf64 w2, hlf⟩, show 0 ≤ r ∧ r < 4294967296 from ⟨hru.1, by omega⟩, ?_⟩
  · simp [noteCells, h0, h2, hp, hs, hr, m0, m1, m2, m3, m4, m5, m6, m7, m8]
  · simp only [List.map_cons, List.map_nil, Rows.uptoBulk, Rows.uptoBulkAll, r1, rs]
    omega
end
end Go.Proofs.YtoihlclmilhpdaaDoor
