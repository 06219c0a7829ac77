/- Walks: told of the program: what a letter tells of an event. -/
import Derived.Test.YtoihlclmilhpdaaDoorW8
import Derived.Test.YtoihlclmilhpdaaDoorW9
namespace Go.Proofs.YtoihlclmilhpdaaDoor
open Go Go.RowKit

abbrev ba (l : W.Bs) : ByteArray := ⟨l.toArray⟩
theorem ba_list (l : W.Bs) : (ba l).data.toList = l := by simp
theorem ba_size (l : W.Bs) : (ba l).size = l.length := by rw [← size_list, ba_list]
theorem list_ba (s : ByteArray) : ba s.data.toList = s := Lib.mk_data s

def evCells (e : W.Ev) (kv : Value) : Array Value := #[.int .i64 e.kind, .string (ba e.name), .string (ba e.other), .string (ba e.data), .int .i64 e.n, .bool e.yes, kv]
/-- An event as a value: its list of numbers lies in memory. -/
structure EvAt (w : World) (e : W.Ev) (kv : Value) : Prop where
  keep : RowAt w kv (intVals e.keep)
  fit : e.fit
  name : e.name.length ≤ 10000000
  other : e.other.length ≤ 10000000
  data : e.data.length ≤ 10000000
  many : e.keep.length ≤ 10000000
theorem EvAt.below {w w' : World} {e : W.Ev} {kv : Value} (h : EvAt w e kv) (hb : Below w.heap.size w w') : EvAt w' e kv := ⟨h.keep.below hb, h.fit, h.name, h.other, h.data, h.many⟩

theorem _root_.Go.World.ownsRow.mono_base {w : World} {b b' e size n : Nat} {v : Value} {xs : List Value} (h : w.ownsRow b e size v n xs) (hb : b' ≤ b) : w.ownsRow b' e size v n xs :=
  ⟨h.1, h.2.imp id fun ⟨g, cap, cur, h1, h2, h3⟩ => ⟨g, cap, cur, h1, Nat.le_trans hb h2, h3⟩⟩
theorem alloc_size (w : World) (o : Obj) : (w.alloc o).heap.size = w.heap.size + 1 := by show (w.heap.push _).size = _; simp
theorem own_lit (w : World) (base e : Nat) (x : Value) (hb : base ≤ w.heap.size) : (w.alloc (.cells #[x] e)).ownsRow base e 1 (.slice (some ⟨w.heap.size, 0, none⟩) 1 1) 1 [x] := by
  refine ⟨rfl, Or.inr ⟨w.heap.size, 1, #[x], rfl, hb, ?_, Nat.le_refl _, by unfold maxLen; omega, rfl, rfl⟩⟩
  show (w.heap.push _)[w.heap.size]? = _
  simp

theorem words_one {w w1 : World} {x : W.Bs} (hb : Below w.heap.size w w1) : (w1.alloc (.cells #[.string (ba x)] 9)).ownsRow w.heap.size 9 1 (.slice (some ⟨w1.heap.size, 0, none⟩) 1 1) [x].length (strVals [x]) :=
  own_lit w1 w.heap.size 9 (.string (ba x)) hb.size

theorem boxed (w : World) (o : Obj) : Below w.heap.size w (w.alloc o) := (Below.refl _ _).alloc (Nat.le_refl _) _

set_option maxHeartbeats 1000000 in
set_option maxRecDepth 100000 in
theorem told_n (e : W.Ev) (kv : Value) (w : World) (hv : EvAt w e kv) (hE : Env w) :
    Calls Tryd.prog 14 #[.int .i32 110, .agg (evCells e kv)] w (WordsOwn (W.toldL 110 e) w) := by
  have hb0 := boxed w (.cells (evCells e kv) 24)
  have CQ := quote_any (ba e.name) (w.alloc (.cells (evCells e kv) 24)) (by rw [ba_size]; have := hv.name; omega) (hE.below hb0)
  have hs : W.toldL 110 e = [W.quote e.name] := rfl
  rw [hs]
  unfold QuotePost quoteBA at CQ
  rw [ba_list] at CQ
  unfold evCells at CQ hb0 ⊢
  have CH := Lib.hid CQ
  clear CQ hs hE hv
  go_enter Tryd.func14, Tryd.ntmps14
  go_wp2_with fail
  refine CH.out.mono ?_
  rintro e1 w1 ⟨rfl, hb1⟩
  have hb := hb0.trans (hb1.mono hb0.size)
  clear hb1 hb0 CH
  go_wp2_with fail
  go_ret
  exact ⟨_, rfl, words_one hb, hb.alloc hb.size _⟩
set_option maxHeartbeats 1000000 in
set_option maxRecDepth 100000 in
theorem told_o (e : W.Ev) (kv : Value) (w : World) (hv : EvAt w e kv) (hE : Env w) :
    Calls Tryd.prog 14 #[.int .i32 111, .agg (evCells e kv)] w (WordsOwn (W.toldL 111 e) w) := by
  have hb0 := boxed w (.cells (evCells e kv) 24)
  have CQ := quote_any (ba e.other) (w.alloc (.cells (evCells e kv) 24)) (by rw [ba_size]; have := hv.other; omega) (hE.below hb0)
  have hs : W.toldL 111 e = [W.quote e.other] := rfl
  rw [hs]
  unfold QuotePost quoteBA at CQ
  rw [ba_list] at CQ
  unfold evCells at CQ hb0 ⊢
  have CH := Lib.hid CQ
  clear CQ hs hE hv
  go_enter Tryd.func14, Tryd.ntmps14
  go_wp2_with fail
  refine CH.out.mono ?_
  rintro e1 w1 ⟨rfl, hb1⟩
  have hb := hb0.trans (hb1.mono hb0.size)
  clear hb1 hb0 CH
  go_wp2_with fail
  go_ret
  exact ⟨_, rfl, words_one hb, hb.alloc hb.size _⟩
set_option maxHeartbeats 1000000 in
set_option maxRecDepth 100000 in
theorem told_d (e : W.Ev) (kv : Value) (w : World) (hv : EvAt w e kv) (hE : Env w) :
    Calls Tryd.prog 14 #[.int .i32 100, .agg (evCells e kv)] w (WordsOwn (W.toldL 100 e) w) := by
  have hb0 := boxed w (.cells (evCells e kv) 24)
  have CQ := quote_any (ba e.data) (w.alloc (.cells (evCells e kv) 24)) (by rw [ba_size]; have := hv.data; omega) (hE.below hb0)
  have hs : W.toldL 100 e = [W.quote e.data] := rfl
  rw [hs]
  unfold QuotePost quoteBA at CQ
  rw [ba_list] at CQ
  unfold evCells at CQ hb0 ⊢
  have CH := Lib.hid CQ
  clear CQ hs hE hv
  go_enter Tryd.func14, Tryd.ntmps14
  go_wp2_with fail
  refine CH.out.mono ?_
  rintro e1 w1 ⟨rfl, hb1⟩
  have hb := hb0.trans (hb1.mono hb0.size)
  clear hb1 hb0 CH
  go_wp2_with fail
  go_ret
  exact ⟨_, rfl, words_one hb, hb.alloc hb.size _⟩
set_option maxHeartbeats 1000000 in
set_option maxRecDepth 100000 in
theorem told_y (e : W.Ev) (kv : Value) (w : World) :
    Calls Tryd.prog 14 #[.int .i32 121, .agg (evCells e kv)] w (WordsOwn (W.toldL 121 e) w) := by
  have hb0 := boxed w (.cells (evCells e kv) 24)
  cases hy : e.yes with
  | true =>
    have hs : W.toldL 121 e = [W.yesB] := by unfold W.toldL; rw [hy]; rfl
    rw [hs]
    have own := words_one (x := W.yesB) hb0
    rw [alloc_size] at own
    have OWN := Lib.hid own
    clear own
    unfold evCells at hb0 OWN ⊢
    rw [hy] at hb0 OWN ⊢
    clear hs hy
    go_enter Tryd.func14, Tryd.ntmps14
    go_wp2
    go_ret
    exact ⟨_, rfl, OWN.out, hb0.alloc hb0.size _⟩
  | false =>
    have hs : W.toldL 121 e = [W.noB] := by unfold W.toldL; rw [hy]; rfl
    rw [hs]
    have own := words_one (x := W.noB) hb0
    rw [alloc_size] at own
    have OWN := Lib.hid own
    clear own
    unfold evCells at hb0 OWN ⊢
    rw [hy] at hb0 OWN ⊢
    clear hs hy
    go_enter Tryd.func14, Tryd.ntmps14
    go_wp2
    go_ret
    exact ⟨_, rfl, OWN.out, hb0.alloc hb0.size _⟩

set_option maxHeartbeats 1000000 in
set_option maxRecDepth 100000 in
theorem told_k (e : W.Ev) (kv : Value) (w : World) (hv : EvAt w e kv) (hE : Env w) :
    Calls Tryd.prog 14 #[.int .i32 107, .agg (evCells e kv)] w (WordsOwn (W.toldL 107 e) w) := by
  have hb0 := boxed w (.cells (evCells e kv) 24)
  have CN := numbers_any e.keep kv (w.alloc (.cells (evCells e kv) 24)) (hv.keep.below hb0) hv.fit.2 (by have := hv.many; omega) (hE.below hb0)
  have hs : W.toldL 107 e = numWords e.keep := rfl
  rw [hs]
  unfold evCells at CN hb0 ⊢
  have CH := Lib.hid CN
  clear CN hs hE hv
  go_enter Tryd.func14, Tryd.ntmps14
  go_wp2_with fail
  refine CH.out.mono ?_
  rintro e1 w1 ⟨v, rfl, hown, hb1⟩
  have hb := hb0.trans (hb1.mono hb0.size)
  have hown' := hown.mono_base hb0.size
  clear hb1 hb0 CH hown
  go_wp2_with fail
  go_ret
  exact ⟨_, rfl, hown', hb⟩

set_option maxHeartbeats 1000000 in
set_option maxRecDepth 100000 in
theorem told_i (c : Int) (e : W.Ev) (kv : Value) (w : World) (hv : EvAt w e kv) (hE : Env w) (hc : c ≠ 110 ∧ c ≠ 111 ∧ c ≠ 100 ∧ c ≠ 121 ∧ c ≠ 107) :
    Calls Tryd.prog 14 #[.int .i32 c, .agg (evCells e kv)] w (WordsOwn (W.toldL c e) w) := by
  have hb0 := boxed w (.cells (evCells e kv) 24)
  have hb1 := hb0.alloc hb0.size (.cells #[.int .i64 e.n] 3)
  have hr : RowAt ((w.alloc (.cells (evCells e kv) 24)).alloc (.cells #[.int .i64 e.n] 3)) (.slice (some ⟨(w.alloc (.cells (evCells e kv) 24)).heap.size, 0, none⟩) 1 1) (intVals [e.n]) :=
    RowAt.of_own (own_lit _ 0 3 _ (Nat.zero_le _))
  have CN := numbers_any [e.n] _ _ hr (by intro x hx; simp at hx; subst hx; exact hv.fit.1) (by simp) (hE.below hb1)
  have hs : W.toldL c e = numWords [e.n] := by
    unfold W.toldL
    rw [if_neg hc.1, if_neg hc.2.1, if_neg hc.2.2.1, if_neg hc.2.2.2.1, if_neg hc.2.2.2.2]; rfl
  rw [hs]
  have q1 : (c == 110) = false := by simpa using hc.1
  have q2 : (c == 111) = false := by simpa using hc.2.1
  have q3 : (c == 100) = false := by simpa using hc.2.2.1
  have q4 : (c == 121) = false := by simpa using hc.2.2.2.1
  have q5 : (c == 107) = false := by simpa using hc.2.2.2.2
  rw [alloc_size] at CN
  unfold evCells at CN hb1 ⊢
  have CH := Lib.hid CN
  clear CN hs hE hv hb0 hr hc
  go_enter Tryd.func14, Tryd.ntmps14
  go_wp2_with fail
  refine CH.out.mono ?_
  rintro e1 w1 ⟨v, rfl, hown, hb2⟩
  have hb := hb1.trans (hb2.mono hb1.size)
  have hown' := hown.mono_base hb1.size
  clear hb1 hb2 CH hown
  go_wp2_with fail
  go_ret
  exact ⟨_, rfl, hown', hb⟩

theorem told_any (c : Int) (e : W.Ev) (kv : Value) (w : World) (hv : EvAt w e kv) (hE : Env w) :
    Calls Tryd.prog 14 #[.int .i32 c, .agg (evCells e kv)] w (WordsOwn (W.toldL c e) w) := by
  by_cases h1 : c = 110
  · subst h1; exact told_n e kv w hv hE
  · by_cases h2 : c = 111
    · subst h2; exact told_o e kv w hv hE
    · by_cases h3 : c = 100
      · subst h3; exact told_d e kv w hv hE
      · by_cases h4 : c = 121
        · subst h4; exact told_y e kv w
        · by_cases h5 : c = 107
          · subst h5; exact told_k e kv w hv hE
          · exact told_i c e kv w hv hE ⟨h1, h2, h3, h4, h5⟩
end Go.Proofs.YtoihlclmilhpdaaDoor
