/- Walks: ScriptApart. -/
import Derived.Test.YtoihlclmilhpdaaDoorW31
import Derived.Test.YtoihlclmilhpdaaDoorW28
namespace Go.Proofs.YtoihlclmilhpdaaDoor
open Go Go.RowKit

/-- A note's fifteen cells in a block. -/
def C15 (u : World) (b : Nat) (x : W.Nt) (mv : Value) : Prop :=
  u.cell? ⟨b, 0, none⟩ = some (.int .i64 x.kind) ∧ u.cell? ⟨b, 1, none⟩ = some (.int .i64 x.path) ∧ u.cell? ⟨b, 2, none⟩ = some (.int .i64 x.mark.serial) ∧ u.cell? ⟨b, 3, none⟩ = some (.int .i64 x.mark.inode) ∧ u.cell? ⟨b, 4, none⟩ = some (.int .i64 x.mark.gen) ∧ u.cell? ⟨b, 5, none⟩ = some (.int .i64 x.mark.off) ∧ u.cell? ⟨b, 6, none⟩ = some (.int .i64 x.mark.missed) ∧ u.cell? ⟨b, 7, none⟩ = some (.int .i64 x.mark.gone) ∧ u.cell? ⟨b, 8, none⟩ = some (.int .i64 x.mark.cuts) ∧ u.cell? ⟨b, 9, none⟩ = some (.int .i64 x.mark.tails) ∧ u.cell? ⟨b, 10, none⟩ = some (.int .i64 x.mark.long) ∧ u.cell? ⟨b, 11, none⟩ = some (.string (ba x.text)) ∧ u.cell? ⟨b, 12, none⟩ = some (.int .u32 x.rules) ∧ u.cell? ⟨b, 13, none⟩ = some (.int .i64 x.attempt) ∧ u.cell? ⟨b, 14, none⟩ = some (mv)
theorem C15.of_block {u : World} {b : Nat} {x : W.Nt} {mv : Value} (h : u.heap[b]? = some (.cells (noteCells x mv) 43 (0, 0))) : C15 u b x mv :=
  ⟨cell_of_row u b 0 _ _ _ h, cell_of_row u b 1 _ _ _ h, cell_of_row u b 2 _ _ _ h, cell_of_row u b 3 _ _ _ h, cell_of_row u b 4 _ _ _ h, cell_of_row u b 5 _ _ _ h, cell_of_row u b 6 _ _ _ h, cell_of_row u b 7 _ _ _ h, cell_of_row u b 8 _ _ _ h, cell_of_row u b 9 _ _ _ h, cell_of_row u b 10 _ _ _ h, cell_of_row u b 11 _ _ _ h, cell_of_row u b 12 _ _ _ h, cell_of_row u b 13 _ _ _ h, cell_of_row u b 14 _ _ _ h⟩
theorem C15.below {u u' : World} {b : Nat} {x : W.Nt} {mv : Value} (h : C15 u b x mv) (hb : Below u.heap.size u u') : C15 u' b x mv :=
  ⟨cellB h.1 hb, cellB h.2.1 hb, cellB h.2.2.1 hb, cellB h.2.2.2.1 hb, cellB h.2.2.2.2.1 hb, cellB h.2.2.2.2.2.1 hb, cellB h.2.2.2.2.2.2.1 hb, cellB h.2.2.2.2.2.2.2.1 hb, cellB h.2.2.2.2.2.2.2.2.1 hb, cellB h.2.2.2.2.2.2.2.2.2.1 hb, cellB h.2.2.2.2.2.2.2.2.2.2.1 hb, cellB h.2.2.2.2.2.2.2.2.2.2.2.1 hb, cellB h.2.2.2.2.2.2.2.2.2.2.2.2.1 hb, cellB h.2.2.2.2.2.2.2.2.2.2.2.2.2.1 hb, cellB h.2.2.2.2.2.2.2.2.2.2.2.2.2.2 hb⟩

theorem alert_total {first : W.Bs} (hf : first.length ≤ 100) {n : W.Nt} (hn : AlertAt n) {more : List Int} (hm : ∀ x ∈ more, W.i64 x) (hml : more.length ≤ 1) : W.total (W.alertWords first n more) ≤ 100000000 := by
  have fitP : ∀ x ∈ W.placeNums n, W.i64 x := W.place_fit hn.fit
  have t3 := W.total_itoa (W.placeNums n) fitP
  have t4 := W.total_itoa more hm
  have t5 := W.itoa_len n.rules hn.fit.2.2.1
  have t6 := W.quote_length n.text
  have t7 := hn.text
  have t8 : (W.placeNums n).length = 5 := by simp [W.placeNums]
  unfold W.alertWords
  rw [W.total_cons, W.total_append, W.total_append, W.total_cons, W.total_cons, W.total_nil]
  omega
theorem tell_size {n : W.Nt} {mv : Value} {w : World} (hn : NoteAt w n mv) : (W.tellL n).length ≤ 1000000000 := by
  unfold W.tellL
  have h1 := W.join_len (W.tellWords n)
  have h2 : W.total (W.tellWords n) ≤ 900000000 := by
    unfold W.tellWords
    split
    · have := alert_total (first := W.sentB) (by decide) hn.at1 (more := [n.attempt]) (by intro x hx; simp at hx; subst hx; exact hn.at1.fit.2.2.2.1) (by simp)
      omega
    · split
      · have := alert_total (first := W.doneB) (by decide) hn.at1 (more := []) (by intro x hx; simp at hx) (by simp)
        omega
      · split
        · have := alert_total (first := W.backB) (by decide) hn.at1 (more := []) (by intro x hx; simp at hx) (by simp)
          omega
        · split
          · have := kept_total n.marks hn.at1.fit.2.2.2.2
            have h := hn.many
            unfold keptWords at this
            omega
          · split
            · simp [W.total, W.crashB]
            · simp [W.total, W.noneB]
  omega
theorem noLf_tell (n : W.Nt) : noLf (W.tellL n) = true := by
  unfold noLf
  rw [List.all_eq_true]
  intro c hc
  have h := W.tell_line n c hc
  unfold W.lineB at h
  have h2 : c ≠ 10 := by intro e; rw [e] at h; revert h; decide
  simpa using h2
theorem NoteAt.below {w w' : World} {n : W.Nt} {mv : Value} (h : NoteAt w n mv) (hb : Below w.heap.size w w') : NoteAt w' n mv := ⟨h.at1, h.marks.below hb, h.many⟩
theorem tells {n : W.Nt} {mv : Value} {w : World} (hn : NoteAt w n mv) (hE : Env w) (s : ByteArray) (hs : s = ba (W.tellL n)) : ∀ u, Below w.heap.size w u → Calls Tryd.prog 12 #[.agg (noteCells n mv)] u (fun e u' => e = .returned (.string s) ∧ Below u.heap.size u u') := by
  intro u hu
  refine (tell_any n mv u (hn.below hu) (hE.below hu)).mono ?_
  unfold TellPost
  rintro e u' ⟨rfl, hb⟩
  rw [hs]
  exact ⟨rfl, hb⟩
theorem told_one {n : W.Nt} {mv : Value} {w : World} (hn : NoteAt w n mv) (s : ByteArray) (hs : s = ba (W.tellL n)) : ∀ u : World, Calls Tryd.prog 11 #[.string s] u (fun e u' => e = .returned (.bool true) ∧ u' = u) := by
  intro u
  have := oneLine_any s u (by rw [hs, ba_size]; exact tell_size hn)
  rw [hs, ba_list, noLf_tell] at this
  rw [hs]; exact this
theorem none_ba {n : W.Nt} (h : W.noKind n = true) : (⟨#[110, 111, 110, 101]⟩ : ByteArray) = ba (W.tellL n) := by
  rw [(W.tell_none n).2 h]; rfl
theorem some_ne {n : W.Nt} (h : W.noKind n = false) {s : ByteArray} (hs : s = ba (W.tellL n)) : (s.toList == [110, 111, 110, 101]) = false := by
  rw [beq_eq_false_iff_ne]
  intro e
  have : W.tellL n = W.noneB := by rw [hs, ByteArray.toList_eq] at e; simp at e; exact e
  rw [(W.tell_none n).1 this] at h; cases h
theorem ne_some {n : W.Nt} (h : W.noKind n = false) {s : ByteArray} (hs : s = ba (W.tellL n)) : ([110, 111, 110, 101] == s.toList) = false := by
  have := some_ne h hs
  rw [beq_eq_false_iff_ne] at this ⊢
  exact fun e => this e.symm
theorem noKind_no {n : W.Nt} (h : W.noKind n = false) : ¬ n.kind < 1 ∧ ¬ 5 < n.kind := by
  unfold W.noKind at h; simpa using h
theorem noKind_yes {n : W.Nt} (h : W.noKind n = true) : n.kind < 1 ∨ (¬ n.kind < 1 ∧ 5 < n.kind) := by
  unfold W.noKind at h; simp at h; omega

set_option maxHeartbeats 4000000 in
set_option maxRecDepth 100000 in
theorem apart_nn (a b : W.Nt) (ma mb : Value) (w : World) (ha : NoteAt w a ma) (hb : NoteAt w b mb) (hE : Env w) (na : W.noKind a = true) (nb : W.noKind b = true) :
    Calls Tryd.prog 5 #[.agg (noteCells a ma), .agg (noteCells b mb)] w (TruePost w) := by
  have CF := Lib.hid (fun u (h : Below w.heap.size w u) => fixed_any u (hE.below h))
  obtain ⟨s, hs0⟩ : ∃ s : ByteArray, s = ⟨#[110, 111, 110, 101]⟩ := ⟨_, rfl⟩
  have hs : s = ba (W.tellL a) := by rw [hs0]; exact none_ba na
  have ka := noKind_yes na
  obtain ⟨t, ht0⟩ : ∃ s : ByteArray, s = ⟨#[110, 111, 110, 101]⟩ := ⟨_, rfl⟩
  have ht : t = ba (W.tellL b) := by rw [ht0]; exact none_ba nb
  have kb := noKind_yes nb
  have CTA := Lib.hid (tells ha hE s hs)
  have CTB := Lib.hid (tells hb hE t ht)
  have CO := Lib.hid (told_one ha s hs)
  clear hs ht
  subst hs0
  subst ht0
  have kA : ((w.alloc (.cells (noteCells a ma) 43)).alloc (.cells (noteCells b mb) 43)).heap[w.heap.size]? = some (.cells (noteCells a ma) 43 (0, 0)) := by
    rw [Lib.alloc_old _ _ _ (by rw [alloc_size]; omega)]; exact alloc_new _ _
  have kB : ((w.alloc (.cells (noteCells a ma) 43)).alloc (.cells (noteCells b mb) 43)).heap[w.heap.size + 1]? = some (.cells (noteCells b mb) 43 (0, 0)) := by
    have := alloc_new (w.alloc (.cells (noteCells a ma) 43)) (.cells (noteCells b mb) 43)
    rw [alloc_size] at this; exact this
  have h0 := two_boxed w (.cells (noteCells a ma) 43) (.cells (noteCells b mb) 43)
  have KA := Lib.hid kA
  have KB := Lib.hid kB
  have H0 := Lib.hid h0
  clear kA kB h0 ha hb hE na nb
  unfold noteCells at CTA CTB KA KB H0 ⊢
  rcases ka with a1 | ⟨a1, a2⟩ <;> rcases kb with b1 | ⟨b1, b2⟩
  all_goals
    go_enter Tryd.func5, Tryd.ntmps5
    go_wp2_with fail
    refine (CF.out _ H0.out).mono ?_
    rintro e1 w1 ⟨rfl, hb1⟩
    have hB1 := H0.out.trans (hb1.mono H0.out.size)
    have k1 := C15.of_block (x := a) (heap_keep KA.out hb1)
    have k1b := C15.of_block (x := b) (heap_keep KB.out hb1)
    clear hb1 KA KB H0
    obtain ⟨d0, d1, d2, d3, d4, d5, d6, d7, d8, d9, d10, d11, d12, d13, d14⟩ := id k1
    go_wp2_with fail
    refine (CTA.out _ hB1).mono ?_
    rintro e1 w2 ⟨rfl, hb2⟩
    have hB2 := hB1.trans (hb2.mono hB1.size)
    have k2 := k1.below hb2
    have k2b := k1b.below hb2
    clear hb2 hB1 k1 k1b d0 d1 d2 d3 d4 d5 d6 d7 d8 d9 d10 d11 d12 d13 d14
    obtain ⟨d0, d1, d2, d3, d4, d5, d6, d7, d8, d9, d10, d11, d12, d13, d14⟩ := id k2b
    go_wp2_with fail
    refine (CTB.out _ hB2).mono ?_
    rintro e1 w3 ⟨rfl, hb3⟩
    have hB3 := hB2.trans (hb3.mono hB2.size)
    have k3 := k2.below hb3
    have k3b := k2b.below hb3
    clear hb3 hB2 k2 k2b d0 d1 d2 d3 d4 d5 d6 d7 d8 d9 d10 d11 d12 d13 d14
    have d0 := k3.1
    have e0 := k3b.1
    clear k3 k3b
    go_wp2_with fail
    refine (CO.out _).mono ?_
    rintro e1 w4 ⟨rfl, rfl⟩
    go_wp2_with fail
    go_ret
    exact ⟨by first | rfl | (simp; omega), hB3⟩

set_option maxHeartbeats 4000000 in
set_option maxRecDepth 100000 in
theorem apart_ny (a b : W.Nt) (ma mb : Value) (w : World) (ha : NoteAt w a ma) (hb : NoteAt w b mb) (hE : Env w) (na : W.noKind a = true) (nb : W.noKind b = false) :
    Calls Tryd.prog 5 #[.agg (noteCells a ma), .agg (noteCells b mb)] w (TruePost w) := by
  have CF := Lib.hid (fun u (h : Below w.heap.size w u) => fixed_any u (hE.below h))
  obtain ⟨s, hs0⟩ : ∃ s : ByteArray, s = ⟨#[110, 111, 110, 101]⟩ := ⟨_, rfl⟩
  have hs : s = ba (W.tellL a) := by rw [hs0]; exact none_ba na
  have ka := noKind_yes na
  obtain ⟨t, ht⟩ : ∃ s, s = ba (W.tellL b) := ⟨_, rfl⟩
  have tne := some_ne nb ht
  have tne2 := ne_some nb ht
  obtain ⟨b1, b2⟩ := noKind_no nb
  have CTA := Lib.hid (tells ha hE s hs)
  have CTB := Lib.hid (tells hb hE t ht)
  have CO := Lib.hid (told_one ha s hs)
  clear hs ht
  subst hs0
  have kA : ((w.alloc (.cells (noteCells a ma) 43)).alloc (.cells (noteCells b mb) 43)).heap[w.heap.size]? = some (.cells (noteCells a ma) 43 (0, 0)) := by
    rw [Lib.alloc_old _ _ _ (by rw [alloc_size]; omega)]; exact alloc_new _ _
  have kB : ((w.alloc (.cells (noteCells a ma) 43)).alloc (.cells (noteCells b mb) 43)).heap[w.heap.size + 1]? = some (.cells (noteCells b mb) 43 (0, 0)) := by
    have := alloc_new (w.alloc (.cells (noteCells a ma) 43)) (.cells (noteCells b mb) 43)
    rw [alloc_size] at this; exact this
  have h0 := two_boxed w (.cells (noteCells a ma) 43) (.cells (noteCells b mb) 43)
  have KA := Lib.hid kA
  have KB := Lib.hid kB
  have H0 := Lib.hid h0
  clear kA kB h0 ha hb hE na nb
  unfold noteCells at CTA CTB KA KB H0 ⊢
  rcases ka with a1 | ⟨a1, a2⟩
  all_goals
    go_enter Tryd.func5, Tryd.ntmps5
    go_wp2_with fail
    refine (CF.out _ H0.out).mono ?_
    rintro e1 w1 ⟨rfl, hb1⟩
    have hB1 := H0.out.trans (hb1.mono H0.out.size)
    have k1 := C15.of_block (x := a) (heap_keep KA.out hb1)
    have k1b := C15.of_block (x := b) (heap_keep KB.out hb1)
    clear hb1 KA KB H0
    obtain ⟨d0, d1, d2, d3, d4, d5, d6, d7, d8, d9, d10, d11, d12, d13, d14⟩ := id k1
    go_wp2_with fail
    refine (CTA.out _ hB1).mono ?_
    rintro e1 w2 ⟨rfl, hb2⟩
    have hB2 := hB1.trans (hb2.mono hB1.size)
    have k2 := k1.below hb2
    have k2b := k1b.below hb2
    clear hb2 hB1 k1 k1b d0 d1 d2 d3 d4 d5 d6 d7 d8 d9 d10 d11 d12 d13 d14
    obtain ⟨d0, d1, d2, d3, d4, d5, d6, d7, d8, d9, d10, d11, d12, d13, d14⟩ := id k2b
    go_wp2_with fail
    refine (CTB.out _ hB2).mono ?_
    rintro e1 w3 ⟨rfl, hb3⟩
    have hB3 := hB2.trans (hb3.mono hB2.size)
    have k3 := k2.below hb3
    have k3b := k2b.below hb3
    clear hb3 hB2 k2 k2b d0 d1 d2 d3 d4 d5 d6 d7 d8 d9 d10 d11 d12 d13 d14
    have d0 := k3.1
    have e0 := k3b.1
    clear k3 k3b
    go_wp2_with fail
    refine (CO.out _).mono ?_
    rintro e1 w4 ⟨rfl, rfl⟩
    go_wp2_with fail
    go_ret
    exact ⟨by first | rfl | (simp; omega), hB3⟩

set_option maxHeartbeats 4000000 in
set_option maxRecDepth 100000 in
theorem apart_yn (a b : W.Nt) (ma mb : Value) (w : World) (ha : NoteAt w a ma) (hb : NoteAt w b mb) (hE : Env w) (na : W.noKind a = false) (nb : W.noKind b = true) :
    Calls Tryd.prog 5 #[.agg (noteCells a ma), .agg (noteCells b mb)] w (TruePost w) := by
  have CF := Lib.hid (fun u (h : Below w.heap.size w u) => fixed_any u (hE.below h))
  obtain ⟨s, hs⟩ : ∃ s, s = ba (W.tellL a) := ⟨_, rfl⟩
  have sne := some_ne na hs
  obtain ⟨a1, a2⟩ := noKind_no na
  obtain ⟨t, ht0⟩ : ∃ s : ByteArray, s = ⟨#[110, 111, 110, 101]⟩ := ⟨_, rfl⟩
  have ht : t = ba (W.tellL b) := by rw [ht0]; exact none_ba nb
  have kb := noKind_yes nb
  have CTA := Lib.hid (tells ha hE s hs)
  have CTB := Lib.hid (tells hb hE t ht)
  have CO := Lib.hid (told_one ha s hs)
  clear hs ht
  subst ht0
  have kA : ((w.alloc (.cells (noteCells a ma) 43)).alloc (.cells (noteCells b mb) 43)).heap[w.heap.size]? = some (.cells (noteCells a ma) 43 (0, 0)) := by
    rw [Lib.alloc_old _ _ _ (by rw [alloc_size]; omega)]; exact alloc_new _ _
  have kB : ((w.alloc (.cells (noteCells a ma) 43)).alloc (.cells (noteCells b mb) 43)).heap[w.heap.size + 1]? = some (.cells (noteCells b mb) 43 (0, 0)) := by
    have := alloc_new (w.alloc (.cells (noteCells a ma) 43)) (.cells (noteCells b mb) 43)
    rw [alloc_size] at this; exact this
  have h0 := two_boxed w (.cells (noteCells a ma) 43) (.cells (noteCells b mb) 43)
  have KA := Lib.hid kA
  have KB := Lib.hid kB
  have H0 := Lib.hid h0
  clear kA kB h0 ha hb hE na nb
  unfold noteCells at CTA CTB KA KB H0 ⊢
  rcases kb with b1 | ⟨b1, b2⟩
  all_goals
    go_enter Tryd.func5, Tryd.ntmps5
    go_wp2_with fail
    refine (CF.out _ H0.out).mono ?_
    rintro e1 w1 ⟨rfl, hb1⟩
    have hB1 := H0.out.trans (hb1.mono H0.out.size)
    have k1 := C15.of_block (x := a) (heap_keep KA.out hb1)
    have k1b := C15.of_block (x := b) (heap_keep KB.out hb1)
    clear hb1 KA KB H0
    obtain ⟨d0, d1, d2, d3, d4, d5, d6, d7, d8, d9, d10, d11, d12, d13, d14⟩ := id k1
    go_wp2_with fail
    refine (CTA.out _ hB1).mono ?_
    rintro e1 w2 ⟨rfl, hb2⟩
    have hB2 := hB1.trans (hb2.mono hB1.size)
    have k2 := k1.below hb2
    have k2b := k1b.below hb2
    clear hb2 hB1 k1 k1b d0 d1 d2 d3 d4 d5 d6 d7 d8 d9 d10 d11 d12 d13 d14
    obtain ⟨d0, d1, d2, d3, d4, d5, d6, d7, d8, d9, d10, d11, d12, d13, d14⟩ := id k2b
    go_wp2_with fail
    refine (CTB.out _ hB2).mono ?_
    rintro e1 w3 ⟨rfl, hb3⟩
    have hB3 := hB2.trans (hb3.mono hB2.size)
    have k3 := k2.below hb3
    have k3b := k2b.below hb3
    clear hb3 hB2 k2 k2b d0 d1 d2 d3 d4 d5 d6 d7 d8 d9 d10 d11 d12 d13 d14
    have d0 := k3.1
    have e0 := k3b.1
    clear k3 k3b
    go_wp2_with fail
    refine (CO.out _).mono ?_
    rintro e1 w4 ⟨rfl, rfl⟩
    go_wp2_with fail
    go_ret
    exact ⟨by first | rfl | (simp; omega), hB3⟩

set_option maxHeartbeats 4000000 in
set_option maxRecDepth 100000 in
theorem apart_yy_ne (a b : W.Nt) (ma mb : Value) (w : World) (ha : NoteAt w a ma) (hb : NoteAt w b mb) (hE : Env w) (na : W.noKind a = false) (nb : W.noKind b = false) (hk : a.kind ≠ b.kind) :
    Calls Tryd.prog 5 #[.agg (noteCells a ma), .agg (noteCells b mb)] w (TruePost w) := by
  have CF := Lib.hid (fun u (h : Below w.heap.size w u) => fixed_any u (hE.below h))
  obtain ⟨s, hs⟩ : ∃ s, s = ba (W.tellL a) := ⟨_, rfl⟩
  have sne := some_ne na hs
  obtain ⟨a1, a2⟩ := noKind_no na
  obtain ⟨t, ht⟩ : ∃ s, s = ba (W.tellL b) := ⟨_, rfl⟩
  have tne := some_ne nb ht
  have tne2 := ne_some nb ht
  obtain ⟨b1, b2⟩ := noKind_no nb
  have heq : (s.toList == t.toList) = false := by
    rw [beq_eq_false_iff_ne]
    intro e
    have e2 : W.tellL a = W.tellL b := by rw [hs, ht, ByteArray.toList_eq, ByteArray.toList_eq] at e; simpa using e
    exact hk ((W.tell_told a b na nb ha.at1.fit hb.at1.fit).1 e2).1
  have hkk : (a.kind == b.kind) = false := by simpa using hk
  clear hk
  have CTA := Lib.hid (tells ha hE s hs)
  have CTB := Lib.hid (tells hb hE t ht)
  have CO := Lib.hid (told_one ha s hs)
  clear hs ht
  have kA : ((w.alloc (.cells (noteCells a ma) 43)).alloc (.cells (noteCells b mb) 43)).heap[w.heap.size]? = some (.cells (noteCells a ma) 43 (0, 0)) := by
    rw [Lib.alloc_old _ _ _ (by rw [alloc_size]; omega)]; exact alloc_new _ _
  have kB : ((w.alloc (.cells (noteCells a ma) 43)).alloc (.cells (noteCells b mb) 43)).heap[w.heap.size + 1]? = some (.cells (noteCells b mb) 43 (0, 0)) := by
    have := alloc_new (w.alloc (.cells (noteCells a ma) 43)) (.cells (noteCells b mb) 43)
    rw [alloc_size] at this; exact this
  have h0 := two_boxed w (.cells (noteCells a ma) 43) (.cells (noteCells b mb) 43)
  have KA := Lib.hid kA
  have KB := Lib.hid kB
  have H0 := Lib.hid h0
  clear kA kB h0 ha hb hE na nb
  unfold noteCells at CTA CTB KA KB H0 ⊢
  all_goals
    go_enter Tryd.func5, Tryd.ntmps5
    go_wp2_with fail
    refine (CF.out _ H0.out).mono ?_
    rintro e1 w1 ⟨rfl, hb1⟩
    have hB1 := H0.out.trans (hb1.mono H0.out.size)
    have k1 := C15.of_block (x := a) (heap_keep KA.out hb1)
    have k1b := C15.of_block (x := b) (heap_keep KB.out hb1)
    clear hb1 KA KB H0
    obtain ⟨d0, d1, d2, d3, d4, d5, d6, d7, d8, d9, d10, d11, d12, d13, d14⟩ := id k1
    go_wp2_with fail
    refine (CTA.out _ hB1).mono ?_
    rintro e1 w2 ⟨rfl, hb2⟩
    have hB2 := hB1.trans (hb2.mono hB1.size)
    have k2 := k1.below hb2
    have k2b := k1b.below hb2
    clear hb2 hB1 k1 k1b d0 d1 d2 d3 d4 d5 d6 d7 d8 d9 d10 d11 d12 d13 d14
    obtain ⟨d0, d1, d2, d3, d4, d5, d6, d7, d8, d9, d10, d11, d12, d13, d14⟩ := id k2b
    go_wp2_with fail
    refine (CTB.out _ hB2).mono ?_
    rintro e1 w3 ⟨rfl, hb3⟩
    have hB3 := hB2.trans (hb3.mono hB2.size)
    have k3 := k2.below hb3
    have k3b := k2b.below hb3
    clear hb3 hB2 k2 k2b d0 d1 d2 d3 d4 d5 d6 d7 d8 d9 d10 d11 d12 d13 d14
    have d0 := k3.1
    have e0 := k3b.1
    clear k3 k3b
    go_wp2_with fail
    refine (CO.out _).mono ?_
    rintro e1 w4 ⟨rfl, rfl⟩
    go_wp2_with fail
    go_ret
    exact ⟨by first | rfl | (simp; omega), hB3⟩

set_option maxHeartbeats 4000000 in
set_option maxRecDepth 100000 in
theorem apart_yy_eq (a b : W.Nt) (ma mb : Value) (w : World) (ha : NoteAt w a ma) (hb : NoteAt w b mb) (hE : Env w) (na : W.noKind a = false) (nb : W.noKind b = false) (hk : a.kind = b.kind) :
    Calls Tryd.prog 5 #[.agg (noteCells a ma), .agg (noteCells b mb)] w (TruePost w) := by
  have CF := Lib.hid (fun u (h : Below w.heap.size w u) => fixed_any u (hE.below h))
  obtain ⟨s, hs⟩ : ∃ s, s = ba (W.tellL a) := ⟨_, rfl⟩
  have sne := some_ne na hs
  obtain ⟨a1, a2⟩ := noKind_no na
  obtain ⟨t, ht⟩ : ∃ s, s = ba (W.tellL b) := ⟨_, rfl⟩
  have tne := some_ne nb ht
  have tne2 := ne_some nb ht
  obtain ⟨b1, b2⟩ := noKind_no nb
  have heq : (s.toList == t.toList) = W.toldSame a b := by
    rw [Bool.eq_iff_iff, beq_iff_eq]
    have h := W.tell_told a b na nb ha.at1.fit hb.at1.fit
    constructor
    · intro e
      have e2 : W.tellL a = W.tellL b := by rw [hs, ht, ByteArray.toList_eq, ByteArray.toList_eq] at e; simpa using e
      exact (h.1 e2).2
    · intro e
      rw [hs, ht, h.2 ⟨hk, e⟩]
  have hkk : (a.kind == b.kind) = true := by simpa using hk
  have CTO : Hid (∀ u, Below w.heap.size w u → Calls Tryd.prog 13 #[.agg (noteCells a ma), .agg (noteCells b mb)] u (fun e u' => e = .returned (.bool (s.toList == t.toList)) ∧ Below w.heap.size w u')) := Lib.hid (by
    intro u hu
    refine (told_any2 a b ma mb u (ha.below hu) (hb.below hu)).mono ?_
    rintro e u' ⟨rfl, h⟩
    rw [heq]
    exact ⟨rfl, hu.trans (h.mono hu.size)⟩)
  clear hk heq
  have CTA := Lib.hid (tells ha hE s hs)
  have CTB := Lib.hid (tells hb hE t ht)
  have CO := Lib.hid (told_one ha s hs)
  clear hs ht
  have kA : ((w.alloc (.cells (noteCells a ma) 43)).alloc (.cells (noteCells b mb) 43)).heap[w.heap.size]? = some (.cells (noteCells a ma) 43 (0, 0)) := by
    rw [Lib.alloc_old _ _ _ (by rw [alloc_size]; omega)]; exact alloc_new _ _
  have kB : ((w.alloc (.cells (noteCells a ma) 43)).alloc (.cells (noteCells b mb) 43)).heap[w.heap.size + 1]? = some (.cells (noteCells b mb) 43 (0, 0)) := by
    have := alloc_new (w.alloc (.cells (noteCells a ma) 43)) (.cells (noteCells b mb) 43)
    rw [alloc_size] at this; exact this
  have h0 := two_boxed w (.cells (noteCells a ma) 43) (.cells (noteCells b mb) 43)
  have KA := Lib.hid kA
  have KB := Lib.hid kB
  have H0 := Lib.hid h0
  clear kA kB h0 ha hb hE na nb
  unfold noteCells at CTA CTB KA KB H0 CTO ⊢
  all_goals
    go_enter Tryd.func5, Tryd.ntmps5
    go_wp2_with fail
    refine (CF.out _ H0.out).mono ?_
    rintro e1 w1 ⟨rfl, hb1⟩
    have hB1 := H0.out.trans (hb1.mono H0.out.size)
    have k1 := C15.of_block (x := a) (heap_keep KA.out hb1)
    have k1b := C15.of_block (x := b) (heap_keep KB.out hb1)
    clear hb1 KA KB H0
    obtain ⟨d0, d1, d2, d3, d4, d5, d6, d7, d8, d9, d10, d11, d12, d13, d14⟩ := id k1
    go_wp2_with fail
    refine (CTA.out _ hB1).mono ?_
    rintro e1 w2 ⟨rfl, hb2⟩
    have hB2 := hB1.trans (hb2.mono hB1.size)
    have k2 := k1.below hb2
    have k2b := k1b.below hb2
    clear hb2 hB1 k1 k1b d0 d1 d2 d3 d4 d5 d6 d7 d8 d9 d10 d11 d12 d13 d14
    obtain ⟨d0, d1, d2, d3, d4, d5, d6, d7, d8, d9, d10, d11, d12, d13, d14⟩ := id k2b
    go_wp2_with fail
    refine (CTB.out _ hB2).mono ?_
    rintro e1 w3 ⟨rfl, hb3⟩
    have hB3 := hB2.trans (hb3.mono hB2.size)
    have k3 := k2.below hb3
    have k3b := k2b.below hb3
    clear hb3 hB2 k2 k2b d0 d1 d2 d3 d4 d5 d6 d7 d8 d9 d10 d11 d12 d13 d14
    obtain ⟨d0, d1, d2, d3, d4, d5, d6, d7, d8, d9, d10, d11, d12, d13, d14⟩ := id k3
    obtain ⟨e0, e1, e2, e3, e4, e5, e6, e7, e8, e9, e10, e11, e12, e13, e14⟩ := id k3b
    clear k3 k3b
    go_wp2_with fail
    refine (CO.out _).mono ?_
    rintro e1 w4 ⟨rfl, rfl⟩
    go_wp2_with fail
    refine (CTO.out _ hB3).mono ?_
    rintro e1 w5 ⟨rfl, hB5⟩
    go_wp2_with fail
    go_ret
    exact ⟨by simp, hB5⟩

theorem apart_any (a b : W.Nt) (ma mb : Value) (w : World) (ha : NoteAt w a ma) (hb : NoteAt w b mb) (hE : Env w) :
    Calls Tryd.prog 5 #[.agg (noteCells a ma), .agg (noteCells b mb)] w (TruePost w) := by
  cases na : W.noKind a with
  | true =>
    cases nb : W.noKind b with
    | true => exact apart_nn a b ma mb w ha hb hE na nb
    | false => exact apart_ny a b ma mb w ha hb hE na nb
  | false =>
    cases nb : W.noKind b with
    | true => exact apart_yn a b ma mb w ha hb hE na nb
    | false =>
      by_cases hk : a.kind = b.kind
      · exact apart_yy_eq a b ma mb w ha hb hE na nb hk
      · exact apart_yy_ne a b ma mb w ha hb hE na nb hk
end Go.Proofs.YtoihlclmilhpdaaDoor
