/- Walks: Quote. -/
import Derived.Test.YtoihlclmilhpdaaDoorW2
import Derived.Test.YtoihlclmilhpdaaDoorBuilder
import Derived.Test.YtoihlclmilhpdaaDoorEnv
namespace Go.Proofs.YtoihlclmilhpdaaDoor
open Go Go.RowKit

def quoteBA (l : W.Bs) : ByteArray := ⟨(W.quote l).toArray⟩
abbrev QuotePost (s : ByteArray) (w : World) : Ending → World → Prop := fun e w' => e = .returned (.string (quoteBA s.data.toList)) ∧ Below w.heap.size w w'

theorem quote_plainw (s : ByteArray) (w : World) (hs : s.size ≤ 9223372036854775807) (h : W.isPlain s.data.toList = true) : Calls Tryd.prog 21 #[.string s] w (QuotePost s w) := by
  have hf : quoteBA s.data.toList = s := by unfold quoteBA W.quote; rw [if_pos h]
  unfold QuotePost
  rw [hf]
  have C := isPlain_any s w hs
  rw [h] at C
  clear h hf
  have CH := Lib.hid C
  clear C
  go_enter Tryd.func21, Tryd.ntmps21
  go_wp2_with (go_at_call 31; refine CH.out.mono ?_; rintro e w' ⟨rfl, rfl⟩)
  go_ret
  exact ⟨rfl, Below.refl _ _⟩

theorem isBuilderF_below {T e B b : Nat} {bs : List Value} {w w' : World} (h : Lib.IsBuilderF T e B b bs w) (hb : Below w.heap.size w w') : Lib.IsBuilderF T e B b bs w' := by
  have key : ∀ p, Lib.BuilderAtF T e B b p bs w → Lib.BuilderAtF T e B b p bs w' := by
    rintro p ⟨hB, v, hbk, hown, hne⟩
    have lt : ∀ (k : Nat) (o : Obj), w.heap[k]? = some o → k < w.heap.size := by
      intro k o hk
      rcases Nat.lt_or_ge k w.heap.size with h' | h'
      · exact h'
      · simp [Array.getElem?_eq_none h'] at hk
    refine ⟨hB, v, by rw [hb.block b (lt b _ hbk)]; exact hbk, ⟨hown.1, hown.2.imp id ?_⟩, hne⟩
    rintro ⟨g, cap, cur, fz, h1, h2, h3, h4⟩
    exact ⟨g, cap, cur, fz, h1, h2, by rw [hb.block g (lt g _ h3)]; exact h3, h4⟩
  exact h.imp (key _) (key _)
theorem iter_below {w w' : World} {k : Nat} {o : Obj} (h : w.heap[k]? = some o) (hb : Below w.heap.size w w') : w'.heap[k]? = some o := by
  have : k < w.heap.size := by
    rcases Nat.lt_or_ge k w.heap.size with h' | h'
    · exact h'
    · simp [Array.getElem?_eq_none h'] at h
  rw [hb.block k this]; exact h

theorem decodeGo_at (s : ByteArray) (pos : Nat) (h : pos < s.size) : Lib.decodeGo (s.extract pos s.size) = Lib.decodeL (s.data.toList.drop pos) := by
  unfold Lib.decodeGo
  rw [if_neg (by rw [ByteArray.size_extract, Nat.min_self]; omega)]
  unfold Lib.decodeL
  rw [← Lib.extract_to_end, Lib.mk_data]
theorem piece_len (l : W.Bs) (h : l ≠ []) : (W.piece l).length ≤ 4 * (Lib.decodeL l).2 := by
  have hp := W.piece_is l h
  have hd := W.dec_le l h
  have e : (l.take (Lib.decodeL l).2).length = (Lib.decodeL l).2 := by rw [List.length_take]; omega
  rw [← e]
  generalize l.take (Lib.decodeL l).2 = w at hp ⊢
  generalize W.piece l = p at hp ⊢
  cases hp with
  | own _ h1 h => omega
  | _ => simp [W.byNumber]

def QuoteRel (s : ByteArray) (w : World) (it : Nat) (wr : World) : Prop :=
  ∃ (pos f : Nat) (acc : W.Bs), Lib.IsBuilderF 63 5 w.heap.size w.heap.size (Lib.byteCells acc) wr ∧ wr.heap[it]? = some (.stringIter s pos) ∧ Below w.heap.size w wr ∧
    acc ++ W.quoteF f (s.data.toList.drop pos) = 34 :: W.quoteF s.size s.data.toList ∧ s.size ≤ pos + f ∧ pos ≤ s.size ∧ acc.length ≤ 4 * pos + 1

/-- One round: the piece is laid behind. -/
theorem quote_next {s : ByteArray} {w w4 : World} {it pos f n : Nat} {acc p : W.Bs} {cells : List Value} (hp : pos < s.size) (hn : (Lib.decodeL (s.data.toList.drop pos)).2 = n) (hpc : W.piece (s.data.toList.drop pos) = p) (hc : cells = Lib.byteCells p)
    (hI : Lib.BuilderAtF 63 5 w.heap.size w.heap.size (.pointer (some ⟨w.heap.size, 0, none⟩)) (Lib.byteCells acc ++ cells) w4) (hit : w4.heap[it]? = some (.stringIter s (pos + n))) (hb : Below w.heap.size w w4)
    (hacc : acc ++ W.quoteF f (s.data.toList.drop pos) = 34 :: W.quoteF s.size s.data.toList) (hfu : s.size ≤ pos + f) (hal : acc.length ≤ 4 * pos + 1) : QuoteRel s w it w4 := by
  have hne : s.data.toList.drop pos ≠ [] := by
    intro h; have := congrArg List.length h; rw [List.length_drop, size_list] at this; simp at this; omega
  have hd := W.dec_le _ hne
  have hpl := piece_len _ hne
  rw [List.length_drop, size_list] at hd
  rw [hn] at hd hpl
  rw [hpc] at hpl
  obtain ⟨f, rfl⟩ : ∃ f', f = f' + 1 := ⟨f - 1, by omega⟩
  simp only [W.quoteF, hne, if_false, hn, hpc, List.drop_drop] at hacc
  refine ⟨pos + n, f, acc ++ p, Or.inr ?_, hit, hb, by rw [List.append_assoc]; exact hacc, by omega, by omega, by rw [List.length_append]; omega⟩
  rw [Lib.byteCells_append, ← hc]; exact hI

theorem str34 : ∀ u : World, (convert 21 9 (.int .i32 34)).run Tryd.prog u = .ok (.string ⟨#[34]⟩) u := fun u => by kernel_rfl
theorem str92 : ∀ u : World, (convert 21 9 (.int .i32 92)).run Tryd.prog u = .ok (.string ⟨#[92]⟩) u := fun u => by kernel_rfl
theorem add34 : ∀ u : World, (Op.stringOp .add ⟨#[92]⟩ ⟨#[34]⟩).run Tryd.prog u = .ok (.string ⟨#[92, 34]⟩) u := fun u => run_string_add_sum u _ _ (by decide)
theorem add92 : ∀ u : World, (Op.stringOp .add ⟨#[92]⟩ ⟨#[92]⟩).run Tryd.prog u = .ok (.string ⟨#[92, 92]⟩) u := fun u => run_string_add_sum u _ _ (by decide)

/-- The builder, the iterator and the rest behind a write. -/
structure QSt (s : ByteArray) (w wr : World) (it pos : Nat) (bs : List Value) : Prop where
  hI : Lib.IsBuilderF 63 5 w.heap.size w.heap.size bs wr
  hit : wr.heap[it]? = some (.stringIter s pos)
  bel : Below w.heap.size w wr
  ne : it ≠ w.heap.size
  sz : w.heap.size ≤ wr.heap.size
theorem QSt.below {s : ByteArray} {w wr w' : World} {it pos : Nat} {bs : List Value} (h : QSt s w wr it pos bs) (hb : Below wr.heap.size wr w') : QSt s w w' it pos bs :=
  ⟨isBuilderF_below h.hI hb, iter_below h.hit hb, h.bel.trans (hb.mono h.sz), h.ne, Nat.le_trans h.sz hb.size⟩

set_option maxHeartbeats 4000000 in
set_option maxRecDepth 1000000 in
theorem quote_loop (s : ByteArray) (w : World) (hs : s.size ≤ 1000000000) (h : W.isPlain s.data.toList = false) (hE : Env w) : Calls Tryd.prog 21 #[.string s] w (QuotePost s w) := by
  have hq : quoteBA s.data.toList = ⟨(34 :: (W.quoteF s.size s.data.toList ++ [34])).toArray⟩ := by unfold quoteBA W.quote; rw [h, if_neg (by simp), size_list]
  have HQ := Lib.hid hq
  clear hq
  have C := isPlain_any s w (by omega)
  rw [h] at C
  clear h
  have CH := Lib.hid C
  clear C
  go_enter Tryd.func21, Tryd.ntmps21
  go_wp2_with (first | (go_at_call 31; refine CH.out.mono ?_; rintro e w' ⟨rfl, rfl⟩) | (go_at_call 32; refine (writeByte_k _ _ [] 34 _ (Lib.IsBuilderF.of (Lib.fresh_isBuilder 63 5 w)) (by simp) (by simp)).mono ?_))
  rintro e w1 ⟨rfl, hI1, hb1, hk1⟩
  go_wp2
  have hb1' : Below w.heap.size w w1 := ((Below.refl _ w).alloc (Nat.le_refl _) _).trans hb1
  have hlt : w.heap.size < w1.heap.size := by have := hb1.size; simp at this; omega
  go_loopw [] (fun wr => QuoteRel s w w1.heap.size wr) (fun wr => s.size - wr.iterPos w1.heap.size)
  case atStart =>
    refine ⟨0, s.size, [34], (show Lib.IsBuilderF 63 5 w.heap.size w.heap.size (Lib.byteCells [34]) w1 from Or.inr hI1).alloc _, World.iter_heap _ _ _, hb1'.alloc (by omega) _, by simp, by omega, by omega, by simp⟩
  case round =>
    obtain ⟨pos, f, acc, hI, hit, hbw, hacc, hfu, hps, hal⟩ := hrel
    have hit1 : w1.heap.size < wr.heap.size := (Array.getElem?_eq_some_iff.1 hit).1
    have HA := Lib.hid hacc
    clear hacc
    by_cases hp : pos < s.size
    · have hnx : ∀ ty, (Instr.next (.pointer (some ⟨w1.heap.size, 0, none⟩)) true ty).run Tryd.prog wr = _ := fun ty => Lib.run_next_any_at wr w1.heap.size s pos ty hit hp
      have hdl := Lib.decodeL_drop s pos
      obtain ⟨r, hr⟩ : ∃ r, r = (Utf8.decode s pos).1 := ⟨_, rfl⟩
      obtain ⟨n, hn⟩ : ∃ n, n = (Utf8.decode s pos).2 := ⟨_, rfl⟩
      have hrle := decode_le s pos
      have hne : s.data.toList.drop pos ≠ [] := by
        intro h; have := congrArg List.length h; rw [List.length_drop, size_list] at this; simp at this; omega
      have hn1 := W.dec_le _ hne
      rw [List.length_drop, size_list] at hn1
      have CD := decodeGo_at s pos hp
      rw [hdl] at CD hn1
      have hd2 : Utf8.decode s pos = (r, n) := by rw [hr, hn]
      rw [hd2] at hnx hrle CD hn1 hdl
      simp only [] at hnx hrle hn1
      have hQ2 : QSt s w (wr.iterAt w1.heap.size s (pos + n)) w1.heap.size (pos + n) (Lib.byteCells acc) :=
        ⟨hI.iterAt hit _, Lib.iterAt_heap wr _ s pos _ hit, Lib.below_iterAt hbw (by omega) s _, by omega, by rw [Lib.iterAt_size]; omega⟩
      obtain ⟨w2, hw2⟩ : ∃ w2, w2 = wr.iterAt w1.heap.size s (pos + n) := ⟨_, rfl⟩
      rw [← hw2] at hnx hQ2
      have hE2 : Env w2 := hE.below hQ2.bel
      have hposr : wr.iterPos w1.heap.size = pos := by simp only [World.iterPos, hit]
      have CDR := Lib.hid (Tryd.utf8_DecodeRuneInString (s.extract pos s.size) w2 hE2.utf)
      have HCD := Lib.hid CD
      have HDL := Lib.hid hdl
      have HPR := Lib.hid hposr
      have p0 : (0 : Int) ≤ pos := by omega
      have p1 : (pos : Int) ≤ s.size := by omega
      have p2 : (pos : Int) < s.size := by omega
      clear hr hn hd2 hw2 CD hdl hposr hne hI hit hbw
      have fin : ∀ (w4 : World) (p : W.Bs) (cells : List Value), W.piece (s.data.toList.drop pos) = p → cells = Lib.byteCells p → Lib.BuilderAtF 63 5 w.heap.size w.heap.size (.pointer (some ⟨w.heap.size, 0, none⟩)) (Lib.byteCells acc ++ cells) w4 → w4.heap[w1.heap.size]? = some (.stringIter s (pos + n)) → Below w.heap.size w w4 →
          QuoteRel s w w1.heap.size w4 ∧ s.size - w4.iterPos w1.heap.size < s.size - wr.iterPos w1.heap.size := by
        intro w4 p cells h1 h2 h3 h4 h5
        refine ⟨quote_next hp (by rw [HDL.out]) h1 h2 h3 h4 h5 HA.out hfu hal, ?_⟩
        rw [HPR.out]
        simp only [World.iterPos, h4]
        omega
      have HFIN := Lib.hid fin
      clear fin
      by_cases h34 : r = 34
      · subst h34
        go_wp2_with fail
        refine CDR.out.mono ?_
        rintro e w3 ⟨rfl, hb3⟩
        have hQ3 := hQ2.below hb3
        rw [HCD.out]
        simp only []
        clear hb3 hQ2
        have s34 := str34
        have a34 := add34
        go_wp2_with fail
        refine (writeString_k _ _ (Lib.byteCells acc) ⟨#[92, 34]⟩ _ hQ3.hI (by rw [Lib.byteCells_length]; have : (⟨#[92, 34]⟩ : ByteArray).size = 2 := rfl; omega) hQ3.sz).mono ?_
        rintro e w4 ⟨rfl, hI4, hb4, hk4⟩
        have R := HFIN.out w4 [92, 34] _ (by unfold W.piece; rw [HDL.out]; rfl) rfl hI4 (hk4.iter hQ3.hit hQ3.ne) (hQ3.bel.trans hb4)
        clear hI4 hb4 hk4 hQ3
        go_wp2_with fail
        go_roundw
        case rel => exact R.1
        case measure => exact R.2
      · by_cases h92 : r = 92
        · subst h92
          go_wp2_with fail
          refine CDR.out.mono ?_
          rintro e w3 ⟨rfl, hb3⟩
          have hQ3 := hQ2.below hb3
          rw [HCD.out]
          simp only []
          clear hb3 hQ2
          have s34 := str92
          have a34 := add92
          go_wp2_with fail
          refine (writeString_k _ _ (Lib.byteCells acc) ⟨#[92, 92]⟩ _ hQ3.hI (by rw [Lib.byteCells_length]; have : (⟨#[92, 92]⟩ : ByteArray).size = 2 := rfl; omega) hQ3.sz).mono ?_
          rintro e w4 ⟨rfl, hI4, hb4, hk4⟩
          have R := HFIN.out w4 [92, 92] _ (by unfold W.piece; rw [HDL.out]; rfl) rfl hI4 (hk4.iter hQ3.hit hQ3.ne) (hQ3.bel.trans hb4)
          clear hI4 hb4 hk4 hQ3
          go_wp2_with fail
          go_roundw
          case rel => exact R.1
          case measure => exact R.2
        · by_cases h10 : r = 10
          · subst h10
            go_wp2_with fail
            refine CDR.out.mono ?_
            rintro e w3 ⟨rfl, hb3⟩
            have hQ3 := hQ2.below hb3
            rw [HCD.out]
            simp only []
            clear hb3 hQ2
            go_wp2_with fail
            refine (writeString_k _ _ (Lib.byteCells acc) ⟨#[92, 110]⟩ _ hQ3.hI (by rw [Lib.byteCells_length]; have : (⟨#[92, 110]⟩ : ByteArray).size = 2 := rfl; omega) hQ3.sz).mono ?_
            rintro e w4 ⟨rfl, hI4, hb4, hk4⟩
            have R := HFIN.out w4 [92, 110] _ (by unfold W.piece; rw [HDL.out]; rfl) rfl hI4 (hk4.iter hQ3.hit hQ3.ne) (hQ3.bel.trans hb4)
            clear hI4 hb4 hk4 hQ3
            go_wp2_with fail
            go_roundw
            case rel => exact R.1
            case measure => exact R.2
          · by_cases h9 : r = 9
            · subst h9
              go_wp2_with fail
              refine CDR.out.mono ?_
              rintro e w3 ⟨rfl, hb3⟩
              have hQ3 := hQ2.below hb3
              rw [HCD.out]
              simp only []
              clear hb3 hQ2
              go_wp2_with fail
              refine (writeString_k _ _ (Lib.byteCells acc) ⟨#[92, 116]⟩ _ hQ3.hI (by rw [Lib.byteCells_length]; have : (⟨#[92, 116]⟩ : ByteArray).size = 2 := rfl; omega) hQ3.sz).mono ?_
              rintro e w4 ⟨rfl, hI4, hb4, hk4⟩
              have R := HFIN.out w4 [92, 116] _ (by unfold W.piece; rw [HDL.out]; rfl) rfl hI4 (hk4.iter hQ3.hit hQ3.ne) (hQ3.bel.trans hb4)
              clear hI4 hb4 hk4 hQ3
              go_wp2_with fail
              go_roundw
              case rel => exact R.1
              case measure => exact R.2
            · have q34 : ((r : Int) == 34) = false := by simp; omega
              have q92 : ((r : Int) == 92) = false := by simp; omega
              have q10 : ((r : Int) == 10) = false := by simp; omega
              have q9 : ((r : Int) == 9) = false := by simp; omega
              by_cases hc : r < 32 ∨ r = 127 ∨ (r = 65533 ∧ n = 1)
              · have hpc : W.piece (s.data.toList.drop pos) = W.byNumber s[pos] := by
                  unfold W.piece
                  rw [HDL.out]
                  simp only [if_neg (show ¬ (r = 34 ∨ r = 92) by omega), if_neg h10, if_neg h9, if_pos hc]
                  congr 1
                  rw [List.getD_eq_getElem?_getD, List.getElem?_drop, Nat.add_zero, ← List.getD_eq_getElem?_getD, getD_list s pos hp]
                have HPC := Lib.hid hpc
                have CB := Lib.hid (byNumber_any s[pos])
                have hbl : (W.byNumber s[pos]).length = 4 := rfl
                clear hpc h34 h92 h10 h9
                have cond : ((r : Int) < 32) ∨ (¬ (r : Int) < 32 ∧ ((r : Int) == 127) = true) ∨ (¬ (r : Int) < 32 ∧ ((r : Int) == 127) = false ∧ ((r : Int) == 65533) = true ∧ ((n : Int) == 1) = true) := by
                  rcases Nat.lt_or_ge r 32 with h | h
                  · exact Or.inl (by omega)
                  · right
                    by_cases h127 : r = 127
                    · exact Or.inl ⟨by omega, by simp [h127]⟩
                    · have : r = 65533 ∧ n = 1 := by omega
                      exact Or.inr ⟨by omega, by simp; omega, by simp [this.1], by simp [this.2]⟩
                clear hc
                rcases cond with c1 | ⟨c1, c2⟩ | ⟨c1, c2, c3, c4⟩
                all_goals
                  go_wp2_with fail
                  refine CDR.out.mono ?_
                  rintro e w3 ⟨rfl, hb3⟩
                  have hQ3 := hQ2.below hb3
                  rw [HCD.out]
                  simp only []
                  clear hb3 hQ2
                  go_wp2_with fail
                  refine (CB.out _).mono ?_
                  rintro e w5 ⟨rfl, k, hw5⟩
                  have hQ5 := hQ3.below (below_drewN (Below.refl _ _) k)
                  rw [← hw5] at hQ5
                  clear hw5 hQ3
                  go_wp2_with fail
                  refine (writeString_k _ _ (Lib.byteCells acc) ⟨(W.byNumber s[pos]).toArray⟩ _ hQ5.hI (by rw [Lib.byteCells_length]; have : (⟨(W.byNumber s[pos]).toArray⟩ : ByteArray).size = 4 := rfl; omega) hQ5.sz).mono ?_
                  rintro e w4 ⟨rfl, hI4, hb4, hk4⟩
                  have R := HFIN.out w4 (W.byNumber s[pos]) _ HPC.out rfl hI4 (hk4.iter hQ5.hit hQ5.ne) (hQ5.bel.trans hb4)
                  clear hI4 hb4 hk4 hQ5
                  go_wp2_with fail
                  go_roundw
                  case rel => exact R.1
                  case measure => exact R.2
              · have hpc : W.piece (s.data.toList.drop pos) = Lib.encodeRune r := by
                  unfold W.piece
                  rw [HDL.out]
                  simp only [if_neg (show ¬ (r = 34 ∨ r = 92) by omega), if_neg h10, if_neg h9, if_neg hc]
                have HPC := Lib.hid hpc
                have c1 : ¬ (r : Int) < 32 := by omega
                have c2 : ((r : Int) == 127) = false := by simp; omega
                clear hpc h34 h92 h10 h9
                have cond : ((r : Int) == 65533) = false ∨ (((r : Int) == 65533) = true ∧ ((n : Int) == 1) = false) := by
                  by_cases h : r = 65533
                  · exact Or.inr ⟨by simp [h], by simp; omega⟩
                  · exact Or.inl (by simp; omega)
                clear hc
                rcases cond with c3 | ⟨c3, c4⟩
                all_goals
                  go_wp2_with fail
                  refine CDR.out.mono ?_
                  rintro e w3 ⟨rfl, hb3⟩
                  have hQ3 := hQ2.below hb3
                  rw [HCD.out]
                  simp only []
                  clear hb3 hQ2
                  go_wp2_with fail
                  refine (writeRune_k _ _ (Lib.byteCells acc) r (by omega) (by omega) _ hQ3.hI (by rw [Lib.byteCells_length]; omega) hQ3.sz).mono ?_
                  rintro e w4 ⟨rfl, hI4, hb4, hk4⟩
                  have R := HFIN.out w4 (Lib.encodeRune r) _ HPC.out (Lib.byteCells_encodeRune _).symm hI4 (hk4.iter hQ3.hit hQ3.ne) (hQ3.bel.trans hb4)
                  clear hI4 hb4 hk4 hQ3
                  go_wp2_with fail
                  go_roundw
                  case rel => exact R.1
                  case measure => exact R.2
    · have hnx : ∀ ty, (Instr.next (.pointer (some ⟨w1.heap.size, 0, none⟩)) true ty).run Tryd.prog wr = _ := fun ty => Lib.run_next_end_at wr w1.heap.size s pos ty hit hp
      have hend : acc = 34 :: W.quoteF s.size s.data.toList := by
        have := HA.out
        rw [List.drop_of_length_le (by rw [size_list]; omega)] at this
        cases f with
        | zero => simpa [W.quoteF] using this
        | succ f => simpa [W.quoteF] using this
      have HEND := Lib.hid hend
      have hszw := hbw.size
      clear hend HA hp
      go_wp2_with fail
      refine (writeByte_k _ _ (Lib.byteCells acc) 34 _ hI (by rw [Lib.byteCells_length]; omega) hszw).mono ?_
      rintro e w4 ⟨rfl, hI4, hb4, hk4⟩
      have e1 : Lib.byteCells acc ++ [.int .u8 34] = Lib.byteCells (acc ++ [34]) := by rw [Lib.byteCells_append]; rfl
      rw [e1] at hI4
      clear e1
      have hbw4 := hbw.trans hb4
      clear hb4 hk4 hbw hI
      go_wp2_with fail
      refine (Tryd.Builder_String_any_k w.heap.size w.heap.size (acc ++ [34]) _ (Or.inr hI4) hbw4.size).mono ?_
      rintro e w5 ⟨rfl, _, hb5, _⟩
      go_wp2_with fail
      go_ret
      unfold QuotePost
      rw [HQ.out, HEND.out]
      exact ⟨rfl, hbw4.trans hb5⟩

theorem quote_any (s : ByteArray) (w : World) (hs : s.size ≤ 1000000000) (hE : Env w) : Calls Tryd.prog 21 #[.string s] w (QuotePost s w) := by
  cases hp : W.isPlain s.data.toList with
  | true => exact quote_plainw s w (by omega) hp
  | false => exact quote_loop s w hs hp hE
end Go.Proofs.YtoihlclmilhpdaaDoor
