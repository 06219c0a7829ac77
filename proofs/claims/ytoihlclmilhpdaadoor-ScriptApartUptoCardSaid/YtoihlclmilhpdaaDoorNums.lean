/- Plain Lean: integers as they are written: what Itoa writes Atoi reads; it is a plain word. -/
import Derived.Test.YtoihlclmilhpdaaDoorWords
import Derived.Lib.ItoaNum
import Derived.Lib.AtoiAllCases
import Derived.Lib.Join
import Derived.Lib.TrimByte
namespace Go.Proofs.YtoihlclmilhpdaaDoor.W
open Go

theorem decDigits_small {u : Nat} (h : u < 10) : Lib.decDigits u = [(48 + u).toUInt8] := by rw [Lib.decDigits, dif_pos h]
theorem decDigits_big {u : Nat} (h : ¬ u < 10) : Lib.decDigits u = Lib.decDigits (u / 10) ++ [(48 + u % 10).toUInt8] := by rw [Lib.decDigits, dif_neg h]

theorem digit_toNat {d : Nat} (h : d < 10) : ((48 + d).toUInt8).toNat = 48 + d := by
  have : (48 + d) % 256 = 48 + d := Nat.mod_eq_of_lt (by omega)
  simpa using this

theorem decDigits_digits : ∀ (n u : Nat), u ≤ n → ∀ x ∈ Lib.decDigits u, 48 ≤ x.toNat ∧ x.toNat ≤ 57 := by
  intro n
  induction n with
  | zero =>
    intro u hu x hx
    rw [decDigits_small (by omega)] at hx
    simp only [List.mem_singleton] at hx
    subst hx
    rw [digit_toNat (by omega)]
    omega
  | succ n ih =>
    intro u hu x hx
    by_cases h : u < 10
    · rw [decDigits_small h] at hx
      simp only [List.mem_singleton] at hx
      subst hx
      rw [digit_toNat h]
      omega
    · rw [decDigits_big h] at hx
      rcases List.mem_append.1 hx with hx | hx
      · exact ih (u / 10) (by omega) x hx
      · simp only [List.mem_singleton] at hx
        subst hx
        rw [digit_toNat (by omega)]
        omega
theorem decDigits_ne (u : Nat) : Lib.decDigits u ≠ [] := by
  by_cases h : u < 10
  · rw [decDigits_small h]; simp
  · rw [decDigits_big h]; simp

theorem parse_decDigits : ∀ (n u : Nat), u ≤ n → u < 18446744073709551616 → ∀ r, Lib.parseUint10 0 (Lib.decDigits u ++ r) = Lib.parseUint10 u r := by
  intro n
  induction n with
  | zero =>
    intro u hu _ r
    rw [decDigits_small (by omega)]
    simp only [List.cons_append, List.nil_append, Lib.parseUint10]
    rw [digit_toNat (by omega)]
    rw [if_pos (by omega), if_neg (by omega), if_neg (by omega)]
    congr 1
    omega
  | succ n ih =>
    intro u hu h64 r
    by_cases h : u < 10
    · rw [decDigits_small h]
      simp only [List.cons_append, List.nil_append, Lib.parseUint10]
      rw [digit_toNat h]
      rw [if_pos (by omega), if_neg (by omega), if_neg (by omega)]
      congr 1
      omega
    · rw [decDigits_big h, List.append_assoc, ih (u / 10) (by omega) (by omega)]
      simp only [List.cons_append, List.nil_append, Lib.parseUint10]
      rw [digit_toNat (by omega)]
      rw [if_pos (by omega), if_neg (by omega), if_neg (by omega)]
      congr 1
      omega
theorem parseMag_decDigits (u : Nat) (h : u < 18446744073709551616) : Lib.parseMag (Lib.decDigits u) = .ok u := by
  unfold Lib.parseMag
  rw [if_neg (decDigits_ne u)]
  have := parse_decDigits u u (Nat.le_refl _) h []
  rw [List.append_nil] at this
  rw [this]
  rfl

/-- Is it an int? -/
def i64 (n : Int) : Prop := -9223372036854775808 ≤ n ∧ n ≤ 9223372036854775807

theorem atoi_itoa (n : Int) (h : i64 n) : Lib.atoiAll (Lib.itoa n) = .ok n := by
  unfold i64 at h
  unfold Lib.itoa
  by_cases hn : n < 0
  · rw [if_pos hn]
    unfold Lib.atoiAll
    simp only [show (45 : UInt8).toNat = 45 from rfl, or_true, if_true]
    rw [parseMag_decDigits _ (by omega)]
    simp only [not_true, false_and, if_false, true_and]
    rw [if_neg (by omega)]
    congr 1
    omega
  · rw [if_neg hn]
    have hd := decDigits_digits n.toNat n.toNat (Nat.le_refl _)
    have hp := parseMag_decDigits n.toNat (by omega)
    have hne := decDigits_ne n.toNat
    generalize Lib.decDigits n.toNat = l at *
    cases l with
    | nil => exact absurd rfl hne
    | cons c r =>
      have hc := hd c (by simp)
      unfold Lib.atoiAll
      simp only []
      rw [if_neg (by omega), hp]
      simp only []
      rw [if_neg (by omega), if_neg (by omega), if_neg (by omega)]
      congr 1
      omega
theorem itoa_inj {m n : Int} (hm : i64 m) (hn : i64 n) (h : Lib.itoa m = Lib.itoa n) : m = n := by
  have := atoi_itoa m hm
  rw [h, atoi_itoa n hn] at this
  injection this with this
  exact this.symm
theorem itoa_plain (n : Int) : isPlain (Lib.itoa n) = true := by
  have h : ∀ u x, x ∈ Lib.decDigits u → plainB x = true := by
    intro u x hx
    have := decDigits_digits u u (Nat.le_refl _) x hx
    unfold plainB
    simp only [Bool.and_eq_true, decide_eq_true_eq, bne_iff_ne, ne_eq]
    omega
  unfold Lib.itoa isPlain
  split
  · simp only [Bool.and_eq_true, List.all_eq_true, List.isEmpty_cons, Bool.not_false, and_true]
    intro x hx
    rcases List.mem_cons.1 hx with rfl | hx
    · decide
    · exact h _ x hx
  · simp only [Bool.and_eq_true, List.all_eq_true]
    refine ⟨fun x hx => h _ x hx, ?_⟩
    have := decDigits_ne n.toNat
    cases hl : Lib.decDigits n.toNat with
    | nil => exact absurd hl this
    | cons a b => rfl

/-- An integer, written just so. -/
def integer (w : Bs) : Option Int :=
  match Lib.atoiAll w with
  | .ok v => if Lib.itoa v = w then some v else none
  | _ => none
/-- The number that Atoi hands back, also beside an error. -/
def atoiVal (w : Bs) : Int :=
  match Lib.atoiAll w with
  | .ok v => v
  | .range => Lib.atoiSat w
  | _ => 0
theorem integer_itoa (n : Int) (h : i64 n) : integer (Lib.itoa n) = some n := by
  unfold integer; rw [atoi_itoa n h]; simp
theorem atoiVal_itoa (n : Int) (h : i64 n) : atoiVal (Lib.itoa n) = n := by
  unfold atoiVal; rw [atoi_itoa n h]
theorem integer_val {w : Bs} {n : Int} (h : integer w = some n) : atoiVal w = n ∧ i64 n ∧ w = Lib.itoa n := by
  unfold integer at h
  unfold atoiVal
  cases ha : Lib.atoiAll w with
  | ok v =>
    rw [ha] at h
    simp only at h ⊢
    split at h
    · rename_i e
      injection h with h
      subst h
      exact ⟨rfl, Lib.atoiAll_bounds ha, e.symm⟩
    · cases h
  | range => rw [ha] at h; cases h
  | _ => rw [ha] at h; cases h

/-! ### the parts of a line -/
/-- The parts of a line as they stand; none: it has one that is no word. -/
def partsF : Nat → Bs → Option (List Bs)
  | f, line =>
    match Lib.trimLeftB line 32, f with
    | [], _ => some []
    | _ :: _, 0 => none
    | c :: t, f + 1 =>
      if unquote ((c :: t).take (cutN (c :: t))) = none ∨ ¬ (cutN (c :: t) = (c :: t).length ∨ (c :: t).getD (cutN (c :: t)) 0 = 32) then none
      else (partsF f ((c :: t).drop (cutN (c :: t)))).map ((c :: t).take (cutN (c :: t)) :: ·)
def parts (line : Bs) : Option (List Bs) := partsF line.length line

theorem cutN_pos (c : UInt8) (t : Bs) (h : c ≠ 32) : 1 ≤ cutN (c :: t) ∧ cutN (c :: t) ≤ (c :: t).length := by
  unfold cutN
  simp only [List.getD_cons_zero]
  split
  · simp only [List.length_cons]; omega
  · constructor
    · rw [List.takeWhile_cons, if_pos (by simpa using h)]; simp
    · exact (List.takeWhile_prefix _).length_le

theorem trim_head {l : Bs} {c : UInt8} {t : Bs} (h : Lib.trimLeftB l 32 = c :: t) : c ≠ 32 := by
  unfold Lib.trimLeftB at h
  have := List.head?_dropWhile_not (fun x : UInt8 => x == 32) l
  rw [h] at this
  simpa using this
theorem trim_len (l : Bs) : (Lib.trimLeftB l 32).length ≤ l.length := by
  unfold Lib.trimLeftB
  exact (List.dropWhile_suffix _).length_le

theorem partsF_fuel : ∀ (f g : Nat) (l : Bs), l.length ≤ f → l.length ≤ g → partsF f l = partsF g l := by
  intro f
  induction f with
  | zero =>
    intro g l hf _
    have : l = [] := List.eq_nil_of_length_eq_zero (by omega)
    subst this
    unfold partsF
    simp [Lib.trimLeftB]
  | succ f ih =>
    intro g l hf hg
    have hl := trim_len l
    cases ht : Lib.trimLeftB l 32 with
    | nil => unfold partsF; rw [ht]
    | cons c t =>
      rw [ht] at hl
      cases g with
      | zero => simp at hl; omega
      | succ g =>
        have hc := cutN_pos c t (trim_head ht)
        unfold partsF
        rw [ht]
        simp only
        rw [ih g _ (by rw [List.length_drop]; omega) (by rw [List.length_drop]; omega)]

/-- A word that is cut off as it stands. -/
structure Word (w : Bs) : Prop where
  ne : w ≠ []
  head : w.getD 0 0 ≠ 32
  cut : ∀ rest, (rest = [] ∨ ∃ t, rest = 32 :: t) → cutN (w ++ rest) = w.length
  good : unquote w ≠ none
theorem Word.plain {w : Bs} (h : isPlain w = true) : Word w := by
  have hl := plain_line h
  refine ⟨?_, ?_, fun rest hr => cutN_plain w rest h hr, ?_⟩
  · intro e; subst e; simp [isPlain] at h
  · cases w with
    | nil => simp [isPlain] at h
    | cons c t => simp only [List.getD_cons_zero]; intro e; subst e; have := (hl 32 (by simp)).1; simp at this
  · unfold unquote; rw [if_pos h]; simp
theorem Word.quote (l : Bs) : Word (W.quote l) := by
  refine ⟨quote_ne l, ?_, fun rest hr => cutN_quote l rest hr, by rw [unquote_quote]; simp⟩
  by_cases hp : isPlain l = true
  · have : W.quote l = l := by unfold W.quote; rw [if_pos hp]
    rw [this]; exact (Word.plain hp).head
  · have : W.quote l = 34 :: (quoteF l.length l ++ [34]) := by unfold W.quote; rw [if_neg hp]
    rw [this]; simp
theorem Word.itoa (n : Int) : Word (Lib.itoa n) := .plain (itoa_plain n)

theorem trim_word {w rest : Bs} (h : Word w) : Lib.trimLeftB (w ++ rest) 32 = w ++ rest := by
  cases w with
  | nil => exact absurd rfl h.ne
  | cons c t =>
    have := h.head
    simp only [List.getD_cons_zero] at this
    unfold Lib.trimLeftB
    simp only [List.cons_append]
    rw [List.dropWhile_cons, if_neg (by simpa using this)]
theorem trim_blank (l : Bs) : Lib.trimLeftB (32 :: l) 32 = Lib.trimLeftB l 32 := by
  unfold Lib.trimLeftB
  rw [List.dropWhile_cons, if_pos (by decide)]

theorem partsF_blank (f : Nat) (l : Bs) : partsF f (32 :: l) = partsF f l := by
  conv => lhs; unfold partsF
  conv => rhs; unfold partsF
  rw [trim_blank]

theorem partsF_word {w rest : Bs} (h : Word w) (hr : rest = [] ∨ ∃ t, rest = 32 :: t) (f : Nat) :
    partsF (f + 1) (w ++ rest) = (partsF f rest).map (w :: ·) := by
  have ht := trim_word (rest := rest) h
  have hc := h.cut rest hr
  cases w with
  | nil => exact absurd rfl h.ne
  | cons c t =>
    obtain ⟨R, hR⟩ : ∃ R, R = partsF f rest := ⟨_, rfl⟩
    rw [← hR]
    unfold partsF
    rw [ht]
    simp only [List.cons_append] at hc ⊢
    simp only [hc]
    have e1 : List.take (c :: t).length (c :: (t ++ rest)) = c :: t := by
      rw [← List.cons_append, List.take_left']
      rfl
    have e2 : List.drop (c :: t).length (c :: (t ++ rest)) = rest := by
      rw [← List.cons_append, List.drop_left']
      rfl
    rw [e1, e2, ← hR, if_neg]
    rintro (h' | h')
    · exact h.good h'
    · apply h'
      rcases hr with rfl | ⟨t', rfl⟩
      · left; simp
      · right
        rw [← List.cons_append]
        simp [List.getD]

theorem partsF_join (tail : Bs) (ht : tail = [] ∨ tail = [32]) : ∀ (ws : List Bs), (∀ w ∈ ws, Word w) → ∀ f, ws.length ≤ f → partsF f (Lib.join ws [32] ++ tail) = some ws := by
  intro ws
  induction ws with
  | nil =>
    intro _ f _
    rcases ht with rfl | rfl <;> (unfold partsF; simp [Lib.join, Lib.trimLeftB])
  | cons w ws ih =>
    intro hw f hf
    cases f with
    | zero => simp at hf
    | succ f =>
      simp only [List.length_cons] at hf
      have h0 := hw w (by simp)
      have hi := ih (fun x hx => hw x (by simp [hx])) f (by omega)
      rw [Lib.join_cons]
      cases ws with
      | nil =>
        simp only [Lib.joinTail, List.map_nil, List.flatten_nil, List.append_nil]
        rw [partsF_word h0 (ht.imp id fun e => ⟨[], e⟩)]
        have : partsF f tail = some [] := by rcases ht with rfl | rfl <;> (unfold partsF; simp [Lib.trimLeftB])
        rw [this]
        rfl
      | cons v vs =>
        have e : w ++ Lib.joinTail [32] (v :: vs) ++ tail = w ++ 32 :: (Lib.join (v :: vs) [32] ++ tail) := by
          rw [Lib.join_cons]
          simp [Lib.joinTail]
        rw [e, partsF_word h0 (Or.inr ⟨_, rfl⟩), partsF_blank, hi]
        rfl
theorem parts_join {ws : List Bs} (h : ∀ w ∈ ws, Word w) : parts (Lib.join ws [32]) = some ws := by
  have hl : ws.length ≤ (Lib.join ws [32]).length + ws.length := by omega
  have := partsF_join [] (Or.inl rfl) ws h ((Lib.join ws [32]).length + ws.length) hl
  rw [List.append_nil] at this
  unfold parts
  rw [← this]
  exact partsF_fuel _ _ _ (Nat.le_refl _) (by omega)
theorem parts_join_blanks {ws : List Bs} (h : ∀ w ∈ ws, Word w) : parts (32 :: 32 :: (Lib.join ws [32] ++ [32])) = some ws := by
  unfold parts
  rw [partsF_blank, partsF_blank]
  have := partsF_join [32] (Or.inr rfl) ws h ((Lib.join ws [32]).length + ws.length + 1) (by omega)
  rw [← this]
  exact partsF_fuel _ _ _ (by simp) (by simp)
theorem join_inj {a b : List Bs} (ha : ∀ w ∈ a, Word w) (hb : ∀ w ∈ b, Word w) (h : Lib.join a [32] = Lib.join b [32]) : a = b := by
  have := parts_join ha
  rw [h, parts_join hb] at this
  exact (Option.some.inj this).symm

theorem join_line {ws : List Bs} (h : ∀ w ∈ ws, ∀ x ∈ w, lineB x) : ∀ x ∈ Lib.join ws [32], lineB x := by
  cases ws with
  | nil => simp [Lib.join]
  | cons w ws =>
    rw [Lib.join_cons]
    intro x hx
    rcases List.mem_append.1 hx with hx | hx
    · exact h w (by simp) x hx
    · unfold Lib.joinTail at hx
      simp only [List.mem_flatten, List.mem_map] at hx
      obtain ⟨l, ⟨v, hv, rfl⟩, hx⟩ := hx
      simp only [List.cons_append, List.nil_append, List.mem_cons] at hx
      rcases hx with rfl | hx
      · decide
      · exact h v (by simp [hv]) x hx

/-! ### one part more behind a line -/
theorem nib_fine {c : UInt8} (h : 0 ≤ nib c) : c ≠ 34 ∧ c ≠ 92 := by
  constructor <;> (intro e; subst e; revert h; decide)

/-- What is read between its quotes has no quote of its own: the scan comes to its end. -/
theorem unq_scan : ∀ (f : Nat) (q : Bs), q.length ≤ f → unqF f q ≠ none → ∀ rest g, (q ++ 34 :: rest).length ≤ g → qscan g (q ++ 34 :: rest) = q.length := by
  intro f
  induction f with
  | zero =>
    intro q hq _ rest g hg
    have : q = [] := List.eq_nil_of_length_eq_zero (by omega)
    subst this
    cases g with
    | zero => simp at hg
    | succ g => simp [qscan]
  | succ f ih =>
    intro q hq hu rest g hg
    cases q with
    | nil =>
      cases g with
      | zero => simp at hg
      | succ g => simp [qscan]
    | cons c t =>
      cases g with
      | zero => simp at hg
      | succ g =>
        simp only [List.cons_append, List.length_cons, List.length_append] at hg hq
        simp only [List.cons_append, List.length_cons]
        by_cases hc : c = 92
        · subst hc
          simp only [unqF, if_true] at hu
          split at hu
          · exact absurd rfl hu
          · rename_i hk
            have hu' : unqF f (t.drop (escape t).2) ≠ none := by
              intro h; rw [h] at hu; exact hu rfl
            cases t with
            | nil => simp [escape] at hk
            | cons d r =>
              simp only [List.length_cons] at hg hq
              have e2 : (escape (d :: r)).2 = 1 ∨ ((escape (d :: r)).2 = 3 ∧ ∃ x y s, r = x :: y :: s ∧ 0 ≤ nib x ∧ 0 ≤ nib y) := by
                unfold escape at hk ⊢
                simp only at hk ⊢
                split
                · left; rfl
                · split
                  · left; rfl
                  · split
                    · left; rfl
                    · split
                      · rename_i h
                        right
                        refine ⟨rfl, ?_⟩
                        match r, h with
                        | x :: y :: s, h => exact ⟨x, y, s, rfl, by simpa using h.2.2.1, by simpa using h.2.2.2⟩
                      · rename_i h1 h2 h3 h4
                        rw [if_neg h1, if_neg h2, if_neg h3, if_neg h4] at hk
                        exact absurd rfl hk
              rcases e2 with e2 | ⟨e2, x, y, s, rfl, hx, hy⟩
              · rw [e2] at hu'
                simp only [List.drop_succ_cons, List.drop_zero] at hu'
                simp only [List.cons_append, qscan, List.drop_succ_cons, List.drop_zero]
                rw [if_neg (by decide), if_pos trivial, ih r (by omega) hu' rest g (by simp; omega)]
                simp only [List.length_cons]; omega
              · rw [e2] at hu'
                simp only [List.drop_succ_cons, List.drop_zero] at hu'
                simp only [List.length_cons] at hg hq
                obtain ⟨g, rfl⟩ : ∃ g', g = g' + 2 := ⟨g - 2, by omega⟩
                have hx' := nib_fine hx
                have hy' := nib_fine hy
                simp only [List.cons_append, qscan, List.drop_succ_cons, List.drop_zero, if_neg hx'.1, if_neg hx'.2, if_neg hy'.1, if_neg hy'.2]
                rw [if_neg (by decide), if_pos trivial, ih s (by omega) hu' rest g (by simp; omega)]
                simp only [List.length_cons]; omega
        · simp only [unqF, if_neg hc] at hu
          split at hu
          · exact absurd rfl hu
          · rename_i hk
            have hu' : unqF f t ≠ none := by
              intro h; rw [h] at hu; exact hu rfl
            have h34 : c ≠ 34 := fun e => hk (Or.inr (Or.inr e))
            simp only [qscan, if_neg h34, if_neg hc]
            rw [ih t (by omega) hu' rest g (by simp; omega)]
            omega

/-- The first part of a line is the same where something stands behind the line, a blank between. -/
theorem cutN_more (c : UInt8) (t s : Bs) (h : unquote ((c :: t).take (cutN (c :: t))) ≠ none) :
    cutN (c :: t ++ 32 :: s) = cutN (c :: t) := by
  by_cases hc : c = 34
  · subst hc
    have hle : cutN (34 :: t) ≤ (34 :: t).length := (cutN_pos 34 t (by decide)).2
    have hn : isPlain ((34 :: t).take (cutN (34 :: t))) = false := by
      have hp := (cutN_pos 34 t (by decide)).1
      obtain ⟨k, hk⟩ : ∃ k, cutN (34 :: t) = k + 1 := ⟨_, (Nat.sub_add_cancel hp).symm⟩
      rw [hk]
      simp [isPlain, plainB]
    obtain ⟨w, hw⟩ : ∃ w, w = (34 :: t).take (cutN (34 :: t)) := ⟨_, rfl⟩
    have hwl : w.length = cutN (34 :: t) := by rw [hw, List.length_take]; omega
    rw [← hw] at h hn
    unfold unquote at h
    rw [hn] at h
    simp only [Bool.false_eq_true, if_false] at h
    split at h
    · exact absurd rfl h
    · rename_i hk
      have h2 : ¬ w.length < 2 := fun e => hk (Or.inl e)
      have hl : w.getD (w.length - 1) 0 = 34 := by
        rcases Decidable.em (w.getD (w.length - 1) 0 = 34) with e | e
        · exact e
        · exact absurd (Or.inr (Or.inr e)) hk
      -- w = 34 :: q ++ [34]
      obtain ⟨q, hq⟩ : ∃ q, q = (w.drop 1).dropLast := ⟨_, rfl⟩
      rw [← hq] at h
      obtain ⟨r, hr⟩ : ∃ r, r = (34 :: t).drop (cutN (34 :: t)) := ⟨_, rfl⟩
      have hall : 34 :: t = w ++ r := by rw [hw, hr, List.take_append_drop]
      have hwq : w = 34 :: (q ++ [34]) := by
        cases w with
        | nil => simp at h2
        | cons a w' =>
          have ha : a = 34 := by
            have := congrArg (fun l => l.getD 0 0) hall
            simpa using this.symm
          subst ha
          have hw'ne : w' ≠ [] := by intro e; subst e; simp at h2
          have := List.dropLast_concat_getLast hw'ne
          have hla : w'.getLast hw'ne = 34 := by
            rw [← hl]
            simp only [List.length_cons, Nat.add_sub_cancel]
            rw [List.getLast_eq_getElem]
            have hpos : 0 < w'.length := List.length_pos_iff.2 hw'ne
            obtain ⟨m, hm⟩ : ∃ m, w'.length = m + 1 := ⟨w'.length - 1, by omega⟩
            simp [List.getD, hm]
          rw [hla] at this
          rw [hq]
          simp only [List.drop_succ_cons, List.drop_zero]
          rw [this]
      have ht : t = q ++ 34 :: r := by
        rw [hwq] at hall
        simpa using hall
      have hql : q.length = w.length - 2 := by rw [hwq]; simp
      have hs1 : qscan (34 :: t).length t = q.length := by
        rw [ht]
        exact unq_scan (w.length - 2) q (by omega) h r _ (by simp)
      have hs2 : qscan (34 :: t ++ 32 :: s).length (t ++ 32 :: s) = q.length := by
        rw [ht, List.append_assoc, List.cons_append]
        exact unq_scan (w.length - 2) q (by omega) h (r ++ 32 :: s) _ (by simp)
      unfold cutN
      simp only [List.cons_append, List.getD_cons_zero, if_true, List.drop_succ_cons, List.drop_zero]
      simp only [List.cons_append] at hs2
      rw [hs1, hs2]
      have hlt : 1 + q.length + 1 ≤ (34 :: t).length := by rw [ht]; simp; omega
      rw [Nat.min_eq_left hlt, Nat.min_eq_left]
      simp only [List.length_cons, List.length_append] at hlt ⊢
      omega
  · unfold cutN
    simp only [List.cons_append, List.getD_cons_zero, if_neg hc]
    have e : ∀ v : Bs, (List.takeWhile (fun x : UInt8 => x != 32) (v ++ 32 :: s)).length = (List.takeWhile (fun x : UInt8 => x != 32) v).length := by
      intro v
      induction v with
      | nil => simp
      | cons a v ih =>
        simp only [List.cons_append, List.takeWhile_cons]
        split
        · simp only [List.length_cons, ih]
        · rfl
    exact e (c :: t)

theorem trim_more {l : Bs} (s : Bs) : Lib.trimLeftB (l ++ s) 32 = if Lib.trimLeftB l 32 = [] then Lib.trimLeftB s 32 else Lib.trimLeftB l 32 ++ s := by
  unfold Lib.trimLeftB
  induction l with
  | nil => simp
  | cons a l ih =>
    simp only [List.cons_append, List.dropWhile_cons]
    split
    · exact ih
    · simp

theorem partsF_more (v : Bs) (hv : Word v) : ∀ (f : Nat) (l : Bs) (ws : List Bs), l.length ≤ f → partsF f l = some ws → ∀ g, (l ++ 32 :: v).length ≤ g → partsF g (l ++ 32 :: v) = some (ws ++ [v]) := by
  have hlast : ∀ g, v.length ≤ g → partsF g v = some [v] := by
    intro g hg
    cases g with
    | zero => exact absurd (List.eq_nil_of_length_eq_zero (by omega)) hv.ne
    | succ g =>
      have := partsF_word (rest := []) hv (Or.inl rfl) g
      rw [List.append_nil] at this
      rw [this]
      unfold partsF
      simp [Lib.trimLeftB]
  intro f
  induction f with
  | zero =>
    intro l ws hl hp g hg
    have : l = [] := List.eq_nil_of_length_eq_zero (by omega)
    subst this
    unfold partsF at hp
    simp [Lib.trimLeftB] at hp
    subst hp
    rw [List.nil_append, partsF_blank]
    exact hlast g (by simp at hg; omega)
  | succ f ih =>
    intro l ws hl hp g hg
    have htl := trim_len l
    cases ht : Lib.trimLeftB l 32 with
    | nil =>
      unfold partsF at hp
      rw [ht] at hp
      simp at hp
      subst hp
      have e : Lib.trimLeftB (l ++ 32 :: v) 32 = Lib.trimLeftB v 32 := by rw [trim_more, if_pos ht, trim_blank]
      have : partsF g (l ++ 32 :: v) = partsF g v := by
        conv => lhs; unfold partsF
        conv => rhs; unfold partsF
        rw [e]
      rw [this]
      exact hlast g (by simp at hg; omega)
    | cons c t =>
      rw [ht] at htl
      have hcp := cutN_pos c t (trim_head ht)
      unfold partsF at hp
      rw [ht] at hp
      simp only at hp
      split at hp
      · cases hp
      · rename_i hk
        have hk1 : unquote ((c :: t).take (cutN (c :: t))) ≠ none := fun e => hk (Or.inl e)
        have hk2 : cutN (c :: t) = (c :: t).length ∨ (c :: t).getD (cutN (c :: t)) 0 = 32 := by
          rcases Decidable.em (cutN (c :: t) = (c :: t).length ∨ (c :: t).getD (cutN (c :: t)) 0 = 32) with e | e
          · exact e
          · exact absurd (Or.inr e) hk
        cases hr : partsF f ((c :: t).drop (cutN (c :: t))) with
        | none => rw [hr] at hp; cases hp
        | some ws' =>
          rw [hr] at hp
          simp only [Option.map_some, Option.some.injEq] at hp
          subst hp
          cases g with
          | zero => simp at hg
          | succ g =>
            have hi := ih ((c :: t).drop (cutN (c :: t))) ws' (by rw [List.length_drop]; omega) hr g (by
              simp only [List.length_append, List.length_drop, List.length_cons] at hg htl hcp ⊢
              omega)
            have hcm := cutN_more c t v hk1
            have e : Lib.trimLeftB (l ++ 32 :: v) 32 = c :: (t ++ 32 :: v) := by
              rw [trim_more, if_neg (by rw [ht]; simp), ht]; rfl
            unfold partsF
            rw [e]
            simp only [List.cons_append] at hcm
            simp only [hcm]
            have e1 : List.take (cutN (c :: t)) (c :: (t ++ 32 :: v)) = (c :: t).take (cutN (c :: t)) := by
              rw [← List.cons_append, List.take_append_of_le_length hcp.2]
            have e2 : List.drop (cutN (c :: t)) (c :: (t ++ 32 :: v)) = (c :: t).drop (cutN (c :: t)) ++ 32 :: v := by
              rw [← List.cons_append, List.drop_append_of_le_length hcp.2]
            rw [e1, e2, hi, if_neg]
            · rfl
            · rintro (h' | h')
              · exact hk1 h'
              · apply h'
                right
                rw [← List.cons_append]
                rcases hk2 with hk2 | hk2
                · rw [hk2]
                  simp [List.getD]
                · rcases Nat.lt_or_ge (cutN (c :: t)) (c :: t).length with hlt | hge
                  · rw [List.getD_eq_getElem?_getD, List.getElem?_append_left hlt, ← List.getD_eq_getElem?_getD]; exact hk2
                  · have : cutN (c :: t) = (c :: t).length := by omega
                    rw [this]
                    simp [List.getD]
theorem parts_more {l v : Bs} {ws : List Bs} (hv : Word v) (h : parts l = some ws) : parts (l ++ 32 :: v) = some (ws ++ [v]) :=
  partsF_more v hv l.length l ws (Nat.le_refl _) h _ (Nat.le_refl _)
end Go.Proofs.YtoihlclmilhpdaaDoor.W
