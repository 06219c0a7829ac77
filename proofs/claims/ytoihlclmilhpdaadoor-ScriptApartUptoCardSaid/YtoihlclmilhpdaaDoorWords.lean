/- Plain Lean: the words of layer 23 as functions on bytes: plain words, Quote, Unquote; that what is quoted is read back; where a word ends. -/
import Derived.Test.YtoihlclmilhpdaaDoorDec
import Derived.Lib.Bytealg
namespace Go.Proofs.YtoihlclmilhpdaaDoor.W
open Go

def plainB (c : UInt8) : Bool := 33 ≤ c.toNat && c.toNat ≤ 126 && c.toNat != 34 && c.toNat != 92 && c.toNat != 35
def isPlain (l : Bs) : Bool := l.all plainB && !l.isEmpty

/-- "0123456789abcdef" -/
def hexDigits : Bs := [48, 49, 50, 51, 52, 53, 54, 55, 56, 57, 97, 98, 99, 100, 101, 102]
def hexAt (n : Nat) : UInt8 := hexDigits.getD n 0
def byNumber (c : UInt8) : Bs := [92, 120, hexAt (c.toNat / 16), hexAt (c.toNat % 16)]
def nib (c : UInt8) : Int := Lib.indexByte hexDigits c

/-- What Quote writes of the rune at the front of l. -/
def piece (l : Bs) : Bs :=
  let r := (Lib.decodeL l).1
  if r = 34 ∨ r = 92 then 92 :: Lib.encodeRune r
  else if r = 10 then [92, 110]
  else if r = 9 then [92, 116]
  else if r < 32 ∨ r = 127 ∨ (r = 65533 ∧ (Lib.decodeL l).2 = 1) then byNumber (l.getD 0 0)
  else Lib.encodeRune r

def quoteF : Nat → Bs → Bs
  | 0, _ => []
  | f + 1, l => if l = [] then [] else piece l ++ quoteF f (l.drop (Lib.decodeL l).2)
def quote (l : Bs) : Bs := if isPlain l then l else 34 :: (quoteF l.length l ++ [34])

def escape (l : Bs) : UInt8 × Nat :=
  match l with
  | [] => (0, 0)
  | c :: r =>
    if c = 34 ∨ c = 92 then (c, 1) else if c = 110 then (10, 1) else if c = 116 then (9, 1)
    else if c = 120 ∧ 2 ≤ r.length ∧ 0 ≤ nib (r.getD 0 0) ∧ 0 ≤ nib (r.getD 1 0) then ((16 * nib (r.getD 0 0) + nib (r.getD 1 0)).toNat.toUInt8, 3)
    else (0, 0)

def unqF : Nat → Bs → Option Bs
  | _, [] => some []
  | 0, _ :: _ => none
  | f + 1, c :: t =>
    if c = 92 then (if (escape t).2 = 0 then none else (unqF f (t.drop (escape t).2)).map ((escape t).1 :: ·))
    else if c.toNat < 32 ∨ c.toNat = 127 ∨ c = 34 then none
    else (unqF f t).map (c :: ·)
def unquote (w : Bs) : Option Bs :=
  if isPlain w then some w
  else if w.length < 2 ∨ w.getD 0 0 ≠ 34 ∨ w.getD (w.length - 1) 0 ≠ 34 then none
  else unqF (w.length - 2) (w.drop 1).dropLast

theorem unqF_fuel : ∀ (f g : Nat) (l : Bs), l.length ≤ f → l.length ≤ g → unqF f l = unqF g l := by
  intro f
  induction f with
  | zero => intro g l hf hg; have : l = [] := List.eq_nil_of_length_eq_zero (by omega); subst this; cases g <;> rfl
  | succ f ih =>
    intro g l hf hg
    cases l with
    | nil => cases g <;> rfl
    | cons c t =>
      cases g with
      | zero => simp at hg
      | succ g =>
        simp only [List.length_cons] at hf hg
        simp only [unqF]
        rw [ih g t (by omega) (by omega), ih g (t.drop (escape t).2) (by simp; omega) (by simp; omega)]

theorem dec_le (l : Bs) (h : l ≠ []) : 1 ≤ (Lib.decodeL l).2 ∧ (Lib.decodeL l).2 ≤ l.length := by
  cases l with
  | nil => exact absurd rfl h
  | cons c t =>
    by_cases hc : c.toNat < 128
    · rw [dec_ascii c t hc]; simp
    · rcases dec_cases c t (by omega) with h | ⟨h1, h2, _⟩
      · rw [h]; simp
      · exact ⟨by omega, h2⟩

/-! ### what a piece is -/
/-- A byte that may stand by itself in a quoted word. -/
def fineB (c : UInt8) : Prop := ¬ (c.toNat < 32 ∨ c.toNat = 127 ∨ c = 34) ∧ c ≠ 92

theorem unq_fine (w rest : Bs) (h : ∀ x ∈ w, fineB x) : ∀ f, (w ++ rest).length ≤ f → unqF f (w ++ rest) = (unqF (f - w.length) rest).map (w ++ ·) := by
  induction w with
  | nil => intro f _; simp
  | cons c w ih =>
    intro f hf
    have hc := h c (by simp)
    cases f with
    | zero => simp at hf
    | succ f =>
      simp only [List.cons_append, List.length_cons] at hf ⊢
      simp only [unqF, if_neg hc.2, if_neg hc.1]
      rw [ih (fun x hx => h x (by simp [hx])) f (by omega), Option.map_map]
      rw [show f + 1 - (w.length + 1) = f - w.length from by omega]
      rfl

theorem hex_nib : ∀ k : Fin 16, nib (hexAt k.1) = (k.1 : Int) := by decide
theorem hex_byte (c : UInt8) : (16 * nib (hexAt (c.toNat / 16)) + nib (hexAt (c.toNat % 16))).toNat.toUInt8 = c := by
  have hc : c.toNat < 256 := c.toNat_lt
  have h1 := hex_nib ⟨c.toNat / 16, by omega⟩
  have h2 := hex_nib ⟨c.toNat % 16, by omega⟩
  simp only at h1 h2
  rw [h1, h2, show (16 * ((c.toNat / 16 : Nat) : Int) + ((c.toNat % 16 : Nat) : Int)).toNat = c.toNat from by omega]
  simp
theorem hex_nib_nonneg (k : Nat) (h : k < 16) : 0 ≤ nib (hexAt k) := by have := hex_nib ⟨k, h⟩; simp only at this; omega
theorem hex_fine : ∀ k : Fin 16, 33 ≤ (hexAt k.1).toNat ∧ (hexAt k.1).toNat ≤ 126 ∧ hexAt k.1 ≠ 34 ∧ hexAt k.1 ≠ 92 := by decide

theorem fine_of {c : UInt8} (h : 33 ≤ c.toNat ∧ c.toNat ≤ 126 ∧ c ≠ 34 ∧ c ≠ 92) : fineB c := by
  refine ⟨?_, h.2.2.2⟩
  rintro (h0 | h0 | h0)
  · omega
  · omega
  · exact h.2.2.1 h0

theorem escape_byNumber (c : UInt8) (rest : Bs) : escape (120 :: hexAt (c.toNat / 16) :: hexAt (c.toNat % 16) :: rest) = (c, 3) := by
  have hc : c.toNat < 256 := c.toNat_lt
  have n1 := hex_nib_nonneg (c.toNat / 16) (by omega)
  have n2 := hex_nib_nonneg (c.toNat % 16) (by omega)
  simp [escape, n1, n2]
  exact hex_byte c

/-- The forms that a piece may have: what it stands for is the bytes that it was made of. -/
inductive Piece : Bs → Bs → Prop
  | mark (c : UInt8) (h : c = 34 ∨ c = 92) : Piece [c] [92, c]
  | nl : Piece [10] [92, 110]
  | tab : Piece [9] [92, 116]
  | num (c : UInt8) : Piece [c] (byNumber c)
  | own (w : Bs) (h1 : w ≠ []) (h : ∀ x ∈ w, fineB x) : Piece w w

theorem piece_is (l : Bs) (h : l ≠ []) : Piece (l.take (Lib.decodeL l).2) (piece l) := by
  cases l with
  | nil => exact absurd rfl h
  | cons c t =>
    by_cases hc : c.toNat < 128
    · have hd := dec_ascii c t hc
      have he := enc_ascii c hc
      unfold piece
      rw [hd]
      simp only [List.getD_cons_zero, List.take_succ_cons, List.take_zero]
      split
      · rename_i h1
        rw [he]
        refine .mark c ?_
        rcases h1 with h1 | h1
        · exact Or.inl (UInt8.toNat_inj.1 (by simpa using h1))
        · exact Or.inr (UInt8.toNat_inj.1 (by simpa using h1))
      · split
        · rename_i h1 h2
          have : c = 10 := UInt8.toNat_inj.1 (by simpa using h2)
          subst this; exact .nl
        · split
          · rename_i h1 h2 h3
            have : c = 9 := UInt8.toNat_inj.1 (by simpa using h3)
            subst this; exact .tab
          · split
            · exact .num c
            · rename_i h1 h2 h3 h4
              rw [he]
              refine .own [c] (by simp) ?_
              intro x hx
              simp at hx
              subst hx
              refine ⟨?_, ?_⟩
              · rintro (h | h | h)
                · omega
                · omega
                · subst h; simp at h1
              · intro h; subst h; simp at h1
    · rcases dec_cases c t (by omega) with hd | ⟨h1, h2, h3, h4, h5⟩
      · unfold piece
        rw [hd]
        simp only [List.getD_cons_zero, List.take_succ_cons, List.take_zero]
        simp only [show ¬ ((65533 : Nat) = 34 ∨ (65533 : Nat) = 92) from by omega, show ¬ ((65533 : Nat) = 10) from by omega, show ¬ ((65533 : Nat) = 9) from by omega, if_false]
        rw [if_pos (by simp)]
        exact .num c
      · unfold piece
        have n1 : ¬ ((Lib.decodeL (c :: t)).1 = 34 ∨ (Lib.decodeL (c :: t)).1 = 92) := by omega
        have n2 : ¬ (Lib.decodeL (c :: t)).1 = 10 := by omega
        have n3 : ¬ (Lib.decodeL (c :: t)).1 = 9 := by omega
        have n4 : ¬ ((Lib.decodeL (c :: t)).1 < 32 ∨ (Lib.decodeL (c :: t)).1 = 127 ∨ ((Lib.decodeL (c :: t)).1 = 65533 ∧ (Lib.decodeL (c :: t)).2 = 1)) := by omega
        simp only [if_neg n1, if_neg n2, if_neg n3, if_neg n4, h4]
        refine .own _ ?_ ?_
        · intro h0
          have := congrArg List.length h0
          simp only [List.length_take, List.length_nil] at this
          omega
        · intro x hx
          have := h5 x hx
          refine ⟨?_, ?_⟩
          · rintro (h | h | h)
            · omega
            · omega
            · subst h; simp at this
          · intro h; subst h; simp at this

theorem Piece.unq {w p : Bs} (h : Piece w p) (rest : Bs) (f : Nat) (hf : (p ++ rest).length ≤ f) : unqF f (p ++ rest) = (unqF rest.length rest).map (w ++ ·) := by
  cases h with
  | mark c h =>
    match f, hf with
    | f + 1, hf =>
      simp only [List.cons_append, List.nil_append, List.length_cons] at hf
      have he : escape (c :: rest) = (c, 1) := by simp [escape, h]
      simp only [List.cons_append, List.nil_append, unqF, if_true, he]
      rw [if_neg (by omega)]
      simp only [List.drop_succ_cons, List.drop_zero]
      rw [unqF_fuel f rest.length rest (by omega) (Nat.le_refl _)]
  | nl =>
    match f, hf with
    | f + 1, hf =>
      simp only [List.cons_append, List.nil_append, List.length_cons] at hf
      have he : escape (110 :: rest) = (10, 1) := by simp [escape]
      simp only [List.cons_append, List.nil_append, unqF, if_true, he]
      rw [if_neg (by omega)]
      simp only [List.drop_succ_cons, List.drop_zero]
      rw [unqF_fuel f rest.length rest (by omega) (Nat.le_refl _)]
  | tab =>
    match f, hf with
    | f + 1, hf =>
      simp only [List.cons_append, List.nil_append, List.length_cons] at hf
      have he : escape (116 :: rest) = (9, 1) := by simp [escape]
      simp only [List.cons_append, List.nil_append, unqF, if_true, he]
      rw [if_neg (by omega)]
      simp only [List.drop_succ_cons, List.drop_zero]
      rw [unqF_fuel f rest.length rest (by omega) (Nat.le_refl _)]
  | num c =>
    match f, hf with
    | f + 1, hf =>
      simp only [byNumber, List.cons_append, List.nil_append, List.length_cons] at hf
      simp only [byNumber, List.cons_append, List.nil_append, unqF, if_true, escape_byNumber]
      rw [if_neg (by omega)]
      simp only [List.drop_succ_cons, List.drop_zero]
      rw [unqF_fuel f rest.length rest (by omega) (Nat.le_refl _)]
  | own _ h1 h =>
    rw [unq_fine w rest h f hf]
    simp only [List.length_append] at hf
    rw [unqF_fuel (f - w.length) rest.length rest (by omega) (Nat.le_refl _)]

/-- Pieces one behind the other. -/
inductive Pieces : Bs → Bs → Prop
  | nil : Pieces [] []
  | cons {w p l q : Bs} (h : Piece w p) (t : Pieces l q) : Pieces (w ++ l) (p ++ q)

theorem quoteF_is : ∀ (f : Nat) (l : Bs), l.length ≤ f → Pieces l (quoteF f l) := by
  intro f
  induction f with
  | zero => intro l h; have : l = [] := List.eq_nil_of_length_eq_zero (by omega); subst this; exact .nil
  | succ f ih =>
    intro l h
    by_cases hl : l = []
    · subst hl; simp [quoteF]; exact .nil
    · simp only [quoteF, hl, if_false]
      have hd := dec_le l hl
      have := Pieces.cons (piece_is l hl) (ih (l.drop (Lib.decodeL l).2) (by simp; omega))
      rwa [List.take_append_drop] at this

theorem Pieces.unq {l q : Bs} (h : Pieces l q) : ∀ f, q.length ≤ f → unqF f q = some l := by
  induction h with
  | nil => intro f _; cases f <;> rfl
  | @cons w p l q hp _ ih =>
    intro f hf
    rw [hp.unq q f hf, ih q.length (Nat.le_refl _)]
    rfl

theorem Piece.ne_nil {w p : Bs} (h : Piece w p) : w ≠ [] ∧ p ≠ [] := by
  cases h with
  | own _ h1 h => exact ⟨h1, h1⟩
  | num c => simp [byNumber]
  | _ => simp

/-- WHAT IS QUOTED IS READ BACK. -/
theorem unquote_quote (l : Bs) : unquote (quote l) = some l := by
  unfold quote
  by_cases hp : isPlain l = true
  · rw [if_pos hp]; unfold unquote; rw [if_pos hp]
  · rw [if_neg hp]
    have hn : isPlain (34 :: (quoteF l.length l ++ [34])) = false := by
      unfold isPlain; simp [plainB]
    unfold unquote
    rw [hn]
    have hlen : (34 :: (quoteF l.length l ++ [34]) : Bs).length = (quoteF l.length l).length + 2 := by simp
    have hlast : (34 :: (quoteF l.length l ++ [34]) : Bs).getD ((quoteF l.length l).length + 1) 0 = 34 := by
      simp [List.getD]
    simp only [Bool.false_eq_true, if_false, hlen]
    rw [if_neg (by
      rintro (h | h | h)
      · omega
      · exact h (by simp)
      · exact h (by rw [show (quoteF l.length l).length + 2 - 1 = (quoteF l.length l).length + 1 from by omega]; exact hlast))]
    have e : (List.drop 1 (34 :: (quoteF l.length l ++ [34]) : Bs)).dropLast = quoteF l.length l := by simp
    rw [e]
    exact (quoteF_is l.length l (Nat.le_refl _)).unq _ (by omega)

/-! ### where a word ends -/
/-- How many bytes stand ahead of the quote that ends a quoted word (behind its first one); more than there are: none does. -/
def qscan : Nat → Bs → Nat
  | 0, _ => 0
  | _, [] => 0
  | f + 1, c :: t => if c = 34 then 0 else if c = 92 then 2 + qscan f (t.drop 1) else 1 + qscan f t
def cutN (l : Bs) : Nat := if l.getD 0 0 = 34 then min (1 + qscan l.length (l.drop 1) + 1) l.length else (l.takeWhile (· != 32)).length

theorem qscan_fuel : ∀ (f g : Nat) (l : Bs), l.length ≤ f → l.length ≤ g → qscan f l = qscan g l := by
  intro f
  induction f with
  | zero => intro g l hf hg; have : l = [] := List.eq_nil_of_length_eq_zero (by omega); subst this; cases g <;> rfl
  | succ f ih =>
    intro g l hf hg
    cases l with
    | nil => cases g <;> rfl
    | cons c t =>
      cases g with
      | zero => simp at hg
      | succ g =>
        simp only [List.length_cons] at hf hg
        simp only [qscan]
        rw [ih g t (by omega) (by omega), ih g (t.drop 1) (by simp; omega) (by simp; omega)]

theorem qscan_fine (w rest : Bs) (h : ∀ x ∈ w, fineB x) : ∀ f, (w ++ rest).length ≤ f → qscan f (w ++ rest) = w.length + qscan rest.length rest := by
  induction w with
  | nil => intro f hf; simp at hf ⊢; exact qscan_fuel _ _ _ hf (Nat.le_refl _)
  | cons c w ih =>
    intro f hf
    have hc := h c (by simp)
    cases f with
    | zero => simp at hf
    | succ f =>
      simp only [List.cons_append, List.length_cons] at hf ⊢
      have h34 : c ≠ 34 := fun e => hc.1 (Or.inr (Or.inr e))
      simp only [qscan, if_neg h34, if_neg hc.2]
      rw [ih (fun x hx => h x (by simp [hx])) f (by omega)]
      omega

theorem Piece.scan {w p : Bs} (h : Piece w p) (rest : Bs) (f : Nat) (hf : (p ++ rest).length ≤ f) : qscan f (p ++ rest) = p.length + qscan rest.length rest := by
  cases h with
  | own _ h1 h => exact qscan_fine w rest h f hf
  | mark c h =>
    match f, hf with
    | f + 1, hf =>
      simp only [List.cons_append, List.nil_append, List.length_cons] at hf
      simp only [List.cons_append, List.nil_append, qscan, List.drop_succ_cons, List.drop_zero, List.length_cons, List.length_nil]
      rw [if_neg (by decide), if_pos trivial, qscan_fuel f rest.length rest (by omega) (Nat.le_refl _)]
  | nl =>
    match f, hf with
    | f + 1, hf =>
      simp only [List.cons_append, List.nil_append, List.length_cons] at hf
      simp only [List.cons_append, List.nil_append, qscan, List.drop_succ_cons, List.drop_zero, List.length_cons, List.length_nil]
      rw [if_neg (by decide), if_pos trivial, qscan_fuel f rest.length rest (by omega) (Nat.le_refl _)]
  | tab =>
    match f, hf with
    | f + 1, hf =>
      simp only [List.cons_append, List.nil_append, List.length_cons] at hf
      simp only [List.cons_append, List.nil_append, qscan, List.drop_succ_cons, List.drop_zero, List.length_cons, List.length_nil]
      rw [if_neg (by decide), if_pos trivial, qscan_fuel f rest.length rest (by omega) (Nat.le_refl _)]
  | num c =>
    match f, hf with
    | f + 1, hf =>
      simp only [byNumber, List.cons_append, List.nil_append, List.length_cons] at hf
      have hc : c.toNat < 256 := c.toNat_lt
      have h1 := hex_fine ⟨c.toNat / 16, by omega⟩
      have h2 := hex_fine ⟨c.toNat % 16, by omega⟩
      simp only at h1 h2
      have hw : ∀ x ∈ [hexAt (c.toNat / 16), hexAt (c.toNat % 16)], fineB x := by
        intro x hx
        simp at hx
        rcases hx with rfl | rfl
        · exact fine_of h1
        · exact fine_of h2
      have := qscan_fine [hexAt (c.toNat / 16), hexAt (c.toNat % 16)] rest hw f (by simp; omega)
      simp only [List.cons_append, List.nil_append, List.length_cons, List.length_nil] at this
      simp only [byNumber, List.cons_append, List.nil_append, qscan, List.drop_succ_cons, List.drop_zero, List.length_cons, List.length_nil]
      rw [if_neg (by decide), if_pos trivial, this]
      omega

theorem Pieces.scan {l q : Bs} (h : Pieces l q) (rest : Bs) : ∀ f, (q ++ 34 :: rest).length ≤ f → qscan f (q ++ 34 :: rest) = q.length := by
  induction h with
  | nil => intro f hf; cases f with
    | zero => simp at hf
    | succ f => simp [qscan]
  | @cons w p l q hp _ ih =>
    intro f hf
    rw [List.append_assoc, hp.scan _ f (by simpa using hf), ih _ (Nat.le_refl _)]
    simp

/-- No byte below 32, no 127; a blank stands in a quoted word alone. -/
def lineB (c : UInt8) : Prop := 32 ≤ c.toNat ∧ c.toNat ≠ 127
instance (c : UInt8) : Decidable (lineB c) := inferInstanceAs (Decidable (_ ∧ _))
theorem Piece.line {w p : Bs} (h : Piece w p) : ∀ x ∈ p, lineB x := by
  cases h with
  | own _ h1 h => intro x hx; have := h x hx; unfold fineB at this; unfold lineB; omega
  | mark c h =>
    intro x hx
    simp at hx
    rcases hx with rfl | rfl
    · decide
    · rcases h with rfl | rfl <;> decide
  | nl => decide
  | tab => decide
  | num c =>
    have hc : c.toNat < 256 := c.toNat_lt
    have h1 := hex_fine ⟨c.toNat / 16, by omega⟩
    have h2 := hex_fine ⟨c.toNat % 16, by omega⟩
    simp only at h1 h2
    intro x hx
    simp [byNumber] at hx
    unfold lineB
    rcases hx with rfl | rfl | rfl | rfl
    · decide
    · decide
    · omega
    · omega
theorem Pieces.line {l q : Bs} (h : Pieces l q) : ∀ x ∈ q, lineB x := by
  induction h with
  | nil => simp
  | cons hp _ ih =>
    intro x hx
    rcases List.mem_append.1 hx with h | h
    · exact hp.line x h
    · exact ih x h

theorem plain_line {l : Bs} (h : isPlain l = true) : ∀ x ∈ l, 33 ≤ x.toNat ∧ x.toNat ≤ 126 ∧ x ≠ 34 ∧ x ≠ 92 ∧ x ≠ 35 := by
  unfold isPlain at h
  simp only [Bool.and_eq_true, List.all_eq_true] at h
  intro x hx
  have := h.1 x hx
  simp only [plainB, Bool.and_eq_true, decide_eq_true_eq, bne_iff_ne, ne_eq] at this
  refine ⟨this.1.1.1.1, this.1.1.1.2, ?_, ?_, ?_⟩ <;> (intro h; subst h; simp at this)

theorem quote_line (l : Bs) : ∀ x ∈ quote l, lineB x := by
  unfold quote
  split
  · rename_i h; intro x hx; have := plain_line h x hx; unfold lineB; omega
  · intro x hx
    simp at hx
    rcases hx with rfl | hx | rfl
    · decide
    · exact (quoteF_is l.length l (Nat.le_refl _)).line x hx
    · decide
theorem quote_ne (l : Bs) : quote l ≠ [] := by
  unfold quote
  split
  · rename_i h; intro e; subst e; simp [isPlain] at h
  · simp
/-- A word: what is at the front of a line is cut off just there, behind a blank or at the line's end. -/
theorem cutN_plain (w rest : Bs) (h : isPlain w = true) (hr : rest = [] ∨ ∃ t, rest = 32 :: t) : cutN (w ++ rest) = w.length := by
  have hp := plain_line h
  cases w with
  | nil => simp [isPlain] at h
  | cons c w =>
    have hc := hp c (by simp)
    unfold cutN
    simp only [List.cons_append, List.getD_cons_zero]
    rw [if_neg hc.2.2.1]
    have e : ∀ (v : Bs), (∀ x ∈ v, x ≠ 32) → ((v ++ rest).takeWhile (· != 32)).length = v.length := by
      intro v hv
      induction v with
      | nil => rcases hr with rfl | ⟨t, rfl⟩ <;> simp
      | cons a v ih =>
        have ha := hv a (by simp)
        simp only [List.cons_append, List.takeWhile_cons]
        rw [if_pos (by simpa using ha)]
        simp only [List.length_cons]
        rw [ih (fun x hx => hv x (by simp [hx]))]
    have := e (c :: w) (fun x hx e => by have := (hp x hx).1; subst e; simp at this)
    simpa using this
theorem cutN_quoted {l q : Bs} (h : Pieces l q) (rest : Bs) : cutN (34 :: (q ++ [34]) ++ rest) = q.length + 2 := by
  unfold cutN
  simp only [List.cons_append, List.getD_cons_zero, if_true, List.drop_succ_cons, List.drop_zero]
  have e : q ++ [34] ++ rest = q ++ 34 :: rest := by simp
  rw [e, h.scan rest _ (by simp)]
  simp
  omega
theorem cutN_quote (l rest : Bs) (hr : rest = [] ∨ ∃ t, rest = 32 :: t) : cutN (quote l ++ rest) = (quote l).length := by
  unfold quote
  split
  · rename_i h; exact cutN_plain l rest h hr
  · rw [cutN_quoted (quoteF_is l.length l (Nat.le_refl _)) rest]; simp

theorem quote_inj {a b : Bs} (h : quote a = quote b) : a = b := by
  have := unquote_quote a
  rw [h, unquote_quote b] at this
  exact (Option.some.inj this).symm
theorem quote_length (l : Bs) : (quote l).length ≤ 4 * l.length + 2 := by
  unfold quote
  split
  · omega
  · have : ∀ (l q : Bs), Pieces l q → q.length ≤ 4 * l.length := by
      intro l q h
      induction h with
      | nil => simp
      | cons hp _ ih =>
        have := hp.ne_nil
        cases hp with
        | own _ h1 h => simp; omega
        | _ => simp [byNumber]; omega
    have := this l _ (quoteF_is l.length l (Nat.le_refl _))
    simp
    omega
end Go.Proofs.YtoihlclmilhpdaaDoor.W
