/- Plain Lean: layer 26 as functions on bytes: Print, Parse, Tell; the laws ScriptBack, ScriptLines, ScriptApart of them. -/
import Derived.Test.YtoihlclmilhpdaaDoorNums
import Derived.Lib.Repeat
namespace Go.Proofs.YtoihlclmilhpdaaDoor.W
open Go

structure Ev where
  kind : Int := 0
  name : Bs := []
  other : Bs := []
  data : Bs := []
  n : Int := 0
  yes : Bool := false
  keep : List Int := []
  deriving DecidableEq

/-- The rows of the table: a kind's first part, its letters. -/
def rowsL : List (Bs × Bs) :=
  [([], []), ([99, 114, 101, 97, 116, 101], [110]), ([97, 112, 112, 101, 110, 100], [110, 100]), ([99, 117, 116], [110]), ([114, 101, 110, 97, 109, 101], [110, 111]), ([114, 101, 109, 111, 118, 101], [110]), ([115, 121, 110, 99], [110]), ([112, 111, 108, 108], [105]), ([115, 101, 110, 100], []), ([97, 110, 115, 119, 101, 114], [121, 105]), ([116, 105, 99, 107], [105]), ([99, 104, 101, 99, 107], []), ([99, 114, 97, 115, 104], [107])]
def firstL (k : Nat) : Bs := (rowsL.getD k ([], [])).1
def lettersL (k : Nat) : Bs := (rowsL.getD k ([], [])).2

def yesB : Bs := [121, 101, 115]
def noB : Bs := [110, 111]

/-- What a letter tells of an event. -/
def toldL (letter : Int) (e : Ev) : List Bs :=
  if letter = 110 then [quote e.name] else if letter = 111 then [quote e.other] else if letter = 100 then [quote e.data]
  else if letter = 121 then [if e.yes then yesB else noB] else if letter = 107 then e.keep.map Lib.itoa else [Lib.itoa e.n]

def printWords (e : Ev) : List Bs := firstL e.kind.toNat :: ((lettersL e.kind.toNat).map fun c => toldL (c.toNat : Int) e).flatten
def mayKind (e : Ev) : Bool := 1 ≤ e.kind && e.kind ≤ 12
def printL (e : Ev) : Bs := Lib.join (printWords e) [32]

/-- What a letter does with a part: the event behind it; whether it may be. -/
def takeL (letter : Int) (e : Ev) (w : Bs) : Ev × Bool :=
  if letter = 110 then ({ e with name := (unquote w).getD [] }, true)
  else if letter = 111 then ({ e with other := (unquote w).getD [] }, true)
  else if letter = 100 then ({ e with data := (unquote w).getD [] }, true)
  else if letter = 121 then ({ e with yes := w == yesB }, w == yesB || w == noB)
  else if letter = 107 then ({ e with keep := e.keep ++ [atoiVal w] }, (integer w).isSome)
  else ({ e with n := atoiVal w }, (integer w).isSome)

def readGo : Ev → Bs → List Bs → Ev × Bool
  | e, [], _ => (e, true)
  | e, _ :: _, [] => (e, false)
  | e, c :: cs, w :: ws => if (takeL (c.toNat : Int) e w).2 then readGo (takeL (c.toNat : Int) e w).1 cs ws else ((takeL (c.toNat : Int) e w).1, false)
def lettersOf (k : Nat) (n : Nat) : Bs := if lettersL k = [107] then Lib.repeatL [107] n else lettersL k
def readL (k : Nat) (ws : List Bs) : Ev × Bool :=
  if ws.length ≠ (lettersOf k ws.length).length then ({ kind := k }, false) else readGo { kind := k } (lettersOf k ws.length) ws
/-- Kind k's answer for these parts. -/
def tryL (w0 : Bs) (ws : List Bs) (k : Nat) : Option Ev := if 1 ≤ k ∧ firstL k = w0 ∧ (readL k ws).2 = true then some (readL k ws).1 else none
def parseWords : List Bs → Option Ev
  | [] => none
  | w0 :: ws => (List.range 13).findSome? (tryL w0 ws)
def parseL (line : Bs) : Option Ev :=
  match parts line with
  | none => none
  | some ws => parseWords ws

/-- An event with nothing in it but what its kind uses. -/
def usedL (e : Ev) : Ev :=
  if e.kind = 1 ∨ e.kind = 3 ∨ e.kind = 5 ∨ e.kind = 6 then { kind := e.kind, name := e.name }
  else if e.kind = 2 then { kind := e.kind, name := e.name, data := e.data }
  else if e.kind = 4 then { kind := e.kind, name := e.name, other := e.other }
  else if e.kind = 7 ∨ e.kind = 10 then { kind := e.kind, n := e.n }
  else if e.kind = 9 then { kind := e.kind, n := e.n, yes := e.yes }
  else if e.kind = 12 then { kind := e.kind, keep := e.keep }
  else { kind := e.kind }

def Ev.fit (e : Ev) : Prop := i64 e.n ∧ ∀ x ∈ e.keep, i64 x

theorem rep_len (n : Nat) : (Lib.repeatL [107] n).length = n := by
  induction n with
  | zero => rfl
  | succ n ih => simp [Lib.repeatL, ih]

/-- Twelve kinds. -/
theorem kinds {P : Nat → Prop} (h1 : P 1) (h2 : P 2) (h3 : P 3) (h4 : P 4) (h5 : P 5) (h6 : P 6) (h7 : P 7) (h8 : P 8) (h9 : P 9) (h10 : P 10) (h11 : P 11) (h12 : P 12) :
    ∀ k, 1 ≤ k → k ≤ 12 → P k := by
  intro k a b
  match k, a, b with
  | 1, _, _ => exact h1
  | 2, _, _ => exact h2
  | 3, _, _ => exact h3
  | 4, _, _ => exact h4
  | 5, _, _ => exact h5
  | 6, _, _ => exact h6
  | 7, _, _ => exact h7
  | 8, _, _ => exact h8
  | 9, _, _ => exact h9
  | 10, _, _ => exact h10
  | 11, _, _ => exact h11
  | 12, _, _ => exact h12

theorem first_plain : ∀ k, 1 ≤ k → k ≤ 12 → isPlain (firstL k) = true := kinds (by decide) (by decide) (by decide) (by decide) (by decide) (by decide) (by decide) (by decide) (by decide) (by decide) (by decide) (by decide)

/-- Only the kind whose first part it is may read it. -/
theorem find_kind (g : Nat → Option Ev) : ∀ k, 1 ≤ k → k ≤ 12 → (List.range 13).findSome? (fun j => if 1 ≤ j ∧ firstL j = firstL k then g j else none) = g k := by
  have e : List.range 13 = [0, 1, 2, 3, 4, 5, 6, 7, 8, 9, 10, 11, 12] := by decide
  rw [e]
  apply kinds <;> simp [firstL, rowsL, List.findSome?] <;> (cases h : g _ <;> simp)

theorem parse_kind (k : Nat) (h1 : 1 ≤ k) (h2 : k ≤ 12) (ws : List Bs) : parseWords (firstL k :: ws) = if (readL k ws).2 = true then some (readL k ws).1 else none := by
  have := find_kind (fun j => if (readL j ws).2 = true then some (readL j ws).1 else none) k h1 h2
  rw [← this]
  unfold parseWords
  simp only
  congr 1
  funext j
  unfold tryL
  by_cases hj : 1 ≤ j ∧ firstL j = firstL k
  · rw [if_pos hj]
    by_cases hr : (readL j ws).2 = true
    · rw [if_pos ⟨hj.1, hj.2, hr⟩, if_pos hr]
    · rw [if_neg (fun h => hr h.2.2), if_neg hr]
  · rw [if_neg hj, if_neg (fun h => hj ⟨h.1, h.2.1⟩)]

theorem parse_some {ws : List Bs} {x : Ev} (h : parseWords ws = some x) : ∃ k us, 1 ≤ k ∧ k ≤ 12 ∧ ws = firstL k :: us ∧ readL k us = (x, true) := by
  cases ws with
  | nil => cases h
  | cons w0 us =>
    unfold parseWords at h
    simp only at h
    obtain ⟨k, hk, hx⟩ := List.exists_of_findSome?_eq_some h
    unfold tryL at hx
    split at hx
    · rename_i hc
      injection hx with hx
      have : k < 13 := by simpa using hk
      exact ⟨k, us, hc.1, by omega, by rw [hc.2.1], Prod.ext hx hc.2.2⟩
    · cases hx

/-! ### reading what was told -/
theorem read_keep (e : Ev) : ∀ (l : List Int), (∀ x ∈ l, i64 x) → readGo e (Lib.repeatL [107] l.length) (l.map Lib.itoa) = ({ e with keep := e.keep ++ l }, true) := by
  intro l
  induction l generalizing e with
  | nil => intro _; simp [Lib.repeatL, readGo]
  | cons n l ih =>
    intro h
    have hn := h n (by simp)
    simp only [List.length_cons, Lib.repeatL, List.cons_append, List.nil_append, List.map_cons, readGo]
    have ht : takeL ((107 : UInt8).toNat : Int) e (Lib.itoa n) = ({ e with keep := e.keep ++ [n] }, true) := by
      unfold takeL
      simp [atoiVal_itoa n hn, integer_itoa n hn]
    rw [ht]
    simp only [if_true]
    rw [ih _ (fun x hx => h x (by simp [hx]))]
    simp

theorem fit_used (e : Ev) (h : e.fit) : (usedL e).fit := by
  unfold usedL
  unfold Ev.fit at *
  have z : i64 0 := by unfold i64; omega
  (repeat' split) <;> simp [h, z] <;> first | exact h.1 | exact h.2 | skip

/-- Kind by kind: what is told is read. -/
theorem read_told (e : Ev) (h : e.fit) : ∀ k : Nat, 1 ≤ k → k ≤ 12 → e.kind = k → readL k (((lettersL k).map fun c => toldL (c.toNat : Int) e).flatten) = (usedL e, true) := by
  obtain ⟨hn, hk⟩ := h
  have i1 := atoiVal_itoa e.n hn
  have i2 := integer_itoa e.n hn
  apply kinds
  all_goals intro hkind
  case h12 =>
    have e1 : ((lettersL 12).map fun c => toldL (c.toNat : Int) e).flatten = e.keep.map Lib.itoa := by simp [lettersL, rowsL, toldL]
    rw [e1]
    unfold readL
    have e2 : lettersOf 12 (e.keep.map Lib.itoa).length = Lib.repeatL [107] e.keep.length := by simp [lettersOf, lettersL, rowsL]
    rw [e2, rep_len, List.length_map, if_neg (by simp), read_keep _ _ hk]
    simp [usedL, hkind]
  case h9 =>
    unfold readL lettersOf
    cases hy : e.yes <;> simp [lettersL, rowsL, toldL, readGo, takeL, usedL, hkind, i1, i2, hy, yesB, noB]
  all_goals
    unfold readL lettersOf
    simp [lettersL, rowsL, toldL, readGo, takeL, usedL, hkind, i1, i2, unquote_quote]

theorem told_words (e : Ev) (c : Int) : ∀ w ∈ toldL c e, Word w := by
  intro w hw
  unfold toldL at hw
  split at hw
  · simp at hw; subst hw; exact Word.quote _
  · split at hw
    · simp at hw; subst hw; exact Word.quote _
    · split at hw
      · simp at hw; subst hw; exact Word.quote _
      · split at hw
        · simp only [List.mem_singleton] at hw
          subst hw
          split <;> exact Word.plain (by decide)
        · split at hw
          · simp only [List.mem_map] at hw
            obtain ⟨n, _, rfl⟩ := hw
            exact Word.itoa n
          · simp at hw; subst hw; exact Word.itoa _
theorem told_lines (e : Ev) (c : Int) : ∀ w ∈ toldL c e, ∀ x ∈ w, lineB x := by
  intro w hw
  have pl : ∀ l : Bs, isPlain l = true → ∀ x ∈ l, lineB x := by
    intro l hl x hx; have := plain_line hl x hx; unfold lineB; omega
  unfold toldL at hw
  split at hw
  · simp at hw; subst hw; exact quote_line _
  · split at hw
    · simp at hw; subst hw; exact quote_line _
    · split at hw
      · simp at hw; subst hw; exact quote_line _
      · split at hw
        · simp only [List.mem_singleton] at hw
          subst hw
          split <;> exact pl _ (by decide)
        · split at hw
          · simp only [List.mem_map] at hw
            obtain ⟨n, _, rfl⟩ := hw
            exact pl _ (itoa_plain n)
          · simp at hw; subst hw; exact pl _ (itoa_plain _)

theorem kind_nat {e : Ev} (h : mayKind e = true) : ∃ k : Nat, 1 ≤ k ∧ k ≤ 12 ∧ e.kind = k := by
  unfold mayKind at h
  simp only [Bool.and_eq_true, decide_eq_true_eq] at h
  exact ⟨e.kind.toNat, by omega, by omega, by omega⟩

theorem print_words (e : Ev) (h : mayKind e = true) : ∀ w ∈ printWords e, Word w := by
  obtain ⟨k, h1, h2, h3⟩ := kind_nat h
  intro w hw
  unfold printWords at hw
  rw [h3] at hw
  simp only [Int.toNat_natCast, List.mem_cons, List.mem_flatten, List.mem_map] at hw
  rcases hw with rfl | ⟨l, ⟨c, _, rfl⟩, hw⟩
  · exact Word.plain (first_plain k h1 h2)
  · exact told_words e _ w hw
theorem print_line (e : Ev) (h : mayKind e = true) : ∀ x ∈ printL e, lineB x := by
  obtain ⟨k, h1, h2, h3⟩ := kind_nat h
  refine join_line ?_
  intro w hw
  unfold printWords at hw
  rw [h3] at hw
  simp only [Int.toNat_natCast, List.mem_cons, List.mem_flatten, List.mem_map] at hw
  rcases hw with rfl | ⟨l, ⟨c, _, rfl⟩, hw⟩
  · intro x hx; have := plain_line (first_plain k h1 h2) x hx; unfold lineB; omega
  · exact told_lines e _ w hw

theorem parse_printWords (e : Ev) (h : mayKind e = true) (hf : e.fit) : parseWords (printWords e) = some (usedL e) := by
  obtain ⟨k, h1, h2, h3⟩ := kind_nat h
  unfold printWords
  rw [h3]
  simp only [Int.toNat_natCast]
  rw [parse_kind k h1 h2, read_told e hf k h1 h2 h3]
  simp

/-- THE STAGE's THEOREM: an event is read back from its line, but for what its kind doesn't use; with blanks at the front and at the end too. -/
theorem parse_print (e : Ev) (h : mayKind e = true) (hf : e.fit) : parseL (printL e) = some (usedL e) := by
  unfold parseL printL
  rw [parts_join (print_words e h)]
  exact parse_printWords e h hf
theorem parse_print_blanks (e : Ev) (h : mayKind e = true) (hf : e.fit) : parseL (32 :: 32 :: (printL e ++ [32])) = some (usedL e) := by
  unfold parseL printL
  rw [parts_join_blanks (print_words e h)]
  exact parse_printWords e h hf

theorem used_kind (e : Ev) : (usedL e).kind = e.kind := by
  unfold usedL
  (repeat' split) <;> rfl
theorem used_may (e : Ev) : mayKind (usedL e) = mayKind e := by unfold mayKind; rw [used_kind]
theorem print_used (e : Ev) (h : mayKind e = true) : printL (usedL e) = printL e := by
  obtain ⟨k, h1, h2, h3⟩ := kind_nat h
  unfold printL printWords
  rw [used_kind, h3]
  simp only [Int.toNat_natCast]
  congr 2
  have H : ∀ k : Nat, 1 ≤ k → k ≤ 12 → e.kind = k → ((lettersL k).map fun c => toldL (c.toNat : Int) (usedL e)).flatten = ((lettersL k).map fun c => toldL (c.toNat : Int) e).flatten := by
    apply kinds
    all_goals intro hkind
    all_goals simp [lettersL, rowsL, toldL, usedL, hkind]
  exact H k h1 h2 h3
theorem print_eq (a b : Ev) (ha : mayKind a = true) (hb : mayKind b = true) (fa : a.fit) (fb : b.fit) : (printL a = printL b) ↔ usedL a = usedL b := by
  constructor
  · intro h
    have := parse_print a ha fa
    rw [h, parse_print b hb fb] at this
    exact (Option.some.inj this).symm
  · intro h
    rw [← print_used a ha, h, print_used b hb]

/-! ### any line that is an event's -/
theorem int_fit {w : Bs} (h : (integer w).isSome = true) : i64 (atoiVal w) := by
  obtain ⟨n, hn⟩ := Option.isSome_iff_exists.1 h
  have := integer_val hn
  rw [this.1]; exact this.2.1

theorem keep_inv : ∀ (ws : List Bs) (e : Ev), (∀ x ∈ e.keep, i64 x) → ∀ y, readGo e (Lib.repeatL [107] ws.length) ws = (y, true) → ∃ l, y = { e with keep := l } ∧ ∀ x ∈ l, i64 x := by
  intro ws
  induction ws with
  | nil => intro e he y hy; simp [Lib.repeatL, readGo] at hy; exact ⟨e.keep, by rw [← hy], he⟩
  | cons w ws ih =>
    intro e he y hy
    simp only [List.length_cons, Lib.repeatL, List.cons_append, List.nil_append, readGo] at hy
    have e1 : takeL ((107 : UInt8).toNat : Int) e w = ({ e with keep := e.keep ++ [atoiVal w] }, (integer w).isSome) := by simp [takeL]
    rw [e1] at hy
    split at hy
    · rename_i ht
      obtain ⟨l, hl1, hl2⟩ := ih { e with keep := e.keep ++ [atoiVal w] } (by
        intro x hx
        simp only [List.mem_append, List.mem_singleton] at hx
        rcases hx with hx | rfl
        · exact he x hx
        · exact int_fit ht) y hy
      exact ⟨l, hl1, hl2⟩
    · simp at hy

theorem read_len {k : Nat} {ws : List Bs} {x : Ev} (hk : lettersL k ≠ [107]) (h : readL k ws = (x, true)) : ws.length = (lettersL k).length ∧ readGo { kind := k } (lettersL k) ws = (x, true) := by
  unfold readL lettersOf at h
  rw [if_neg hk] at h
  split at h
  · simp at h
  · rename_i hl
    exact ⟨Decidable.of_not_not hl, h⟩

theorem inv_none {k : Nat} {ws : List Bs} {x : Ev} (hk : lettersL k = []) (h : readL k ws = (x, true)) : x = { kind := k } := by
  obtain ⟨h1, h2⟩ := read_len (by rw [hk]; simp) h
  rw [hk] at h2
  simp [readGo] at h2
  exact h2.symm
theorem inv_n {k : Nat} {ws : List Bs} {x : Ev} (hk : lettersL k = [110]) (h : readL k ws = (x, true)) : ∃ a, x = { kind := k, name := a } := by
  obtain ⟨h1, h2⟩ := read_len (by rw [hk]; decide) h
  rw [hk] at h1 h2
  match ws, h1, h2 with
  | [w], _, h2 => simp [readGo, takeL] at h2; exact ⟨_, h2.symm⟩
theorem inv_nd {k : Nat} {ws : List Bs} {x : Ev} (hk : lettersL k = [110, 100]) (h : readL k ws = (x, true)) : ∃ a b, x = { kind := k, name := a, data := b } := by
  obtain ⟨h1, h2⟩ := read_len (by rw [hk]; decide) h
  rw [hk] at h1 h2
  match ws, h1, h2 with
  | [w, v], _, h2 => simp [readGo, takeL] at h2; exact ⟨_, _, h2.symm⟩
theorem inv_no {k : Nat} {ws : List Bs} {x : Ev} (hk : lettersL k = [110, 111]) (h : readL k ws = (x, true)) : ∃ a b, x = { kind := k, name := a, other := b } := by
  obtain ⟨h1, h2⟩ := read_len (by rw [hk]; decide) h
  rw [hk] at h1 h2
  match ws, h1, h2 with
  | [w, v], _, h2 => simp [readGo, takeL] at h2; exact ⟨_, _, h2.symm⟩
theorem inv_i {k : Nat} {ws : List Bs} {x : Ev} (hk : lettersL k = [105]) (h : readL k ws = (x, true)) : ∃ a, i64 a ∧ x = { kind := k, n := a } := by
  obtain ⟨h1, h2⟩ := read_len (by rw [hk]; decide) h
  rw [hk] at h1 h2
  match ws, h1, h2 with
  | [w], _, h2 =>
    have e1 : ∀ e, takeL ((105 : UInt8).toNat : Int) e w = ({ e with n := atoiVal w }, (integer w).isSome) := by intro e; simp [takeL]
    simp only [readGo, e1] at h2
    split at h2
    · rename_i hi
      simp at h2
      exact ⟨_, int_fit hi, h2.symm⟩
    · simp at h2
theorem inv_yi {k : Nat} {ws : List Bs} {x : Ev} (hk : lettersL k = [121, 105]) (h : readL k ws = (x, true)) : ∃ a b, i64 a ∧ x = { kind := k, n := a, yes := b } := by
  obtain ⟨h1, h2⟩ := read_len (by rw [hk]; decide) h
  rw [hk] at h1 h2
  match ws, h1, h2 with
  | [w, v], _, h2 =>
    have e1 : ∀ e, takeL ((105 : UInt8).toNat : Int) e v = ({ e with n := atoiVal v }, (integer v).isSome) := by intro e; simp [takeL]
    have e2 : ∀ e, takeL ((121 : UInt8).toNat : Int) e w = ({ e with yes := w == yesB }, w == yesB || w == noB) := by intro e; simp [takeL]
    simp only [readGo, e1, e2] at h2
    split at h2
    · split at h2
      · rename_i hi
        simp at h2
        exact ⟨_, _, int_fit hi, h2.symm⟩
      · simp at h2
    · simp at h2

/-- What a line of an event leaves is an event with nothing in it but what its kind uses. -/
theorem read_inv : ∀ k : Nat, 1 ≤ k → k ≤ 12 → ∀ (ws : List Bs) (x : Ev), readL k ws = (x, true) → x.kind = k ∧ x.fit ∧ usedL x = x := by
  have z : i64 0 := by unfold i64; omega
  apply kinds
  all_goals intro ws x h
  case h12 =>
    unfold readL at h
    have e2 : lettersOf 12 ws.length = Lib.repeatL [107] ws.length := by simp [lettersOf, lettersL, rowsL]
    rw [e2, rep_len, if_neg (by simp)] at h
    obtain ⟨l, rfl, hl⟩ := keep_inv ws { kind := (12 : Nat) } (by simp) x h
    exact ⟨rfl, ⟨z, hl⟩, rfl⟩
  case h1 | h3 | h5 | h6 =>
    obtain ⟨a, rfl⟩ := inv_n rfl h
    exact ⟨rfl, ⟨z, by simp⟩, rfl⟩
  case h2 =>
    obtain ⟨a, b, rfl⟩ := inv_nd rfl h
    exact ⟨rfl, ⟨z, by simp⟩, rfl⟩
  case h4 =>
    obtain ⟨a, b, rfl⟩ := inv_no rfl h
    exact ⟨rfl, ⟨z, by simp⟩, rfl⟩
  case h7 | h10 =>
    obtain ⟨a, ha, rfl⟩ := inv_i rfl h
    exact ⟨rfl, ⟨ha, by simp⟩, rfl⟩
  case h8 | h11 =>
    obtain rfl := inv_none rfl h
    exact ⟨rfl, ⟨z, by simp⟩, rfl⟩
  case h9 =>
    obtain ⟨a, b, ha, rfl⟩ := inv_yi rfl h
    exact ⟨rfl, ⟨ha, by simp⟩, rfl⟩

theorem parse_inv {l : Bs} {x : Ev} (h : parseL l = some x) : mayKind x = true ∧ x.fit ∧ usedL x = x := by
  unfold parseL at h
  cases hp : parts l with
  | none => rw [hp] at h; cases h
  | some ws =>
    rw [hp] at h
    obtain ⟨k, us, h1, h2, _, h4⟩ := parse_some h
    have := read_inv k h1 h2 us x h4
    refine ⟨?_, this.2⟩
    unfold mayKind
    rw [this.1]
    simp only [Bool.and_eq_true, decide_eq_true_eq]
    omega
theorem parse_again {l : Bs} {x : Ev} (h : parseL l = some x) : parseL (printL x) = some x := by
  obtain ⟨h1, h2, h3⟩ := parse_inv h
  rw [parse_print x h1 h2, h3]

/-- One more integer behind a crash is read; behind others it is one part too many. -/
theorem go_more (w : Bs) (hw : (integer w).isSome = true) : ∀ (ws : List Bs) (e x : Ev), readGo e (Lib.repeatL [107] ws.length) ws = (x, true) → (readGo e (Lib.repeatL [107] (ws.length + 1)) (ws ++ [w])).2 = true := by
  intro ws
  induction ws with
  | nil =>
    intro e x _
    have e1 : takeL ((107 : UInt8).toNat : Int) e w = ({ e with keep := e.keep ++ [atoiVal w] }, (integer w).isSome) := by simp [takeL]
    simp [Lib.repeatL, readGo, takeL, hw]
  | cons v ws ih =>
    intro e x h
    simp only [List.length_cons, Lib.repeatL, List.cons_append, List.nil_append, readGo] at h ⊢
    split at h
    · rename_i ht
      rw [if_pos ht]
      have := ih _ x h
      simpa [Lib.repeatL] using this
    · simp at h

theorem parse_more {l : Bs} {x : Ev} (h : parseL l = some x) : (parseL (l ++ [32, 49])).isSome = (x.kind == 12) := by
  unfold parseL at h
  cases hp : parts l with
  | none => rw [hp] at h; cases h
  | some ws =>
    rw [hp] at h
    simp only at h
    obtain ⟨k, us, h1, h2, rfl, h4⟩ := parse_some h
    have hk := (read_inv k h1 h2 us x h4).1
    have hm := parts_more (v := [49]) (Word.plain (by decide)) hp
    unfold parseL
    rw [hm]
    simp only [List.cons_append]
    rw [parse_kind k h1 h2]
    rw [hk]
    by_cases h12 : k = 12
    · subst h12
      have e2 : ∀ n, lettersOf 12 n = Lib.repeatL [107] n := by intro n; simp [lettersOf, lettersL, rowsL]
      have e3 : ∀ vs, readL 12 vs = readGo { kind := (12 : Nat) } (Lib.repeatL [107] vs.length) vs := by
        intro vs
        unfold readL
        rw [e2, rep_len, if_neg (by simp)]
      rw [e3] at h4
      have := go_more [49] (by decide +kernel) us _ x h4
      rw [e3, List.length_append, List.length_cons, List.length_nil, Nat.zero_add, if_pos this]
      rfl
    · have hl : ∀ k : Nat, 1 ≤ k → k ≤ 12 → k ≠ 12 → lettersL k ≠ [107] := by apply kinds <;> decide
      have hl := hl k h1 h2 h12
      obtain ⟨h5, _⟩ := read_len hl h4
      have : (readL k (us ++ [[49]])).2 = false := by
        unfold readL lettersOf
        rw [if_neg hl, if_pos (by simp; omega)]
      rw [this]
      have : ((k : Int) == 12) = false := by simp; omega
      rw [this]
      rfl

/-! ### notes -/
structure Mk where
  serial : Int := 0
  inode : Int := 0
  gen : Int := 0
  off : Int := 0
  missed : Int := 0
  gone : Int := 0
  cuts : Int := 0
  tails : Int := 0
  long : Int := 0
  deriving DecidableEq
structure Nt where
  kind : Int := 0
  path : Int := 0
  mark : Mk := {}
  text : Bs := []
  rules : Int := 0
  attempt : Int := 0
  marks : List Mk := []
  deriving DecidableEq

def sentB : Bs := [115, 101, 110, 116]
def doneB : Bs := [100, 111, 110, 101]
def backB : Bs := [98, 97, 99, 107]
def keptB : Bs := [107, 101, 112, 116]
def crashB : Bs := [99, 114, 97, 115, 104]
def noneB : Bs := [110, 111, 110, 101]

def placeNums (n : Nt) : List Int := [n.path, n.mark.serial, n.mark.inode, n.mark.gen, n.mark.off]
def markNums (m : Mk) : List Int := [m.serial, m.inode, m.gen, m.off, m.missed, m.gone, m.cuts, m.tails, m.long]
def alertWords (first : Bs) (n : Nt) (more : List Int) : List Bs := first :: ((placeNums n).map Lib.itoa ++ more.map Lib.itoa ++ [Lib.itoa n.rules, quote n.text])
def tellWords (n : Nt) : List Bs :=
  if n.kind = 1 then alertWords sentB n [n.attempt] else if n.kind = 2 then alertWords doneB n [] else if n.kind = 3 then alertWords backB n []
  else if n.kind = 4 then keptB :: (n.marks.map fun m => (markNums m).map Lib.itoa).flatten else if n.kind = 5 then [crashB] else [noneB]
def tellL (n : Nt) : Bs := Lib.join (tellWords n) [32]

def Mk.fit (m : Mk) : Prop := ∀ x ∈ markNums m, i64 x
def Nt.fit (n : Nt) : Prop := i64 n.path ∧ n.mark.fit ∧ i64 n.rules ∧ i64 n.attempt ∧ ∀ m ∈ n.marks, m.fit

/-- Do two notes of one kind tell the same? -/
def toldSame (a b : Nt) : Bool :=
  if a.kind = 1 ∨ a.kind = 2 ∨ a.kind = 3 then placeNums a == placeNums b && a.text == b.text && a.rules == b.rules && (a.kind != 1 || a.attempt == b.attempt)
  else if a.kind = 4 then a.marks == b.marks
  else true

theorem alert_words {first : Bs} (hf : isPlain first = true) (n : Nt) (more : List Int) : ∀ w ∈ alertWords first n more, Word w := by
  intro w hw
  unfold alertWords at hw
  simp only [List.mem_cons, List.mem_append, List.mem_map, List.mem_nil_iff, or_false] at hw
  rcases hw with rfl | (⟨x, _, rfl⟩ | ⟨x, _, rfl⟩) | rfl | rfl
  · exact Word.plain hf
  · exact Word.itoa x
  · exact Word.itoa x
  · exact Word.itoa _
  · exact Word.quote _
theorem tell_words (n : Nt) : ∀ w ∈ tellWords n, Word w := by
  unfold tellWords
  split
  · exact alert_words (by decide) n _
  · split
    · exact alert_words (by decide) n _
    · split
      · exact alert_words (by decide) n _
      · split
        · intro w hw
          simp only [List.mem_cons, List.mem_flatten, List.mem_map] at hw
          rcases hw with rfl | ⟨l, ⟨m, _, rfl⟩, hw⟩
          · exact Word.plain (by decide)
          · simp only [List.mem_map] at hw
            obtain ⟨x, _, rfl⟩ := hw
            exact Word.itoa x
        · split
          · intro w hw; simp at hw; subst hw; exact Word.plain (by decide)
          · intro w hw; simp at hw; subst hw; exact Word.plain (by decide)
theorem plain_lines {l : Bs} (h : isPlain l = true) : ∀ x ∈ l, lineB x := by
  intro x hx; have := plain_line h x hx; unfold lineB; omega
theorem tell_line (n : Nt) : ∀ x ∈ tellL n, lineB x := by
  refine join_line ?_
  have al : ∀ {first : Bs} (_ : isPlain first = true) (more : List Int), ∀ w ∈ alertWords first n more, ∀ x ∈ w, lineB x := by
    intro first hf more w hw
    unfold alertWords at hw
    simp only [List.mem_cons, List.mem_append, List.mem_map, List.mem_nil_iff, or_false] at hw
    rcases hw with rfl | (⟨x, _, rfl⟩ | ⟨x, _, rfl⟩) | rfl | rfl
    · exact plain_lines hf
    · exact plain_lines (itoa_plain x)
    · exact plain_lines (itoa_plain x)
    · exact plain_lines (itoa_plain _)
    · exact quote_line _
  unfold tellWords
  split
  · exact al (by decide) _
  · split
    · exact al (by decide) _
    · split
      · exact al (by decide) _
      · split
        · intro w hw
          simp only [List.mem_cons, List.mem_flatten, List.mem_map] at hw
          rcases hw with rfl | ⟨l, ⟨m, _, rfl⟩, hw⟩
          · exact plain_lines (by decide)
          · simp only [List.mem_map] at hw
            obtain ⟨x, _, rfl⟩ := hw
            exact plain_lines (itoa_plain x)
        · split
          · intro w hw; simp at hw; subst hw; exact plain_lines (by decide)
          · intro w hw; simp at hw; subst hw; exact plain_lines (by decide)

theorem tell_same (a b : Nt) : (tellL a = tellL b) ↔ tellWords a = tellWords b :=
  ⟨fun h => join_inj (tell_words a) (tell_words b) h, fun h => by unfold tellL; rw [h]⟩

def noKind (n : Nt) : Bool := n.kind < 1 || 5 < n.kind
/-- The first word tells the kind. -/
theorem tell_head (n : Nt) : (tellWords n).head? = some (if n.kind = 1 then sentB else if n.kind = 2 then doneB else if n.kind = 3 then backB else if n.kind = 4 then keptB else if n.kind = 5 then crashB else noneB) := by
  unfold tellWords alertWords
  (repeat' split) <;> rfl
theorem kinds5 {n : Nt} (h : noKind n = false) : n.kind = 1 ∨ n.kind = 2 ∨ n.kind = 3 ∨ n.kind = 4 ∨ n.kind = 5 := by
  unfold noKind at h
  simp only [Bool.or_eq_false_iff, decide_eq_false_iff_not] at h
  omega
theorem none_words {n : Nt} (h : noKind n = true) : tellWords n = [noneB] := by
  unfold noKind at h
  simp only [Bool.or_eq_true, decide_eq_true_eq] at h
  unfold tellWords
  rw [if_neg (by omega), if_neg (by omega), if_neg (by omega), if_neg (by omega), if_neg (by omega)]
theorem tell_none (n : Nt) : (tellL n = noneB) ↔ noKind n = true := by
  have e : noneB = Lib.join [noneB] [32] := by simp [Lib.join_one]
  constructor
  · intro h
    cases hk : noKind n with
    | true => rfl
    | false =>
      rw [e] at h
      have hw := join_inj (tell_words n) (by intro w hw; simp at hw; subst hw; exact Word.plain (by decide)) h
      have := tell_head n
      rw [hw] at this
      rcases kinds5 hk with h | h | h | h | h <;> rw [h] at this <;> revert this <;> decide
  · intro h
    unfold tellL
    rw [none_words h, ← e]

theorem map_itoa_inj : ∀ {l m : List Int}, (∀ x ∈ l, i64 x) → (∀ x ∈ m, i64 x) → l.map Lib.itoa = m.map Lib.itoa → l = m := by
  intro l
  induction l with
  | nil => intro m _ _ h; cases m with
    | nil => rfl
    | cons => simp at h
  | cons a l ih =>
    intro m hl hm h
    cases m with
    | nil => simp at h
    | cons b m =>
      simp only [List.map_cons, List.cons.injEq] at h
      rw [itoa_inj (hl a (by simp)) (hm b (by simp)) h.1, ih (fun x hx => hl x (by simp [hx])) (fun x hx => hm x (by simp [hx])) h.2]
theorem markNums_inj {a b : Mk} (h : markNums a = markNums b) : a = b := by
  unfold markNums at h
  simp only [List.cons.injEq, and_true] at h
  cases a; cases b
  simp only [Mk.mk.injEq]
  exact h
theorem marks_inj : ∀ {l m : List Mk}, (∀ x ∈ l, x.fit) → (∀ x ∈ m, x.fit) → (l.map fun m => (markNums m).map Lib.itoa).flatten = (m.map fun m => (markNums m).map Lib.itoa).flatten → l = m := by
  intro l
  induction l with
  | nil => intro m _ _ h; cases m with
    | nil => rfl
    | cons b m => simp [markNums] at h
  | cons a l ih =>
    intro m hl hm h
    cases m with
    | nil => simp [markNums] at h
    | cons b m =>
      simp only [List.map_cons, List.flatten_cons] at h
      have := List.append_inj h (by simp [markNums])
      rw [markNums_inj (map_itoa_inj (hl a (by simp)) (hm b (by simp)) this.1), ih (fun x hx => hl x (by simp [hx])) (fun x hx => hm x (by simp [hx])) this.2]

theorem place_fit {n : Nt} (h : n.fit) : ∀ x ∈ placeNums n, i64 x := by
  intro x hx
  have hm := h.2.1
  unfold Mk.fit markNums at hm
  unfold placeNums at hx
  simp only [List.mem_cons, List.mem_nil_iff, or_false] at hx
  rcases hx with rfl | rfl | rfl | rfl | rfl
  · exact h.1
  · exact hm _ (by simp)
  · exact hm _ (by simp)
  · exact hm _ (by simp)
  · exact hm _ (by simp)

theorem alert_inj {f : Bs} {a b : Nt} {m k : List Int} (fa : a.fit) (fb : b.fit) (hm : ∀ x ∈ m, i64 x) (hk : ∀ x ∈ k, i64 x) (hl : m.length = k.length) :
    alertWords f a m = alertWords f b k ↔ placeNums a = placeNums b ∧ m = k ∧ a.rules = b.rules ∧ a.text = b.text := by
  unfold alertWords
  constructor
  · intro h
    simp only [List.cons.injEq, true_and] at h
    have h1 := List.append_inj h (by simp [placeNums, hl])
    have h2 := List.append_inj h1.1 (by simp [placeNums])
    have h3 := h1.2
    simp only [List.cons.injEq, and_true] at h3
    exact ⟨map_itoa_inj (place_fit fa) (place_fit fb) h2.1, map_itoa_inj hm hk h2.2, itoa_inj fa.2.2.1 fb.2.2.1 h3.1, quote_inj h3.2⟩
  · rintro ⟨h1, h2, h3, h4⟩
    rw [h1, h2, h3, h4]

/-- OF TWO NOTES OF THE FIVE KINDS: told alike just if of one kind, and all that is told is alike. -/
theorem tell_told (a b : Nt) (ha : noKind a = false) (hb : noKind b = false) (fa : a.fit) (fb : b.fit) : (tellL a = tellL b) ↔ (a.kind = b.kind ∧ toldSame a b = true) := by
  rw [tell_same]
  by_cases hk : a.kind = b.kind
  · simp only [hk, true_and]
    unfold toldSame tellWords
    rcases kinds5 hb with h | h | h | h | h
    · rw [hk, h]
      simp only [if_true, true_or]
      rw [alert_inj (m := [a.attempt]) (k := [b.attempt]) fa fb (by intro x hx; simp at hx; subst hx; exact fa.2.2.2.1) (by intro x hx; simp at hx; subst hx; exact fb.2.2.2.1) rfl]
      simp
      constructor
      · rintro ⟨h1, h2, h3, h4⟩; exact ⟨⟨⟨h1, h4⟩, h3⟩, h2⟩
      · rintro ⟨⟨⟨h1, h4⟩, h3⟩, h2⟩; exact ⟨h1, h2, h3, h4⟩
    · rw [hk, h]
      simp
      rw [alert_inj fa fb (by simp) (by simp) rfl]
      simp
      constructor
      · rintro ⟨h1, h3, h4⟩; exact ⟨⟨h1, h4⟩, h3⟩
      · rintro ⟨⟨h1, h4⟩, h3⟩; exact ⟨h1, h3, h4⟩
    · rw [hk, h]
      simp
      rw [alert_inj fa fb (by simp) (by simp) rfl]
      simp
      constructor
      · rintro ⟨h1, h3, h4⟩; exact ⟨⟨h1, h4⟩, h3⟩
      · rintro ⟨⟨h1, h4⟩, h3⟩; exact ⟨h1, h3, h4⟩
    · rw [hk, h]
      simp
      constructor
      · intro h; exact marks_inj fa.2.2.2.2 fb.2.2.2.2 h
      · intro h; rw [h]
    · rw [hk, h]
      simp
  · simp only [hk, false_and, iff_false]
    intro h
    have h1 := tell_head a
    rw [h, tell_head b] at h1
    rcases kinds5 ha with h2 | h2 | h2 | h2 | h2 <;> rcases kinds5 hb with h3 | h3 | h3 | h3 | h3 <;> first | (exact hk (h2.trans h3.symm)) | (rw [h2, h3] at h1; revert h1; decide)
end Go.Proofs.YtoihlclmilhpdaaDoor.W
