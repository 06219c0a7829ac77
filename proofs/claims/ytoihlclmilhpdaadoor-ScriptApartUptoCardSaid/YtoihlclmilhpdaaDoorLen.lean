/- Plain Lean: how long lines are. -/
import Derived.Test.YtoihlclmilhpdaaDoorScript
namespace Go.Proofs.YtoihlclmilhpdaaDoor.W
open Go

theorem nDigits_le : ∀ (k u : Nat), u < 10 ^ (k + 1) → Lib.nDigits u ≤ k + 1 := by
  intro k
  induction k with
  | zero => intro u h; rw [Lib.nDigits_small (by omega)]; omega
  | succ k ih =>
    intro u h
    by_cases h10 : u < 10
    · rw [Lib.nDigits_small h10]; omega
    · rw [Lib.nDigits_big h10]
      have := ih (u / 10) (by rw [Nat.pow_succ] at h; omega)
      omega
theorem itoa_len (n : Int) (h : i64 n) : (Lib.itoa n).length ≤ 20 := by
  unfold i64 at h
  unfold Lib.itoa
  split
  · rw [List.length_cons, Lib.decDigits_length]
    have := nDigits_le 18 n.natAbs (by omega)
    omega
  · rw [Lib.decDigits_length]
    have := nDigits_le 18 n.toNat (by omega)
    omega

def total (ws : List Bs) : Nat := (ws.map fun w => w.length + 1).sum
theorem total_nil : total [] = 0 := rfl
theorem total_cons (w : Bs) (ws : List Bs) : total (w :: ws) = w.length + 1 + total ws := by simp [total]
theorem total_append (a b : List Bs) : total (a ++ b) = total a + total b := by simp [total]
theorem join_len (ws : List Bs) : (Lib.join ws [32]).length ≤ total ws := by
  cases ws with
  | nil => simp [Lib.join, total]
  | cons w ws =>
    rw [Lib.join_cons, List.length_append, total_cons]
    have : (Lib.joinTail [32] ws).length = total ws := by
      unfold Lib.joinTail total
      induction ws with
      | nil => rfl
      | cons a l ih => simp only [List.map_cons, List.flatten_cons, List.length_append, ih, List.sum_cons]; simp; omega
    omega
theorem total_itoa : ∀ (l : List Int), (∀ x ∈ l, i64 x) → total (l.map Lib.itoa) ≤ 21 * l.length := by
  intro l
  induction l with
  | nil => intro _; simp [total]
  | cons a l ih =>
    intro h
    have h1 := itoa_len a (h a (by simp))
    have h2 := ih (fun x hx => h x (by simp [hx]))
    rw [List.map_cons, total_cons, List.length_cons]
    omega

theorem told_total (c : Int) (e : Ev) (hf : e.fit) (N : Nat) (h1 : e.name.length ≤ N) (h2 : e.other.length ≤ N) (h3 : e.data.length ≤ N) (h4 : e.keep.length ≤ N) : total (toldL c e) ≤ 21 * N + 21 := by
  unfold toldL
  have q1 := quote_length e.name
  have q2 := quote_length e.other
  have q3 := quote_length e.data
  split
  · rw [total_cons, total_nil]; omega
  · split
    · rw [total_cons, total_nil]; omega
    · split
      · rw [total_cons, total_nil]; omega
      · split
        · rw [total_cons, total_nil]; split <;> simp [yesB, noB] <;> omega
        · split
          · have := total_itoa e.keep hf.2; omega
          · have := itoa_len e.n hf.1; rw [total_cons, total_nil]; omega
theorem total_flatten (e : Ev) (hf : e.fit) (N : Nat) (h1 : e.name.length ≤ N) (h2 : e.other.length ≤ N) (h3 : e.data.length ≤ N) (h4 : e.keep.length ≤ N) : ∀ l : Bs, total ((l.map fun c => toldL (c.toNat : Int) e).flatten) ≤ l.length * (21 * N + 21) := by
  intro l
  induction l with
  | nil => simp [total]
  | cons c l ih =>
    have := told_total (c.toNat : Int) e hf N h1 h2 h3 h4
    rw [List.map_cons, List.flatten_cons, total_append, List.length_cons, Nat.add_mul, Nat.one_mul]
    omega
theorem letters_le (k : Nat) : (lettersL k).length ≤ 2 ∧ (firstL k).length ≤ 6 := by
  by_cases h : k < 13
  · have : ∀ k : Fin 13, (lettersL k.1).length ≤ 2 ∧ (firstL k.1).length ≤ 6 := by decide
    exact this ⟨k, h⟩
  · have : rowsL.getD k ([], []) = ([], []) := by
      rw [List.getD_eq_getElem?_getD, List.getElem?_eq_none (by simp [rowsL]; omega)]; rfl
    unfold lettersL firstL; rw [this]; decide
theorem printWords_len (e : Ev) (hf : e.fit) (N : Nat) (h1 : e.name.length ≤ N) (h2 : e.other.length ≤ N) (h3 : e.data.length ≤ N) (h4 : e.keep.length ≤ N) : total (printWords e) ≤ 42 * N + 49 := by
  unfold printWords
  have hl := letters_le e.kind.toNat
  have ht := total_flatten e hf N h1 h2 h3 h4 (lettersL e.kind.toNat)
  have : (lettersL e.kind.toNat).length * (21 * N + 21) ≤ 2 * (21 * N + 21) := Nat.mul_le_mul_right _ hl.1
  rw [total_cons]
  omega
theorem length_total (ws : List Bs) : ws.length ≤ total ws := by
  induction ws with
  | nil => simp
  | cons w ws ih => rw [total_cons, List.length_cons]; omega
end Go.Proofs.YtoihlclmilhpdaaDoor.W
