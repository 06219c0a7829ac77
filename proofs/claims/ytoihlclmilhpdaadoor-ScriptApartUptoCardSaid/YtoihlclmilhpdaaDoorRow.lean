/- A slice that reads as a list of one-cell values; contracts of Itoa, Atoi, Join in the words used here. -/
import Derived.Test.YtoihlclmilhpdaaDoorW7
import Derived.Test.YtoihlclmilhpdaaDoorEnv
import Derived.Lib.AppendIntMem
namespace Go.Proofs.YtoihlclmilhpdaaDoor
open Go Go.RowKit

/-- The slice v reads as xs (each one cell). -/
def RowAt (w : World) (v : Value) (xs : List Value) : Prop :=
  (xs = [] ∧ (v = .slice none 0 0 ∨ ∃ a c, v = .slice (some a) 0 c)) ∨ ∃ b off c, v = .slice (some ⟨b, off, none⟩) xs.length c ∧ xs.length ≤ c ∧ ∀ i x, xs[i]? = some x → w.cell? ⟨b, off + i, none⟩ = some x

theorem RowAt.below {w w' : World} {v : Value} {xs : List Value} (h : RowAt w v xs) (hb : Below w.heap.size w w') : RowAt w' v xs := by
  rcases h with h | ⟨b, off, c, h1, h2, h3⟩
  · exact Or.inl h
  · exact Or.inr ⟨b, off, c, h1, h2, fun i x hi => by have := h3 i x hi; rw [hb.cell (cell_lt this)]; exact this⟩

theorem RowAt.of_own {w : World} {v : Value} {base e : Nat} {xs : List Value} (h : w.ownsRow base e 1 v xs.length xs) : RowAt w v xs := by
  have hh := h
  rcases h.2 with ⟨hv, h0⟩ | ⟨g, cap, cur, hv, hb, hg, hn, hm, hz, ht⟩
  · exact Or.inl ⟨List.eq_nil_of_length_eq_zero h0, Or.inl hv⟩
  · subst hv
    refine Or.inr ⟨g, 0, cap, rfl, hn, fun i x hi => ?_⟩
    have hlt : i < xs.length := by
      rcases Nat.lt_or_ge i xs.length with h' | h'
      · exact h'
      · rw [List.getElem?_eq_none h'] at hi; cases hi
    have := hh.cellAt i (by omega)
    rw [Nat.zero_add, this]; exact hi

def itoaBA (n : Int) : ByteArray := ⟨(Lib.itoa n).toArray⟩
theorem itoa_any (n : Int) (w : World) (h : W.i64 n) (hE : Env w) :
    Calls Tryd.prog 30 #[.int .i64 n] w fun e w' => e = .returned (.string (itoaBA n)) ∧ Below w.heap.size w w' :=
  (Tryd.strconv_Itoa n h.1 h.2 w hE.pow).mono fun e w' ⟨he, k, os, hw⟩ => ⟨he, by rw [hw]; exact Lib.below_grow _ w (Nat.le_refl _) k os⟩

/-- Is it an error? -/
def AtoiErr (b : Bool) (v : Value) : Prop := (b = false ∧ v = .nilIface) ∨ (b = true ∧ ∃ t a, v = .iface t (.pointer (some a)))
def atoiBad (l : W.Bs) : Bool := match Lib.atoiAll l with | .ok _ => false | _ => true
theorem atoi_any (s : ByteArray) (w : World) (hs : s.size ≤ 1000000000) (hE : Env w) :
    Calls Tryd.prog 65 #[.string s] w fun e w' => ∃ v, e = .returned (.tuple #[.int .i64 (W.atoiVal s.data.toList), v]) ∧ AtoiErr (atoiBad s.data.toList) v ∧ Below w.heap.size w w' := by
  unfold W.atoiVal atoiBad
  cases ha : Lib.atoiAll s.data.toList with
  | ok n =>
    refine (Tryd.strconv_Atoi_ok s (by omega) n ha w).mono fun e w' ⟨he, hw⟩ => ⟨_, he, Or.inl ⟨rfl, rfl⟩, ?_⟩
    rcases hw with rfl | ⟨t, rfl⟩
    · exact Below.refl _ _
    · exact ⟨rfl, rfl, rfl, by rw [Lib.bytesWorld_size]; omega, fun j hj => Lib.bytesWorld_at_old w _ t j hj⟩
  | range =>
    obtain ⟨tp, p, hv⟩ := hE.rng
    exact (Tryd.strconv_Atoi_range_var s (by omega) ha tp p w hv).mono fun e w' ⟨N, he, _, _, hb⟩ => ⟨_, he, Or.inr ⟨rfl, _, _, rfl⟩, hb⟩
  | _ =>
    obtain ⟨tp, p, hv⟩ := hE.syn
    exact (Any.strconv_Atoi_syntax_var Tryd.laysC172 s (by omega) ha tp p w hv).mono fun e w' ⟨N, he, _, _, hb⟩ => ⟨_, he, Or.inr ⟨rfl, _, _, rfl⟩, hb⟩

/-- strings.Join of a slice that reads as words. -/
theorem join_any (ws : List W.Bs) (v : Value) (w : World) (hv : RowAt w v (strVals ws)) (hlen : (Lib.join ws [32]).length ≤ 1000000000) (hN : ws.length ≤ 1000000000) :
    Calls Tryd.prog 15 #[v, .string ⟨#[32]⟩] w fun e w' => e = .returned (.string ⟨(Lib.join ws [32]).toArray⟩) ∧ Below w.heap.size w w' := by
  rcases hv with ⟨hnil, hv⟩ | ⟨b, off, c, rfl, hc, hcell⟩
  · have : ws = [] := by cases ws with | nil => rfl | cons a l => simp [strVals] at hnil
    subst this
    obtain ⟨ao, c, rfl⟩ : ∃ ao c, v = .slice ao 0 c := by
      rcases hv with rfl | ⟨a, c, rfl⟩
      · exact ⟨_, _, rfl⟩
      · exact ⟨_, _, rfl⟩
    exact (Tryd.strings_Join_none ao c ⟨#[32]⟩ w).mono fun e w' ⟨he, hw⟩ => ⟨he, by rw [hw]; exact Below.refl _ _⟩
  · cases ws with
    | nil => exact (Tryd.strings_Join_none _ c ⟨#[32]⟩ w).mono fun e w' ⟨he, hw⟩ => ⟨he, by rw [hw]; exact Below.refl _ _⟩
    | cons a l =>
      have hlt : b < w.heap.size := cell_lt (hcell 0 (.string ⟨a.toArray⟩) rfl)
      have e1 : ((a :: l).map fun x : W.Bs => (⟨x.toArray⟩ : ByteArray)).map (·.data.toList) = a :: l := by simp [Function.comp_def]
      have := Tryd.strings_Join b off c ((a :: l).map fun x : W.Bs => (⟨x.toArray⟩ : ByteArray)) ⟨#[32]⟩ w (fun j x hj => hcell j (.string x) (by
        simp only [strVals, List.getElem?_map] at hj ⊢
        cases hl : (a :: l)[j]? with
        | none => rw [hl] at hj; simp at hj
        | some y => rw [hl] at hj; simp at hj; rw [← hj]; rfl)) hlt (by rw [List.length_map]; omega) (by rw [List.length_map]; simpa [strVals] using hc) (by rw [e1]; exact Nat.le_trans hlen (by omega))
      rw [e1] at this
      simpa [strVals] using this
end Go.Proofs.YtoihlclmilhpdaaDoor
