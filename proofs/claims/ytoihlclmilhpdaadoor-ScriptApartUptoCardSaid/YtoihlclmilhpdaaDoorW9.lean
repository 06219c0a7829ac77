/- Walks: numbers. -/
import Derived.Test.YtoihlclmilhpdaaDoorRow
namespace Go.Proofs.YtoihlclmilhpdaaDoor
open Go Go.RowKit

def intVals (xs : List Int) : List Value := xs.map (Value.int .i64)
def numWords (xs : List Int) : List W.Bs := xs.map Lib.itoa

/-- What a function that makes a row of words leaves. -/
def WordsOwn (ws : List W.Bs) (w : World) (e : Ending) (w' : World) : Prop :=
  ∃ v, e = .returned v ∧ w'.ownsRow w.heap.size 9 1 v ws.length (strVals ws) ∧ Below w.heap.size w w'

theorem take_snoc' {α : Type} (l : List α) (k : Nat) (h : k < l.length) : l.take (k + 1) = l.take k ++ [l[k]] := by
  rw [List.take_succ_eq_append_getElem h]

theorem numWords_snoc {w : World} {B t : Nat} {v : Value} {xs : List Int} {k : Nat} (hk : k < xs.length) (h : w.ownsRow B t 1 v (k + 1) (strVals (numWords (xs.take k)) ++ [.string (itoaBA xs[k])])) :
    w.ownsRow B t 1 v (k + 1) (strVals (numWords (xs.take (k + 1)))) := by
  rw [take_snoc' xs k hk]
  unfold numWords strVals itoaBA at *
  rw [List.map_append, List.map_append]
  exact h

set_option maxHeartbeats 1000000 in
set_option maxRecDepth 100000 in
theorem numbers_any (xs : List Int) (v : Value) (w : World) (hv : RowAt w v (intVals xs)) (hx : ∀ x ∈ xs, W.i64 x) (hN : xs.length ≤ 1000000000) (hE : Env w) :
    Calls Tryd.prog 20 #[v] w (WordsOwn (numWords xs) w) := by
  obtain ⟨i0, hi, hz0, hz1, hz2⟩ := info_parts infoStr
  obtain ⟨ao, c, rfl, hcell⟩ : ∃ ao c, v = .slice ao xs.length c ∧ ∀ k, (h : k < xs.length) → ∃ b off, ao = some ⟨b, off, none⟩ ∧ w.cell? ⟨b, off + k, none⟩ = some (.int .i64 xs[k]) := by
    rcases hv with ⟨h0, hv⟩ | ⟨b, off, c, rfl, _, h⟩
    · obtain ⟨ao, c, rfl⟩ : ∃ ao c, v = .slice ao 0 c := by
        rcases hv with rfl | ⟨a, c, rfl⟩
        · exact ⟨_, _, rfl⟩
        · exact ⟨_, _, rfl⟩
      have : xs = [] := by cases xs with | nil => rfl | cons a l => simp [intVals] at h0
      subst this
      exact ⟨ao, c, rfl, fun k h => absurd h (by simp)⟩
    · refine ⟨_, c, by simp [intVals], fun k hk => ⟨b, off, rfl, h k _ ?_⟩⟩
      simp [intVals, List.getElem?_eq_getElem hk]
  clear hv
  go_enter Tryd.func20, Tryd.ntmps20
  go_wp2
  go_loopw [3, 8] (fun u i wr => ∃ k : Nat, k ≤ xs.length ∧ i = .int .i64 k ∧ wr.ownsRow w.heap.size 9 1 u k (strVals (numWords (xs.take k))) ∧ Below w.heap.size w wr) (fun _ i _ => xs.length - (intOf i).toNat)
  case atStart => exact ⟨0, Nat.zero_le _, rfl, World.ownsRow_nil _ _ _ _, Below.refl _ _⟩
  case round =>
    obtain ⟨k, hk, rfl, hown, hbel⟩ := hrel
    by_cases hlt : k < xs.length
    · obtain ⟨b, off, hao, hc⟩ := hcell k hlt
      subst hao
      have hcr : wr.cell? ⟨b, off + k, none⟩ = some (.int .i64 xs[k]) := by rw [hbel.cell (cell_lt hc)]; exact hc
      have CI := Lib.hid (itoa_any xs[k] wr (hx _ (List.getElem_mem hlt)) (hE.below hbel))
      obtain ⟨x, hxk⟩ : ∃ x, x = xs[k] := ⟨_, rfl⟩
      rw [← hxk] at hcr CI
      have HX := Lib.hid hxk
      clear hc hcell hxk
      go_wp2_with fail
      refine CI.out.mono ?_
      rintro e w1 ⟨rfl, hb1⟩
      have hown1 := ownsRow_below hown hb1
      have hbel1 := hbel.trans (hb1.mono hbel.size)
      clear hown hbel hb1 hcr CI
      go_wp2_with (at_builtin; refine push_own rfl _ _ rfl Tryd.underlying49 hi hz0 hz1 hz2 rfl rfl hown1 rfl rfl hbel1 (by omega) ?_)
      intro v' w4 hown4 hbel4
      clear hown1 hbel1
      go_wp2
      go_roundw
      case rel => exact ⟨k + 1, by omega, by go_num, numWords_snoc hlt (by rw [← HX.out]; exact hown4), hbel4⟩
      case measure => simp [intOf]; omega
    · have hkk : k = xs.length := by omega
      have hown' : wr.ownsRow w.heap.size 9 1 u3 (numWords xs).length (strVals (numWords xs)) := by
        rw [hkk, List.take_length] at hown
        simpa [numWords] using hown
      clear hkk hcell
      go_wp2
      go_ret
      exact ⟨_, rfl, hown', hbel⟩
end Go.Proofs.YtoihlclmilhpdaaDoor
