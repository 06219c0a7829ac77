/- Plain: how long an event's parts are. Walks: ScriptLines. -/
import Derived.Test.YtoihlclmilhpdaaDoorW26
namespace Go.Proofs.YtoihlclmilhpdaaDoor
open Go Go.RowKit

theorem unqF_len : ∀ (f : Nat) (l v : W.Bs), W.unqF f l = some v → v.length ≤ l.length := by
  intro f
  induction f with
  | zero =>
    intro l v h
    cases l with
    | nil => simp [W.unqF] at h; subst h; simp
    | cons c t => simp [W.unqF] at h
  | succ f ih =>
    intro l v h
    cases l with
    | nil => simp [W.unqF] at h; subst h; simp
    | cons c t =>
      simp only [W.unqF] at h
      split at h
      · split at h
        · cases h
        · cases hu : W.unqF f (t.drop (W.escape t).2) with
          | none => rw [hu] at h; cases h
          | some u =>
            rw [hu] at h
            simp only [Option.map_some, Option.some.injEq] at h
            subst h
            have := ih _ _ hu
            rw [List.length_drop] at this
            simp only [List.length_cons]; omega
      · split at h
        · cases h
        · cases hu : W.unqF f t with
          | none => rw [hu] at h; cases h
          | some u =>
            rw [hu] at h
            simp only [Option.map_some, Option.some.injEq] at h
            subst h
            have := ih _ _ hu
            simp only [List.length_cons]; omega
theorem unquote_len {w v : W.Bs} (h : W.unquote w = some v) : v.length ≤ w.length := by
  unfold W.unquote at h
  split at h
  · injection h with h; subst h; exact Nat.le_refl _
  · split at h
    · cases h
    · have := unqF_len _ _ _ h
      rw [List.length_dropLast, List.length_drop] at this
      omega
theorem unq_get_len (w : W.Bs) : ((W.unquote w).getD []).length ≤ w.length := by
  cases h : W.unquote w with
  | none => simp
  | some v => exact unquote_len h
/-- The event's texts are short. -/
def EvLen (N : Nat) (e : W.Ev) : Prop := e.name.length ≤ N ∧ e.other.length ≤ N ∧ e.data.length ≤ N
theorem take_len {N : Nat} {e : W.Ev} {w : W.Bs} (c : Int) (h : EvLen N e) (hw : w.length ≤ N) : EvLen N (W.takeL c e w).1 := by
  have hu := unq_get_len w
  obtain ⟨h1, h2, h3⟩ := h
  unfold W.takeL EvLen
  repeat' split
  all_goals refine ⟨?_, ?_, ?_⟩ <;> simp only <;> omega
theorem readGo_len {N : Nat} : ∀ (cs : W.Bs) (ws : List W.Bs) (e : W.Ev), EvLen N e → (∀ w ∈ ws, w.length ≤ N) → EvLen N (W.readGo e cs ws).1 ∧ (W.readGo e cs ws).1.keep.length ≤ e.keep.length + ws.length := by
  intro cs
  induction cs with
  | nil => intro ws e h _; simp only [W.readGo]; exact ⟨h, by omega⟩
  | cons c cs ih =>
    intro ws e h hw
    cases ws with
    | nil => simp only [W.readGo]; exact ⟨h, by omega⟩
    | cons w ws =>
      have h1 := take_len (c.toNat : Int) h (hw w (by simp))
      have h2 := take_keep (c.toNat : Int) e w
      simp only [W.readGo]
      split
      · obtain ⟨h3, h4⟩ := ih ws _ h1 (fun x hx => hw x (by simp [hx]))
        exact ⟨h3, by rw [List.length_cons]; omega⟩
      · exact ⟨h1, by simp only [List.length_cons]; omega⟩
theorem parse_len {l : W.Bs} {x : W.Ev} (h : W.parseL l = some x) : EvLen l.length x ∧ x.keep.length ≤ l.length := by
  unfold W.parseL at h
  cases hp : W.parts l with
  | none => rw [hp] at h; cases h
  | some ws =>
    rw [hp] at h
    obtain ⟨k, us, h1, h2, rfl, hr⟩ := W.parse_some h
    obtain ⟨hl1, hl2⟩ := partsF_len _ _ _ hp
    rw [List.length_cons] at hl1
    have hu : ∀ w ∈ us, w.length ≤ l.length := fun w hw => hl2 w (by simp [hw])
    have h0 : EvLen l.length ({ kind := (k : Int) } : W.Ev) := ⟨Nat.zero_le _, Nat.zero_le _, Nat.zero_le _⟩
    unfold W.readL at hr
    split at hr
    · injection hr with _ hr; cases hr
    · obtain ⟨h3, h4⟩ := readGo_len (W.lettersOf k us.length) us _ h0 hu
      rw [hr] at h3 h4
      exact ⟨h3, by simp at h4; omega⟩
end Go.Proofs.YtoihlclmilhpdaaDoor
