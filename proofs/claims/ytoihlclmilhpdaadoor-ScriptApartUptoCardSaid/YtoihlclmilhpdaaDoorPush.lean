/- 'v = append(v, x...)': v the call's own row, x a slice that reads as a list. -/
import Derived.Test.YtoihlclmilhpdaaDoorW10
import Derived.Test.YtoihlclmilhpdaaDoorLen
namespace Go.Proofs.YtoihlclmilhpdaaDoor
open Go Go.RowKit

theorem heap_lt {w : World} {k : Nat} {ob : Obj} (h : w.heap[k]? = some ob) : k < w.heap.size := by
  rcases Nat.lt_or_ge k w.heap.size with h' | h'
  · exact h'
  · simp [Array.getElem?_eq_none h'] at h
/-- A row's block is no iterator. -/
theorem own_ne_iter {w : World} {base e n k pos : Nat} {v : Value} {xs : List Value} {s : ByteArray} (h : w.ownsRow base e 1 v n xs) (hk : w.heap[k]? = some (.stringIter s pos)) : v.ownBlock ≠ some k := by
  rcases h.2 with ⟨hv, _⟩ | ⟨g, cap, cur, hv, hb, hg, _⟩
  · rw [hv]; simp [Value.ownBlock]
  · rw [hv]
    simp only [Value.ownBlock]
    intro e; injection e with e; rw [e, hk] at hg; cases hg
theorem own_iterAt {w : World} {base e n k pos : Nat} {v : Value} {xs : List Value} {s : ByteArray} (h : w.ownsRow base e 1 v n xs) (hk : w.heap[k]? = some (.stringIter s pos)) (p : Nat) : (w.iterAt k s p).ownsRow base e 1 v n xs := by
  have hne := own_ne_iter h hk
  refine ⟨h.1, h.2.imp id ?_⟩
  rintro ⟨g, cap, cur, h1, h2, h3, h4⟩
  refine ⟨g, cap, cur, h1, h2, ?_, h4⟩
  rw [Lib.iterAt_other _ _ _ _ _ (by intro e; apply hne; rw [h1, e]; rfl)]; exact h3
theorem push_row {P : Program} {w0 wB : World} {ops : Array Oper} {rest : List Oper} {o : Oper} {a : Act} {Q : Exit → Act → World → Prop} (hgd : o.guard = none) (s x : Operand) {t e : TypeId} {i : TypeInfo} {z v y : Value} {n bytes : Nat} {xs ys : List Value}
    (ho : o.op = .call { callee := .builtin .append, args := #[s, x], argTypes := #[t, t] }) (ht : P.underlying t = some (.slice e)) (hi : P.info? e = some i) (hz : i.zero = some z) (hsize : i.size = 1) (hby : i.bytes = bytes) (hzs : z.cells.size = 1)
    (hs : a.eval s = v) (hown : w0.ownsRow wB.heap.size e 1 v n xs) (hx : a.eval x = y) (hr : RowAt w0 y ys) (h1 : ∀ u ∈ ys, u.oneCell' = true) (hbel : Below wB.heap.size wB w0) (hb : n + ys.length ≤ 1073741824 ∧ bytes ≤ 64)
    (h : ∀ v' w', w'.ownsRow wB.heap.size e 1 v' (n + ys.length) (xs ++ ys) → Below wB.heap.size wB w' → (∀ k ob, w0.heap[k]? = some ob → v.ownBlock ≠ some k → w'.heap[k]? = some ob) → wpList P ops Q rest (a.put o.dst v') w') :
    wpList P ops Q (o :: rest) a w0 := by
  have hsz := hbel.size
  have hB : (n + ys.length) * bytes ≤ 140737488355328 := Nat.le_trans (Nat.mul_le_mul hb.1 hb.2) (by omega)
  have fin : ∀ v' w', w'.ownsRow wB.heap.size e 1 v' (n + ys.length) (xs ++ ys) → w0.grownBy w' v.ownBlock → wpList P ops Q rest (a.put o.dst v') w' := fun v' w' hown' hgrow =>
    h v' w' hown' (hbel.grown hgrow hsz (fun k hk => (hown.lt k hk).1)) (fun k ob hk hne => by rw [hgrow.block k (heap_lt hk) (fun e => hne e.symm)]; exact hk)
  have someCase : ∀ ad c, y = .slice (some ad) ys.length c → (∀ j u, ys[j]? = some u → w0.cell? (ad.add j) = some u) → wpList P ops Q (o :: rest) a w0 := by
    intro ad c hy hc
    exact wpList_append_own _ hgd s x t ho wB.heap.size e i z 1 bytes ht hi hz hsize hby hzs (by decide) v n xs hs hown ad ys.length c ys (hx.trans hy) (by omega) hc h1 (by unfold maxLen; omega) hB hsz (fun v' w' h2 h3 _ => fin v' w' h2 h3)
  rcases hr with ⟨hnil, hy | ⟨ad, c, hy⟩⟩ | ⟨b, off, c, hy, _, hc⟩
  · subst hnil
    refine wpList_append_own_none hgd s x t ho wB.heap.size e i 1 ht hi v n xs hs hown (hx.trans hy) ?_
    exact h v w0 (by simpa using hown) hbel (fun _ _ hk _ => hk)
  · subst hnil
    exact someCase ad c hy (by intro j u hj; simp at hj)
  · exact someCase ⟨b, off, none⟩ c hy (by
      intro j u hj
      have : (⟨b, off, none⟩ : Addr).add j = ⟨b, off + j, none⟩ := by unfold Addr.add; split <;> simp_all
      rw [this]; exact hc j u hj)
theorem strs_flat (ws : List W.Bs) : ∀ u ∈ strVals ws, u.oneCell' = true := by
  intro u hu
  unfold strVals at hu
  obtain ⟨_, _, rfl⟩ := List.mem_map.1 hu
  rfl
theorem strVals_len (ws : List W.Bs) : (strVals ws).length = ws.length := by simp [strVals]
end Go.Proofs.YtoihlclmilhpdaaDoor
