/- Walks: Tell, but of the kept marks. -/
import Derived.Test.YtoihlclmilhpdaaDoorW24
namespace Go.Proofs.YtoihlclmilhpdaaDoor
open Go Go.RowKit

def noteCells (n : W.Nt) (mv : Value) : Array Value := #[.int .i64 n.kind, .int .i64 n.path, .int .i64 n.mark.serial, .int .i64 n.mark.inode, .int .i64 n.mark.gen, .int .i64 n.mark.off, .int .i64 n.mark.missed, .int .i64 n.mark.gone, .int .i64 n.mark.cuts, .int .i64 n.mark.tails, .int .i64 n.mark.long, .string (ba n.text), .int .u32 n.rules, .int .i64 n.attempt, mv]
def TellPost (n : W.Nt) (w : World) (e : Ending) (w' : World) : Prop := e = .returned (.string (ba (W.tellL n))) ∧ Below w.heap.size w w'

set_option maxHeartbeats 2000000 in
set_option maxRecDepth 100000 in
theorem tell_1 (n : W.Nt) (mv : Value) (w : World) (hn : AlertAt n) (hk : n.kind = 1) (hE : Env w) : Calls Tryd.prog 12 #[.agg (noteCells n mv)] w (TellPost n w) := by
  have hres : W.tellL n = Lib.join (W.alertWords W.sentB n [n.attempt]) [32] := by unfold W.tellL W.tellWords; rw [hk]; rfl
  have HR := Lib.hid hres
  have CA := Lib.hid (fun u v (hb : Below w.heap.size w u) (hv : RowAt u v (intVals [n.attempt])) => alert_any W.sentB n [n.attempt] v u (by decide) hn (by intro x hx; simp at hx; subst hx; exact hn.fit.2.2.2.1) (by simp) hv (hE.below hb))
  have hb1 := boxed w (.cells (noteCells n mv) 43)
  have hb2 := hb1.alloc hb1.size (.cells #[.int .i64 n.attempt] 3)
  have hrow : RowAt ((w.alloc (.cells (noteCells n mv) 43)).alloc (.cells #[.int .i64 n.attempt] 3)) (.slice (some ⟨w.heap.size + 1, 0, none⟩) 1 1) (intVals [n.attempt]) := by
    have := own_lits (w.alloc (.cells (noteCells n mv) 43)) 3 [.int .i64 n.attempt]
    rw [alloc_size] at this; exact this
  have HB := Lib.hid hb2
  have HROW := Lib.hid hrow
  clear hb1 hb2 hrow
  unfold alertCells at CA
  unfold noteCells at HB HROW ⊢
  rw [hk] at HB HROW ⊢
  clear hres hk
  go_enter Tryd.func12, Tryd.ntmps12
  go_wp2_with fail
  refine (CA.out _ _ HB.out HROW.out).mono ?_
  unfold AlertPost
  rintro e w1 ⟨rfl, hb1⟩
  have hb := HB.out.trans (hb1.mono HB.out.size)
  go_wp2_with fail
  go_ret
  unfold TellPost
  rw [HR.out]
  exact ⟨rfl, hb⟩
set_option maxHeartbeats 2000000 in
set_option maxRecDepth 100000 in
theorem tell_2 (n : W.Nt) (mv : Value) (w : World) (hn : AlertAt n) (hk : n.kind = 2) (hE : Env w) : Calls Tryd.prog 12 #[.agg (noteCells n mv)] w (TellPost n w) := by
  have hres : W.tellL n = Lib.join (W.alertWords W.doneB n []) [32] := by unfold W.tellL W.tellWords; rw [hk]; rfl
  have HR := Lib.hid hres
  have CA := Lib.hid (fun u v (hb : Below w.heap.size w u) (hv : RowAt u v (intVals [])) => alert_any W.doneB n [] v u (by decide) hn (by intro x hx; simp at hx) (by simp) hv (hE.below hb))
  have hb1 := boxed w (.cells (noteCells n mv) 43)
  have HB := Lib.hid hb1
  clear hb1
  unfold alertCells at CA
  unfold noteCells at HB ⊢
  rw [hk] at HB ⊢
  clear hres hk
  go_enter Tryd.func12, Tryd.ntmps12
  go_wp2_with fail
  refine (CA.out _ _ HB.out (Or.inl ⟨rfl, Or.inl rfl⟩)).mono ?_
  unfold AlertPost
  rintro e w1 ⟨rfl, hb1⟩
  have hb := HB.out.trans (hb1.mono HB.out.size)
  go_wp2_with fail
  go_ret
  unfold TellPost
  rw [HR.out]
  exact ⟨rfl, hb⟩
set_option maxHeartbeats 2000000 in
set_option maxRecDepth 100000 in
theorem tell_3 (n : W.Nt) (mv : Value) (w : World) (hn : AlertAt n) (hk : n.kind = 3) (hE : Env w) : Calls Tryd.prog 12 #[.agg (noteCells n mv)] w (TellPost n w) := by
  have hres : W.tellL n = Lib.join (W.alertWords W.backB n []) [32] := by unfold W.tellL W.tellWords; rw [hk]; rfl
  have HR := Lib.hid hres
  have CA := Lib.hid (fun u v (hb : Below w.heap.size w u) (hv : RowAt u v (intVals [])) => alert_any W.backB n [] v u (by decide) hn (by intro x hx; simp at hx) (by simp) hv (hE.below hb))
  have hb1 := boxed w (.cells (noteCells n mv) 43)
  have HB := Lib.hid hb1
  clear hb1
  unfold alertCells at CA
  unfold noteCells at HB ⊢
  rw [hk] at HB ⊢
  clear hres hk
  go_enter Tryd.func12, Tryd.ntmps12
  go_wp2_with fail
  refine (CA.out _ _ HB.out (Or.inl ⟨rfl, Or.inl rfl⟩)).mono ?_
  unfold AlertPost
  rintro e w1 ⟨rfl, hb1⟩
  have hb := HB.out.trans (hb1.mono HB.out.size)
  go_wp2_with fail
  go_ret
  unfold TellPost
  rw [HR.out]
  exact ⟨rfl, hb⟩
set_option maxHeartbeats 2000000 in
set_option maxRecDepth 100000 in
theorem tell_5 (n : W.Nt) (mv : Value) (w : World) (hk : n.kind = 5) : Calls Tryd.prog 12 #[.agg (noteCells n mv)] w (TellPost n w) := by
  have hres : W.tellL n = W.crashB := by unfold W.tellL W.tellWords; rw [hk]; rfl
  unfold TellPost
  rw [hres]
  have hb1 := boxed w (.cells (noteCells n mv) 43)
  unfold noteCells at hb1 ⊢
  rw [hk] at hb1 ⊢
  go_enter Tryd.func12, Tryd.ntmps12
  go_wp2_with fail
  go_ret
  exact ⟨rfl, hb1⟩
set_option maxHeartbeats 2000000 in
set_option maxRecDepth 100000 in
theorem tell_else (n : W.Nt) (mv : Value) (w : World) (h1 : n.kind ≠ 1) (h2 : n.kind ≠ 2) (h3 : n.kind ≠ 3) (h4 : n.kind ≠ 4) (h5 : n.kind ≠ 5) : Calls Tryd.prog 12 #[.agg (noteCells n mv)] w (TellPost n w) := by
  have hres : W.tellL n = W.noneB := by unfold W.tellL W.tellWords; rw [if_neg h1, if_neg h2, if_neg h3, if_neg h4, if_neg h5]; rfl
  unfold TellPost
  rw [hres]
  have hb1 := boxed w (.cells (noteCells n mv) 43)
  unfold noteCells at hb1 ⊢
  have q1 : (n.kind == 1) = false := by simpa using h1
  have q2 : (n.kind == 2) = false := by simpa using h2
  have q3 : (n.kind == 3) = false := by simpa using h3
  have q4 : (n.kind == 4) = false := by simpa using h4
  have q5 : (n.kind == 5) = false := by simpa using h5
  clear h1 h2 h3 h4 h5 hres
  go_enter Tryd.func12, Tryd.ntmps12
  go_wp2_with fail
  go_ret
  exact ⟨rfl, hb1⟩
end Go.Proofs.YtoihlclmilhpdaaDoor
