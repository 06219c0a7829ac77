/- What the row's list of package-level variables gives: Env. -/
import Derived.Test.YtoihlclmilhpdaaDoorEnv
import Derived.Test.YtoihlclmilhpdaaDoorRows
import Derived.Lib.LaidTab
import Derived.Lib.LaidU8
import Derived.PinnedBridge
import Derived.ProofKit
namespace Go.Proofs.YtoihlclmilhpdaaDoor
open Go Go.RowKit Go.Lib

theorem strs_of_struct {P : Program} {w : World} {fuel : Nat} {t : TypeId} {f0 f1 : Field} {cs : List Value} {a b : List UInt8} {p : List MemPlace} (ht : P.underlying t = some (.struct #[f0, f1]))
    (h0 : P.underlying f0.type = some .string ∧ f0.offset = 0 ∧ P.cellsOf f0.type = 1) (h1 : P.underlying f1.type = some .string ∧ f1.offset = 1 ∧ P.cellsOf f1.type = 1)
    (h : DataW.trod (fun _ => ()) P w 0 (fun _ => true) false fuel t cs = some (.agg [.lit (.string a), .lit (.string b)], p)) : cs[0]? = some (.string ⟨a.toArray⟩) ∧ cs[1]? = some (.string ⟨b.toArray⟩) := by
  obtain ⟨xs, n, rfl, hx, hl, hxl, hall⟩ := DataW.trod_struct ht h
  have hxs : xs.map (·.1) = [.lit (.string a), .lit (.string b)] := by
    have := congrArg Prod.fst hx
    simpa using this.symm
  obtain ⟨x0, x1, rfl⟩ : ∃ x0 x1, xs = [x0, x1] := by
    match xs, hxl with
    | [x0, x1], _ => exact ⟨x0, x1, rfl⟩
  simp only [List.map_cons, List.map_nil, List.cons.injEq, and_true] at hxs
  have e0 := hall 0 f0 rfl
  have e1 := hall 1 f1 rfl
  rw [h0.2.1, h0.2.2] at e0
  rw [h1.2.1, h1.2.2] at e1
  obtain ⟨s0, c0, d0, _⟩ := DataW.trod_string h0.1 e0
  obtain ⟨s1, c1, d1, _⟩ := DataW.trod_string h1.1 e1
  have g0 := hxs.1
  have g1 := hxs.2
  rw [d0] at g0
  rw [d1] at g1
  simp only [DataW.lit.injEq, Lit.string.injEq] at g0 g1
  have k0 := congrArg (·[0]?) c0
  have k1 := congrArg (·[0]?) c1
  constructor
  · have : cs[0]? = some (.string s0) := by simpa [List.getElem?_take, List.getElem?_drop] using k0
    rw [this, ← g0]
  · have : cs[1]? = some (.string s1) := by simpa [List.getElem?_take, List.getElem?_drop] using k1
    rw [this, ← g1]

theorem xtra : U8Extra Tryd.prog Tryd.lays260_ren where
  n3 := by kernel_rfl
  n4 := by kernel_rfl
  y3 := by kernel_rfl
  y4 := by kernel_rfl
  c5 := by kernel_rfl
  c119 := by kernel_rfl
  c138 := by kernel_rfl

theorem gRow : Tryd.prog.globalNamed "heron/script.rows" = some 0 := by kernel_rfl
theorem yRow : (Tryd.prog.globals[0]?).map (·.type) = some 48 := by kernel_rfl
theorem uRow : Tryd.prog.underlying 48 = some (.array 13 47) := by kernel_rfl
theorem nRow : Tryd.prog.cellsOf 47 = 2 := by kernel_rfl
theorem nStr : Tryd.prog.cellsOf 9 = 1 := by kernel_rfl
def rowData (r : W.Bs × W.Bs) : DataW Unit := .agg [.lit (.string r.1), .lit (.string r.2)]
theorem rows_data : (Rows.laid_heron_script_rows : DataW Unit) = .agg (W.rowsL.map rowData) := rfl
theorem rows_of {w : World} (h : VarReads Tryd.prog w "heron/script.rows" Rows.laid_heron_script_rows) : ∀ k, k < 13 → w.cell? ⟨0, 2 * k, none⟩ = some (.string ⟨(W.firstL k).toArray⟩) ∧ w.cell? ⟨0, 2 * k + 1, none⟩ = some (.string ⟨(W.lettersL k).toArray⟩) := by
  intro k hk
  obtain ⟨g, t, cs, fuel, p, hg, hty, hvar, hd⟩ := h
  obtain rfl := Option.some.inj (gRow.symm.trans hg)
  obtain rfl := Option.some.inj (yRow.symm.trans hty)
  rw [rows_data] at hd
  obtain ⟨fuel', d, q, hdi, he⟩ := array_elem uRow hd k hk
  have hlen : k < W.rowsL.length := hk
  rw [List.getElem?_map, List.getElem?_eq_getElem hlen, Option.map_some, Option.some.injEq] at hdi
  subst hdi
  rw [nRow] at he
  have := strs_of_struct Tryd.underlying47 ⟨Tryd.underlying9, rfl, nStr⟩ ⟨Tryd.underlying9, rfl, nStr⟩ he
  simp only [List.getElem?_take, List.getElem?_drop] at this
  have eF : W.firstL k = (W.rowsL[k]).1 := by unfold W.firstL; rw [List.getD_eq_getElem?_getD, List.getElem?_eq_getElem hlen]; rfl
  have eL : W.lettersL k = (W.rowsL[k]).2 := by unfold W.lettersL; rw [List.getD_eq_getElem?_getD, List.getElem?_eq_getElem hlen]; rfl
  rw [World.var?_cell gRow hvar, World.var?_cell gRow hvar, ← Array.getElem?_toList, ← Array.getElem?_toList, eF, eL]
  constructor
  · simpa [Nat.mul_comm] using this.1
  · simpa [Nat.mul_comm] using this.2

theorem iface_of {P : Program} {w : World} {fuel : Nat} {t : TypeId} {cs : List Value} {n : String} {d : DataW Unit} {p : List MemPlace} (ht : ∃ m, P.underlying t = some (.interface m))
    (h : DataW.trod (fun _ => ()) P w 0 (fun _ => true) false fuel t cs = some (.iface n d, p)) : ∃ u v, cs = [.iface u v] := by
  obtain ⟨m, ht⟩ := ht
  cases fuel with
  | zero => simp [DataW.trod] at h
  | succ fuel =>
    unfold DataW.trod at h
    rw [ht] at h
    simp only at h
    split at h
    all_goals first
      | (exact ⟨_, _, rfl⟩)
      | (simp at h; done)
      | skip
    all_goals (simp_all)

theorem pow_of {w : World} (h : VarReads Tryd.prog w "internal/strconv.uint64pow10" Rows.laid_internal_strconv_uint64pow10) : TabIs Tryd.prog w "internal/strconv.uint64pow10" .u64 pow10Tab := by
  obtain ⟨g, t, cs, fuel, p, hg, hty, hvar, hd⟩ := h
  obtain rfl := Option.some.inj (gPow.symm.trans hg)
  have hd' : DataW.trod (fun _ => ()) Tryd.prog w 0 (fun _ => true) false fuel t cs.toList = some (tabData .u64 pow10Tab, p) := hd
  have hty' : (Tryd.prog.globals[4]?).map (·.type) = some t := hty
  have y0 : (Tryd.prog.globals[4]?).map (·.type) = some 137 := by kernel_rfl
  obtain rfl := Option.some.inj (y0.symm.trans hty')
  have u0 : Tryd.prog.underlying 137 = some (.array 20 112) := by kernel_rfl
  have ue : Tryd.prog.underlying 112 = some (.int .u64) := by kernel_rfl
  have ce : Tryd.prog.cellsOf 112 = 1 := by kernel_rfl
  have ct : Tryd.prog.cellsOf 137 = 20 := by kernel_rfl
  unfold TabIs
  rw [hvar, ← cells_of_tab u0 ue ce ct hd']

theorem uErr : ∃ m, Tryd.prog.underlying 66 = some (.interface m) := by
  refine ⟨?m, ?_⟩
  case m => exact (match Tryd.prog.underlying 66 with | some (.interface m) => m | _ => #[])
  kernel_rfl
theorem err_of {w : World} {name : String} {g : Nat} {n : String} {d : DataW Unit} (hg0 : Tryd.prog.globalNamed name = some g) (hy : (Tryd.prog.globals[g]?).map (·.type) = some 66) (h : VarReads Tryd.prog w name (.iface n d)) : ∃ tp p, w.var? Tryd.prog name = some #[.iface tp p] := by
  obtain ⟨g', t, cs, fuel, p, hg, hty, hvar, hd⟩ := h
  obtain rfl := Option.some.inj (hg0.symm.trans hg)
  obtain rfl := Option.some.inj (hy.symm.trans hty)
  obtain ⟨u, v, hcs⟩ := iface_of uErr hd
  refine ⟨u, v, ?_⟩
  rw [hvar]
  have : cs = #[.iface u v] := by cases cs; simp_all
  rw [this]
theorem env_of {w : World} {l : List (String × DataW Unit)} (h : laidMet Tryd.prog l w) (h1 : ("unicode/utf8.first", Rows.laid_unicode_utf8_first) ∈ l) (h2 : ("unicode/utf8.acceptRanges", Rows.laid_unicode_utf8_acceptRanges) ∈ l)
    (h3 : ("internal/strconv.uint64pow10", Rows.laid_internal_strconv_uint64pow10) ∈ l) (h4 : ("strconv.ErrSyntax", Rows.laid_strconv_ErrSyntax) ∈ l) (h5 : ("strconv.ErrRange", Rows.laid_strconv_ErrRange) ∈ l) (h6 : ("heron/script.rows", Rows.laid_heron_script_rows) ∈ l) : Env w where
  utf := utf8Tabs_of_reads Tryd.lays260 xtra (by have := laidMet.reads h h1; unfold Rows.laid_unicode_utf8_first at this; rw [Pinned.utf8First_eq] at this; exact this) (laidMet.reads h h2)
  pow := pow_of (laidMet.reads h h3)
  syn := err_of gSyn (by kernel_rfl) (laidMet.reads h h4)
  rng := err_of gRng (by kernel_rfl) (laidMet.reads h h5)
  rows := rows_of (laidMet.reads h h6)
end Go.Proofs.YtoihlclmilhpdaaDoor
