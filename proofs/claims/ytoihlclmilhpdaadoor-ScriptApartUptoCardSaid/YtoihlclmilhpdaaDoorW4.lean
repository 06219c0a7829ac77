/- Walks: Unquote. -/
import Derived.Test.YtoihlclmilhpdaaDoorW3
import Derived.Laws.AppendOwnNone
namespace Go.Proofs.YtoihlclmilhpdaaDoor
open Go Go.RowKit

def strLen : Value → Nat
  | .string s => s.size
  | _ => 0

theorem infoU8 : (Tryd.prog.info? 5).map (fun i => (i.zero, i.size, i.bytes)) = some (some (.int .u8 0), 1, 1) := by kernel_rfl

/-- 'v = append(v, y)', v the call's own row (of elements of one cell): what was there below the row's base stands. -/
theorem push_own {P : Program} {w0 wB : World} {ops : Array Oper} {rest : List Oper} {o : Oper} {a : Act} {Q : Exit → Act → World → Prop} (hgd : o.guard = none) (s x : Operand) {t e et : TypeId} {i : TypeInfo} {z y v : Value} {n bytes : Nat} {xs : List Value}
    (ho : o.op = .call { callee := .builtin .append, args := #[s, x], argTypes := #[t, t] }) (ht : P.underlying t = some (.slice e)) (hi : P.info? e = some i) (hz : i.zero = some z) (hsize : i.size = 1) (hby : i.bytes = bytes) (hzs : z.cells.size = 1)
    (hs : a.eval s = v) (hown : w0.ownsRow wB.heap.size e 1 v n xs) (hx : a.eval x = .slice (some ⟨w0.heap.size, 0, none⟩) 1 1) (h1 : y.oneCell' = true) (hbel : Below wB.heap.size wB w0) (hb : n + 1 ≤ 1073741824 ∧ bytes ≤ 64)
    (h : ∀ v' w', w'.ownsRow wB.heap.size e 1 v' (n + 1) (xs ++ [y]) → Below wB.heap.size wB w' → wpList P ops Q rest (a.put o.dst v') w') :
    wpList P ops Q (o :: rest) a (w0.alloc (.cells #[y] et)) := by
  have hsz := hbel.size
  have hB : (n + 1) * bytes ≤ 140737488355328 := Nat.le_trans (Nat.mul_le_mul hb.1 hb.2) (by omega)
  refine wpList_append_own _ hgd s x t ho wB.heap.size e i z 1 bytes ht hi hz hsize hby hzs (by decide) v n xs hs (hown.alloc _) ⟨w0.heap.size, 0, none⟩ 1 1 [y] hx rfl ?_ ?_ (by unfold maxLen; omega) hB ?_ ?_
  · intro j u hj
    match j, hj with
    | 0, hj => simp at hj; subst hj; simp [Addr.add]
  · intro u hu; simp at hu; subst hu; exact h1
  · show wB.heap.size ≤ (w0.heap.push _).size
    rw [Array.size_push]; omega
  · intro v' w' hown' hgrow _
    refine h v' w' hown' ((hbel.alloc hsz _).grown hgrow (by show wB.heap.size ≤ (w0.heap.push _).size; rw [Array.size_push]; omega) (fun k hk => (hown.lt k hk).1))

/-- string(b), b a row of bytes of the call's own. -/
theorem run_own_string {P : Program} {w : World} {base : Nat} {src e dst : TypeId} {v : Value} {acc : List UInt8} (hs : P.underlying src = some (.slice e)) (he : P.underlying e = some (.int .u8)) (hd : P.underlying dst = some .string)
    (h : w.ownsRow base e 1 v acc.length (Lib.byteCells acc)) : (convert src dst v).run P w = .ok (.string ⟨acc.toArray⟩) w := by
  have hh := h
  rcases h.2 with ⟨hv, h0⟩ | ⟨g, cap, cur, hv, hb, hg, hn, hm, hz, ht⟩
  · subst hv
    have : acc = [] := List.eq_nil_of_length_eq_zero h0
    subst this
    rw [run_convert_bytes_nil w src e hs he 0 0 dst hd]
    rfl
  · subst hv
    rw [run_convert_bytes_arg w src e hs he g 0 acc.length cap (acc.map fun b => (b.toNat : Int)) (by simp) ?_ dst hd]
    · congr 2
      unfold strOfNums
      congr 2
      rw [List.map_map]
      have : ((fun n : Int => UInt8.ofNat n.toNat) ∘ fun b : UInt8 => (b.toNat : Int)) = id := by
        funext b; simp
      rw [this, List.map_id]
    · intro i hi
      have := hh.cellAt i (by omega)
      rw [Nat.zero_add, this]
      simp [Lib.byteCells, List.getD_eq_getElem?_getD, List.getElem?_eq_getElem hi]

def unqErr (o : Option W.Bs) : Int := if o.isSome then 0 else 230
def unqText (o : Option W.Bs) : ByteArray := ⟨(o.getD []).toArray⟩
abbrev UnqPost (s : ByteArray) (w : World) : Ending → World → Prop := fun e w' => e = .returned (.tuple #[.string (unqText (W.unquote s.data.toList)), .int .i64 (unqErr (W.unquote s.data.toList))]) ∧ Below w.heap.size w w'

theorem unquote_plain (s : ByteArray) (w : World) (hs : s.size ≤ 9223372036854775807) (h : W.isPlain s.data.toList = true) : Calls Tryd.prog 27 #[.string s] w (UnqPost s w) := by
  have hf : W.unquote s.data.toList = some s.data.toList := by unfold W.unquote; rw [if_pos h]
  unfold UnqPost
  rw [hf]
  have C := isPlain_any s w hs
  rw [h] at C
  clear h hf
  have CH := Lib.hid C
  clear C
  go_enter Tryd.func27, Tryd.ntmps27
  go_wp2_with (go_at_call 31; refine CH.out.mono ?_; rintro e w' ⟨rfl, rfl⟩)
  go_ret2
  exact ⟨rfl, Below.refl _ _⟩

theorem unq_bad (s : ByteArray) (h : W.isPlain s.data.toList = false) (hb : s.size < 2 ∨ s.data.toList.getD 0 0 ≠ 34 ∨ s.data.toList.getD (s.size - 1) 0 ≠ 34) : W.unquote s.data.toList = none := by
  unfold W.unquote; rw [h, if_neg (by simp), if_pos (by rw [size_list]; exact hb)]

set_option maxRecDepth 100000 in
theorem unquote_bad (s : ByteArray) (w : World) (hs : s.size ≤ 9223372036854775807) (h : W.isPlain s.data.toList = false) (hb : s.size < 2 ∨ s.data.toList.getD 0 0 ≠ 34 ∨ s.data.toList.getD (s.size - 1) 0 ≠ 34) : Calls Tryd.prog 27 #[.string s] w (UnqPost s w) := by
  have hf := unq_bad s h hb
  unfold UnqPost
  rw [hf]
  have C := isPlain_any s w hs
  rw [h] at C
  clear h hf
  have CH := Lib.hid C
  clear C
  by_cases h2 : s.size < 2
  · clear hb
    have g2 : (s.size : Int) < 2 := by omega
    go_enter Tryd.func27, Tryd.ntmps27
    go_wp2_with (go_at_call 31; refine CH.out.mono ?_; rintro e w' ⟨rfl, rfl⟩)
    go_ret2
    exact ⟨rfl, Below.refl _ _⟩
  · have g2 : ¬ (s.size : Int) < 2 := by omega
    have g3 : 0 < s.size := by omega
    have g4 : s.size - 1 < s.size := by omega
    rw [getD_list s 0 g3, getD_list s (s.size - 1) g4] at hb
    by_cases h0 : s[0] = 34
    · have hb' : s[s.size - 1] ≠ 34 := by
        rcases hb with hb | hb | hb
        · exact absurd hb h2
        · exact absurd h0 hb
        · exact hb
      have b0 : ((s[0].toNat : Int) != 34) = false := by simp [h0]
      have b1 : ((s[s.size - 1].toNat : Int) != 34) = true := by
        simp only [bne_iff_ne, ne_eq]; intro h; exact hb' (UInt8.toNat_inj.1 (show _ = 34 by omega))
      clear hb hb' h0
      go_enter Tryd.func27, Tryd.ntmps27
      go_wp2_with (go_at_call 31; refine CH.out.mono ?_; rintro e w' ⟨rfl, rfl⟩)
      go_ret2
      exact ⟨rfl, Below.refl _ _⟩
    · have b0 : ((s[0].toNat : Int) != 34) = true := by
        simp only [bne_iff_ne, ne_eq]; intro h; exact h0 (UInt8.toNat_inj.1 (show _ = 34 by omega))
      clear hb h0
      go_enter Tryd.func27, Tryd.ntmps27
      go_wp2_with (go_at_call 31; refine CH.out.mono ?_; rintro e w' ⟨rfl, rfl⟩)
      go_ret2
      exact ⟨rfl, Below.refl _ _⟩
end Go.Proofs.YtoihlclmilhpdaaDoor
