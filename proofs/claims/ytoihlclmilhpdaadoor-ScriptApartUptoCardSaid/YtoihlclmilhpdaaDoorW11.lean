/- Walks: Print. -/
import Derived.Test.YtoihlclmilhpdaaDoorPush
namespace Go.Proofs.YtoihlclmilhpdaaDoor
open Go Go.RowKit

def PrintPost (e : W.Ev) (w : World) (en : Ending) (w' : World) : Prop :=
  en = .returned (.tuple #[.string (if W.mayKind e then ba (W.printL e) else ba []), .int .i64 (if W.mayKind e then 0 else 260)]) ∧ Below w.heap.size w w'

set_option maxHeartbeats 1000000 in
set_option maxRecDepth 100000 in
theorem print_no (e : W.Ev) (kv : Value) (w : World) (hk : W.mayKind e = false) :
    Calls Tryd.prog 7 #[.agg (evCells e kv)] w (PrintPost e w) := by
  have hb0 := boxed w (.cells (evCells e kv) 24)
  have hkk : e.kind < 1 ∨ (¬ e.kind < 1 ∧ 13 ≤ e.kind) := by
    unfold W.mayKind at hk
    simp only [Bool.and_eq_false_iff, decide_eq_false_iff_not] at hk
    omega
  have HK := Lib.hid hk
  clear hk
  unfold evCells at hb0 ⊢
  rcases hkk with h | ⟨h1, h2⟩
  all_goals
    go_enter Tryd.func7, Tryd.ntmps7
    go_wp2
    go_ret2
    unfold PrintPost
    rw [HK.out]
    exact ⟨rfl, hb0⟩

theorem alloc_new (w : World) (o : Obj) : (w.alloc o).heap[w.heap.size]? = some o := by show (w.heap.push o)[_]? = _; simp
theorem heap_keep {w w' : World} {k : Nat} {o : Obj} (h : w.heap[k]? = some o) (hb : Below w.heap.size w w') : w'.heap[k]? = some o := by rw [hb.block k (heap_lt h)]; exact h
theorem lets_ascii : ∀ k : Fin 13, ∀ c ∈ W.lettersL k.1, c.toNat < 128 := by decide

/-- The loop's relation: after j letters. -/
def PrintRel (e : W.Ev) (k : Nat) (cells : Array Value) (w : World) (u : Value) (wr : World) : Prop :=
  ∃ j, j ≤ (W.lettersL k).length ∧ wr.heap[w.heap.size + 2]? = some (.stringIter (ba (W.lettersL k)) j) ∧ wr.heap[w.heap.size]? = some (.cells cells 24 (0, 0)) ∧
    wr.ownsRow (w.heap.size + 1) 9 1 u (W.firstL k :: (((W.lettersL k).take j).map fun c => W.toldL (c.toNat : Int) e).flatten).length (strVals (W.firstL k :: (((W.lettersL k).take j).map fun c => W.toldL (c.toNat : Int) e).flatten)) ∧
    Below (w.heap.size + 1) (w.alloc (.cells cells 24)) wr

set_option maxHeartbeats 1000000 in
set_option maxRecDepth 100000 in
theorem print_yes (e : W.Ev) (kv : Value) (w : World) (hv : EvAt w e kv) (hE : Env w) (hk : W.mayKind e = true) :
    Calls Tryd.prog 7 #[.agg (evCells e kv)] w (PrintPost e w) := by
  obtain ⟨k, hk1, hk2, hkind⟩ := W.kind_nat hk
  have HK := Lib.hid hk
  have hr := hE.rows k (by omega)
  rw [Nat.mul_comm] at hr
  obtain ⟨first, hfirst⟩ : ∃ f, f = ba (W.firstL k) := ⟨_, rfl⟩
  obtain ⟨lets, hlets⟩ : ∃ f, f = ba (W.lettersL k) := ⟨_, rfl⟩
  have r1 : ∀ o, (w.alloc o).cell? ⟨0, k * 2, none⟩ = some (.string first) := by
    intro o; rw [(boxed w o).cell (cell_lt hr.1), hfirst]; exact hr.1
  have r2 : ∀ o p, ((w.alloc o).alloc p).cell? ⟨0, k * 2 + 1, none⟩ = some (.string lets) := by
    intro o p; rw [((boxed w o).alloc (boxed w o).size p).cell (cell_lt hr.2), hlets]; exact hr.2
  clear hr hk
  obtain ⟨cells, hcells⟩ : ∃ c, c = evCells e kv := ⟨_, rfl⟩
  have HCE := Lib.hid hcells
  unfold evCells at hcells ⊢
  rw [hkind] at hcells ⊢
  have HC2 := Lib.hid hcells
  have HKI := Lib.hid hkind
  have HFI := Lib.hid hfirst
  have HLE := Lib.hid hlets
  clear hkind hfirst hlets hcells
  obtain ⟨i0, hi, hz0, hz1, hz2⟩ := info_parts infoStr
  go_enter Tryd.func7, Tryd.ntmps7
  go_wp2_with fail
  clear r1 r2
  go_loopw [4] (fun u wr => PrintRel e k cells w u wr) (fun _ wr => (W.lettersL k).length - wr.iterPos (w.heap.size + 2))
  case atStart =>
    rw [← HC2.out]
    have own := own_lit (w.alloc (.cells cells 24)) (w.heap.size + 1) 9 (.string first) (by rw [alloc_size]; omega)
    have it0 := World.iter_heap ((w.alloc (.cells cells 24)).alloc (.cells #[.string first] 9)) lets 0
    have hev : ((w.alloc (.cells cells 24)).alloc (.cells #[.string first] 9)).heap[w.heap.size]? = some (.cells cells 24 (0, 0)) := by
      rw [Lib.alloc_old _ _ _ (by rw [alloc_size]; omega)]; exact alloc_new _ _
    have hb := (boxed (w.alloc (.cells cells 24)) (.cells #[.string first] 9))
    rw [alloc_size] at own hb
    rw [alloc_size, alloc_size, HLE.out] at it0
    refine ⟨0, Nat.zero_le _, ?_, ?_, ?_, ?_⟩
    · rw [HLE.out]; exact it0
    · unfold World.iter; rw [Lib.alloc_old _ _ _ (by rw [alloc_size, alloc_size]; omega)]; exact hev
    · have := own.alloc (.stringIter lets 0)
      rw [HFI.out] at this ⊢
      simpa [strVals, World.iter] using this
    · exact hb.alloc (by rw [alloc_size, alloc_size]; omega) _
  case round =>
    obtain ⟨j, hj, hit, hev, hown, hbel⟩ := hrel
    have hbw : Below w.heap.size w wr := (boxed w (.cells cells 24)).trans (hbel.mono (by omega))
    by_cases hlt : j < (W.lettersL k).length
    · have hsz : j < (ba (W.lettersL k)).size := by rw [ba_size]; exact hlt
      have hnx : ∀ ty, (Instr.next (.pointer (some ⟨w.heap.size + 2, 0, none⟩)) true ty).run Tryd.prog wr = _ := fun ty => Lib.run_next_any_at wr (w.heap.size + 2) (ba (W.lettersL k)) j ty hit hsz
      obtain ⟨c, hc⟩ : ∃ c, c = (W.lettersL k)[j]'hlt := ⟨_, rfl⟩
      have hbyte : (ba (W.lettersL k))[j] = c := by
        rw [hc, ← getD_list _ j hsz, ba_list, List.getD_eq_getElem?_getD, List.getElem?_eq_getElem hlt]; rfl
      have hasc : c.toNat < 128 := by rw [hc]; exact lets_ascii ⟨k, by omega⟩ _ (List.getElem_mem hlt)
      rw [decode_ascii _ j hsz (by rw [hbyte]; exact hasc), hbyte] at hnx
      simp only [] at hnx
      obtain ⟨w2, hw2⟩ : ∃ w2, w2 = wr.iterAt (w.heap.size + 2) (ba (W.lettersL k)) (j + 1) := ⟨_, rfl⟩
      rw [← hw2] at hnx
      have hit2 : w2.heap[w.heap.size + 2]? = some (.stringIter (ba (W.lettersL k)) (j + 1)) := by rw [hw2]; exact Lib.iterAt_heap wr _ _ j _ hit
      have hev2 : w2.heap[w.heap.size]? = some (.cells cells 24 (0, 0)) := by rw [hw2, Lib.iterAt_other _ _ _ _ _ (by omega)]; exact hev
      have hown2 := own_iterAt hown hit (j + 1)
      rw [← hw2] at hown2
      have hbel2 : Below (w.heap.size + 1) (w.alloc (.cells cells 24)) w2 := by rw [hw2]; exact Lib.below_iterAt hbel (by omega) _ _
      have hbw2 : Below w.heap.size w w2 := (boxed w (.cells cells 24)).trans (hbel2.mono (by omega))
      have hposr : wr.iterPos (w.heap.size + 2) = j := by simp only [World.iterPos, hit]
      have hE2 := hE.below hbw2
      have hv2 := hv.below hbw2
      have CT := Lib.hid (told_any (c.toNat : Int) e kv w2 hv2 hE2)
      have cl : ∀ i x, cells[i]? = some x → w2.cell? ⟨w.heap.size, i, none⟩ = some x := by
        intro i x hx; unfold World.cell?; rw [hev2]; exact hx
      have hcell := HC2.out
      have c0 : w2.cell? ⟨w.heap.size, 0, none⟩ = some (.int .i64 k) := cl 0 _ (by rw [hcell]; rfl)
      have c1 : w2.cell? ⟨w.heap.size, 1, none⟩ = some (.string (ba e.name)) := cl 1 _ (by rw [hcell]; rfl)
      have c2 : w2.cell? ⟨w.heap.size, 2, none⟩ = some (.string (ba e.other)) := cl 2 _ (by rw [hcell]; rfl)
      have c3 : w2.cell? ⟨w.heap.size, 3, none⟩ = some (.string (ba e.data)) := cl 3 _ (by rw [hcell]; rfl)
      have c4 : w2.cell? ⟨w.heap.size, 4, none⟩ = some (.int .i64 e.n) := cl 4 _ (by rw [hcell]; rfl)
      have c5 : w2.cell? ⟨w.heap.size, 5, none⟩ = some (.bool e.yes) := cl 5 _ (by rw [hcell]; rfl)
      have c6 : w2.cell? ⟨w.heap.size, 6, none⟩ = some kv := cl 6 _ (by rw [hcell]; rfl)
      have HPR := Lib.hid hposr
      have hlen1 := W.told_total (c.toNat : Int) e hv.fit 10000000 hv.name hv.other hv.data hv.many
      have hlen2 := W.total_flatten e hv.fit 10000000 hv.name hv.other hv.data hv.many ((W.lettersL k).take j)
      have hlen3 := W.letters_le k
      have hlen4 : ((W.lettersL k).take j).length ≤ 2 := by rw [List.length_take]; omega
      have hlen5 := W.length_total (W.toldL (c.toNat : Int) e)
      have hlen6 := W.length_total ((((W.lettersL k).take j).map fun c => W.toldL (c.toNat : Int) e).flatten)
      have hlen7 : ((W.lettersL k).take j).length * (21 * 10000000 + 21) ≤ 2 * (21 * 10000000 + 21) := Nat.mul_le_mul_right _ hlen4
      have hbound : (W.firstL k :: (((W.lettersL k).take j).map fun c => W.toldL (c.toNat : Int) e).flatten).length + (strVals (W.toldL (c.toNat : Int) e)).length ≤ 1073741824 := by
        rw [strVals_len, List.length_cons]; omega
      have hnext : (W.firstL k :: (((W.lettersL k).take j).map fun c => W.toldL (c.toNat : Int) e).flatten) ++ W.toldL (c.toNat : Int) e = (W.firstL k :: (((W.lettersL k).take (j + 1)).map fun c => W.toldL (c.toNat : Int) e).flatten) := by
        rw [take_snoc' _ j hlt, List.map_append, List.flatten_append, ← hc]
        simp
      have HNX := Lib.hid hnext
      clear hnext hw2 hown hev hit hbel hbw hsz hbyte hposr hcell cl hlen1 hlen2 hlen4 hlen5 hlen6 hlen7 hE2
      obtain ⟨acc, hacc⟩ : ∃ acc, acc = (W.firstL k :: (((W.lettersL k).take j).map fun c => W.toldL (c.toNat : Int) e).flatten) := ⟨_, rfl⟩
      obtain ⟨tl, htl⟩ : ∃ tl, tl = W.toldL (c.toNat : Int) e := ⟨_, rfl⟩
      rw [← hacc] at hown2 hbound HNX
      rw [← htl] at hbound HNX CT
      clear hacc htl hc
      have CT2 := CT.out
      unfold evCells at CT2
      rw [HKI.out] at CT2
      have CT3 := Lib.hid CT2
      clear CT CT2
      go_wp2_with fail
      refine CT3.out.mono ?_
      rintro e1 w3 ⟨v3, rfl, hown3, hb3⟩
      have hit3 := heap_keep hit2 hb3
      have hev3 := heap_keep hev2 hb3
      have hownA : w3.ownsRow (w.alloc (.cells cells 24)).heap.size 9 1 u4 acc.length (strVals acc) := by rw [alloc_size]; exact ownsRow_below hown2 hb3
      have hbelA : Below (w.alloc (.cells cells 24)).heap.size (w.alloc (.cells cells 24)) w3 := by
        rw [alloc_size]; exact hbel2.trans (hb3.mono (by have := hbel2.size; rw [alloc_size] at this; omega))
      have hrow : RowAt w3 v3 (strVals tl) := RowAt.of_own (by rw [strVals_len]; exact hown3)
      clear hown3 hb3 hown2 hbel2 hbw2 hit2 hev2 c0 c1 c2 c3 c4 c5 c6 hnx CT3 hv2
      go_wp2_with (at_builtin; refine push_row rfl _ _ rfl Tryd.underlying49 hi hz0 hz1 hz2 rfl rfl hownA rfl hrow (strs_flat _) hbelA ⟨hbound, by decide⟩ ?_)
      intro v4 w4 hown4 hbel4 hkeep
      have hit4 := hkeep _ _ hit3 (own_ne_iter hownA hit3)
      have hev4 : w4.heap[w.heap.size]? = some (.cells cells 24 (0, 0)) := by
        rw [hbel4.block _ (by omega)]; exact alloc_new _ _
      have hown5 : w4.ownsRow (w.heap.size + 1) 9 1 v4 (acc ++ tl).length (strVals (acc ++ tl)) := by
        rw [List.length_append]
        rw [strVals_len] at hown4
        unfold strVals at hown4 ⊢
        rw [List.map_append]
        exact hown4
      rw [HNX.out] at hown5
      clear hkeep hown4 hit3 hev3 hownA hbelA hrow hbound
      go_wp2_with fail
      go_roundw
      case rel => exact ⟨j + 1, by omega, hit4, hev4, hown5, hbel4⟩
      case measure =>
        rw [HPR.out]
        simp only [World.iterPos, hit4]
        omega
    · have hsz : ¬ j < (ba (W.lettersL k)).size := by rw [ba_size]; exact hlt
      have hnx : ∀ ty, (Instr.next (.pointer (some ⟨w.heap.size + 2, 0, none⟩)) true ty).run Tryd.prog wr = _ := fun ty => Lib.run_next_end_at wr (w.heap.size + 2) (ba (W.lettersL k)) j ty hit hsz
      have hwords : (W.firstL k :: (((W.lettersL k).take j).map fun c => W.toldL (c.toNat : Int) e).flatten) = W.printWords e := by
        unfold W.printWords
        rw [HKI.out, Int.toNat_natCast, List.take_of_length_le (by omega)]
      rw [hwords] at hown
      have hrow : RowAt wr u4 (strVals (W.printWords e)) := RowAt.of_own (by rw [strVals_len]; exact hown)
      have hl1 := W.join_len (W.printWords e)
      have hl2 := W.printWords_len e hv.fit 10000000 hv.name hv.other hv.data hv.many
      have hl3 := W.length_total (W.printWords e)
      have CJ := Lib.hid (join_any (W.printWords e) u4 wr hrow (by omega) (by omega))
      clear hsz hwords hown hrow hl1 hl2 hl3 hit hev hbel hlt
      go_wp2_with fail
      refine CJ.out.mono ?_
      rintro e1 w3 ⟨rfl, hb3⟩
      have hb4 := hbw.trans (hb3.mono hbw.size)
      clear hb3 hbw CJ hnx
      go_wp2_with fail
      go_ret2
      unfold PrintPost
      rw [HK.out]
      exact ⟨rfl, hb4⟩

theorem print_any (e : W.Ev) (kv : Value) (w : World) (hv : EvAt w e kv) (hE : Env w) :
    Calls Tryd.prog 7 #[.agg (evCells e kv)] w (PrintPost e w) := by
  cases hk : W.mayKind e with
  | true => exact print_yes e kv w hv hE hk
  | false => exact print_no e kv w hk
end Go.Proofs.YtoihlclmilhpdaaDoor
