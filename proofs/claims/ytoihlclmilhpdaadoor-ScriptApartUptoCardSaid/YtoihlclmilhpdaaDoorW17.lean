/- Walks: read: the kind whose letters are as many as its parts. -/
import Derived.Test.YtoihlclmilhpdaaDoorW16
namespace Go.Proofs.YtoihlclmilhpdaaDoor
open Go Go.RowKit

theorem rep_ascii (n : Nat) : ∀ c ∈ Lib.repeatL [107] n, c.toNat < 128 := by
  induction n with
  | zero => intro c hc; simp [Lib.repeatL] at hc
  | succ n ih =>
    intro c hc
    simp only [Lib.repeatL, List.cons_append, List.nil_append, List.mem_cons] at hc
    rcases hc with rfl | hc
    · decide
    · exact ih c hc

set_option maxHeartbeats 4000000 in
set_option maxRecDepth 100000 in
theorem read_keys (k : Nat) (hk : k < 13) (ws : List W.Bs) (v : Value) (w : World) (hv : RowAt w v (strVals ws)) (hE : Env w) (hkk : W.lettersL k = [107]) (hn : ws.length ≤ 100000000) (hsm : ∀ x ∈ ws, x.length ≤ 1000000000) :
    Calls Tryd.prog 17 #[.int .i64 k, v] w (ReadPost k ws w) := by
  obtain ⟨ao, cap, rfl⟩ := hv.form
  rw [strVals_len] at hv ⊢
  obtain ⟨lets, hlets⟩ : ∃ l, l = Lib.repeatL [107] ws.length := ⟨_, rfl⟩
  have hl : ws.length = lets.length := by rw [hlets, W.rep_len]
  have hletl : lets.length ≤ 100000000 := by omega
  have hasc : ∀ c ∈ lets, c.toNat < 128 := by rw [hlets]; exact rep_ascii _
  have hres : W.readL k ws = W.readGo { kind := k } lets ws := by
    unfold W.readL W.lettersOf
    rw [if_pos hkk, if_neg (by rw [W.rep_len]; simp), hlets]
  have hr := (hE.rows k hk).2
  rw [Nat.mul_comm, hkk] at hr
  obtain ⟨tb, htb⟩ : ∃ tb, tb = (⟨#[107]⟩ : ByteArray) := ⟨_, rfl⟩
  have hr : w.cell? ⟨0, k * 2 + 1, none⟩ = some (.string tb) := by rw [htb]; exact hr
  have b1 : (tb.toList == [107]) = true := by rw [htb, Lib.toList_data]; rfl
  obtain ⟨lb, hlb⟩ : ∃ lb, lb = ba lets := ⟨_, rfl⟩
  have HLB : Hid (lb.data.toList = lets) := Lib.hid (by rw [hlb, ba_list])
  have HLS : Hid (lb.size = lets.length) := Lib.hid (by rw [hlb, ba_size])
  have CR : Hid (∀ u, Calls Tryd.prog 28 #[.string ⟨#[107]⟩, .int .i64 ws.length] u fun e w' => e = .returned (.string lb) ∧ Below u.heap.size u w') := Lib.hid (fun u => by
    rw [hlb, hlets]
    exact Tryd.strings_Repeat ⟨#[107]⟩ ws.length u (by omega) (by rw [show (⟨#[107]⟩ : ByteArray).size = 1 from rfl]; omega))
  have b2 : ((ws.length : Int) == (lb.size : Int)) = true := by rw [HLS.out, hl]; simp
  have b3 : ((ws.length : Int) != (lb.size : Int)) = false := by rw [HLS.out, hl]; simp
  have r1 : ∀ o p, ((w.alloc o).alloc p).cell? ⟨0, k * 2 + 1, none⟩ = some (.string tb) := by
    intro o p; rw [(two_boxed w o p).cell (cell_lt hr)]; exact hr
  have HAsc := Lib.hid hasc
  have HLen := Lib.hid hl
  have HSm := Lib.hid hsm
  have hEnv := Lib.hid hE
  have hrow := Lib.hid hv
  have HRes := Lib.hid hres
  clear hlb hlets hr hres htb hl hsm hE hv hasc
  go_enter Tryd.func17, Tryd.ntmps17
  go_wp2_with fail
  refine (CR.out _).mono ?_
  rintro e1 w1 ⟨rfl, hb1⟩
  have hbw1 : Below w.heap.size w w1 := (two_boxed w _ _).trans (hb1.mono (two_boxed w (.cells (kindCells 0) 24) (.cells (kindCells k) 24)).size)
  have hs1 : w.heap.size + 2 ≤ w1.heap.size := by have := hb1.size; rw [alloc_size, alloc_size] at this; omega
  have hevA : w1.heap[w.heap.size]? = some (.cells (kindCells 0) 24 (0, 0)) := by
    rw [hb1.block _ (by rw [alloc_size, alloc_size]; omega), Lib.alloc_old _ _ _ (by rw [alloc_size]; omega)]; exact alloc_new _ _
  have hevB : w1.heap[w.heap.size + 1]? = some (.cells (kindCells k) 24 (0, 0)) := by
    rw [hb1.block _ (by rw [alloc_size, alloc_size]; omega)]
    have := alloc_new (w.alloc (.cells (kindCells 0) 24)) (.cells (kindCells k) 24)
    rw [alloc_size] at this; exact this
  have HS1 := Lib.hid hs1
  have HBW1 := Lib.hid hbw1
  have HEA := Lib.hid hevA
  have HEB := Lib.hid hevB
  clear r1 hb1 hbw1 hevA hevB hs1
  go_wp2_with fail
  go_loopw [] (fun wr => ReadRel k ws lets lb w1.heap.size w wr) (fun wr => lets.length - wr.iterPos w1.heap.size)
  case atStart =>
    have hs1 := HS1.out
    have it0 := World.iter_heap w1 lb 0
    refine ⟨0, { kind := (k : Int) }, .slice none 0 0, Nat.zero_le _, it0, ?_, ⟨?_, World.ownsRow_nil _ _ _ _⟩, ?_, Nat.zero_le _, ?_⟩
    · unfold World.iter; rw [Lib.alloc_old _ _ _ (by omega)]; exact HEA.out
    · unfold World.iter; rw [Lib.alloc_old _ _ _ (by omega), kind_cells]; exact HEB.out
    · exact HRes.out
    · exact HBW1.out.alloc HBW1.out.size _
  case round =>
    obtain ⟨j, e, kv, hj, hit, hev, hE0, hgo, hkl, hbw⟩ := hrel
    have hposr : wr.iterPos w1.heap.size = j := by simp only [World.iterPos, hit]
    by_cases hlt : j < lets.length
    · have hltw : j < ws.length := by have := HLen.out; omega
      have hszj : j < lb.size := by rw [HLS.out]; exact hlt
      have hnx : ∀ ty, (Instr.next (.pointer (some ⟨w1.heap.size, 0, none⟩)) true ty).run Tryd.prog wr = _ := fun ty => Lib.run_next_any_at wr w1.heap.size lb j ty hit hszj
      obtain ⟨c, hc⟩ : ∃ c, c = lets[j]'hlt := ⟨_, rfl⟩
      have hbyte : lb[j] = c := by rw [hc]; exact byte_at HLB.out hszj hlt
      have hasc : c.toNat < 128 := by rw [hc]; exact HAsc.out _ (List.getElem_mem hlt)
      rw [decode_ascii _ j hszj (by rw [hbyte]; exact hasc), hbyte] at hnx
      simp only [] at hnx
      obtain ⟨w2, hw2⟩ : ∃ w2, w2 = wr.iterAt w1.heap.size lb (j + 1) := ⟨_, rfl⟩
      rw [← hw2] at hnx
      have hne1 : w.heap.size ≠ w1.heap.size := by have := HS1.out; omega
      have hne2 : w.heap.size + 1 ≠ w1.heap.size := by have := HS1.out; omega
      have hit2 : w2.heap[w1.heap.size]? = some (.stringIter lb (j + 1)) := by rw [hw2]; exact Lib.iterAt_heap wr _ _ j _ hit
      have hev2 : w2.heap[w.heap.size]? = some (.cells (kindCells 0) 24 (0, 0)) := by rw [hw2, Lib.iterAt_other _ _ _ _ _ hne1]; exact hev
      have hE2 : EvBlk (w.heap.size + 2) (w.heap.size + 1) e kv w2 := ⟨by rw [hw2, Lib.iterAt_other _ _ _ _ _ hne2]; exact hE0.blk, by rw [hw2]; exact own_iterAt hE0.own hit (j + 1)⟩
      have hbw2 : Below w.heap.size w w2 := by rw [hw2]; exact Lib.below_iterAt hbw (by have := HS1.out; omega) _ _
      have hEv2 := hEnv.out.below hbw2
      obtain ⟨b, off, hao, hcell⟩ := (hrow.out.below hbw2).row (by rw [strVals_len]; omega)
      obtain ⟨bj, hbj⟩ : ∃ bj, bj = ws[j]'hltw := ⟨_, rfl⟩
      have hsj : bj.length ≤ 1000000000 := by rw [hbj]; exact HSm.out _ (List.getElem_mem hltw)
      have l2 : w2.cell? ⟨b, off + j, none⟩ = some (.string (ba bj)) := hcell j _ (by unfold strVals; rw [List.getElem?_map, List.getElem?_eq_getElem hltw, hbj]; rfl)
      have hstep := readGo_step (e := e) hlt hltw hc.symm hbj.symm
      obtain ⟨e2, ok, hT⟩ : ∃ e2 ok, W.takeL (c.toNat : Int) e bj = (e2, ok) := ⟨_, _, rfl⟩
      have hkl2 : e2.keep.length ≤ j + 1 := by have := take_keep (c.toNat : Int) e bj; rw [hT] at this; simp only at this; omega
      rw [← hgo, hT] at hstep
      have HST := Lib.hid hstep
      have CT := Lib.hid (fun u => take_any (c.toNat : Int) (w.heap.size + 1) u)
      have CLO : Hid (∀ f bt (w3 : World), w2.heap.size ≤ bt → Below w2.drew.heap.size w2.drew w3 → CloOk (c.toNat : Int) (w.heap.size + 1) bt f w3 → Calls Tryd.prog f #[.string (ba bj), .pointer (some ⟨bt, 0, none⟩)] w3 fun en w4 =>
          ∃ kv', en = .returned (.bool ok) ∧ w4.heap[w1.heap.size]? = some (.stringIter lb (j + 1)) ∧ w4.heap[w.heap.size]? = some (.cells (kindCells 0) 24 (0, 0)) ∧ EvBlk (w.heap.size + 2) (w.heap.size + 1) e2 kv' w4 ∧ Below w.heap.size w w4) := Lib.hid (by
        intro f bt w3 hbt hb3 hclo
        have hb3' := below_alike hb3
        have hE3 := hE2.below hb3'
        have hne : bt ≠ w.heap.size + 1 := by have := heap_lt hE2.blk; omega
        have hnk : kv.ownBlock ≠ some bt := fun h => by have := hE2.kvlt bt h; omega
        refine (hclo (w.heap.size + 2) e kv (ba bj) w3 (by rw [ba_size]; exact hsj) (by omega) (by have := hb3'.size; have := heap_lt hE2.blk; omega) (hEv2.below hb3') hE3 (Below.refl _ _) hne hnk).mono ?_
        rintro en w4 ⟨kv', rfl, hE4, hK⟩
        rw [ba_list, hT] at hE4
        rw [ba_list, hT]
        have hit3 := heap_keep hit2 hb3'
        have hev3 := heap_keep hev2 hb3'
        exact ⟨kv', rfl, hK.block _ _ (Ne.symm hne2) (own_ne_iter hE3.own hit3) hit3, hK.block _ _ (by omega) (fun h => by have := hE3.kvge _ h; omega) hev3, hE4, hK.belowH (hbw2.trans (hb3'.mono hbw2.size)) (by omega) (fun g h => by have := hE3.kvge g h; omega) (Nat.le_refl _)⟩)
      have HPR := Lib.hid hposr
      subst hao
      clear hw2 hbyte hszj hposr hcell hstep hT hbj hc hev hit hE0 hgo hE2 hev2 hit2 hEv2 hbw hj
      cases ok with
      | true =>
        go_wp2_with fail
        go_region_with (first
          | (go_at_call 29; refine (CT.out _).mono ?_; rintro e1 w3 ⟨f, bt, rfl, hbt, hb3, hent, hclo⟩; unfold Enters at hent; have l3 : w3.cell? ⟨b, off + j, none⟩ = some (.string (ba bj)) := (hb3.cell (cell_lt l2)).trans l2; have CL := Lib.hid (CLO.out f bt w3 hbt hb3 hclo))
          | (with_reducible refine CL.out.mono ?_; rintro e1 w4 ⟨kv', rfl, hit4, hev4, hE4, hbw4⟩))
        all_goals
          go_wp2_with fail
          go_roundw
          case rel => exact ⟨_, _, _, _, _, _, _, _, _, _, _, _, _, _, _, _, ⟨j + 1, e2, kv', by omega, hit4, hev4, hE4, by have := HST.out; simpa using this, hkl2, hbw4⟩, rfl⟩
          case measure =>
            rw [HPR.out]
            simp only [World.iterPos, hit4]
            omega
      | false =>
        go_wp2_with fail
        go_region_with (first
          | (go_at_call 29; refine (CT.out _).mono ?_; rintro e1 w3 ⟨f, bt, rfl, hbt, hb3, hent, hclo⟩; unfold Enters at hent; have l3 : w3.cell? ⟨b, off + j, none⟩ = some (.string (ba bj)) := (hb3.cell (cell_lt l2)).trans l2; have CL := Lib.hid (CLO.out f bt w3 hbt hb3 hclo))
          | (with_reducible refine CL.out.mono ?_; rintro e1 w4 ⟨kv', rfl, hit4, hev4, hE4, hbw4⟩))
        all_goals
          obtain ⟨ao5, n5, cap5, rfl⟩ := hE4.kvform
          have d0 : w4.cell? ⟨w.heap.size + 1, 0, none⟩ = some (.int .i64 e2.kind) := hE4.cell 0 _ rfl
          have d1 : w4.cell? ⟨w.heap.size + 1, 1, none⟩ = some (.string (ba e2.name)) := hE4.cell 1 _ rfl
          have d2 : w4.cell? ⟨w.heap.size + 1, 2, none⟩ = some (.string (ba e2.other)) := hE4.cell 2 _ rfl
          have d3 : w4.cell? ⟨w.heap.size + 1, 3, none⟩ = some (.string (ba e2.data)) := hE4.cell 3 _ rfl
          have d4 : w4.cell? ⟨w.heap.size + 1, 4, none⟩ = some (.int .i64 e2.n) := hE4.cell 4 _ rfl
          have d5 : w4.cell? ⟨w.heap.size + 1, 5, none⟩ = some (.bool e2.yes) := hE4.cell 5 _ rfl
          have d6 : w4.cell? ⟨w.heap.size + 1, 6, none⟩ = some (.slice ao5 n5 cap5) := hE4.cell 6 _ rfl
          have f0 : ∀ i, w4.frozen? ⟨w.heap.size, i, none⟩ = false := by intro i; unfold World.frozen?; rw [hev4]; simp
          have z0 : w4.cell? ⟨w.heap.size, 0, none⟩ = some (.int .i64 0) := by unfold World.cell?; rw [hev4]; rfl
          have z1 : w4.cell? ⟨w.heap.size, 1, none⟩ = some (.string ⟨#[]⟩) := by unfold World.cell?; rw [hev4]; rfl
          have z2 : w4.cell? ⟨w.heap.size, 2, none⟩ = some (.string ⟨#[]⟩) := by unfold World.cell?; rw [hev4]; rfl
          have z3 : w4.cell? ⟨w.heap.size, 3, none⟩ = some (.string ⟨#[]⟩) := by unfold World.cell?; rw [hev4]; rfl
          have z4 : w4.cell? ⟨w.heap.size, 4, none⟩ = some (.int .i64 0) := by unfold World.cell?; rw [hev4]; rfl
          have z5 : w4.cell? ⟨w.heap.size, 5, none⟩ = some (.bool false) := by unfold World.cell?; rw [hev4]; rfl
          have z6 : w4.cell? ⟨w.heap.size, 6, none⟩ = some (.slice none 0 0) := by unfold World.cell?; rw [hev4]; rfl
          go_wp2_with fail
          refine bodyPost_ret (results_read _ _ _ false _ _ _ _ _ _ _ rfl rfl (copied hev4)) rfl ?_
          exact readEnd hE4 hbw4 (by have := HST.out; simpa using this)
    · have hszj : ¬ j < lb.size := by rw [HLS.out]; exact hlt
      have hnx : ∀ ty, (Instr.next (.pointer (some ⟨w1.heap.size, 0, none⟩)) true ty).run Tryd.prog wr = _ := fun ty => Lib.run_next_end_at wr w1.heap.size lb j ty hit hszj
      have hst : W.readL k ws = (e, true) := by
        rw [hgo, List.drop_eq_nil_of_le (by omega)]; rfl
      have HST := Lib.hid hst
      obtain ⟨ao6, n6, cap6, rfl⟩ := hE0.kvform
      have d0 : wr.cell? ⟨w.heap.size + 1, 0, none⟩ = some (.int .i64 e.kind) := hE0.cell 0 _ rfl
      have d1 : wr.cell? ⟨w.heap.size + 1, 1, none⟩ = some (.string (ba e.name)) := hE0.cell 1 _ rfl
      have d2 : wr.cell? ⟨w.heap.size + 1, 2, none⟩ = some (.string (ba e.other)) := hE0.cell 2 _ rfl
      have d3 : wr.cell? ⟨w.heap.size + 1, 3, none⟩ = some (.string (ba e.data)) := hE0.cell 3 _ rfl
      have d4 : wr.cell? ⟨w.heap.size + 1, 4, none⟩ = some (.int .i64 e.n) := hE0.cell 4 _ rfl
      have d5 : wr.cell? ⟨w.heap.size + 1, 5, none⟩ = some (.bool e.yes) := hE0.cell 5 _ rfl
      have d6 : wr.cell? ⟨w.heap.size + 1, 6, none⟩ = some (.slice ao6 n6 cap6) := hE0.cell 6 _ rfl
      have f0 : ∀ i, wr.frozen? ⟨w.heap.size, i, none⟩ = false := by intro i; unfold World.frozen?; rw [hev]; simp
      have z0 : wr.cell? ⟨w.heap.size, 0, none⟩ = some (.int .i64 0) := by unfold World.cell?; rw [hev]; rfl
      have z1 : wr.cell? ⟨w.heap.size, 1, none⟩ = some (.string ⟨#[]⟩) := by unfold World.cell?; rw [hev]; rfl
      have z2 : wr.cell? ⟨w.heap.size, 2, none⟩ = some (.string ⟨#[]⟩) := by unfold World.cell?; rw [hev]; rfl
      have z3 : wr.cell? ⟨w.heap.size, 3, none⟩ = some (.string ⟨#[]⟩) := by unfold World.cell?; rw [hev]; rfl
      have z4 : wr.cell? ⟨w.heap.size, 4, none⟩ = some (.int .i64 0) := by unfold World.cell?; rw [hev]; rfl
      have z5 : wr.cell? ⟨w.heap.size, 5, none⟩ = some (.bool false) := by unfold World.cell?; rw [hev]; rfl
      have z6 : wr.cell? ⟨w.heap.size, 6, none⟩ = some (.slice none 0 0) := by unfold World.cell?; rw [hev]; rfl
      clear hst hgo hit
      go_wp2_with fail
      refine bodyPost_ret (results_read _ _ _ true _ _ _ _ _ _ _ rfl rfl (copied hev)) rfl ?_
      exact readEnd hE0 hbw HST.out

theorem read_any (k : Nat) (hk : k < 13) (ws : List W.Bs) (v : Value) (w : World) (hv : RowAt w v (strVals ws)) (hE : Env w) (hn : ws.length ≤ 100000000) (hsm : ∀ x ∈ ws, x.length ≤ 1000000000) :
    Calls Tryd.prog 17 #[.int .i64 k, v] w (ReadPost k ws w) := by
  by_cases hkk : W.lettersL k = [107]
  · exact read_keys k hk ws v w hv hE hkk hn hsm
  · by_cases hl : ws.length = (W.lettersL k).length
    · exact read_other k hk ws v w hv hE hkk hl hsm
    · exact read_short k hk ws v w hv hE hkk hl
end Go.Proofs.YtoihlclmilhpdaaDoor
