/- Walks: Parse: the loop. -/
import Derived.Test.YtoihlclmilhpdaaDoorW18
namespace Go.Proofs.YtoihlclmilhpdaaDoor
open Go Go.RowKit

theorem row_tail_one {w : World} {b off : Nat} {w0 : W.Bs} {ws : List W.Bs} (h : RowAt w (.slice (some ⟨b, off, none⟩) (ws.length + 1) 1) (strVals (w0 :: ws))) : RowAt w (.slice (some ⟨b, off, none⟩) ws.length 0) (strVals ws) := by
  rcases h with ⟨hn, _⟩ | ⟨b', off', c, he, hc, _⟩
  · simp [strVals] at hn
  · injection he with _ h2 h3
    rw [strVals_len, List.length_cons] at hc
    have : ws = [] := List.eq_nil_of_length_eq_zero (by omega)
    subst this
    exact Or.inl ⟨rfl, Or.inr ⟨_, _, rfl⟩⟩
theorem row_tail {w : World} {b off cap : Nat} {w0 : W.Bs} {ws : List W.Bs} (h : RowAt w (.slice (some ⟨b, off, none⟩) (ws.length + 1) cap) (strVals (w0 :: ws))) : RowAt w (.slice (some ⟨b, off + 1, none⟩) ws.length (cap - 1)) (strVals ws) := by
  rcases h with ⟨hn, _⟩ | ⟨b', off', c, he, hc, hcell⟩
  · simp [strVals] at hn
  · injection he with h1 h2 h3
    injection h1 with h1
    injection h1 with h1 h4 _
    rw [strVals_len, List.length_cons] at hc
    refine Or.inr ⟨b, off + 1, cap - 1, by rw [strVals_len], by rw [strVals_len]; omega, ?_⟩
    intro i x hx
    have := hcell (i + 1) x (by simpa [strVals] using hx)
    rw [← h1, ← h4] at this
    rw [show off + 1 + i = off + (i + 1) by omega]; exact this

set_option maxHeartbeats 8000000 in
set_option maxRecDepth 100000 in
theorem parse_words (s : ByteArray) (w : World) (hs : s.size ≤ 100000000) (hE : Env w) (w0 : W.Bs) (ws : List W.Bs) (hp : W.parts s.data.toList = some (w0 :: ws)) :
    Calls Tryd.prog 8 #[.string s] w (ParsePost s w) := by
  have CP := Lib.hid (fun u => parts_any s u (by omega))
  have hln := partsF_len _ _ _ hp
  rw [size_list] at hln
  have HP := Lib.hid hp
  have hEnv := Lib.hid hE
  clear hp hE
  go_enter Tryd.func8, Tryd.ntmps8
  go_wp2_with fail
  refine (CP.out _).mono ?_
  rintro e1 w1 ⟨v, rfl, hown, hb1⟩
  rw [HP.out] at hown
  simp only [PartsOwn] at hown
  rw [HP.out]
  have hform := (RowAt.of_own (by rw [strVals_len]; exact hown)).form
  obtain ⟨ao, cap, rfl⟩ := hform
  rw [strVals_len, List.length_cons] at hown ⊢
  have hbw1 : Below w.heap.size w w1 := (boxed w (.cells (kindCells 0) 24)).trans (hb1.mono (boxed w (.cells (kindCells 0) 24)).size)
  have hev1 : w1.heap[w.heap.size]? = some (.cells (kindCells 0) 24 (0, 0)) := by
    rw [hb1.block _ (by rw [alloc_size]; omega)]; exact alloc_new _ _
  have hrow1 : RowAt w1 (.slice ao (ws.length + 1) cap) (strVals (w0 :: ws)) := RowAt.of_own (by rw [strVals_len]; exact hown)
  obtain ⟨C, hC⟩ : ∃ C, C = rowVals := ⟨_, rfl⟩
  have HRG := Lib.hid (row_range (hEnv.out.below hbw1))
  have HSZ := Lib.hid row_size
  have HIX := Lib.hid row_index
  rw [← hC] at HRG HSZ HIX
  have n0 : (((ws.length + 1 : Nat) : Int) == 0) = false := by simp; omega
  have HEV1 := Lib.hid hev1
  have HBW1 := Lib.hid hbw1
  have HROW1 := Lib.hid hrow1
  clear hb1 hown hev1 hbw1 hrow1 hC
  go_wp2_with (refine wpList_load_mid rfl 48 _ rfl 0 0 rfl C _ HRG.out row_desc rfl HSZ.out ?_)
  go_loopw [24] (fun u wr => ParseRel w0 ws (.slice ao (ws.length + 1) cap) w u wr) (fun u _ => match u with | .int _ j => (13 - j).toNat | _ => 0)
  case atStart => exact ⟨0, by omega, rfl, HEV1.out, HROW1.out, HBW1.out, rfl⟩
  case round =>
    obtain ⟨j, hj, rfl, hev, hrow, hbw, hfs⟩ := hrel
    by_cases hlt : j < 13
    · have hidx := HIX.out j hlt
      have q0 : ((j : Int) < 13) := by omega
      obtain ⟨b, off, hao, hcell⟩ := hrow.row (by rw [strVals_len]; simp)
      subst hao
      have hEw := hEnv.out.below hbw
      have c0 : ∀ o, (wr.alloc o).cell? ⟨b, off, none⟩ = some (.string (ba w0)) := by
        intro o
        have := hcell 0 _ rfl
        rw [Nat.add_zero] at this
        rw [(boxed wr o).cell (cell_lt this)]; exact this
      obtain ⟨b0, hb0⟩ : ∃ b0, b0 = ba w0 := ⟨_, rfl⟩
      rw [← hb0] at c0
      obtain ⟨f, hf⟩ : ∃ f, f = rowB (j * 2) := ⟨_, rfl⟩
      obtain ⟨g, hg⟩ : ∃ g, g = rowB (j * 2 + 1) := ⟨_, rfl⟩
      have hidx2 : ∀ u, (Instr.index 48 (.agg C.toArray) (.int .i64 j)).run Tryd.prog u = .ok (.agg #[.string f, .string g]) u := by intro u; rw [hf, hg]; exact hidx u
      have cn : (wr.alloc (.cells #[.string f, .string g] 47)).cell? ⟨wr.heap.size, 0, none⟩ = some (.string f) := by
        unfold World.cell?; rw [alloc_new]; rfl
      have HF := Lib.hid hf
      have HG := Lib.hid hg
      have HB0 := Lib.hid hb0
      clear hidx hf hg hb0 hcell
      have hev2 : ∀ o, (wr.alloc o).heap[w.heap.size]? = some (.cells (kindCells 0) 24 (0, 0)) := fun o => heap_keep hev (boxed wr o)
      have hbw2 : ∀ o, Below w.heap.size w (wr.alloc o) := fun o => hbw.alloc hbw.size o
      have hrow2 : ∀ o, RowAt (wr.alloc o) (.slice (some ⟨b, off, none⟩) (ws.length + 1) cap) (strVals (w0 :: ws)) := fun o => hrow.below (boxed wr o)
      by_cases hj0 : j = 0
      · have q1 : ((0 : Int) == 0) = true := rfl
        have hidx0 : ∀ u, (Instr.index 48 (.agg C.toArray) (.int .i64 0)).run Tryd.prog u = .ok (.agg #[.string f, .string g]) u := by intro u; have := hidx2 u; rw [hj0] at this; exact this
        have htry : W.tryL w0 ws j = none := by unfold W.tryL; rw [if_neg (fun h => by omega)]
        have HFS2 := Lib.hid (range_next _ j hfs htry)
        clear htry hidx2 hfs
        subst hj0
        go_wp2_with fail
        go_quiet (fail)
        go_wp2_with fail
        go_roundw
        case rel =>
          exact ⟨0 + 1, by omega, by push_cast; rfl, heap_keep (hev2 _) (below_drewN (Below.refl _ _) _), (hrow2 _).below (below_drewN (Below.refl _ _) _), below_drewN (hbw2 _) _, HFS2.out⟩
        case measure => simp only; omega
      · have q1 : ((j : Int) == 0) = false := by simp; omega
        have hfe := first_eq j w0
        rw [← HF.out, ← HB0.out] at hfe
        cases heq : W.firstL j == w0 with
        | false =>
          rw [heq] at hfe
          have htry : W.tryL w0 ws j = none := by unfold W.tryL; rw [if_neg (fun h => by rw [h.2.1] at heq; simp at heq)]
          have HFS2 := Lib.hid (range_next _ j hfs htry)
          clear htry hfs heq
          go_wp2_with fail
          go_quiet (fail)
          go_wp2_with fail
          go_roundw
          case rel =>
            exact ⟨j + 1, by omega, by push_cast; rfl, heap_keep (hev2 _) (below_drewN (Below.refl _ _) _), (hrow2 _).below (below_drewN (Below.refl _ _) _), below_drewN (hbw2 _) _, HFS2.out⟩
          case measure => simp only; omega
        | true =>
          rw [heq] at hfe
          have HEQ : Hid (W.firstL j = w0) := Lib.hid (by simpa using heq)
          clear heq
          by_cases hcap : cap = 1
          · subst hcap
            go_wp2_with fail
            go_quiet (fail)
            go_wp2_with fail
            obtain ⟨wq, hwq⟩ : ∃ wq, wq = (wr.alloc (.cells #[.string f, .string g] 47)).drewN nq := ⟨_, rfl⟩
            have hbq : Below wr.heap.size wr wq := by rw [hwq]; exact below_drewN (boxed wr _) _
            rw [← hwq]
            have hrow4 : RowAt wq (.slice (some ⟨b, off, none⟩) ws.length 0) (strVals ws) := by
              have := hrow.below hbq
              exact row_tail_one this
            have hEq := hEw.below hbq
            refine (read_any j hlt ws _ wq hrow4 hEq (by rw [List.length_cons] at hln; omega) (fun x hx => by have := hln.2 x (List.mem_cons_of_mem _ hx); omega)).mono ?_
            obtain ⟨e2, ok, hT⟩ : ∃ e2 ok, W.readL j ws = (e2, ok) := ⟨_, _, rfl⟩
            unfold ReadPost
            rw [hT]
            rintro e1 w3 ⟨kv, rfl, hown3, hb3⟩
            have hb3' : Below wr.heap.size wr w3 := hbq.trans (hb3.mono hbq.size)
            have hev3 : w3.heap[w.heap.size]? = some (.cells (kindCells 0) 24 (0, 0)) := heap_keep hev hb3'
            have hbw3 : Below w.heap.size w w3 := hbw.trans (hb3'.mono hbw.size)
            have hrow3 := hrow.below hb3'
            have hHr := heap_lt hev
            have hown4 := hown3.mono_base (b' := w.heap.size + 1) (by have := hbq.size; omega)
            obtain ⟨ao5, n5, cap5, rfl⟩ : ∃ ao n cap, kv = .slice ao n cap := by
              rcases hown3.2 with ⟨hv, _⟩ | ⟨g, cap, cur, hv, _⟩
              · exact ⟨_, _, _, hv⟩
              · exact ⟨_, _, _, hv⟩
            have hev4 : ∀ o, (w3.alloc o).heap[w.heap.size]? = some (.cells (kindCells 0) 24 (0, 0)) := fun o => heap_keep hev3 (boxed w3 o)
            have f0 : ∀ o i, (w3.alloc o).frozen? ⟨w.heap.size, i, none⟩ = false := by intro o i; unfold World.frozen?; rw [hev4 o]; simp
            have z0 : ∀ o, (w3.alloc o).cell? ⟨w.heap.size, 0, none⟩ = some (.int .i64 0) := by intro o; unfold World.cell?; rw [hev4 o]; rfl
            have z1 : ∀ o, (w3.alloc o).cell? ⟨w.heap.size, 1, none⟩ = some (.string ⟨#[]⟩) := by intro o; unfold World.cell?; rw [hev4 o]; rfl
            have z2 : ∀ o, (w3.alloc o).cell? ⟨w.heap.size, 2, none⟩ = some (.string ⟨#[]⟩) := by intro o; unfold World.cell?; rw [hev4 o]; rfl
            have z3 : ∀ o, (w3.alloc o).cell? ⟨w.heap.size, 3, none⟩ = some (.string ⟨#[]⟩) := by intro o; unfold World.cell?; rw [hev4 o]; rfl
            have z4 : ∀ o, (w3.alloc o).cell? ⟨w.heap.size, 4, none⟩ = some (.int .i64 0) := by intro o; unfold World.cell?; rw [hev4 o]; rfl
            have z5 : ∀ o, (w3.alloc o).cell? ⟨w.heap.size, 5, none⟩ = some (.bool false) := by intro o; unfold World.cell?; rw [hev4 o]; rfl
            have z6 : ∀ o, (w3.alloc o).cell? ⟨w.heap.size, 6, none⟩ = some (.slice none 0 0) := by intro o; unfold World.cell?; rw [hev4 o]; rfl
            have hbw4 : ∀ o, Below w.heap.size w (w3.alloc o) := fun o => hbw3.alloc hbw3.size o
            have hown5 : ∀ o, (w3.alloc o).ownsRow (w.heap.size + 1) 3 1 (.slice ao5 n5 cap5) e2.keep.length (intVals e2.keep) := fun o => ownsRow_below hown4 (boxed w3 o)
            have hrow5 : ∀ o, RowAt (w3.alloc o) (.slice (some ⟨b, off, none⟩) (ws.length + 1) 1) (strVals (w0 :: ws)) := fun o => hrow3.below (boxed w3 o)
            have htry : W.tryL w0 ws j = if ok = true then some e2 else none := by
              unfold W.tryL
              rw [hT]
              cases ok with
              | true => rw [if_pos ⟨by omega, HEQ.out, rfl⟩, if_pos rfl]
              | false => rw [if_neg (fun h => by simp at h), if_neg (by simp)]
            have HTRY := Lib.hid htry
            unfold evCells
            clear hwq hbq hrow4 hEq hT hb3 hb3' hev3 hbw3 hrow3 hown3 hown4 htry
            cases ok with
            | true =>
              have hres : W.parseL s.data.toList = some e2 := by
                obtain ⟨r, hr⟩ := range_split j hlt
                unfold W.parseL
                rw [HP.out]
                show (List.range 13).findSome? (W.tryL w0 ws) = some e2
                rw [hr]
                exact find_first _ _ _ _ _ hfs (by rw [HTRY.out, if_pos rfl])
              have HRES := Lib.hid hres
              clear hres
              go_wp2_with fail
              refine bodyPost_ret (results_parse _ _ _ 0 _ _ _ _ _ _ _ rfl rfl (copied (hev4 _))) rfl ?_
              exact parseEnd (hown5 _) (hbw4 _) (by rw [HRES.out]; rfl) (by rw [HRES.out]; rfl)
            | false =>
              have hfs2 := range_next _ j hfs (by rw [HTRY.out, if_neg (by simp)])
              have HFS2 := Lib.hid hfs2
              clear hfs2
              go_wp2_with fail
              go_roundw
              case rel => exact ⟨j + 1, by omega, by push_cast; rfl, hev4 _, hrow5 _, hbw4 _, HFS2.out⟩
              case measure => simp only; omega
          · skip
            go_wp2_with fail
            go_quiet (fail)
            go_wp2_with fail
            obtain ⟨wq, hwq⟩ : ∃ wq, wq = (wr.alloc (.cells #[.string f, .string g] 47)).drewN nq := ⟨_, rfl⟩
            have hbq : Below wr.heap.size wr wq := by rw [hwq]; exact below_drewN (boxed wr _) _
            rw [← hwq]
            have hrow4 : RowAt wq (.slice (some ⟨b, off + 1, none⟩) ws.length (cap - 1)) (strVals ws) := by
              have := hrow.below hbq
              exact row_tail this
            have hEq := hEw.below hbq
            refine (read_any j hlt ws _ wq hrow4 hEq (by rw [List.length_cons] at hln; omega) (fun x hx => by have := hln.2 x (List.mem_cons_of_mem _ hx); omega)).mono ?_
            obtain ⟨e2, ok, hT⟩ : ∃ e2 ok, W.readL j ws = (e2, ok) := ⟨_, _, rfl⟩
            unfold ReadPost
            rw [hT]
            rintro e1 w3 ⟨kv, rfl, hown3, hb3⟩
            have hb3' : Below wr.heap.size wr w3 := hbq.trans (hb3.mono hbq.size)
            have hev3 : w3.heap[w.heap.size]? = some (.cells (kindCells 0) 24 (0, 0)) := heap_keep hev hb3'
            have hbw3 : Below w.heap.size w w3 := hbw.trans (hb3'.mono hbw.size)
            have hrow3 := hrow.below hb3'
            have hHr := heap_lt hev
            have hown4 := hown3.mono_base (b' := w.heap.size + 1) (by have := hbq.size; omega)
            obtain ⟨ao5, n5, cap5, rfl⟩ : ∃ ao n cap, kv = .slice ao n cap := by
              rcases hown3.2 with ⟨hv, _⟩ | ⟨g, cap, cur, hv, _⟩
              · exact ⟨_, _, _, hv⟩
              · exact ⟨_, _, _, hv⟩
            have hev4 : ∀ o, (w3.alloc o).heap[w.heap.size]? = some (.cells (kindCells 0) 24 (0, 0)) := fun o => heap_keep hev3 (boxed w3 o)
            have f0 : ∀ o i, (w3.alloc o).frozen? ⟨w.heap.size, i, none⟩ = false := by intro o i; unfold World.frozen?; rw [hev4 o]; simp
            have z0 : ∀ o, (w3.alloc o).cell? ⟨w.heap.size, 0, none⟩ = some (.int .i64 0) := by intro o; unfold World.cell?; rw [hev4 o]; rfl
            have z1 : ∀ o, (w3.alloc o).cell? ⟨w.heap.size, 1, none⟩ = some (.string ⟨#[]⟩) := by intro o; unfold World.cell?; rw [hev4 o]; rfl
            have z2 : ∀ o, (w3.alloc o).cell? ⟨w.heap.size, 2, none⟩ = some (.string ⟨#[]⟩) := by intro o; unfold World.cell?; rw [hev4 o]; rfl
            have z3 : ∀ o, (w3.alloc o).cell? ⟨w.heap.size, 3, none⟩ = some (.string ⟨#[]⟩) := by intro o; unfold World.cell?; rw [hev4 o]; rfl
            have z4 : ∀ o, (w3.alloc o).cell? ⟨w.heap.size, 4, none⟩ = some (.int .i64 0) := by intro o; unfold World.cell?; rw [hev4 o]; rfl
            have z5 : ∀ o, (w3.alloc o).cell? ⟨w.heap.size, 5, none⟩ = some (.bool false) := by intro o; unfold World.cell?; rw [hev4 o]; rfl
            have z6 : ∀ o, (w3.alloc o).cell? ⟨w.heap.size, 6, none⟩ = some (.slice none 0 0) := by intro o; unfold World.cell?; rw [hev4 o]; rfl
            have hbw4 : ∀ o, Below w.heap.size w (w3.alloc o) := fun o => hbw3.alloc hbw3.size o
            have hown5 : ∀ o, (w3.alloc o).ownsRow (w.heap.size + 1) 3 1 (.slice ao5 n5 cap5) e2.keep.length (intVals e2.keep) := fun o => ownsRow_below hown4 (boxed w3 o)
            have hrow5 : ∀ o, RowAt (w3.alloc o) (.slice (some ⟨b, off, none⟩) (ws.length + 1) cap) (strVals (w0 :: ws)) := fun o => hrow3.below (boxed w3 o)
            have htry : W.tryL w0 ws j = if ok = true then some e2 else none := by
              unfold W.tryL
              rw [hT]
              cases ok with
              | true => rw [if_pos ⟨by omega, HEQ.out, rfl⟩, if_pos rfl]
              | false => rw [if_neg (fun h => by simp at h), if_neg (by simp)]
            have HTRY := Lib.hid htry
            unfold evCells
            clear hwq hbq hrow4 hEq hT hb3 hb3' hev3 hbw3 hrow3 hown3 hown4 htry
            cases ok with
            | true =>
              have hres : W.parseL s.data.toList = some e2 := by
                obtain ⟨r, hr⟩ := range_split j hlt
                unfold W.parseL
                rw [HP.out]
                show (List.range 13).findSome? (W.tryL w0 ws) = some e2
                rw [hr]
                exact find_first _ _ _ _ _ hfs (by rw [HTRY.out, if_pos rfl])
              have HRES := Lib.hid hres
              clear hres
              go_wp2_with fail
              refine bodyPost_ret (results_parse _ _ _ 0 _ _ _ _ _ _ _ rfl rfl (copied (hev4 _))) rfl ?_
              exact parseEnd (hown5 _) (hbw4 _) (by rw [HRES.out]; rfl) (by rw [HRES.out]; rfl)
            | false =>
              have hfs2 := range_next _ j hfs (by rw [HTRY.out, if_neg (by simp)])
              have HFS2 := Lib.hid hfs2
              clear hfs2
              go_wp2_with fail
              go_roundw
              case rel => exact ⟨j + 1, by omega, by push_cast; rfl, hev4 _, hrow5 _, hbw4 _, HFS2.out⟩
              case measure => simp only; omega
    · have hj13 : j = 13 := by omega
      have q0 : ¬ ((j : Int) < 13) := by omega
      have hres : W.parseL s.data.toList = none := by
        unfold W.parseL
        rw [HP.out]
        show (List.range 13).findSome? (W.tryL w0 ws) = none
        rw [hj13] at hfs; exact hfs
      have HRES := Lib.hid hres
      have f0 : ∀ i, wr.frozen? ⟨w.heap.size, i, none⟩ = false := by intro i; unfold World.frozen?; rw [hev]; simp
      have z0 : wr.cell? ⟨w.heap.size, 0, none⟩ = some (.int .i64 0) := by unfold World.cell?; rw [hev]; rfl
      have z1 : wr.cell? ⟨w.heap.size, 1, none⟩ = some (.string ⟨#[]⟩) := by unfold World.cell?; rw [hev]; rfl
      have z2 : wr.cell? ⟨w.heap.size, 2, none⟩ = some (.string ⟨#[]⟩) := by unfold World.cell?; rw [hev]; rfl
      have z3 : wr.cell? ⟨w.heap.size, 3, none⟩ = some (.string ⟨#[]⟩) := by unfold World.cell?; rw [hev]; rfl
      have z4 : wr.cell? ⟨w.heap.size, 4, none⟩ = some (.int .i64 0) := by unfold World.cell?; rw [hev]; rfl
      have z5 : wr.cell? ⟨w.heap.size, 5, none⟩ = some (.bool false) := by unfold World.cell?; rw [hev]; rfl
      have z6 : wr.cell? ⟨w.heap.size, 6, none⟩ = some (.slice none 0 0) := by unfold World.cell?; rw [hev]; rfl
      clear hres hfs hrow hj13
      go_wp2_with fail
      refine bodyPost_ret (results_parse _ _ _ 260 _ _ _ _ _ _ _ rfl rfl (copied hev)) rfl ?_
      exact parseEnd (e := {}) (kv := .slice none 0 0) (World.ownsRow_nil _ _ _ _) hbw (by rw [HRES.out]; rfl) (by rw [HRES.out]; rfl)

set_option maxHeartbeats 8000000 in
set_option maxRecDepth 100000 in
theorem parse_none (s : ByteArray) (w : World) (hs : s.size ≤ 100000000) (hp : W.parts s.data.toList = none ∨ W.parts s.data.toList = some []) :
    Calls Tryd.prog 8 #[.string s] w (ParsePost s w) := by
  have CP := Lib.hid (fun u => parts_any s u (by omega))
  have hres : W.parseL s.data.toList = none := by
    unfold W.parseL
    rcases hp with h | h <;> rw [h] <;> rfl
  have HRES := Lib.hid hres
  have HP := Lib.hid hp
  clear hp hres
  go_enter Tryd.func8, Tryd.ntmps8
  go_wp2_with fail
  refine (CP.out _).mono ?_
  rintro e1 w1 ⟨v, rfl, hown, hb1⟩
  have hbw1 : Below w.heap.size w w1 := (boxed w (.cells (kindCells 0) 24)).trans (hb1.mono (boxed w (.cells (kindCells 0) 24)).size)
  have hev : w1.heap[w.heap.size]? = some (.cells (kindCells 0) 24 (0, 0)) := by
    rw [hb1.block _ (by rw [alloc_size]; omega)]; exact alloc_new _ _
  obtain ⟨ao, cap, rfl⟩ : ∃ ao cap, v = .slice ao 0 cap := by
    rcases HP.out with h | h
    · rw [h] at hown; exact ⟨_, _, hown⟩
    · rw [h] at hown
      simp only [PartsOwn] at hown
      rcases hown.2 with ⟨hv, _⟩ | ⟨g, cap, cur, hv, _⟩
      · exact ⟨_, _, hv⟩
      · exact ⟨_, _, hv⟩
  obtain ⟨b, hb⟩ : ∃ b, b = (W.parts s.data.toList).isSome := ⟨_, rfl⟩
  rw [← hb]
  have f0 : ∀ i, w1.frozen? ⟨w.heap.size, i, none⟩ = false := by intro i; unfold World.frozen?; rw [hev]; simp
  have z0 : w1.cell? ⟨w.heap.size, 0, none⟩ = some (.int .i64 0) := by unfold World.cell?; rw [hev]; rfl
  have z1 : w1.cell? ⟨w.heap.size, 1, none⟩ = some (.string ⟨#[]⟩) := by unfold World.cell?; rw [hev]; rfl
  have z2 : w1.cell? ⟨w.heap.size, 2, none⟩ = some (.string ⟨#[]⟩) := by unfold World.cell?; rw [hev]; rfl
  have z3 : w1.cell? ⟨w.heap.size, 3, none⟩ = some (.string ⟨#[]⟩) := by unfold World.cell?; rw [hev]; rfl
  have z4 : w1.cell? ⟨w.heap.size, 4, none⟩ = some (.int .i64 0) := by unfold World.cell?; rw [hev]; rfl
  have z5 : w1.cell? ⟨w.heap.size, 5, none⟩ = some (.bool false) := by unfold World.cell?; rw [hev]; rfl
  have z6 : w1.cell? ⟨w.heap.size, 6, none⟩ = some (.slice none 0 0) := by unfold World.cell?; rw [hev]; rfl
  clear hown hb1 hb
  cases b with
  | true =>
    go_wp2_with fail
    refine bodyPost_ret (results_parse _ _ _ 260 _ _ _ _ _ _ _ rfl rfl (copied hev)) rfl ?_
    exact parseEnd (e := {}) (kv := .slice none 0 0) (World.ownsRow_nil _ _ _ _) hbw1 (by rw [HRES.out]; rfl) (by rw [HRES.out]; rfl)
  | false =>
    go_wp2_with fail
    refine bodyPost_ret (results_parse _ _ _ 260 _ _ _ _ _ _ _ rfl rfl (copied hev)) rfl ?_
    exact parseEnd (e := {}) (kv := .slice none 0 0) (World.ownsRow_nil _ _ _ _) hbw1 (by rw [HRES.out]; rfl) (by rw [HRES.out]; rfl)

theorem parse_any (s : ByteArray) (w : World) (hs : s.size ≤ 100000000) (hE : Env w) : Calls Tryd.prog 8 #[.string s] w (ParsePost s w) := by
  cases hp : W.parts s.data.toList with
  | none => exact parse_none s w hs (Or.inl hp)
  | some l =>
    cases l with
    | nil => exact parse_none s w hs (Or.inr hp)
    | cons w0 ws => exact parse_words s w hs hE w0 ws hp
end Go.Proofs.YtoihlclmilhpdaaDoor
