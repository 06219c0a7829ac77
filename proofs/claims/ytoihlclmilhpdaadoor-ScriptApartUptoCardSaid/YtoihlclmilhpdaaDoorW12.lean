/- Walks: integer; the closures that take a part of an event. -/
import Derived.Test.YtoihlclmilhpdaaDoorPush
import Derived.Deep.RegionWith
import Derived.Deep.RegionHeld3
namespace Go.Proofs.YtoihlclmilhpdaaDoor
open Go Go.RowKit

def intOk (l : W.Bs) : Bool := (W.integer l).isSome
def IntPost (s : ByteArray) (w : World) (e : Ending) (w' : World) : Prop :=
  e = .returned (.tuple #[.int .i64 (W.atoiVal s.data.toList), .bool (intOk s.data.toList)]) ∧ Below w.heap.size w w'

theorem atoi_bad_no {l : W.Bs} (h : atoiBad l = true) : intOk l = false := by
  unfold atoiBad at h
  unfold intOk W.integer
  cases ha : Lib.atoiAll l with
  | ok v => rw [ha] at h; cases h
  | range => rfl
  | _ => rfl
theorem atoi_good {l : W.Bs} (h : atoiBad l = false) : W.i64 (W.atoiVal l) ∧ intOk l = (Lib.itoa (W.atoiVal l) == l) := by
  unfold atoiBad at h
  unfold intOk W.integer W.atoiVal
  cases ha : Lib.atoiAll l with
  | ok v =>
    refine ⟨Lib.atoiAll_bounds ha, ?_⟩
    simp only
    by_cases hv : Lib.itoa v = l
    · rw [if_pos hv]; simp [hv]
    · rw [if_neg hv]; simp [hv]
  | range => rw [ha] at h; cases h
  | _ => rw [ha] at h; cases h

theorem itoa_cmp (n : Int) (s : ByteArray) : ((itoaBA n).toList == s.toList) = (Lib.itoa n == s.data.toList) := by
  rw [Lib.toList_data, Lib.toList_data]; simp [itoaBA]

set_option maxRecDepth 100000 in
theorem integer_any (s : ByteArray) (w : World) (hs : s.size ≤ 1000000000) (hE : Env w) : Calls Tryd.prog 51 #[.string s] w (IntPost s w) := by
  have CA := Lib.hid (atoi_any s w hs hE)
  cases hb : atoiBad s.data.toList with
  | true =>
    have hno := atoi_bad_no hb
    have HN := Lib.hid hno
    have HB := Lib.hid hb
    clear hno hb
    go_enter Tryd.func51, Tryd.ntmps51
    go_wp2_with fail
    refine CA.out.mono ?_
    rintro e w1 ⟨v, rfl, hv, hb1⟩
    rw [HB.out] at hv
    rcases hv with ⟨h, _⟩ | ⟨_, t, a, rfl⟩
    · cases h
    · go_wp2_with fail
      go_ret2
      unfold IntPost
      rw [HN.out]
      exact ⟨rfl, hb1⟩
  | false =>
    have hg := atoi_good hb
    have CI := Lib.hid (fun u (hu : Env u) => itoa_any (W.atoiVal s.data.toList) u hg.1 hu)
    have HG := Lib.hid hg.2
    have HB := Lib.hid hb
    clear hg hb
    go_enter Tryd.func51, Tryd.ntmps51
    go_wp2_with fail
    refine CA.out.mono ?_
    rintro e w1 ⟨v, rfl, hv, hb1⟩
    rw [HB.out] at hv
    rcases hv with ⟨_, rfl⟩ | ⟨h, _⟩
    · go_wp2_with fail
      refine (CI.out _ (hE.below hb1)).mono ?_
      rintro e w2 ⟨rfl, hb2⟩
      have hb := hb1.trans (hb2.mono hb1.size)
      clear hb1 hb2
      go_wp2_with fail
      go_ret2
      unfold IntPost
      rw [HG.out, ← itoa_cmp]
      exact ⟨rfl, hb⟩
    · cases h

/-- The event in its own block; its list of numbers lies in a row of the call's own. -/
structure EvBlk (B be : Nat) (e : W.Ev) (kv : Value) (w : World) : Prop where
  blk : w.heap[be]? = some (.cells (evCells e kv) 24 (0, 0))
  own : w.ownsRow B 3 1 kv e.keep.length (intVals e.keep)
/-- Everything but the event's block and its row stands. -/
structure Keeps (be : Nat) (kv : Value) (w w' : World) : Prop where
  os : w'.os = w.os
  tape : w'.tape = w.tape
  output : w'.output = w.output
  size : w.heap.size ≤ w'.heap.size
  block : ∀ k ob, k ≠ be → kv.ownBlock ≠ some k → w.heap[k]? = some ob → w'.heap[k]? = some ob

/-- What the closure for a letter does. -/
def CloPost (B be : Nat) (c : Int) (e : W.Ev) (kv : Value) (s : ByteArray) (w : World) (en : Ending) (w' : World) : Prop :=
  ∃ kv', en = .returned (.bool (W.takeL c e s.data.toList).2) ∧ EvBlk B be (W.takeL c e s.data.toList).1 kv' w' ∧ Keeps be kv w w'

theorem EvBlk.below {B be : Nat} {e : W.Ev} {kv : Value} {w w' : World} (h : EvBlk B be e kv w) (hb : Below w.heap.size w w') : EvBlk B be e kv w' :=
  ⟨by rw [hb.block be (heap_lt h.blk)]; exact h.blk, ownsRow_below h.own hb⟩
theorem EvBlk.cell {B be : Nat} {e : W.Ev} {kv : Value} {w : World} (h : EvBlk B be e kv w) (i : Nat) (x : Value) (hx : (evCells e kv)[i]? = some x) : w.cell? ⟨be, i, none⟩ = some x := by
  unfold World.cell?; rw [h.blk]; exact hx
theorem EvBlk.free {B be : Nat} {e : W.Ev} {kv : Value} {w : World} (h : EvBlk B be e kv w) (i : Nat) : w.frozen? ⟨be, i, none⟩ = false := by
  unfold World.frozen?; rw [h.blk]; simp
/-- The row is not the event's block. -/
theorem EvBlk.apart {B be : Nat} {e : W.Ev} {kv : Value} {w : World} (h : EvBlk B be e kv w) : kv.ownBlock ≠ some be := by
  rcases h.own.2 with ⟨hv, _⟩ | ⟨g, cap, cur, hv, hb, hg, _⟩
  · rw [hv]; simp [Value.ownBlock]
  · rw [hv]
    simp only [Value.ownBlock]
    intro e; injection e with e; rw [e, h.blk] at hg
    injection hg with hg; injection hg with _ h2 _; exact absurd h2 (by decide)
theorem heap_setCell (w : World) (be i : Nat) (x : Value) (cs : Array Value) (t : Nat) (fz : Nat × Nat) (h : w.heap[be]? = some (.cells cs t fz)) : (w.setCell ⟨be, i, none⟩ x).heap[be]? = some (.cells (cs.setIfInBounds i x) t fz) := by
  simp only [World.setCell, Array.getElem?_modify, if_true, h]; rfl
theorem heap_setCell_other (w : World) (be k i : Nat) (x : Value) (h : k ≠ be) : (w.setCell ⟨be, i, none⟩ x).heap[k]? = w.heap[k]? := by
  simp [World.setCell, Array.getElem?_modify, Ne.symm h]
theorem own_setCell {w : World} {B be i n e : Nat} {kv x : Value} {xs : List Value} (h : w.ownsRow B e 1 kv n xs) (hne : kv.ownBlock ≠ some be) : (w.setCell ⟨be, i, none⟩ x).ownsRow B e 1 kv n xs := by
  refine ⟨h.1, h.2.imp id ?_⟩
  rintro ⟨g, cap, cur, h1, h2, h3, h4⟩
  refine ⟨g, cap, cur, h1, h2, ?_, h4⟩
  rw [heap_setCell_other _ _ _ _ _ (by intro e; apply hne; rw [h1, e]; rfl)]; exact h3
/-- A store of a field that is no list. -/
theorem EvBlk.store {B be i : Nat} {e e' : W.Ev} {kv x : Value} {w : World} (h : EvBlk B be e kv w) (hk : e'.keep = e.keep) (hc : (evCells e kv).setIfInBounds i x = evCells e' kv) : EvBlk B be e' kv (w.setCell ⟨be, i, none⟩ x) :=
  ⟨by rw [heap_setCell _ _ _ _ _ _ _ h.blk, hc], by rw [hk]; exact own_setCell h.own h.apart⟩
theorem Keeps.store {be i : Nat} {kv x : Value} {w w1 : World} (hb : Below w.heap.size w w1) : Keeps be kv w (w1.setCell ⟨be, i, none⟩ x) where
  os := hb.os
  tape := hb.tape
  output := hb.output
  size := by
    have : (w1.setCell ⟨be, i, none⟩ x).heap.size = w1.heap.size := by simp [World.setCell]
    rw [this]; exact hb.size
  block := fun k ob hk _ h => by rw [heap_setCell_other _ _ _ _ _ hk, hb.block k (heap_lt h)]; exact h

theorem env_drew {w : World} (h : Env w) : Env w.drew := h.below ⟨rfl, rfl, rfl, Nat.le_refl _, fun _ _ => rfl⟩
theorem below_alike {w w1 : World} (h : Below w.drew.heap.size w.drew w1) : Below w.heap.size w w1 := ⟨h.os, h.tape, h.output, h.size, h.block⟩

set_option maxHeartbeats 1000000 in
set_option maxRecDepth 100000 in
/-- The closure that takes a text: into the Name. -/
theorem clo_n (B be bt : Nat) (e : W.Ev) (kv : Value) (s : ByteArray) (w : World) (hs : s.size ≤ 1000000000) (hE : EvBlk B be e kv w) (hbt : w.cell? ⟨bt, 0, none⟩ = some (.pointer (some ⟨be, 1, none⟩))) :
    Calls Tryd.prog 48 #[.string s, .pointer (some ⟨bt, 0, none⟩)] w (CloPost B be 110 e kv s w) := by
  have CU := Lib.hid (unquote_any s)
  go_enter Tryd.func48, Tryd.ntmps48
  go_wp2_with fail
  go_region_with (go_at_call 27; refine (CU.out _ hs).mono ?_; rintro e1 w1 ⟨rfl, hb1⟩; have hb2 := below_alike hb1; have hE1 := hE.below hb2; have q1 := hE1.cell 1 _ rfl; have q2 := hE1.free 1; have q3 : w1.cell? ⟨bt, 0, none⟩ = some (.pointer (some ⟨be, 1, none⟩)) := by rw [hb2.cell (cell_lt hbt)]; exact hbt)
  all_goals
    go_wp2_with fail
    go_ret
    exact ⟨kv, rfl, hE1.store rfl rfl, Keeps.store hb2⟩

set_option maxHeartbeats 1000000 in
set_option maxRecDepth 100000 in
/-- The closure that takes a text: into the other name. -/
theorem clo_o (B be bt : Nat) (e : W.Ev) (kv : Value) (s : ByteArray) (w : World) (hs : s.size ≤ 1000000000) (hE : EvBlk B be e kv w) (hbt : w.cell? ⟨bt, 0, none⟩ = some (.pointer (some ⟨be, 2, none⟩))) :
    Calls Tryd.prog 48 #[.string s, .pointer (some ⟨bt, 0, none⟩)] w (CloPost B be 111 e kv s w) := by
  have CU := Lib.hid (unquote_any s)
  go_enter Tryd.func48, Tryd.ntmps48
  go_wp2_with fail
  go_region_with (go_at_call 27; refine (CU.out _ hs).mono ?_; rintro e1 w1 ⟨rfl, hb1⟩; have hb2 := below_alike hb1; have hE1 := hE.below hb2; have q1 := hE1.cell 2 _ rfl; have q2 := hE1.free 2; have q3 : w1.cell? ⟨bt, 0, none⟩ = some (.pointer (some ⟨be, 2, none⟩)) := by rw [hb2.cell (cell_lt hbt)]; exact hbt)
  all_goals
    go_wp2_with fail
    go_ret
    exact ⟨kv, rfl, hE1.store rfl rfl, Keeps.store hb2⟩

set_option maxHeartbeats 1000000 in
set_option maxRecDepth 100000 in
/-- The closure that takes a text: into the data. -/
theorem clo_d (B be bt : Nat) (e : W.Ev) (kv : Value) (s : ByteArray) (w : World) (hs : s.size ≤ 1000000000) (hE : EvBlk B be e kv w) (hbt : w.cell? ⟨bt, 0, none⟩ = some (.pointer (some ⟨be, 3, none⟩))) :
    Calls Tryd.prog 48 #[.string s, .pointer (some ⟨bt, 0, none⟩)] w (CloPost B be 100 e kv s w) := by
  have CU := Lib.hid (unquote_any s)
  go_enter Tryd.func48, Tryd.ntmps48
  go_wp2_with fail
  go_region_with (go_at_call 27; refine (CU.out _ hs).mono ?_; rintro e1 w1 ⟨rfl, hb1⟩; have hb2 := below_alike hb1; have hE1 := hE.below hb2; have q1 := hE1.cell 3 _ rfl; have q2 := hE1.free 3; have q3 : w1.cell? ⟨bt, 0, none⟩ = some (.pointer (some ⟨be, 3, none⟩)) := by rw [hb2.cell (cell_lt hbt)]; exact hbt)
  all_goals
    go_wp2_with fail
    go_ret
    exact ⟨kv, rfl, hE1.store rfl rfl, Keeps.store hb2⟩

theorem Keeps.here {be i : Nat} {kv x : Value} {w : World} : Keeps be kv w (w.setCell ⟨be, i, none⟩ x) := Keeps.store (Below.refl _ _)
theorem yes_cmp (l : W.Bs) (s : ByteArray) (x : W.Bs) (hx : l = s.data.toList) : (s.toList == x) = (l == x) := by rw [Lib.toList_data, hx]

set_option maxHeartbeats 1000000 in
set_option maxRecDepth 100000 in
/-- The closure that takes yes or no. -/
theorem clo_y (B be bt : Nat) (e : W.Ev) (kv : Value) (s : ByteArray) (w : World) (hE : EvBlk B be e kv w) (hbt : w.cell? ⟨bt, 0, none⟩ = some (.pointer (some ⟨be, 0, none⟩))) (hne : bt ≠ be) :
    Calls Tryd.prog 49 #[.string s, .pointer (some ⟨bt, 0, none⟩)] w (CloPost B be 121 e kv s w) := by
  have q1 : w.cell? ⟨be, 5, none⟩ = some (.bool e.yes) := hE.cell 5 _ rfl
  have q2 := hE.free 5
  obtain ⟨y, hy⟩ : ∃ y, y = (s.data.toList == W.yesB) := ⟨_, rfl⟩
  obtain ⟨n, hn⟩ : ∃ n, n = (s.data.toList == W.noB) := ⟨_, rfl⟩
  have y1 : (s.toList == [121, 101, 115]) = y := by rw [hy]; exact yes_cmp _ s _ rfl
  have n1 : (s.toList == [110, 111]) = n := by rw [hn]; exact yes_cmp _ s _ rfl
  have hS := hE.store (i := 5) (x := .bool y) (e' := { e with yes := y }) rfl rfl
  have q3 : (w.setCell ⟨be, 5, none⟩ (.bool y)).cell? ⟨be, 5, none⟩ = some (.bool y) := hS.cell 5 _ rfl
  have q4 : (w.setCell ⟨be, 5, none⟩ (.bool y)).cell? ⟨bt, 0, none⟩ = some (.pointer (some ⟨be, 0, none⟩)) := by
    unfold World.cell?; rw [heap_setCell_other _ _ _ _ _ hne]; exact hbt
  have hres : W.takeL 121 e s.data.toList = ({ e with yes := y }, y || n) := by rw [hy, hn]; rfl
  have HR := Lib.hid hres
  clear hy hn hres
  cases y with
  | true =>
    go_enter Tryd.func49, Tryd.ntmps49
    go_wp2_with fail
    go_ret
    unfold CloPost
    rw [HR.out]
    exact ⟨kv, rfl, hS, Keeps.here⟩
  | false =>
    go_enter Tryd.func49, Tryd.ntmps49
    go_wp2_with fail
    go_ret
    unfold CloPost
    rw [HR.out]
    exact ⟨kv, rfl, hS, Keeps.here⟩

set_option maxHeartbeats 1000000 in
set_option maxRecDepth 100000 in
/-- The closure that takes an integer. -/
theorem clo_i (B be bt : Nat) (c : Int) (e : W.Ev) (kv : Value) (s : ByteArray) (w : World) (hs : s.size ≤ 1000000000) (hEv : Env w) (hE : EvBlk B be e kv w) (hbt : w.cell? ⟨bt, 0, none⟩ = some (.pointer (some ⟨be, 0, none⟩)))
    (hc : c ≠ 110 ∧ c ≠ 111 ∧ c ≠ 100 ∧ c ≠ 121 ∧ c ≠ 107) :
    Calls Tryd.prog 52 #[.string s, .pointer (some ⟨bt, 0, none⟩)] w (CloPost B be c e kv s w) := by
  have hres : W.takeL c e s.data.toList = ({ e with n := W.atoiVal s.data.toList }, intOk s.data.toList) := by
    unfold W.takeL
    rw [if_neg hc.1, if_neg hc.2.1, if_neg hc.2.2.1, if_neg hc.2.2.2.1, if_neg hc.2.2.2.2]; rfl
  have HR := Lib.hid hres
  have CI := Lib.hid (integer_any s)
  have EV := Lib.hid hEv
  clear hres hc hEv
  go_enter Tryd.func52, Tryd.ntmps52
  go_wp2_with fail
  go_region_with (go_at_call 51; refine (CI.out _ hs (env_drew EV.out)).mono ?_; rintro e1 w1 ⟨rfl, hb1⟩; have hb2 := below_alike hb1; have hE1 := hE.below hb2; have q1 := hE1.cell 4 _ rfl; have q2 := hE1.free 4; have q3 : w1.cell? ⟨bt, 0, none⟩ = some (.pointer (some ⟨be, 0, none⟩)) := by rw [hb2.cell (cell_lt hbt)]; exact hbt)
  all_goals
    go_wp2_with fail
    go_ret
    unfold CloPost
    rw [HR.out]
    exact ⟨kv, rfl, hE1.store rfl rfl, Keeps.store hb2⟩
end Go.Proofs.YtoihlclmilhpdaaDoor
