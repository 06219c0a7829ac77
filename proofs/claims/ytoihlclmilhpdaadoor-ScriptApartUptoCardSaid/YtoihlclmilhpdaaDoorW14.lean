/- Walks: take: the closure for a letter. -/
import Derived.Test.YtoihlclmilhpdaaDoorW13
namespace Go.Proofs.YtoihlclmilhpdaaDoor
open Go Go.RowKit

/-- What the closure does, in whatever world comes behind. -/
def CloOk (c : Int) (be bt f : Nat) (w' : World) : Prop :=
  ∀ (B : Nat) (e : W.Ev) (kv : Value) (s : ByteArray) (u : World), s.size ≤ 1000000000 → e.keep.length ≤ 1000000000 → B ≤ u.heap.size → Env u → EvBlk B be e kv u → Below w'.heap.size w' u → bt ≠ be → kv.ownBlock ≠ some bt →
    Calls Tryd.prog f #[.string s, .pointer (some ⟨bt, 0, none⟩)] u (CloPost B be c e kv s u)
/-- A call of f enters it. -/
def Enters (f : Nat) : Prop := ∀ (args : Array Value) (u : World), (callFunc f args).run Tryd.prog u = .ok (.enter f args) u
theorem enters_of {f : Nat} {fn : Func} (h : Tryd.prog.funcs[f]? = some fn) (hn : (fn.name == "runtime.NumGoroutine") = false) (hb : fn.body.isSome = true) : Enters f := by
  intro args u
  obtain ⟨c, hc⟩ := Option.isSome_iff_exists.1 hb
  have h1 : fn.name ≠ "runtime.NumGoroutine" := by simpa using hn
  simp [callFunc, h, h1, hc]
theorem enters1 : Enters 48 := enters_of Tryd.func48 (by kernel_rfl) (by kernel_rfl)
theorem enters2 : Enters 49 := enters_of Tryd.func49 (by kernel_rfl) (by kernel_rfl)
theorem enters3 : Enters 50 := enters_of Tryd.func50 (by kernel_rfl) (by kernel_rfl)
theorem enters4 : Enters 52 := enters_of Tryd.func52 (by kernel_rfl) (by kernel_rfl)
def TakePost (c : Int) (be : Nat) (w : World) (en : Ending) (w' : World) : Prop :=
  ∃ f bt, en = .returned (.func (.func f) #[] #[.pointer (some ⟨bt, 0, none⟩)]) ∧ w.heap.size ≤ bt ∧ Below w.heap.size w w' ∧ Enters f ∧ CloOk c be bt f w'

theorem new_cell (w : World) (x : Value) (t : Nat) : (w.alloc (.cells #[x] t)).cell? ⟨w.heap.size, 0, none⟩ = some x := by
  unfold World.cell?; rw [alloc_new]; rfl
theorem two_boxed (w : World) (o p : Obj) : Below w.heap.size w ((w.alloc o).alloc p) := (boxed w o).alloc (boxed w o).size _
theorem cellB {w u : World} {a : Addr} {v : Value} (h : w.cell? a = some v) (hb : Below w.heap.size w u) : u.cell? a = some v := by rw [hb.cell (cell_lt h)]; exact h

theorem cloOk_n {be bt : Nat} {w : World} (h : w.cell? ⟨bt, 0, none⟩ = some (.pointer (some ⟨be, 1, none⟩))) : CloOk 110 be bt 48 w :=
  fun B e kv s u hs _ _ _ hE hb _ _ => clo_n B be bt e kv s u hs hE (cellB h hb)
theorem cloOk_o {be bt : Nat} {w : World} (h : w.cell? ⟨bt, 0, none⟩ = some (.pointer (some ⟨be, 2, none⟩))) : CloOk 111 be bt 48 w :=
  fun B e kv s u hs _ _ _ hE hb _ _ => clo_o B be bt e kv s u hs hE (cellB h hb)
theorem cloOk_d {be bt : Nat} {w : World} (h : w.cell? ⟨bt, 0, none⟩ = some (.pointer (some ⟨be, 3, none⟩))) : CloOk 100 be bt 48 w :=
  fun B e kv s u hs _ _ _ hE hb _ _ => clo_d B be bt e kv s u hs hE (cellB h hb)
theorem cloOk_y {be bt : Nat} {w : World} (h : w.cell? ⟨bt, 0, none⟩ = some (.pointer (some ⟨be, 0, none⟩))) : CloOk 121 be bt 49 w :=
  fun B e kv s u _ _ _ _ hE hb hne _ => clo_y B be bt e kv s u hE (cellB h hb) hne
theorem cloOk_k {be bt : Nat} {w : World} (h : w.cell? ⟨bt, 0, none⟩ = some (.pointer (some ⟨be, 0, none⟩))) : CloOk 107 be bt 50 w :=
  fun B e kv s u hs hl hB hEv hE hb _ hk => clo_k B be bt e kv s u hs hl hB hEv hE (cellB h hb) hk
theorem cloOk_i {be bt : Nat} {w : World} (c : Int) (hc : c ≠ 110 ∧ c ≠ 111 ∧ c ≠ 100 ∧ c ≠ 121 ∧ c ≠ 107) (h : w.cell? ⟨bt, 0, none⟩ = some (.pointer (some ⟨be, 0, none⟩))) : CloOk c be bt 52 w :=
  fun B e kv s u hs _ _ hEv hE hb _ _ => clo_i B be bt c e kv s u hs hEv hE (cellB h hb) hc

theorem take1_any (be i : Nat) (w : World) : Calls Tryd.prog 47 #[.pointer (some ⟨be, i, none⟩)] w fun en w' =>
    en = .returned (.func (.func 48) #[] #[.pointer (some ⟨w.heap.size, 0, none⟩)]) ∧ w' = w.alloc (.cells #[.pointer (some ⟨be, i, none⟩)] 99) := by
  go_enter Tryd.func47, Tryd.ntmps47
  go_wp2
  go_ret
  exact ⟨rfl, rfl⟩

theorem take_n (be : Nat) (w : World) : Calls Tryd.prog 29 #[.int .i32 110, .pointer (some ⟨be, 0, none⟩)] w (TakePost 110 be w) := by
  have CT := Lib.hid (take1_any be 1)
  have q := new_cell w (.pointer (some ⟨be, 0, none⟩)) 76
  go_enter Tryd.func29, Tryd.ntmps29
  go_wp2_with fail
  refine (CT.out _).mono ?_
  rintro e w' ⟨rfl, rfl⟩
  go_wp2_with fail
  go_ret
  exact ⟨_, _, rfl, Nat.le_succ_of_le (Nat.le_refl _), two_boxed _ _ _, enters1, cloOk_n (by have := new_cell (w.alloc (.cells #[.pointer (some ⟨be, 0, none⟩)] 76)) (.pointer (some ⟨be, 1, none⟩)) 99; rw [alloc_size] at this; exact this)⟩
theorem take_o (be : Nat) (w : World) : Calls Tryd.prog 29 #[.int .i32 111, .pointer (some ⟨be, 0, none⟩)] w (TakePost 111 be w) := by
  have CT := Lib.hid (take1_any be 2)
  have q := new_cell w (.pointer (some ⟨be, 0, none⟩)) 76
  go_enter Tryd.func29, Tryd.ntmps29
  go_wp2_with fail
  refine (CT.out _).mono ?_
  rintro e w' ⟨rfl, rfl⟩
  go_wp2_with fail
  go_ret
  exact ⟨_, _, rfl, Nat.le_succ_of_le (Nat.le_refl _), two_boxed _ _ _, enters1, cloOk_o (by have := new_cell (w.alloc (.cells #[.pointer (some ⟨be, 0, none⟩)] 76)) (.pointer (some ⟨be, 2, none⟩)) 99; rw [alloc_size] at this; exact this)⟩
theorem take_d (be : Nat) (w : World) : Calls Tryd.prog 29 #[.int .i32 100, .pointer (some ⟨be, 0, none⟩)] w (TakePost 100 be w) := by
  have CT := Lib.hid (take1_any be 3)
  have q := new_cell w (.pointer (some ⟨be, 0, none⟩)) 76
  go_enter Tryd.func29, Tryd.ntmps29
  go_wp2_with fail
  refine (CT.out _).mono ?_
  rintro e w' ⟨rfl, rfl⟩
  go_wp2_with fail
  go_ret
  exact ⟨_, _, rfl, Nat.le_succ_of_le (Nat.le_refl _), two_boxed _ _ _, enters1, cloOk_d (by have := new_cell (w.alloc (.cells #[.pointer (some ⟨be, 0, none⟩)] 76)) (.pointer (some ⟨be, 3, none⟩)) 99; rw [alloc_size] at this; exact this)⟩
theorem take_y (be : Nat) (w : World) : Calls Tryd.prog 29 #[.int .i32 121, .pointer (some ⟨be, 0, none⟩)] w (TakePost 121 be w) := by
  go_enter Tryd.func29, Tryd.ntmps29
  go_wp2
  go_ret
  exact ⟨_, _, rfl, Nat.le_refl _, boxed _ _, enters2, cloOk_y (new_cell _ _ _)⟩
theorem take_k (be : Nat) (w : World) : Calls Tryd.prog 29 #[.int .i32 107, .pointer (some ⟨be, 0, none⟩)] w (TakePost 107 be w) := by
  go_enter Tryd.func29, Tryd.ntmps29
  go_wp2
  go_ret
  exact ⟨_, _, rfl, Nat.le_refl _, boxed _ _, enters3, cloOk_k (new_cell _ _ _)⟩
theorem take_i (c : Int) (hc : c ≠ 110 ∧ c ≠ 111 ∧ c ≠ 100 ∧ c ≠ 121 ∧ c ≠ 107) (be : Nat) (w : World) : Calls Tryd.prog 29 #[.int .i32 c, .pointer (some ⟨be, 0, none⟩)] w (TakePost c be w) := by
  have q1 : (c == 110) = false := by simpa using hc.1
  have q2 : (c == 111) = false := by simpa using hc.2.1
  have q3 : (c == 100) = false := by simpa using hc.2.2.1
  have q4 : (c == 121) = false := by simpa using hc.2.2.2.1
  have q5 : (c == 107) = false := by simpa using hc.2.2.2.2
  have HC := Lib.hid hc
  clear hc
  go_enter Tryd.func29, Tryd.ntmps29
  go_wp2
  go_ret
  exact ⟨_, _, rfl, Nat.le_refl _, boxed _ _, enters4, cloOk_i c HC.out (new_cell _ _ _)⟩
theorem take_any (c : Int) (be : Nat) (w : World) : Calls Tryd.prog 29 #[.int .i32 c, .pointer (some ⟨be, 0, none⟩)] w (TakePost c be w) := by
  by_cases h1 : c = 110
  · subst h1; exact take_n be w
  · by_cases h2 : c = 111
    · subst h2; exact take_o be w
    · by_cases h3 : c = 100
      · subst h3; exact take_d be w
      · by_cases h4 : c = 121
        · subst h4; exact take_y be w
        · by_cases h5 : c = 107
          · subst h5; exact take_k be w
          · exact take_i c ⟨h1, h2, h3, h4, h5⟩ be w
end Go.Proofs.YtoihlclmilhpdaaDoor
