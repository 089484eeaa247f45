/- Check, Valid, Default, the sweeps. -/
import Derived.Test.YtgpglfkdpalmcaaConfA
import Derived.Test.YtgpglfkdpalmcaaBig
namespace Go.Proofs.Ytgpglfkdpalmcaa
open Go.RowKit Go.Eg
theorem size24 : (Try.prog.info? 24).map (·.size) = some 20 := by kernel_rfl
def dflt (i : Nat) : Int := [16, 8, 16, 64, 1024, 8, 128, 32, 4, 64, 2, 5, 4, 4, 6, 4, 2, 2, 1, 4].getD i 0
@[reducible] def dfltCells : Array Value := #[.int .i64 16, .int .i64 8, .int .u64 16, .int .u64 64, .int .u64 1024, .int .u64 8, .int .u64 128, .int .u64 32, .int .u64 4, .int .u64 64, .int .i64 2, .int .i64 5, .int .i64 4, .int .i64 4, .int .i64 6, .int .i64 4, .int .i64 2, .int .i64 2, .int .u64 1, .int .u64 4]
@[reducible] def zeroCells : Array Value := #[.int .i64 0, .int .i64 0, .int .u64 0, .int .u64 0, .int .u64 0, .int .u64 0, .int .u64 0, .int .u64 0, .int .u64 0, .int .u64 0, .int .i64 0, .int .i64 0, .int .i64 0, .int .i64 0, .int .i64 0, .int .i64 0, .int .i64 0, .int .i64 0, .int .u64 0, .int .u64 0]
theorem default_any (w : World) :
    Calls Try.prog 13 #[] w fun r w' => r = .returned (.agg dfltCells) ∧ Below w.heap.size w w' := by
  go_enter Try.func13, Try.ntmps13
  go_wp2_with (first | (refine wpList_build_big rfl 24 _ dfltCells rfl (by kernel_rfl) ?_) | (refine wpList_store_new (t := 24) (old := zeroCells) (cs := dfltCells) rfl 24 _ _ rfl rfl rfl size24 rfl rfl ?_))
  exact bodyPost_ret (v := .agg dfltCells) (results_cell_row (p := 0) Try.results13 _ _ w.heap.size _ _ _ _ rfl (heap_alloc_last w _) Try.underlying24 rfl size24) rfl ⟨rfl, (Below.refl _ _).alloc (Nat.le_refl _) _⟩
/-- a configuration's cells -/
@[reducible] def cfgC (c : Nat → Int) : Array Value := #[.int .i64 (c 0), .int .i64 (c 1), .int .u64 (c 2), .int .u64 (c 3), .int .u64 (c 4), .int .u64 (c 5), .int .u64 (c 6), .int .u64 (c 7), .int .u64 (c 8), .int .u64 (c 9), .int .i64 (c 10), .int .i64 (c 11), .int .i64 (c 12), .int .i64 (c 13), .int .i64 (c 14), .int .i64 (c 15), .int .i64 (c 16), .int .i64 (c 17), .int .u64 (c 18), .int .u64 (c 19)]
theorem valid_any (c : Nat → Int) (w : World) (n : Int)
   (hch : ∀ w : World, Calls Try.prog 11 #[cfgV c] w fun r w' => r = .returned (.int .i64 n) ∧ Below w.heap.size w w') :
    Calls Try.prog 12 #[cfgV c] w fun r w' => r = .returned (.bool (n == 0)) ∧ Below w.heap.size w w' := by
  have HC := Lib.hid hch
  clear hch
  go_enter Try.func12, Try.ntmps12
  go_wp2_with (first | (refine wpList_load_big rfl 24 _ rfl w.heap.size rfl 24 (cfgC c) (0, 0) _ Try.underlying24 rfl size24 (heap_alloc_last w _) ?_) | (go_at_call 11; refine (HC.out _).mono ?_; rintro r w1 ⟨rfl, hb⟩))
  go_ret
  exact ⟨rfl, ((Below.refl _ _).alloc (Nat.le_refl _) _).trans (hb.mono (by simp))⟩
theorem visits_any (c : Nat → Int) (w : World) : Calls Try.prog 16 #[cfgV c] w fun r w' => r = .returned (.int .i64 (wrap64 (c 14 - c 16))) ∧ Below w.heap.size w w' := by
  go_enter Try.func16, Try.ntmps16
  go_wp2
  go_ret
  exact ⟨rfl, (Below.refl _ _).alloc (Nat.le_refl _) _⟩
theorem payments_any (c : Nat → Int) (w : World) : Calls Try.prog 17 #[cfgV c] w fun r w' => r = .returned (.int .i64 (wrap64 (c 15 - c 16))) ∧ Below w.heap.size w w' := by
  go_enter Try.func17, Try.ntmps17
  go_wp2
  go_ret
  exact ⟨rfl, (Below.refl _ _).alloc (Nat.le_refl _) _⟩
@[reducible] def condCells : Array Value := #[.func (.func 25) #[] #[], .func (.func 27) #[] #[], .func (.func 28) #[] #[], .func (.func 29) #[] #[], .func (.func 30) #[] #[], .func (.func 32) #[] #[], .func (.func 33) #[] #[], .func (.func 34) #[] #[], .func (.func 35) #[] #[], .func (.func 36) #[] #[], .func (.func 37) #[] #[], .func (.func 38) #[] #[], .func (.func 39) #[] #[], .func (.func 40) #[] #[], .func (.func 41) #[] #[], .func (.func 42) #[] #[], .func (.func 43) #[] #[], .func (.func 44) #[] #[], .func (.func 45) #[] #[], .func (.func 46) #[] #[]]
@[reducible] def nilCells : Array Value := #[.nilFunc, .nilFunc, .nilFunc, .nilFunc, .nilFunc, .nilFunc, .nilFunc, .nilFunc, .nilFunc, .nilFunc, .nilFunc, .nilFunc, .nilFunc, .nilFunc, .nilFunc, .nilFunc, .nilFunc, .nilFunc, .nilFunc, .nilFunc]
theorem size40 : (Try.prog.info? 40).map (·.size) = some 20 := by kernel_rfl
theorem conditions_any (w : World) :
    Calls Try.prog 23 #[] w fun r w' => r = .returned (.agg condCells) ∧ Below w.heap.size w w' := by
  go_enter Try.func23, Try.ntmps23
  go_wp2_with (refine wpList_store_new (t := 40) (old := nilCells) (cs := condCells) rfl 40 _ _ rfl rfl rfl size40 rfl rfl ?_)
  exact bodyPost_ret (v := .agg condCells) (results_cell_row (p := 0) Try.results23 _ _ w.heap.size _ _ _ _ rfl (heap_alloc_last w _) Try.underlying40 rfl size40) rfl ⟨rfl, (Below.refl _ _).alloc (Nat.le_refl _) _⟩
/-- the first condition among the next n that does not hold, counted from 1; or 0 -/
def chkFrom (c : Nat → Int) : Nat → Nat → Int
  | _, 0 => 0
  | k, n + 1 => if okC c k = true then chkFrom c (k + 1) n else k + 1
def chk (c : Nat → Int) : Int := chkFrom c 0 20
theorem chkFrom_at (c : Nat → Int) : ∀ (n k m : Nat), k ≤ m → m < k + n → (∀ j, k ≤ j → j < m → okC c j = true) → okC c m = false → chkFrom c k n = m + 1
  | 0, k, m, h1, h2, _, _ => by omega
  | n + 1, k, m, h1, h2, h3, h4 => by
    rw [chkFrom]
    by_cases hk : k = m
    · subst hk; rw [if_neg (by rw [h4]; simp)]
    · rw [if_pos (h3 k (Nat.le_refl _) (by omega))]
      exact chkFrom_at c n (k + 1) m (by omega) (by omega) (fun j a b => h3 j (by omega) b) h4
theorem chkFrom_all (c : Nat → Int) : ∀ (n k : Nat), (∀ j, k ≤ j → j < k + n → okC c j = true) → chkFrom c k n = 0
  | 0, _, _ => rfl
  | n + 1, k, h => by
    rw [chkFrom, if_pos (h k (Nat.le_refl _) (by omega))]
    exact chkFrom_all c n (k + 1) (fun j a b => h j (by omega) (by omega))

theorem idx0 (w : World) : (Instr.index 40 (.agg condCells) (.int .i64 0)).run Try.prog w = .ok (.agg #[.func (.func 25) #[] #[]]) w := by kernel_rfl
theorem idx1 (w : World) : (Instr.index 40 (.agg condCells) (.int .i64 1)).run Try.prog w = .ok (.agg #[.func (.func 27) #[] #[]]) w := by kernel_rfl
theorem idx2 (w : World) : (Instr.index 40 (.agg condCells) (.int .i64 2)).run Try.prog w = .ok (.agg #[.func (.func 28) #[] #[]]) w := by kernel_rfl
theorem idx3 (w : World) : (Instr.index 40 (.agg condCells) (.int .i64 3)).run Try.prog w = .ok (.agg #[.func (.func 29) #[] #[]]) w := by kernel_rfl
theorem idx4 (w : World) : (Instr.index 40 (.agg condCells) (.int .i64 4)).run Try.prog w = .ok (.agg #[.func (.func 30) #[] #[]]) w := by kernel_rfl
theorem idx5 (w : World) : (Instr.index 40 (.agg condCells) (.int .i64 5)).run Try.prog w = .ok (.agg #[.func (.func 32) #[] #[]]) w := by kernel_rfl
theorem idx6 (w : World) : (Instr.index 40 (.agg condCells) (.int .i64 6)).run Try.prog w = .ok (.agg #[.func (.func 33) #[] #[]]) w := by kernel_rfl
theorem idx7 (w : World) : (Instr.index 40 (.agg condCells) (.int .i64 7)).run Try.prog w = .ok (.agg #[.func (.func 34) #[] #[]]) w := by kernel_rfl
theorem idx8 (w : World) : (Instr.index 40 (.agg condCells) (.int .i64 8)).run Try.prog w = .ok (.agg #[.func (.func 35) #[] #[]]) w := by kernel_rfl
theorem idx9 (w : World) : (Instr.index 40 (.agg condCells) (.int .i64 9)).run Try.prog w = .ok (.agg #[.func (.func 36) #[] #[]]) w := by kernel_rfl
theorem idx10 (w : World) : (Instr.index 40 (.agg condCells) (.int .i64 10)).run Try.prog w = .ok (.agg #[.func (.func 37) #[] #[]]) w := by kernel_rfl
theorem idx11 (w : World) : (Instr.index 40 (.agg condCells) (.int .i64 11)).run Try.prog w = .ok (.agg #[.func (.func 38) #[] #[]]) w := by kernel_rfl
theorem idx12 (w : World) : (Instr.index 40 (.agg condCells) (.int .i64 12)).run Try.prog w = .ok (.agg #[.func (.func 39) #[] #[]]) w := by kernel_rfl
theorem idx13 (w : World) : (Instr.index 40 (.agg condCells) (.int .i64 13)).run Try.prog w = .ok (.agg #[.func (.func 40) #[] #[]]) w := by kernel_rfl
theorem idx14 (w : World) : (Instr.index 40 (.agg condCells) (.int .i64 14)).run Try.prog w = .ok (.agg #[.func (.func 41) #[] #[]]) w := by kernel_rfl
theorem idx15 (w : World) : (Instr.index 40 (.agg condCells) (.int .i64 15)).run Try.prog w = .ok (.agg #[.func (.func 42) #[] #[]]) w := by kernel_rfl
theorem idx16 (w : World) : (Instr.index 40 (.agg condCells) (.int .i64 16)).run Try.prog w = .ok (.agg #[.func (.func 43) #[] #[]]) w := by kernel_rfl
theorem idx17 (w : World) : (Instr.index 40 (.agg condCells) (.int .i64 17)).run Try.prog w = .ok (.agg #[.func (.func 44) #[] #[]]) w := by kernel_rfl
theorem idx18 (w : World) : (Instr.index 40 (.agg condCells) (.int .i64 18)).run Try.prog w = .ok (.agg #[.func (.func 45) #[] #[]]) w := by kernel_rfl
theorem idx19 (w : World) : (Instr.index 40 (.agg condCells) (.int .i64 19)).run Try.prog w = .ok (.agg #[.func (.func 46) #[] #[]]) w := by kernel_rfl
structure CRel (c : Nat → Int) (w wr : World) (k : Nat) : Prop where
  ok : ∀ j, j < k → okC c j = true
  below : Below (w.heap.size + 1) (w.alloc (.cells (cfgC c) 24)) wr
theorem CRel.box {c : Nat → Int} {w wr : World} {k : Nat} (h : CRel c w wr k) : wr.heap[w.heap.size]? = some (.cells (cfgC c) 24 (0, 0)) :=
  (h.below.block w.heap.size (by omega)).trans (heap_alloc_last w _)
set_option maxHeartbeats 4000000 in
theorem check_any (c : Nat → Int) (w : World) :
    Calls Try.prog 11 #[cfgV c] w fun r w' => r = .returned (.int .i64 (chk c)) ∧ Below w.heap.size w w' := by
  go_enter Try.func11, Try.ntmps11
  go_wp2_with fail
  refine (conditions_any _).mono ?_
  rintro r w1 ⟨rfl, hb0⟩
  have hb1 : Below (w.heap.size + 1) (w.alloc (.cells (cfgC c) 24)) w1 := by simpa using hb0
  clear hb0
  go_wp2_with fail
  go_loopw [6] (fun i wr => ∃ k : Nat, k ≤ 20 ∧ i = .int .i64 k ∧ CRel c w wr k) (fun i _ => 20 - (intOf i).toNat)
  case atStart => exact ⟨0, Nat.zero_le _, rfl, fun j hj => by omega, hb1⟩
  case round =>
    obtain ⟨k, hk, rfl, hrl⟩ := hrel
    have HO := Lib.hid hrl.ok
    have hbox := hrl.box
    have hbl := hrl.below
    clear hrl hb1
    by_cases hlt : k < 20
    · match k, hlt with
      | 0, _ =>
        have ix := idx0
        rw [show ((0 : Nat) : Int) = 0 from rfl]
        cases hok : okC c 0 with
        | true =>
          have HK := Lib.hid hok
          clear hok
          go_wp2_with (first | (refine wpList_load_big rfl 24 _ rfl w.heap.size rfl 24 (cfgC c) (0, 0) _ Try.underlying24 rfl size24 (heap_keep hbox _) ?_) | (go_at_call 25; refine (cond1 c _).mono ?_; rw [HK.out]; rintro r w2 ⟨rfl, hb2⟩))
          have hb3 := (hbl.alloc (by have := hbl.size; simp at this; omega) _).trans (hb2.mono (by have := hbl.size; simp at this ⊢; omega))
          go_roundw
          case rel => exact ⟨1, by omega, rfl, fun j hj => by
            by_cases h : j = 0
            · subst h; exact HK.out
            · exact HO.out j (by omega), hb3⟩
          case measure => simp [intOf]
        | false =>
          have HK := Lib.hid hok
          clear hok
          go_wp2_with (first | (refine wpList_load_big rfl 24 _ rfl w.heap.size rfl 24 (cfgC c) (0, 0) _ Try.underlying24 rfl size24 (heap_keep hbox _) ?_) | (go_at_call 25; refine (cond1 c _).mono ?_; rw [HK.out]; rintro r w2 ⟨rfl, hb2⟩))
          have hb3 := (hbl.alloc (by have := hbl.size; simp at this; omega) _).trans (hb2.mono (by have := hbl.size; simp at this ⊢; omega))
          go_ret
          exact ⟨ret_int (chkFrom_at c 20 0 0 (by omega) (by omega) (fun j _ h => HO.out j h) HK.out).symm, ((Below.refl _ _).alloc (Nat.le_refl _) _).trans (hb3.mono (by omega))⟩
      | 1, _ =>
        have ix := idx1
        rw [show ((1 : Nat) : Int) = 1 from rfl]
        cases hok : okC c 1 with
        | true =>
          have HK := Lib.hid hok
          clear hok
          go_wp2_with (first | (refine wpList_load_big rfl 24 _ rfl w.heap.size rfl 24 (cfgC c) (0, 0) _ Try.underlying24 rfl size24 (heap_keep hbox _) ?_) | (go_at_call 27; refine (cond2 c _).mono ?_; rw [HK.out]; rintro r w2 ⟨rfl, hb2⟩))
          have hb3 := (hbl.alloc (by have := hbl.size; simp at this; omega) _).trans (hb2.mono (by have := hbl.size; simp at this ⊢; omega))
          go_roundw
          case rel => exact ⟨2, by omega, rfl, fun j hj => by
            by_cases h : j = 1
            · subst h; exact HK.out
            · exact HO.out j (by omega), hb3⟩
          case measure => simp [intOf]
        | false =>
          have HK := Lib.hid hok
          clear hok
          go_wp2_with (first | (refine wpList_load_big rfl 24 _ rfl w.heap.size rfl 24 (cfgC c) (0, 0) _ Try.underlying24 rfl size24 (heap_keep hbox _) ?_) | (go_at_call 27; refine (cond2 c _).mono ?_; rw [HK.out]; rintro r w2 ⟨rfl, hb2⟩))
          have hb3 := (hbl.alloc (by have := hbl.size; simp at this; omega) _).trans (hb2.mono (by have := hbl.size; simp at this ⊢; omega))
          go_ret
          exact ⟨ret_int (chkFrom_at c 20 0 1 (by omega) (by omega) (fun j _ h => HO.out j h) HK.out).symm, ((Below.refl _ _).alloc (Nat.le_refl _) _).trans (hb3.mono (by omega))⟩
      | 2, _ =>
        have ix := idx2
        rw [show ((2 : Nat) : Int) = 2 from rfl]
        cases hok : okC c 2 with
        | true =>
          have HK := Lib.hid hok
          clear hok
          go_wp2_with (first | (refine wpList_load_big rfl 24 _ rfl w.heap.size rfl 24 (cfgC c) (0, 0) _ Try.underlying24 rfl size24 (heap_keep hbox _) ?_) | (go_at_call 28; refine (cond3 c _).mono ?_; rw [HK.out]; rintro r w2 ⟨rfl, hb2⟩))
          have hb3 := (hbl.alloc (by have := hbl.size; simp at this; omega) _).trans (hb2.mono (by have := hbl.size; simp at this ⊢; omega))
          go_roundw
          case rel => exact ⟨3, by omega, rfl, fun j hj => by
            by_cases h : j = 2
            · subst h; exact HK.out
            · exact HO.out j (by omega), hb3⟩
          case measure => simp [intOf]
        | false =>
          have HK := Lib.hid hok
          clear hok
          go_wp2_with (first | (refine wpList_load_big rfl 24 _ rfl w.heap.size rfl 24 (cfgC c) (0, 0) _ Try.underlying24 rfl size24 (heap_keep hbox _) ?_) | (go_at_call 28; refine (cond3 c _).mono ?_; rw [HK.out]; rintro r w2 ⟨rfl, hb2⟩))
          have hb3 := (hbl.alloc (by have := hbl.size; simp at this; omega) _).trans (hb2.mono (by have := hbl.size; simp at this ⊢; omega))
          go_ret
          exact ⟨ret_int (chkFrom_at c 20 0 2 (by omega) (by omega) (fun j _ h => HO.out j h) HK.out).symm, ((Below.refl _ _).alloc (Nat.le_refl _) _).trans (hb3.mono (by omega))⟩
      | 3, _ =>
        have ix := idx3
        rw [show ((3 : Nat) : Int) = 3 from rfl]
        cases hok : okC c 3 with
        | true =>
          have HK := Lib.hid hok
          clear hok
          go_wp2_with (first | (refine wpList_load_big rfl 24 _ rfl w.heap.size rfl 24 (cfgC c) (0, 0) _ Try.underlying24 rfl size24 (heap_keep hbox _) ?_) | (go_at_call 29; refine (cond4 c _).mono ?_; rw [HK.out]; rintro r w2 ⟨rfl, hb2⟩))
          have hb3 := (hbl.alloc (by have := hbl.size; simp at this; omega) _).trans (hb2.mono (by have := hbl.size; simp at this ⊢; omega))
          go_roundw
          case rel => exact ⟨4, by omega, rfl, fun j hj => by
            by_cases h : j = 3
            · subst h; exact HK.out
            · exact HO.out j (by omega), hb3⟩
          case measure => simp [intOf]
        | false =>
          have HK := Lib.hid hok
          clear hok
          go_wp2_with (first | (refine wpList_load_big rfl 24 _ rfl w.heap.size rfl 24 (cfgC c) (0, 0) _ Try.underlying24 rfl size24 (heap_keep hbox _) ?_) | (go_at_call 29; refine (cond4 c _).mono ?_; rw [HK.out]; rintro r w2 ⟨rfl, hb2⟩))
          have hb3 := (hbl.alloc (by have := hbl.size; simp at this; omega) _).trans (hb2.mono (by have := hbl.size; simp at this ⊢; omega))
          go_ret
          exact ⟨ret_int (chkFrom_at c 20 0 3 (by omega) (by omega) (fun j _ h => HO.out j h) HK.out).symm, ((Below.refl _ _).alloc (Nat.le_refl _) _).trans (hb3.mono (by omega))⟩
      | 4, _ =>
        have ix := idx4
        rw [show ((4 : Nat) : Int) = 4 from rfl]
        cases hok : okC c 4 with
        | true =>
          have HK := Lib.hid hok
          clear hok
          go_wp2_with (first | (refine wpList_load_big rfl 24 _ rfl w.heap.size rfl 24 (cfgC c) (0, 0) _ Try.underlying24 rfl size24 (heap_keep hbox _) ?_) | (go_at_call 30; refine (cond5 c _).mono ?_; rw [HK.out]; rintro r w2 ⟨rfl, hb2⟩))
          have hb3 := (hbl.alloc (by have := hbl.size; simp at this; omega) _).trans (hb2.mono (by have := hbl.size; simp at this ⊢; omega))
          go_roundw
          case rel => exact ⟨5, by omega, rfl, fun j hj => by
            by_cases h : j = 4
            · subst h; exact HK.out
            · exact HO.out j (by omega), hb3⟩
          case measure => simp [intOf]
        | false =>
          have HK := Lib.hid hok
          clear hok
          go_wp2_with (first | (refine wpList_load_big rfl 24 _ rfl w.heap.size rfl 24 (cfgC c) (0, 0) _ Try.underlying24 rfl size24 (heap_keep hbox _) ?_) | (go_at_call 30; refine (cond5 c _).mono ?_; rw [HK.out]; rintro r w2 ⟨rfl, hb2⟩))
          have hb3 := (hbl.alloc (by have := hbl.size; simp at this; omega) _).trans (hb2.mono (by have := hbl.size; simp at this ⊢; omega))
          go_ret
          exact ⟨ret_int (chkFrom_at c 20 0 4 (by omega) (by omega) (fun j _ h => HO.out j h) HK.out).symm, ((Below.refl _ _).alloc (Nat.le_refl _) _).trans (hb3.mono (by omega))⟩
      | 5, _ =>
        have ix := idx5
        rw [show ((5 : Nat) : Int) = 5 from rfl]
        cases hok : okC c 5 with
        | true =>
          have HK := Lib.hid hok
          clear hok
          go_wp2_with (first | (refine wpList_load_big rfl 24 _ rfl w.heap.size rfl 24 (cfgC c) (0, 0) _ Try.underlying24 rfl size24 (heap_keep hbox _) ?_) | (go_at_call 32; refine (cond6 c _).mono ?_; rw [HK.out]; rintro r w2 ⟨rfl, hb2⟩))
          have hb3 := (hbl.alloc (by have := hbl.size; simp at this; omega) _).trans (hb2.mono (by have := hbl.size; simp at this ⊢; omega))
          go_roundw
          case rel => exact ⟨6, by omega, rfl, fun j hj => by
            by_cases h : j = 5
            · subst h; exact HK.out
            · exact HO.out j (by omega), hb3⟩
          case measure => simp [intOf]
        | false =>
          have HK := Lib.hid hok
          clear hok
          go_wp2_with (first | (refine wpList_load_big rfl 24 _ rfl w.heap.size rfl 24 (cfgC c) (0, 0) _ Try.underlying24 rfl size24 (heap_keep hbox _) ?_) | (go_at_call 32; refine (cond6 c _).mono ?_; rw [HK.out]; rintro r w2 ⟨rfl, hb2⟩))
          have hb3 := (hbl.alloc (by have := hbl.size; simp at this; omega) _).trans (hb2.mono (by have := hbl.size; simp at this ⊢; omega))
          go_ret
          exact ⟨ret_int (chkFrom_at c 20 0 5 (by omega) (by omega) (fun j _ h => HO.out j h) HK.out).symm, ((Below.refl _ _).alloc (Nat.le_refl _) _).trans (hb3.mono (by omega))⟩
      | 6, _ =>
        have ix := idx6
        rw [show ((6 : Nat) : Int) = 6 from rfl]
        cases hok : okC c 6 with
        | true =>
          have HK := Lib.hid hok
          clear hok
          go_wp2_with (first | (refine wpList_load_big rfl 24 _ rfl w.heap.size rfl 24 (cfgC c) (0, 0) _ Try.underlying24 rfl size24 (heap_keep hbox _) ?_) | (go_at_call 33; refine (cond7 c _).mono ?_; rw [HK.out]; rintro r w2 ⟨rfl, hb2⟩))
          have hb3 := (hbl.alloc (by have := hbl.size; simp at this; omega) _).trans (hb2.mono (by have := hbl.size; simp at this ⊢; omega))
          go_roundw
          case rel => exact ⟨7, by omega, rfl, fun j hj => by
            by_cases h : j = 6
            · subst h; exact HK.out
            · exact HO.out j (by omega), hb3⟩
          case measure => simp [intOf]
        | false =>
          have HK := Lib.hid hok
          clear hok
          go_wp2_with (first | (refine wpList_load_big rfl 24 _ rfl w.heap.size rfl 24 (cfgC c) (0, 0) _ Try.underlying24 rfl size24 (heap_keep hbox _) ?_) | (go_at_call 33; refine (cond7 c _).mono ?_; rw [HK.out]; rintro r w2 ⟨rfl, hb2⟩))
          have hb3 := (hbl.alloc (by have := hbl.size; simp at this; omega) _).trans (hb2.mono (by have := hbl.size; simp at this ⊢; omega))
          go_ret
          exact ⟨ret_int (chkFrom_at c 20 0 6 (by omega) (by omega) (fun j _ h => HO.out j h) HK.out).symm, ((Below.refl _ _).alloc (Nat.le_refl _) _).trans (hb3.mono (by omega))⟩
      | 7, _ =>
        have ix := idx7
        rw [show ((7 : Nat) : Int) = 7 from rfl]
        cases hok : okC c 7 with
        | true =>
          have HK := Lib.hid hok
          clear hok
          go_wp2_with (first | (refine wpList_load_big rfl 24 _ rfl w.heap.size rfl 24 (cfgC c) (0, 0) _ Try.underlying24 rfl size24 (heap_keep hbox _) ?_) | (go_at_call 34; refine (cond8 c _).mono ?_; rw [HK.out]; rintro r w2 ⟨rfl, hb2⟩))
          have hb3 := (hbl.alloc (by have := hbl.size; simp at this; omega) _).trans (hb2.mono (by have := hbl.size; simp at this ⊢; omega))
          go_roundw
          case rel => exact ⟨8, by omega, rfl, fun j hj => by
            by_cases h : j = 7
            · subst h; exact HK.out
            · exact HO.out j (by omega), hb3⟩
          case measure => simp [intOf]
        | false =>
          have HK := Lib.hid hok
          clear hok
          go_wp2_with (first | (refine wpList_load_big rfl 24 _ rfl w.heap.size rfl 24 (cfgC c) (0, 0) _ Try.underlying24 rfl size24 (heap_keep hbox _) ?_) | (go_at_call 34; refine (cond8 c _).mono ?_; rw [HK.out]; rintro r w2 ⟨rfl, hb2⟩))
          have hb3 := (hbl.alloc (by have := hbl.size; simp at this; omega) _).trans (hb2.mono (by have := hbl.size; simp at this ⊢; omega))
          go_ret
          exact ⟨ret_int (chkFrom_at c 20 0 7 (by omega) (by omega) (fun j _ h => HO.out j h) HK.out).symm, ((Below.refl _ _).alloc (Nat.le_refl _) _).trans (hb3.mono (by omega))⟩
      | 8, _ =>
        have ix := idx8
        rw [show ((8 : Nat) : Int) = 8 from rfl]
        cases hok : okC c 8 with
        | true =>
          have HK := Lib.hid hok
          clear hok
          go_wp2_with (first | (refine wpList_load_big rfl 24 _ rfl w.heap.size rfl 24 (cfgC c) (0, 0) _ Try.underlying24 rfl size24 (heap_keep hbox _) ?_) | (go_at_call 35; refine (cond9 c _).mono ?_; rw [HK.out]; rintro r w2 ⟨rfl, hb2⟩))
          have hb3 := (hbl.alloc (by have := hbl.size; simp at this; omega) _).trans (hb2.mono (by have := hbl.size; simp at this ⊢; omega))
          go_roundw
          case rel => exact ⟨9, by omega, rfl, fun j hj => by
            by_cases h : j = 8
            · subst h; exact HK.out
            · exact HO.out j (by omega), hb3⟩
          case measure => simp [intOf]
        | false =>
          have HK := Lib.hid hok
          clear hok
          go_wp2_with (first | (refine wpList_load_big rfl 24 _ rfl w.heap.size rfl 24 (cfgC c) (0, 0) _ Try.underlying24 rfl size24 (heap_keep hbox _) ?_) | (go_at_call 35; refine (cond9 c _).mono ?_; rw [HK.out]; rintro r w2 ⟨rfl, hb2⟩))
          have hb3 := (hbl.alloc (by have := hbl.size; simp at this; omega) _).trans (hb2.mono (by have := hbl.size; simp at this ⊢; omega))
          go_ret
          exact ⟨ret_int (chkFrom_at c 20 0 8 (by omega) (by omega) (fun j _ h => HO.out j h) HK.out).symm, ((Below.refl _ _).alloc (Nat.le_refl _) _).trans (hb3.mono (by omega))⟩
      | 9, _ =>
        have ix := idx9
        rw [show ((9 : Nat) : Int) = 9 from rfl]
        cases hok : okC c 9 with
        | true =>
          have HK := Lib.hid hok
          clear hok
          go_wp2_with (first | (refine wpList_load_big rfl 24 _ rfl w.heap.size rfl 24 (cfgC c) (0, 0) _ Try.underlying24 rfl size24 (heap_keep hbox _) ?_) | (go_at_call 36; refine (cond10 c _).mono ?_; rw [HK.out]; rintro r w2 ⟨rfl, hb2⟩))
          have hb3 := (hbl.alloc (by have := hbl.size; simp at this; omega) _).trans (hb2.mono (by have := hbl.size; simp at this ⊢; omega))
          go_roundw
          case rel => exact ⟨10, by omega, rfl, fun j hj => by
            by_cases h : j = 9
            · subst h; exact HK.out
            · exact HO.out j (by omega), hb3⟩
          case measure => simp [intOf]
        | false =>
          have HK := Lib.hid hok
          clear hok
          go_wp2_with (first | (refine wpList_load_big rfl 24 _ rfl w.heap.size rfl 24 (cfgC c) (0, 0) _ Try.underlying24 rfl size24 (heap_keep hbox _) ?_) | (go_at_call 36; refine (cond10 c _).mono ?_; rw [HK.out]; rintro r w2 ⟨rfl, hb2⟩))
          have hb3 := (hbl.alloc (by have := hbl.size; simp at this; omega) _).trans (hb2.mono (by have := hbl.size; simp at this ⊢; omega))
          go_ret
          exact ⟨ret_int (chkFrom_at c 20 0 9 (by omega) (by omega) (fun j _ h => HO.out j h) HK.out).symm, ((Below.refl _ _).alloc (Nat.le_refl _) _).trans (hb3.mono (by omega))⟩
      | 10, _ =>
        have ix := idx10
        rw [show ((10 : Nat) : Int) = 10 from rfl]
        cases hok : okC c 10 with
        | true =>
          have HK := Lib.hid hok
          clear hok
          go_wp2_with (first | (refine wpList_load_big rfl 24 _ rfl w.heap.size rfl 24 (cfgC c) (0, 0) _ Try.underlying24 rfl size24 (heap_keep hbox _) ?_) | (go_at_call 37; refine (cond11 c _).mono ?_; rw [HK.out]; rintro r w2 ⟨rfl, hb2⟩))
          have hb3 := (hbl.alloc (by have := hbl.size; simp at this; omega) _).trans (hb2.mono (by have := hbl.size; simp at this ⊢; omega))
          go_roundw
          case rel => exact ⟨11, by omega, rfl, fun j hj => by
            by_cases h : j = 10
            · subst h; exact HK.out
            · exact HO.out j (by omega), hb3⟩
          case measure => simp [intOf]
        | false =>
          have HK := Lib.hid hok
          clear hok
          go_wp2_with (first | (refine wpList_load_big rfl 24 _ rfl w.heap.size rfl 24 (cfgC c) (0, 0) _ Try.underlying24 rfl size24 (heap_keep hbox _) ?_) | (go_at_call 37; refine (cond11 c _).mono ?_; rw [HK.out]; rintro r w2 ⟨rfl, hb2⟩))
          have hb3 := (hbl.alloc (by have := hbl.size; simp at this; omega) _).trans (hb2.mono (by have := hbl.size; simp at this ⊢; omega))
          go_ret
          exact ⟨ret_int (chkFrom_at c 20 0 10 (by omega) (by omega) (fun j _ h => HO.out j h) HK.out).symm, ((Below.refl _ _).alloc (Nat.le_refl _) _).trans (hb3.mono (by omega))⟩
      | 11, _ =>
        have ix := idx11
        rw [show ((11 : Nat) : Int) = 11 from rfl]
        cases hok : okC c 11 with
        | true =>
          have HK := Lib.hid hok
          clear hok
          go_wp2_with (first | (refine wpList_load_big rfl 24 _ rfl w.heap.size rfl 24 (cfgC c) (0, 0) _ Try.underlying24 rfl size24 (heap_keep hbox _) ?_) | (go_at_call 38; refine (cond12 c _).mono ?_; rw [HK.out]; rintro r w2 ⟨rfl, hb2⟩))
          have hb3 := (hbl.alloc (by have := hbl.size; simp at this; omega) _).trans (hb2.mono (by have := hbl.size; simp at this ⊢; omega))
          go_roundw
          case rel => exact ⟨12, by omega, rfl, fun j hj => by
            by_cases h : j = 11
            · subst h; exact HK.out
            · exact HO.out j (by omega), hb3⟩
          case measure => simp [intOf]
        | false =>
          have HK := Lib.hid hok
          clear hok
          go_wp2_with (first | (refine wpList_load_big rfl 24 _ rfl w.heap.size rfl 24 (cfgC c) (0, 0) _ Try.underlying24 rfl size24 (heap_keep hbox _) ?_) | (go_at_call 38; refine (cond12 c _).mono ?_; rw [HK.out]; rintro r w2 ⟨rfl, hb2⟩))
          have hb3 := (hbl.alloc (by have := hbl.size; simp at this; omega) _).trans (hb2.mono (by have := hbl.size; simp at this ⊢; omega))
          go_ret
          exact ⟨ret_int (chkFrom_at c 20 0 11 (by omega) (by omega) (fun j _ h => HO.out j h) HK.out).symm, ((Below.refl _ _).alloc (Nat.le_refl _) _).trans (hb3.mono (by omega))⟩
      | 12, _ =>
        have ix := idx12
        rw [show ((12 : Nat) : Int) = 12 from rfl]
        cases hok : okC c 12 with
        | true =>
          have HK := Lib.hid hok
          clear hok
          go_wp2_with (first | (refine wpList_load_big rfl 24 _ rfl w.heap.size rfl 24 (cfgC c) (0, 0) _ Try.underlying24 rfl size24 (heap_keep hbox _) ?_) | (go_at_call 39; refine (cond13 c _).mono ?_; rw [HK.out]; rintro r w2 ⟨rfl, hb2⟩))
          have hb3 := (hbl.alloc (by have := hbl.size; simp at this; omega) _).trans (hb2.mono (by have := hbl.size; simp at this ⊢; omega))
          go_roundw
          case rel => exact ⟨13, by omega, rfl, fun j hj => by
            by_cases h : j = 12
            · subst h; exact HK.out
            · exact HO.out j (by omega), hb3⟩
          case measure => simp [intOf]
        | false =>
          have HK := Lib.hid hok
          clear hok
          go_wp2_with (first | (refine wpList_load_big rfl 24 _ rfl w.heap.size rfl 24 (cfgC c) (0, 0) _ Try.underlying24 rfl size24 (heap_keep hbox _) ?_) | (go_at_call 39; refine (cond13 c _).mono ?_; rw [HK.out]; rintro r w2 ⟨rfl, hb2⟩))
          have hb3 := (hbl.alloc (by have := hbl.size; simp at this; omega) _).trans (hb2.mono (by have := hbl.size; simp at this ⊢; omega))
          go_ret
          exact ⟨ret_int (chkFrom_at c 20 0 12 (by omega) (by omega) (fun j _ h => HO.out j h) HK.out).symm, ((Below.refl _ _).alloc (Nat.le_refl _) _).trans (hb3.mono (by omega))⟩
      | 13, _ =>
        have ix := idx13
        rw [show ((13 : Nat) : Int) = 13 from rfl]
        cases hok : okC c 13 with
        | true =>
          have HK := Lib.hid hok
          clear hok
          go_wp2_with (first | (refine wpList_load_big rfl 24 _ rfl w.heap.size rfl 24 (cfgC c) (0, 0) _ Try.underlying24 rfl size24 (heap_keep hbox _) ?_) | (go_at_call 40; refine (cond14 c _).mono ?_; rw [HK.out]; rintro r w2 ⟨rfl, hb2⟩))
          have hb3 := (hbl.alloc (by have := hbl.size; simp at this; omega) _).trans (hb2.mono (by have := hbl.size; simp at this ⊢; omega))
          go_roundw
          case rel => exact ⟨14, by omega, rfl, fun j hj => by
            by_cases h : j = 13
            · subst h; exact HK.out
            · exact HO.out j (by omega), hb3⟩
          case measure => simp [intOf]
        | false =>
          have HK := Lib.hid hok
          clear hok
          go_wp2_with (first | (refine wpList_load_big rfl 24 _ rfl w.heap.size rfl 24 (cfgC c) (0, 0) _ Try.underlying24 rfl size24 (heap_keep hbox _) ?_) | (go_at_call 40; refine (cond14 c _).mono ?_; rw [HK.out]; rintro r w2 ⟨rfl, hb2⟩))
          have hb3 := (hbl.alloc (by have := hbl.size; simp at this; omega) _).trans (hb2.mono (by have := hbl.size; simp at this ⊢; omega))
          go_ret
          exact ⟨ret_int (chkFrom_at c 20 0 13 (by omega) (by omega) (fun j _ h => HO.out j h) HK.out).symm, ((Below.refl _ _).alloc (Nat.le_refl _) _).trans (hb3.mono (by omega))⟩
      | 14, _ =>
        have ix := idx14
        rw [show ((14 : Nat) : Int) = 14 from rfl]
        cases hok : okC c 14 with
        | true =>
          have HK := Lib.hid hok
          clear hok
          go_wp2_with (first | (refine wpList_load_big rfl 24 _ rfl w.heap.size rfl 24 (cfgC c) (0, 0) _ Try.underlying24 rfl size24 (heap_keep hbox _) ?_) | (go_at_call 41; refine (cond15 c _).mono ?_; rw [HK.out]; rintro r w2 ⟨rfl, hb2⟩))
          have hb3 := (hbl.alloc (by have := hbl.size; simp at this; omega) _).trans (hb2.mono (by have := hbl.size; simp at this ⊢; omega))
          go_roundw
          case rel => exact ⟨15, by omega, rfl, fun j hj => by
            by_cases h : j = 14
            · subst h; exact HK.out
            · exact HO.out j (by omega), hb3⟩
          case measure => simp [intOf]
        | false =>
          have HK := Lib.hid hok
          clear hok
          go_wp2_with (first | (refine wpList_load_big rfl 24 _ rfl w.heap.size rfl 24 (cfgC c) (0, 0) _ Try.underlying24 rfl size24 (heap_keep hbox _) ?_) | (go_at_call 41; refine (cond15 c _).mono ?_; rw [HK.out]; rintro r w2 ⟨rfl, hb2⟩))
          have hb3 := (hbl.alloc (by have := hbl.size; simp at this; omega) _).trans (hb2.mono (by have := hbl.size; simp at this ⊢; omega))
          go_ret
          exact ⟨ret_int (chkFrom_at c 20 0 14 (by omega) (by omega) (fun j _ h => HO.out j h) HK.out).symm, ((Below.refl _ _).alloc (Nat.le_refl _) _).trans (hb3.mono (by omega))⟩
      | 15, _ =>
        have ix := idx15
        rw [show ((15 : Nat) : Int) = 15 from rfl]
        cases hok : okC c 15 with
        | true =>
          have HK := Lib.hid hok
          clear hok
          go_wp2_with (first | (refine wpList_load_big rfl 24 _ rfl w.heap.size rfl 24 (cfgC c) (0, 0) _ Try.underlying24 rfl size24 (heap_keep hbox _) ?_) | (go_at_call 42; refine (cond16 c _).mono ?_; rw [HK.out]; rintro r w2 ⟨rfl, hb2⟩))
          have hb3 := (hbl.alloc (by have := hbl.size; simp at this; omega) _).trans (hb2.mono (by have := hbl.size; simp at this ⊢; omega))
          go_roundw
          case rel => exact ⟨16, by omega, rfl, fun j hj => by
            by_cases h : j = 15
            · subst h; exact HK.out
            · exact HO.out j (by omega), hb3⟩
          case measure => simp [intOf]
        | false =>
          have HK := Lib.hid hok
          clear hok
          go_wp2_with (first | (refine wpList_load_big rfl 24 _ rfl w.heap.size rfl 24 (cfgC c) (0, 0) _ Try.underlying24 rfl size24 (heap_keep hbox _) ?_) | (go_at_call 42; refine (cond16 c _).mono ?_; rw [HK.out]; rintro r w2 ⟨rfl, hb2⟩))
          have hb3 := (hbl.alloc (by have := hbl.size; simp at this; omega) _).trans (hb2.mono (by have := hbl.size; simp at this ⊢; omega))
          go_ret
          exact ⟨ret_int (chkFrom_at c 20 0 15 (by omega) (by omega) (fun j _ h => HO.out j h) HK.out).symm, ((Below.refl _ _).alloc (Nat.le_refl _) _).trans (hb3.mono (by omega))⟩
      | 16, _ =>
        have ix := idx16
        rw [show ((16 : Nat) : Int) = 16 from rfl]
        cases hok : okC c 16 with
        | true =>
          have HK := Lib.hid hok
          clear hok
          go_wp2_with (first | (refine wpList_load_big rfl 24 _ rfl w.heap.size rfl 24 (cfgC c) (0, 0) _ Try.underlying24 rfl size24 (heap_keep hbox _) ?_) | (go_at_call 43; refine (cond17 c _).mono ?_; rw [HK.out]; rintro r w2 ⟨rfl, hb2⟩))
          have hb3 := (hbl.alloc (by have := hbl.size; simp at this; omega) _).trans (hb2.mono (by have := hbl.size; simp at this ⊢; omega))
          go_roundw
          case rel => exact ⟨17, by omega, rfl, fun j hj => by
            by_cases h : j = 16
            · subst h; exact HK.out
            · exact HO.out j (by omega), hb3⟩
          case measure => simp [intOf]
        | false =>
          have HK := Lib.hid hok
          clear hok
          go_wp2_with (first | (refine wpList_load_big rfl 24 _ rfl w.heap.size rfl 24 (cfgC c) (0, 0) _ Try.underlying24 rfl size24 (heap_keep hbox _) ?_) | (go_at_call 43; refine (cond17 c _).mono ?_; rw [HK.out]; rintro r w2 ⟨rfl, hb2⟩))
          have hb3 := (hbl.alloc (by have := hbl.size; simp at this; omega) _).trans (hb2.mono (by have := hbl.size; simp at this ⊢; omega))
          go_ret
          exact ⟨ret_int (chkFrom_at c 20 0 16 (by omega) (by omega) (fun j _ h => HO.out j h) HK.out).symm, ((Below.refl _ _).alloc (Nat.le_refl _) _).trans (hb3.mono (by omega))⟩
      | 17, _ =>
        have ix := idx17
        rw [show ((17 : Nat) : Int) = 17 from rfl]
        cases hok : okC c 17 with
        | true =>
          have HK := Lib.hid hok
          clear hok
          go_wp2_with (first | (refine wpList_load_big rfl 24 _ rfl w.heap.size rfl 24 (cfgC c) (0, 0) _ Try.underlying24 rfl size24 (heap_keep hbox _) ?_) | (go_at_call 44; refine (cond18 c _).mono ?_; rw [HK.out]; rintro r w2 ⟨rfl, hb2⟩))
          have hb3 := (hbl.alloc (by have := hbl.size; simp at this; omega) _).trans (hb2.mono (by have := hbl.size; simp at this ⊢; omega))
          go_roundw
          case rel => exact ⟨18, by omega, rfl, fun j hj => by
            by_cases h : j = 17
            · subst h; exact HK.out
            · exact HO.out j (by omega), hb3⟩
          case measure => simp [intOf]
        | false =>
          have HK := Lib.hid hok
          clear hok
          go_wp2_with (first | (refine wpList_load_big rfl 24 _ rfl w.heap.size rfl 24 (cfgC c) (0, 0) _ Try.underlying24 rfl size24 (heap_keep hbox _) ?_) | (go_at_call 44; refine (cond18 c _).mono ?_; rw [HK.out]; rintro r w2 ⟨rfl, hb2⟩))
          have hb3 := (hbl.alloc (by have := hbl.size; simp at this; omega) _).trans (hb2.mono (by have := hbl.size; simp at this ⊢; omega))
          go_ret
          exact ⟨ret_int (chkFrom_at c 20 0 17 (by omega) (by omega) (fun j _ h => HO.out j h) HK.out).symm, ((Below.refl _ _).alloc (Nat.le_refl _) _).trans (hb3.mono (by omega))⟩
      | 18, _ =>
        have ix := idx18
        rw [show ((18 : Nat) : Int) = 18 from rfl]
        cases hok : okC c 18 with
        | true =>
          have HK := Lib.hid hok
          clear hok
          go_wp2_with (first | (refine wpList_load_big rfl 24 _ rfl w.heap.size rfl 24 (cfgC c) (0, 0) _ Try.underlying24 rfl size24 (heap_keep hbox _) ?_) | (go_at_call 45; refine (cond19 c _).mono ?_; rw [HK.out]; rintro r w2 ⟨rfl, hb2⟩))
          have hb3 := (hbl.alloc (by have := hbl.size; simp at this; omega) _).trans (hb2.mono (by have := hbl.size; simp at this ⊢; omega))
          go_roundw
          case rel => exact ⟨19, by omega, rfl, fun j hj => by
            by_cases h : j = 18
            · subst h; exact HK.out
            · exact HO.out j (by omega), hb3⟩
          case measure => simp [intOf]
        | false =>
          have HK := Lib.hid hok
          clear hok
          go_wp2_with (first | (refine wpList_load_big rfl 24 _ rfl w.heap.size rfl 24 (cfgC c) (0, 0) _ Try.underlying24 rfl size24 (heap_keep hbox _) ?_) | (go_at_call 45; refine (cond19 c _).mono ?_; rw [HK.out]; rintro r w2 ⟨rfl, hb2⟩))
          have hb3 := (hbl.alloc (by have := hbl.size; simp at this; omega) _).trans (hb2.mono (by have := hbl.size; simp at this ⊢; omega))
          go_ret
          exact ⟨ret_int (chkFrom_at c 20 0 18 (by omega) (by omega) (fun j _ h => HO.out j h) HK.out).symm, ((Below.refl _ _).alloc (Nat.le_refl _) _).trans (hb3.mono (by omega))⟩
      | 19, _ =>
        have ix := idx19
        rw [show ((19 : Nat) : Int) = 19 from rfl]
        cases hok : okC c 19 with
        | true =>
          have HK := Lib.hid hok
          clear hok
          go_wp2_with (first | (refine wpList_load_big rfl 24 _ rfl w.heap.size rfl 24 (cfgC c) (0, 0) _ Try.underlying24 rfl size24 (heap_keep hbox _) ?_) | (go_at_call 46; refine (cond20 c _).mono ?_; rw [HK.out]; rintro r w2 ⟨rfl, hb2⟩))
          have hb3 := (hbl.alloc (by have := hbl.size; simp at this; omega) _).trans (hb2.mono (by have := hbl.size; simp at this ⊢; omega))
          go_roundw
          case rel => exact ⟨20, by omega, rfl, fun j hj => by
            by_cases h : j = 19
            · subst h; exact HK.out
            · exact HO.out j (by omega), hb3⟩
          case measure => simp [intOf]
        | false =>
          have HK := Lib.hid hok
          clear hok
          go_wp2_with (first | (refine wpList_load_big rfl 24 _ rfl w.heap.size rfl 24 (cfgC c) (0, 0) _ Try.underlying24 rfl size24 (heap_keep hbox _) ?_) | (go_at_call 46; refine (cond20 c _).mono ?_; rw [HK.out]; rintro r w2 ⟨rfl, hb2⟩))
          have hb3 := (hbl.alloc (by have := hbl.size; simp at this; omega) _).trans (hb2.mono (by have := hbl.size; simp at this ⊢; omega))
          go_ret
          exact ⟨ret_int (chkFrom_at c 20 0 19 (by omega) (by omega) (fun j _ h => HO.out j h) HK.out).symm, ((Below.refl _ _).alloc (Nat.le_refl _) _).trans (hb3.mono (by omega))⟩
      | k + 20, h => omega
    · have hk20 : k = 20 := by omega
      subst hk20
      go_wp2
      go_ret
      exact ⟨ret_int (chkFrom_all c 20 0 (fun j _ h => HO.out j (by omega))).symm, ((Below.refl _ _).alloc (Nat.le_refl _) _).trans (hbl.mono (by omega))⟩
end Go.Proofs.Ytgpglfkdpalmcaa
