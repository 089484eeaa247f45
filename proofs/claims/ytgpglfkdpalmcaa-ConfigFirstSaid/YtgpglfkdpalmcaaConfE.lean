/- SweepBlocks; the reference's Check, Default, Blocks; the example of the chapter. -/
import Derived.Test.YtgpglfkdpalmcaaConfC
import Derived.Test.YtgpglfkdpalmcaaConfD
import Derived.Test.YtgpglfkdpalmcaaQuiet
namespace Go.Proofs.Ytgpglfkdpalmcaa
open Go.RowKit Go.Eg
theorem box_next {w w' : World} {B : Nat} {o : Obj} (h : w.heap[B]? = some o) (hb : Below w.heap.size w w') : w'.heap[B]? = some o := (hb.block B (heap_lt h)).trans h
/-- the conditions of a valid configuration, in numbers -/
structure Vld (c : Nat → Int) : Prop where
  c0 : 1 ≤ c 0 ∧ c 0 ≤ 4096
  c1 : 1 ≤ c 1 ∧ c 1 ≤ 4096
  c2 : 0 < c 2
  c3 : c 2 ≤ c 3
  c4 : c 3 ≤ c 4 ∧ c 4 ≤ 1152921504606846976
  c5 : 1 ≤ c 5 ∧ c 5 ≤ c 2
  c6 : c 3 ≤ c 6 ∧ c 6 ≤ c 4
  c7 : 1 ≤ c 7 ∧ c 7 ≤ 1152921504606846976
  c8 : 0 < c 8
  c9 : c 9 ≤ 1152921504606846976
  c10 : 1 ≤ c 10 ∧ c 10 ≤ 1048576
  c11 : c 10 < c 11 ∧ c 11 ≤ 1048576
  c12 : 1 ≤ c 12 ∧ c 12 ≤ 4096
  c13 : 1 ≤ c 13 ∧ c 13 ≤ 4096
  c14 : 1 ≤ c 14 ∧ c 14 ≤ 4096
  c15 : 1 ≤ c 15 ∧ c 15 ≤ 4096
  c16 : 0 ≤ c 16 ∧ c 16 < c 14 ∧ c 16 < c 15
  c17 : 0 ≤ c 17 ∧ c 17 ≤ 4096
  c18 : c 18 ≤ c 19
  c19 : 1 ≤ c 19 ∧ c 19 ≤ 4294967296
theorem chkFrom_zero (c : Nat → Int) : ∀ (n k : Nat), chkFrom c k n = 0 → ∀ j, k ≤ j → j < k + n → okC c j = true
  | 0, k, _, j, h1, h2 => by omega
  | n + 1, k, h, j, h1, h2 => by
    rw [chkFrom] at h
    by_cases hk : okC c k = true
    · rw [if_pos hk] at h
      by_cases hj : j = k
      · subst hj; exact hk
      · exact chkFrom_zero c n (k + 1) h j (by omega) (by omega)
    · rw [if_neg hk] at h; omega
theorem wrap64_small {x : Int} (h : -9223372036854775808 ≤ x) (h2 : x ≤ 9223372036854775807) : wrap64 x = x := IntWalk.wrap64_in x ⟨h, h2⟩
theorem vld_of {c : Nat → Int} (h : chk c = 0) : Vld c := by
  have ok := fun j (hj : j < 20) => chkFrom_zero c 20 0 h j (Nat.zero_le _) (by omega)
  have h0 := ok 0 (by omega); have h1 := ok 1 (by omega); have h2 := ok 2 (by omega); have h3 := ok 3 (by omega); have h4 := ok 4 (by omega)
  have h5 := ok 5 (by omega); have h6 := ok 6 (by omega); have h7 := ok 7 (by omega); have h8 := ok 8 (by omega); have h9 := ok 9 (by omega)
  have h10 := ok 10 (by omega); have h11 := ok 11 (by omega); have h12 := ok 12 (by omega); have h13 := ok 13 (by omega); have h14 := ok 14 (by omega)
  have h15 := ok 15 (by omega); have h16 := ok 16 (by omega); have h17 := ok 17 (by omega); have h18 := ok 18 (by omega); have h19 := ok 19 (by omega)
  simp only [okC, Bool.and_eq_true, decide_eq_true_eq] at h0 h1 h2 h3 h4 h5 h6 h7 h8 h9 h10 h11 h12 h13 h14 h15 h16 h17 h18 h19
  rw [wrap64_small (by omega) (by omega)] at h11
  rw [wrap64_small (by split <;> omega) (by split <;> omega)] at h16
  refine ⟨h0, h1, h2, h3, h4, h5, h6, h7, h8, h9, h10, by omega, h12, h13, h14, h15, ?_, h17, h18, h19⟩
  split at h16 <;> omega
def minI (x y : Int) : Int := if y < x then y else x
theorem blocks_any (c : Nat → Int) (w : World) (hv : Vld c) : Calls Try.prog 18 #[cfgV c] w fun r w' => r = .returned (.int .i64 ((c 0 - 1) / minI (c 14 - c 16) (c 15 - c 16) + 1)) ∧ Below w.heap.size w w' := by
  obtain ⟨a0, a1⟩ := hv.c0; obtain ⟨b0, b1⟩ := hv.c14; obtain ⟨d0, d1⟩ := hv.c15; obtain ⟨e0, e1, e2⟩ := hv.c16
  have m1 : 1 ≤ minI (c 14 - c 16) (c 15 - c 16) ∧ minI (c 14 - c 16) (c 15 - c 16) ≤ 4096 := by unfold minI; split <;> omega
  obtain ⟨m0, m1⟩ := m1
  have X1 : Hid (wrap64 (c 14 - c 16) = c 14 - c 16) := Lib.hid (wrap64_small (by omega) (by omega))
  have X2 : Hid (wrap64 (c 15 - c 16) = c 15 - c 16) := Lib.hid (wrap64_small (by omega) (by omega))
  generalize hm : minI (c 14 - c 16) (c 15 - c 16) = m at *
  have HM := Lib.hid hm
  clear hm
  have q0 : 0 ≤ (c 0 - 1) / m := Int.ediv_nonneg (by omega) (by omega)
  have q1 : (c 0 - 1) / m ≤ c 0 - 1 := Int.ediv_le_self _ (by omega)
  go_enter Try.func18, Try.ntmps18
  go_wp2_with fail
  have hC0 : Alow (w.heap.size + 1) (w.alloc (.cells (cfgC c) 24)) (w.alloc (.cells (cfgC c) 24)).drew := ⟨(Below.refl _ _).drew, by simp⟩
  refine wp_region_quiet (by kernel_rfl) (by kernel_rfl) hC0 ?_
  refine wpQuiet_load_big rfl 24 _ rfl w.heap.size rfl 24 (cfgC c) (0, 0) _ Try.underlying24 rfl size24 (fun wx hC => (hC.block (by omega)).trans (heap_alloc_last w _)) ?_
  refine wpQuiet_enter rfl (fun wx hC => by go_simp) (fun wx hC => hC.call (visits_any c _)) ?_
  refine wpQuiet_load_big rfl 24 _ rfl w.heap.size rfl 24 (cfgC c) (0, 0) _ Try.underlying24 rfl size24 (fun wx hC => (hC.block (by omega)).trans (heap_alloc_last w _)) ?_
  refine wpQuiet_enter rfl (fun wx hC => by go_simp) (fun wx hC => hC.call (payments_any c _)) ?_
  rw [X1.out, X2.out]
  refine wpQuiet_val (v := .int .i64 m) rfl (fun wx hC => by rw [← HM.out]; unfold minI; split <;> go_simp) ?_
  go_frame
  refine wpQuiet_val (v := .int .i64 m) rfl (fun wx hC => by go_simp) ?_
  refine wpQuiet_nil ?_
  intro w2 hC
  have hx := hC.cell (p := ⟨w.heap.size, 0, none⟩) (by simp)
  have hx0 : w2.cell? ⟨w.heap.size, 0, none⟩ = some (.int .i64 (c 0)) := by rw [hx]; simp [go_sem]
  have hb := hC.1
  clear hC hC0 hx
  go_frame
  go_wp2
  go_ret
  exact ⟨rfl, ((Below.refl _ _).alloc (Nat.le_refl _) _).trans (hb.mono (by omega))⟩
/-- the reference's check -/
def refFrom (c : Nat → Int) : Nat → Nat → Int
  | _, 0 => 0
  | k, n + 1 => if okR c k = true then refFrom c (k + 1) n else k + 1
theorem refFrom_at (c : Nat → Int) : ∀ (n k m : Nat), k ≤ m → m < k + n → (∀ j, k ≤ j → j < m → okR c j = true) → okR c m = false → refFrom c k n = m + 1
  | 0, k, m, h1, h2, _, _ => by omega
  | n + 1, k, m, h1, h2, h3, h4 => by
    rw [refFrom]
    by_cases hk : k = m
    · subst hk; rw [if_neg (by rw [h4]; simp)]
    · rw [if_pos (h3 k (Nat.le_refl _) (by omega))]
      exact refFrom_at c n (k + 1) m (by omega) (by omega) (fun j a b => h3 j (by omega) b) h4
theorem refFrom_all (c : Nat → Int) : ∀ (n k : Nat), (∀ j, k ≤ j → j < k + n → okR c j = true) → refFrom c k n = 0
  | 0, _, _ => rfl
  | n + 1, k, h => by
    rw [refFrom, if_pos (h k (Nat.le_refl _) (by omega))]
    exact refFrom_all c n (k + 1) (fun j a b => h j (by omega) (by omega))
/-- the program's conditions and the reference's agree where those ahead of them hold -/
theorem ok_same (c : Nat → Int) (k : Nat) (hk : k < 20) (h : ∀ j, j < k → okC c j = true) : okC c k = okR c k := by
  by_cases h11 : k = 11
  · subst h11
    have h10 := h 10 (by omega)
    simp only [okC, Bool.and_eq_true, decide_eq_true_eq] at h10
    simp only [okC, okR]
    rw [wrap64_small (by omega) (by omega), Bool.eq_iff_iff]
    simp
    omega
  by_cases h16 : k = 16
  · subst h16
    have h14 := h 14 (by omega)
    have h15 := h 15 (by omega)
    simp only [okC, Bool.and_eq_true, decide_eq_true_eq] at h14 h15
    simp only [okC, okR]
    rw [wrap64_small (by split <;> omega) (by split <;> omega), Bool.eq_iff_iff]
    simp
    split <;> omega
  match k, hk with
  | 0, _ => rfl
  | 1, _ => rfl
  | 2, _ => rfl
  | 3, _ => rfl
  | 4, _ => rfl
  | 5, _ => rfl
  | 6, _ => rfl
  | 7, _ => rfl
  | 8, _ => rfl
  | 9, _ => rfl
  | 10, _ => rfl
  | 12, _ => rfl
  | 13, _ => rfl
  | 14, _ => rfl
  | 15, _ => rfl
  | 17, _ => rfl
  | 18, _ => rfl
  | 19, _ => rfl
  | k + 20, hk => exact absurd hk (by omega)
theorem ref_same (c : Nat → Int) : ∀ (n k : Nat), k + n = 20 → (∀ j, j < k → okC c j = true) → refFrom c k n = chkFrom c k n
  | 0, _, _, _ => rfl
  | n + 1, k, hn, h => by
    rw [refFrom, chkFrom, ok_same c k (by omega) h]
    by_cases hk : okR c k = true
    · rw [if_pos hk, if_pos hk]
      refine ref_same c n (k + 1) (by omega) fun j hj => ?_
      by_cases hjk : j = k
      · subst hjk; rw [ok_same c j (by omega) h]; exact hk
      · exact h j (by omega)
    · rw [if_neg hk, if_neg hk]
theorem right_any (c : Nat → Int) (i : Int) (h1 : 1 ≤ i) (h2 : i ≤ 20) (w : World) :
    Calls Try.prog 22 #[cfgV c, .int .i64 i] w fun r w' => r = .returned (.bool (okR c (i - 1).toNat)) ∧ Below w.heap.size w w' := by
  obtain ⟨k, rfl⟩ : ∃ k : Nat, i = (k : Int) + 1 := ⟨(i - 1).toNat, by omega⟩
  have e : ((k : Int) + 1 - 1).toNat = k := by omega
  rw [e]
  have hk : k < 20 := by omega
  match k, hk with
  | 0, _ => exact right1 c w
  | 1, _ => exact right2 c w
  | 2, _ => exact right3 c w
  | 3, _ => exact right4 c w
  | 4, _ => exact right5 c w
  | 5, _ => exact right6 c w
  | 6, _ => exact right7 c w
  | 7, _ => exact right8 c w
  | 8, _ => exact right9 c w
  | 9, _ => exact right10 c w
  | 10, _ => exact right11 c w
  | 11, _ => exact right12 c w
  | 12, _ => exact right13 c w
  | 13, _ => exact right14 c w
  | 14, _ => exact right15 c w
  | 15, _ => exact right16 c w
  | 16, _ => exact right17 c w
  | 17, _ => exact right18 c w
  | 18, _ => exact right19 c w
  | 19, _ => exact right20 c w
theorem refCheck_any (c : Nat → Int) (w : World) :
    Calls Try.prog 9 #[cfgV c] w fun r w' => r = .returned (.int .i64 (chk c)) ∧ Below w.heap.size w w' := by
  have HS : Hid (refFrom c 0 20 = chk c) := Lib.hid (ref_same c 20 0 (by omega) (fun j hj => by omega))
  go_enter Try.func9, Try.ntmps9
  go_wp2
  go_loopw [3] (fun i wr => ∃ k : Nat, k ≤ 20 ∧ i = .int .i64 ((k : Int) + 1) ∧ (∀ j, j < k → okR c j = true) ∧ Below (w.heap.size + 1) (w.alloc (.cells (cfgC c) 24)) wr) (fun i _ => 21 - (intOf i).toNat)
  case atStart => exact ⟨0, Nat.zero_le _, rfl, fun j hj => by omega, Below.refl _ _⟩
  case round =>
    obtain ⟨k, hk, rfl, hok, hbl⟩ := hrel
    have HO := Lib.hid hok
    have hbox : wr.heap[w.heap.size]? = some (.cells (cfgC c) 24 (0, 0)) := (hbl.block w.heap.size (by omega)).trans (heap_alloc_last w _)
    clear hok
    by_cases hlt : k < 20
    · go_wp2_with (refine wpList_load_big rfl 24 _ rfl w.heap.size rfl 24 (cfgC c) (0, 0) _ Try.underlying24 rfl size24 hbox ?_)
      refine (right_any c _ (by omega) (by omega) _).mono ?_
      have e : ((k : Int) + 1 - 1).toNat = k := by omega
      rw [e]
      clear e
      rintro r w2 ⟨rfl, hb2⟩
      have hb3 := hbl.trans (hb2.mono (by have := hbl.size; simp at this; omega))
      clear hb2 hbl hbox
      cases hok : okR c k with
      | true =>
        have HK := Lib.hid hok
        clear hok
        go_wp2
        go_roundw
        case rel => exact ⟨k + 1, by omega, by go_num, fun j hj => by
          by_cases h : j = k
          · subst h; exact HK.out
          · exact HO.out j (by omega), hb3⟩
        case measure => simp [intOf]; omega
      | false =>
        have HK := Lib.hid hok
        clear hok
        go_wp2
        go_ret
        exact ⟨ret_int (by rw [← HS.out, refFrom_at c 20 0 k (by omega) (by omega) (fun j _ h => HO.out j h) HK.out]), ((Below.refl _ _).alloc (Nat.le_refl _) _).trans (hb3.mono (by omega))⟩
    · have hk20 : k = 20 := by omega
      subst hk20
      go_wp2
      go_ret
      exact ⟨ret_int (by rw [← HS.out, refFrom_all c 20 0 (fun j _ h => HO.out j (by omega))]), ((Below.refl _ _).alloc (Nat.le_refl _) _).trans (hbl.mono (by omega))⟩
theorem refDefault_any (w : World) :
    Calls Try.prog 14 #[] w fun r w' => r = .returned (.agg dfltCells) ∧ Below w.heap.size w w' := by
  go_enter Try.func14, Try.ntmps14
  go_wp2_with (first | (refine wpList_build_big rfl 24 _ dfltCells rfl (by kernel_rfl) ?_) | (refine wpList_store_new (t := 24) (old := zeroCells) (cs := dfltCells) rfl 24 _ _ rfl rfl rfl size24 rfl rfl ?_))
  exact bodyPost_ret (v := .agg dfltCells) (results_cell_row (p := 0) Try.results14 _ _ w.heap.size _ _ _ _ rfl (heap_alloc_last w _) Try.underlying24 rfl size24) rfl ⟨rfl, (Below.refl _ _).alloc (Nat.le_refl _) _⟩
theorem refBlocks_any (c : Nat → Int) (w : World) (hv : Vld c) : Calls Try.prog 19 #[cfgV c] w fun r w' => r = .returned (.int .i64 ((c 0 - 1) / minI (c 14 - c 16) (c 15 - c 16) + 1)) ∧ Below w.heap.size w w' := by
  obtain ⟨a0, a1⟩ := hv.c0; obtain ⟨b0, b1⟩ := hv.c14; obtain ⟨d0, d1⟩ := hv.c15; obtain ⟨e0, e1, e2⟩ := hv.c16
  have m1 : 1 ≤ minI (c 14 - c 16) (c 15 - c 16) ∧ minI (c 14 - c 16) (c 15 - c 16) ≤ 4096 := by unfold minI; split <;> omega
  obtain ⟨m0, m1⟩ := m1
  have HX : Hid ((c 0 + minI (c 14 - c 16) (c 15 - c 16) - 1) / minI (c 14 - c 16) (c 15 - c 16) = (c 0 - 1) / minI (c 14 - c 16) (c 15 - c 16) + 1) := Lib.hid (by
    rw [show c 0 + minI (c 14 - c 16) (c 15 - c 16) - 1 = (c 0 - 1) + minI (c 14 - c 16) (c 15 - c 16) from by omega, Int.add_ediv_of_dvd_right (Int.dvd_refl _), Int.ediv_self (by omega)])
  have HM : (c 15 < c 14 ∧ minI (c 14 - c 16) (c 15 - c 16) = c 15 - c 16) ∨ (¬ c 15 < c 14 ∧ minI (c 14 - c 16) (c 15 - c 16) = c 14 - c 16) := by unfold minI; split <;> omega
  rcases HM with ⟨h, hm⟩ | ⟨h, hm⟩
  all_goals
    rw [hm] at m0 m1 HX ⊢
    clear hm
    go_enter Try.func19, Try.ntmps19
    go_wp2
    go_ret
    exact ⟨ret_int (by rw [← HX.out]), (Below.refl _ _).alloc (Nat.le_refl _) _⟩
def zeroF (_ : Nat) : Int := 0
theorem chk_zero : chk zeroF = 1 := by decide +kernel
theorem chk_dflt : chk dflt = 0 := by decide +kernel
theorem vld_dflt : Vld dflt := vld_of chk_dflt
set_option maxHeartbeats 800000 in
theorem alive_any (w : World) : Calls Try.prog 10 #[] w fun r w' => r = .returned (.bool true) ∧ Below w.heap.size w w' := by
  have v1 : wrap64 (dflt 14 - dflt 16) = 4 := by decide +kernel
  have v2 : wrap64 (dflt 15 - dflt 16) = 2 := by decide +kernel
  have v3 : (dflt 0 - 1) / minI (dflt 14 - dflt 16) (dflt 15 - dflt 16) + 1 = 8 := by decide +kernel
  have V1 := Lib.hid v1; have V2 := Lib.hid v2; have V3 := Lib.hid v3
  clear v1 v2 v3
  go_enter Try.func10, Try.ntmps10
  go_wp2_with fail
  refine (default_any _).mono ?_
  rintro r w1 ⟨rfl, hb⟩
  have hx : (w1.alloc (.cells dfltCells 24)).heap[w1.heap.size]? = some (.cells dfltCells 24 (0, 0)) := heap_alloc_last _ _
  have hb : Below w.heap.size w (w1.alloc (.cells dfltCells 24)) := hb.alloc hb.size _
  go_wp2_with (first | (refine wpList_store_new (t := 24) (old := zeroCells) (cs := dfltCells) rfl 24 _ _ rfl rfl rfl size24 rfl rfl ?_) | (refine wpList_load_big rfl 24 _ rfl w1.heap.size rfl 24 dfltCells (0, 0) _ Try.underlying24 rfl size24 hx ?_))
  refine (visits_any dflt _).mono ?_
  rw [V1.out]
  rintro r w2 ⟨rfl, hb2⟩
  have hx := box_next hx hb2
  have hb := hb.trans (hb2.mono hb.size)
  clear hb2
  go_wp2_with (refine wpList_load_big rfl 24 _ rfl w1.heap.size rfl 24 dfltCells (0, 0) _ Try.underlying24 rfl size24 hx ?_)
  refine (payments_any dflt _).mono ?_
  rw [V2.out]
  rintro r w3 ⟨rfl, hb2⟩
  have hx := box_next hx hb2
  have hb := hb.trans (hb2.mono hb.size)
  clear hb2
  go_wp2_with (refine wpList_load_big rfl 24 _ rfl w1.heap.size rfl 24 dfltCells (0, 0) _ Try.underlying24 rfl size24 hx ?_)
  refine (blocks_any dflt _ vld_dflt).mono ?_
  rw [V3.out]
  rintro r w4 ⟨rfl, hb2⟩
  have hx := box_next hx hb2
  have hb := hb.trans (hb2.mono hb.size)
  clear hb2
  go_wp2_with (refine wpList_load_big rfl 24 _ rfl w1.heap.size rfl 24 dfltCells (0, 0) _ Try.underlying24 rfl size24 hx ?_)
  refine (valid_any dflt _ _ (check_any dflt)).mono ?_
  rw [chk_dflt]
  rintro r w5 ⟨rfl, hb2⟩
  have hb := hb.trans (hb2.mono hb.size)
  clear hb2 hx
  go_wp2_with (refine wpList_build_big rfl 24 _ zeroCells rfl (by kernel_rfl) ?_)
  refine (check_any zeroF _).mono ?_
  rw [chk_zero]
  rintro r w6 ⟨rfl, hb2⟩
  have hb := hb.trans (hb2.mono hb.size)
  clear hb2
  go_wp2
  go_ret
  exact ⟨rfl, hb⟩
end Go.Proofs.Ytgpglfkdpalmcaa
