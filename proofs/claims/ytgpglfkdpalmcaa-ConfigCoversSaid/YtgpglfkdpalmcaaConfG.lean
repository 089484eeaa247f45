/- The walks of ConfigSweeps and ConfigCovers. -/
import Derived.Test.YtgpglfkdpalmcaaConfF
namespace Go.Proofs.Ytgpglfkdpalmcaa
open Go.RowKit Go.Eg
set_option maxHeartbeats 800000 in
theorem configSweeps_walk (c : Nat → Int) (w : World) (_w0 : ∀ (i : Nat) (k : IntKind), cfgKinds[i]? = some k → (Lit.int k (c i)).wf = true) :
    Calls Try.prog 5 #[cfgV c] w fun e w' => e = .returned (.bool true) ∧ Below w.heap.size w w' := by
  go_enter Try.func5, Try.ntmps5
  have hx := heap_alloc_last w (.cells (cfgC c) 24)
  have hb := (Below.refl w.heap.size w).alloc (Nat.le_refl _) (.cells (cfgC c) 24)
  go_wp2_with (refine wpList_load_big rfl 24 _ rfl w.heap.size rfl 24 (cfgC c) (0, 0) _ Try.underlying24 rfl size24 hx ?_)
  refine (refCheck_any c _).mono ?_
  rintro r w2 ⟨rfl, hb2⟩
  have hx := box_next hx hb2
  have hb := hb.trans (hb2.mono hb.size)
  clear hb2
  by_cases h0 : chk c = 0
  · have hv := vld_of h0
    have h0b : (chk c != 0) = false := by rw [h0]; rfl
    clear h0
    obtain ⟨a0, a1⟩ := hv.c0; obtain ⟨b0, b1⟩ := hv.c14; obtain ⟨d0, d1⟩ := hv.c15; obtain ⟨e0, e1, e2⟩ := hv.c16
    have X1 : Hid (wrap64 (c 14 - c 16) = c 14 - c 16) := Lib.hid (wrap64_small (by omega) (by omega))
    have X2 : Hid (wrap64 (c 15 - c 16) = c 15 - c 16) := Lib.hid (wrap64_small (by omega) (by omega))
    have HB := Lib.hid (fun w => blocks_any c w hv)
    have HR := Lib.hid (fun w => refBlocks_any c w hv)
    generalize ((c 0 - 1) / minI (c 14 - c 16) (c 15 - c 16) + 1) = q at HB HR
    clear hv
    go_wp2_with fail
    have hB : w.heap.size + 1 ≤ w2.heap.size := heap_lt hx
    have hC0 : Alow w2.heap.size w2 w2.drew := ⟨(Below.refl _ _).drew, Nat.le_refl _⟩
    refine wp_region_quiet (by kernel_rfl) (by kernel_rfl) hC0 ?_
    refine wpQuiet_load_big rfl 24 _ rfl w.heap.size rfl 24 (cfgC c) (0, 0) _ Try.underlying24 rfl size24 (fun wx hC => (hC.block (by omega)).trans hx) ?_
    refine wpQuiet_enter rfl (fun wx hC => by go_simp) (fun wx hC => hC.call (visits_any c _)) ?_
    refine wpQuiet_load_big rfl 24 _ rfl w.heap.size rfl 24 (cfgC c) (0, 0) _ Try.underlying24 rfl size24 (fun wx hC => (hC.block (by omega)).trans hx) ?_
    refine wpQuiet_enter rfl (fun wx hC => by go_simp) (fun wx hC => hC.call (payments_any c _)) ?_
    refine wpQuiet_load_big rfl 24 _ rfl w.heap.size rfl 24 (cfgC c) (0, 0) _ Try.underlying24 rfl size24 (fun wx hC => (hC.block (by omega)).trans hx) ?_
    refine wpQuiet_enter rfl (fun wx hC => by go_simp) (fun wx hC => hC.call (HB.out _)) ?_
    rw [X1.out, X2.out]
    go_frame
    refine wpQuiet_val (v := .int .i64 (c 14 - c 16)) rfl (fun wx hC => by go_simp) ?_
    refine wpQuiet_val (v := .int .i64 (c 15 - c 16)) rfl (fun wx hC => by go_simp) ?_
    refine wpQuiet_val (v := .int .i64 q) rfl (fun wx hC => by go_simp) ?_
    refine wpQuiet_nil ?_
    intro w3 hC
    have hx := (hC.block (by omega)).trans hx
    have hb := hb.trans (hC.1.mono hb.size)
    clear hC hC0
    go_frame
    go_wp2_with fail
    refine (alive_any _).mono ?_
    rintro r w4 ⟨rfl, hb2⟩
    have hx := box_next hx hb2
    have hb := hb.trans (hb2.mono hb.size)
    clear hb2
    have k0 : w4.cell? ⟨w.heap.size, 14, none⟩ = some (.int .i64 (c 14)) := by simp [World.cell?, hx]
    have k1 : w4.cell? ⟨w.heap.size, 15, none⟩ = some (.int .i64 (c 15)) := by simp [World.cell?, hx]
    have k2 : w4.cell? ⟨w.heap.size, 16, none⟩ = some (.int .i64 (c 16)) := by simp [World.cell?, hx]
    have HX := Lib.hid hx
    clear hx
    go_wp2_with (refine wpList_load_big rfl 24 _ rfl w.heap.size rfl 24 (cfgC c) (0, 0) _ Try.underlying24 rfl size24 HX.out ?_)
    refine (HR.out _).mono ?_
    rintro r w5 ⟨rfl, hb2⟩
    have hb := hb.trans (hb2.mono hb.size)
    clear hb2
    go_wp2
    go_ret
    exact ⟨rfl, hb⟩
  · have h0b : (chk c != 0) = true := by simpa using h0
    clear h0
    generalize chk c = n at *
    go_wp2_with fail
    refine (alive_any _).mono ?_
    rintro r w3 ⟨rfl, hb2⟩
    have hb := hb.trans (hb2.mono hb.size)
    clear hb2 hx
    go_wp2
    go_ret
    exact ⟨rfl, hb⟩
set_option maxHeartbeats 800000 in
theorem configCovers_walk (c : Nat → Int) (w : World) (_w0 : ∀ (i : Nat) (k : IntKind), cfgKinds[i]? = some k → (Lit.int k (c i)).wf = true) :
    Calls Try.prog 6 #[cfgV c] w fun e w' => e = .returned (.bool true) ∧ Below w.heap.size w w' := by
  go_enter Try.func6, Try.ntmps6
  have hx := heap_alloc_last w (.cells (cfgC c) 24)
  have hb := (Below.refl w.heap.size w).alloc (Nat.le_refl _) (.cells (cfgC c) 24)
  go_wp2_with (refine wpList_load_big rfl 24 _ rfl w.heap.size rfl 24 (cfgC c) (0, 0) _ Try.underlying24 rfl size24 hx ?_)
  refine (refCheck_any c _).mono ?_
  rintro r w2 ⟨rfl, hb2⟩
  have hx := box_next hx hb2
  have hb := hb.trans (hb2.mono hb.size)
  clear hb2
  by_cases h0 : chk c = 0
  · have hv := vld_of h0
    have h0b : (chk c != 0) = false := by rw [h0]; rfl
    clear h0
    obtain ⟨a0, a1⟩ := hv.c0; obtain ⟨b0, b1⟩ := hv.c14; obtain ⟨d0, d1⟩ := hv.c15; obtain ⟨e0, e1, e2⟩ := hv.c16
    have X1 : Hid (wrap64 (c 14 - c 16) = c 14 - c 16) := Lib.hid (wrap64_small (by omega) (by omega))
    have X2 : Hid (wrap64 (c 15 - c 16) = c 15 - c 16) := Lib.hid (wrap64_small (by omega) (by omega))
    have HB := Lib.hid (fun w => blocks_any c w hv)
    have m1 : 1 ≤ minI (c 14 - c 16) (c 15 - c 16) ∧ minI (c 14 - c 16) (c 15 - c 16) ≤ 4096 := by unfold minI; split <;> omega
    generalize hm : minI (c 14 - c 16) (c 15 - c 16) = m at HB m1
    have HM := Lib.hid hm
    clear hm
    obtain ⟨m0, m1⟩ := m1
    have hd := Int.mul_ediv_add_emod (c 0 - 1) m
    have hr0 := Int.emod_nonneg (c 0 - 1) (b := m) (by omega)
    have hr1 := Int.emod_lt_of_pos (c 0 - 1) (b := m) (by omega)
    have q0 : 0 ≤ (c 0 - 1) / m := Int.ediv_nonneg (by omega) (by omega)
    have q1 : (c 0 - 1) / m ≤ c 0 - 1 := Int.ediv_le_self _ (by omega)
    generalize (c 0 - 1) % m = rem at hd hr0 hr1
    generalize (c 0 - 1) / m = q at *
    have p0 : c 0 ≤ (q + 1) * m := by rw [Int.add_mul, Int.mul_comm q m]; omega
    have p1 : (q + 1) * m ≤ 8192 := by rw [Int.add_mul, Int.mul_comm q m]; omega
    have p2 : (q + 1 - 1) * m < c 0 := by rw [show q + 1 - 1 = q from by omega, Int.mul_comm q m]; omega
    have p3 : 0 ≤ (q + 1 - 1) * m := by rw [show q + 1 - 1 = q from by omega]; exact Int.mul_nonneg q0 (by omega)
    have p4 : q * m < c 0 := by rw [Int.mul_comm q m]; omega
    have p5 : 0 ≤ q * m := Int.mul_nonneg q0 (by omega)
    clear hv hd hr0 hr1
    go_wp2_with fail
    have hB : w.heap.size + 1 ≤ w2.heap.size := heap_lt hx
    have hC0 : Alow w2.heap.size w2 w2.drew := ⟨(Below.refl _ _).drew, Nat.le_refl _⟩
    refine wp_region_quiet (by kernel_rfl) (by kernel_rfl) hC0 ?_
    refine wpQuiet_load_big rfl 24 _ rfl w.heap.size rfl 24 (cfgC c) (0, 0) _ Try.underlying24 rfl size24 (fun wx hC => (hC.block (by omega)).trans hx) ?_
    refine wpQuiet_enter rfl (fun wx hC => by go_simp) (fun wx hC => hC.call (visits_any c _)) ?_
    refine wpQuiet_load_big rfl 24 _ rfl w.heap.size rfl 24 (cfgC c) (0, 0) _ Try.underlying24 rfl size24 (fun wx hC => (hC.block (by omega)).trans hx) ?_
    refine wpQuiet_enter rfl (fun wx hC => by go_simp) (fun wx hC => hC.call (payments_any c _)) ?_
    rw [X1.out, X2.out]
    refine wpQuiet_val (v := .int .i64 m) rfl (fun wx hC => by rw [← HM.out]; unfold minI; split <;> go_simp) ?_
    go_frame
    refine wpQuiet_val (v := .int .i64 m) rfl (fun wx hC => by go_simp) ?_
    refine wpQuiet_nil ?_
    intro w3 hC
    have hx := (hC.block (by omega)).trans hx
    have hb := hb.trans (hC.1.mono hb.size)
    clear hC hC0
    go_frame
    go_wp2_with (refine wpList_load_big rfl 24 _ rfl w.heap.size rfl 24 (cfgC c) (0, 0) _ Try.underlying24 rfl size24 hx ?_)
    refine (HB.out _).mono ?_
    rintro r w5 ⟨rfl, hb2⟩
    have hx := box_next hx hb2
    have hb := hb.trans (hb2.mono hb.size)
    clear hb2
    go_wp2_with fail
    refine (alive_any _).mono ?_
    rintro r w4 ⟨rfl, hb2⟩
    have hx := box_next hx hb2
    have hb := hb.trans (hb2.mono hb.size)
    clear hb2
    have k0 : w4.cell? ⟨w.heap.size, 0, none⟩ = some (.int .i64 (c 0)) := by simp [World.cell?, hx]
    clear hx
    go_wp2
    all_goals
      go_ret
      exact ⟨rfl, hb⟩
  · have h0b : (chk c != 0) = true := by simpa using h0
    clear h0
    generalize chk c = n at *
    go_wp2_with fail
    refine (alive_any _).mono ?_
    rintro r w3 ⟨rfl, hb2⟩
    have hb := hb.trans (hb2.mono hb.size)
    clear hb2 hx
    go_wp2
    go_ret
    exact ⟨rfl, hb⟩
end Go.Proofs.Ytgpglfkdpalmcaa
