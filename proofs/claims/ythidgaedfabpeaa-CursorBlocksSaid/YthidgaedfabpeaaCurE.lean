/- The walks of CursorNil, CursorBlocks. -/
import Derived.Test.YthidgaedfabpeaaCurD
namespace Go.Proofs.Ythidgaedfabpeaa
open Go.RowKit Go.Eg
theorem cursorNil_walk (rv : Value) (n : Nat) (rdy : Nat → Bool) (visits pays : Int) (w : World) (hr : Bools w rv n rdy) (_hn : n ≤ 9223372036854775807) (_ : (Lit.int .i64 visits).wf = true) (_ : (Lit.int .i64 pays).wf = true) :
    Calls Try.prog 7 #[rv, .int .i64 visits, .int .i64 pays] w fun r w' => r = .returned (.bool true) ∧ Below w.heap.size w w' := by
  obtain ⟨a, cap, hs⟩ := hr.slice
  by_cases h100 : n ≤ 100
  · have HR := Lib.hid hr
    clear hr
    subst hs
    go_enter Try.func7, Try.ntmps7
    go_wp2_with fail
    refine (sweep_nil _ n a cap visits pays _ rfl).mono ?_
    rintro r w1 ⟨rfl, rfl⟩
    go_wp2_with fail
    refine (curNew_any w).mono ?_
    rintro r w1 ⟨rfl, rfl⟩
    go_wp2_with fail
    refine (curNew_any _).mono ?_
    rintro r w1 ⟨rfl, rfl⟩
    obtain ⟨w1, hw1⟩ : ∃ w1, w1 = (w.alloc (curB 0)).alloc (curB 0) := ⟨_, rfl⟩
    rw [← hw1]
    have hs1 : (w.alloc (curB 0)).heap.size = w.heap.size + 1 := by simp
    have hc0 : w1.heap[w.heap.size]? = some (curB 0) := hw1 ▸ heap_keep (heap_alloc_last w (curB 0)) (curB 0)
    have hc1 : w1.heap[w.heap.size + 1]? = some (curB 0) := by rw [hw1, ← hs1]; exact heap_alloc_last (w.alloc (curB 0)) (curB 0)
    have hk1 : Keeps w w1 := hw1 ▸ ((Mods.refl (fun _ => False) w).alloc (curB 0)).alloc (curB 0)
    rw [hs1]
    clear hw1 hs1
    have HC0 := Lib.hid hc0
    have HC1 := Lib.hid hc1
    have HK1 := Lib.hid hk1
    clear hc0 hc1 hk1
    go_wp2_with fail
    have hrw := HR.out.keeps HK1.out
    refine (sweep_any w.heap.size 0 n rdy _ visits pays w1 HC0.out (by omega) (by omega) hrw ?_).mono ?_
    · intro h0 e
      obtain ⟨b, hb1, hb2⟩ := HR.out.lt h0
      rw [hb1] at e
      simp at e
      omega
    rintro r w2 ⟨va, rfl, hI, hc2, hm2⟩
    have hd2 := hm2.at HC1.out (by omega)
    have hk2 := HK1.out.seq hm2 (fun i hi h => by omega)
    have HD2 := Lib.hid hd2
    have HK2 := Lib.hid hk2
    clear hd2 hk2 hI hc2 hm2 hrw
    go_wp2_with fail
    refine (alive_any _).mono ?_
    rintro r w3 ⟨rfl, hm3⟩
    have HD3 := Lib.hid (hm3.at HD2.out (fun h => h))
    have HK3 := Lib.hid (HK2.out.keep hm3)
    clear hm3
    go_wp2_with fail
    refine (curAt_nil _).mono ?_
    rintro r w4 ⟨rfl, rfl⟩
    go_wp2_with fail
    refine (distance_nil _ _ _).mono ?_
    rintro r w4 ⟨rfl, rfl⟩
    go_wp2_with fail
    refine (curAt_any _ 0 _ HD3.out).mono ?_
    rintro r w4 ⟨rfl, rfl⟩
    go_wp2
    go_ret
    exact ⟨rfl, HK3.out.below'⟩
  · subst hs
    go_enter Try.func7, Try.ntmps7
    go_wp2_with fail
    refine (alive_any _).mono ?_
    rintro r w3 ⟨rfl, hm3⟩
    have HK3 := Lib.hid hm3
    clear hm3
    go_wp2
    go_ret
    exact ⟨rfl, HK3.out.below'⟩
theorem mod_pos_ceil (n m : Int) (hm : 1 ≤ m) : (0 < n % m → (n - 1) / m + 1 = n / m + 1) ∧ (n % m ≤ 0 → (n - 1) / m + 1 = n / m) := by
  have e := Int.emod_add_mul_ediv n m
  have r0 := Int.emod_nonneg n (show m ≠ 0 by omega)
  have r1 := Int.emod_lt_of_pos n (show 0 < m by omega)
  generalize hq : n / m = q at *
  generalize n % m = r at *
  have key : ∀ k : Int, m * k ≤ n - 1 → n - 1 < m * k + m → (n - 1) / m = k := fun k a b => by
    have e2 := Int.emod_add_mul_ediv (n - 1) m
    have s0 := Int.emod_nonneg (n - 1) (show m ≠ 0 by omega)
    have s1 := Int.emod_lt_of_pos (n - 1) (show 0 < m by omega)
    generalize (n - 1) / m = d at *
    generalize (n - 1) % m = s at *
    rcases Int.lt_trichotomy d k with h | h | h
    · have : m * d + m ≤ m * k := by
        have := Int.mul_le_mul_of_nonneg_left (show d + 1 ≤ k by omega) (show 0 ≤ m by omega)
        rw [Int.mul_add, Int.mul_one] at this
        exact this
      omega
    · exact h
    · have : m * k + m ≤ m * d := by
        have := Int.mul_le_mul_of_nonneg_left (show k + 1 ≤ d by omega) (show 0 ≤ m by omega)
        rw [Int.mul_add, Int.mul_one] at this
        exact this
      omega
  refine ⟨fun h => by rw [key q (by omega) (by omega)], fun h => ?_⟩
  rw [key (q - 1) (by rw [Int.mul_sub, Int.mul_one]; omega) (by rw [Int.mul_sub, Int.mul_one]; omega)]
  omega
theorem refBlocks_any (n v p : Int) (w : World) (hn : n ≤ 9223372036854775807) (hv : v ≤ 9223372036854775807) (hp : p ≤ 9223372036854775807) :
    Calls Try.prog 18 #[.int .i64 n, .int .i64 v, .int .i64 p] w fun r w' => r = .returned (.int .i64 (blocksI n v p)) ∧ w = w' := by
  by_cases h : n < 1 ∨ v < 1 ∨ p < 1
  · have E := Lib.hid (show blocksI n v p = 0 from if_pos h)
    go_enter Try.func18, Try.ntmps18
    go_wp2
    all_goals
      go_ret
      exact ⟨ret_int E.out.symm, rfl⟩
  · have E := Lib.hid (show blocksI n v p = (n - 1) / min v p + 1 from if_neg h)
    have h1 : 1 ≤ n := by omega
    have h2 : 1 ≤ v := by omega
    have h3 : 1 ≤ p := by omega
    obtain ⟨m, hm⟩ : ∃ m, m = min v p := ⟨_, rfl⟩
    have hm1 : 1 ≤ m := by omega
    have q0 : 0 ≤ n / m := Int.ediv_nonneg (by omega) (by omega)
    have q1 : n / m ≤ n := Int.ediv_le_self _ (by omega)
    have HC := Lib.hid (mod_pos_ceil n m hm1)
    have r0 := Int.emod_nonneg n (show m ≠ 0 by omega)
    rw [← hm] at E
    have q2 : n / m < 9223372036854775807 ∨ n % m ≤ 0 := by
      by_cases hmm : m = 1
      · subst hmm; right; omega
      · left
        have e := Int.emod_add_mul_ediv n m
        have : 2 * (n / m) ≤ m * (n / m) := Int.mul_le_mul_of_nonneg_right (by omega) q0
        omega
    clear h
    have hcase : v ≤ p ∧ m = v ∨ p < v ∧ m = p := by omega
    clear hm
    go_enter Try.func18, Try.ntmps18
    by_cases hr : 0 < n % m
    · have E2 := Lib.hid (HC.out.1 hr)
      have q3 : n / m < 9223372036854775807 := by omega
      clear q2
      rcases hcase with ⟨hvp, rfl⟩ | ⟨hvp, rfl⟩
      all_goals
        go_wp2
        go_ret
        exact ⟨ret_int (by rw [E.out, E2.out]), rfl⟩
    · have E2 := Lib.hid (HC.out.2 (by omega))
      clear q2
      rcases hcase with ⟨hvp, rfl⟩ | ⟨hvp, rfl⟩
      all_goals
        go_wp2
        go_ret
        exact ⟨ret_int (by rw [E.out, E2.out]), rfl⟩
theorem cursorBlocks_walk (n v p : Int) (w : World) (w0 : (Lit.int .i64 n).wf = true) (w1 : (Lit.int .i64 v).wf = true) (w2 : (Lit.int .i64 p).wf = true) :
    Calls Try.prog 6 #[.int .i64 n, .int .i64 v, .int .i64 p] w fun r w' => r = .returned (.bool true) ∧ Below w.heap.size w w' := by
  obtain ⟨_, hn⟩ := bounds_i64 w0
  obtain ⟨_, hv⟩ := bounds_i64 w1
  obtain ⟨_, hp⟩ := bounds_i64 w2
  clear w0 w1 w2
  go_enter Try.func6, Try.ntmps6
  go_wp2_with fail
  refine (alive_any _).mono ?_
  rintro r w3 ⟨rfl, hm3⟩
  have HK3 := Lib.hid hm3
  clear hm3
  go_wp2_with fail
  refine (curBlocks_any n v p _ hn hv hp).mono ?_
  rintro r w4 ⟨rfl, rfl⟩
  go_wp2_with fail
  refine (refBlocks_any n v p _ hn hv hp).mono ?_
  rintro r w4 ⟨rfl, rfl⟩
  generalize blocksI n v p = q
  go_wp2
  go_ret
  exact ⟨rfl, HK3.out.below'⟩
end Go.Proofs.Ythidgaedfabpeaa
