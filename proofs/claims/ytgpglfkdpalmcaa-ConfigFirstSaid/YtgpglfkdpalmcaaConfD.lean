/- The reference's conditions of a configuration. -/
import Derived.Test.YtgpglfkdpalmcaaConfA
import Derived.Test.YtgpglfkdpalmcaaBig
namespace Go.Proofs.Ytgpglfkdpalmcaa
open Go.RowKit Go.Eg
/-- condition k of the reference -/
def okR (c : Nat → Int) : Nat → Bool
  | 0 => decide (1 ≤ c 0) && decide (c 0 ≤ 4096)
  | 1 => decide (1 ≤ c 1) && decide (c 1 ≤ 4096)
  | 2 => decide (1 ≤ c 2)
  | 3 => decide (c 2 ≤ c 3)
  | 4 => decide (c 3 ≤ c 4) && decide (c 4 ≤ 1152921504606846976)
  | 5 => decide (1 ≤ c 5) && decide (c 5 ≤ c 2)
  | 6 => decide (c 3 ≤ c 6) && decide (c 6 ≤ c 4)
  | 7 => decide (1 ≤ c 7) && decide (c 7 ≤ 1152921504606846976)
  | 8 => decide (1 ≤ c 8)
  | 9 => decide (c 9 ≤ 1152921504606846976)
  | 10 => decide (1 ≤ c 10) && decide (c 10 ≤ 1048576)
  | 11 => decide (c 10 < c 11) && decide (c 11 ≤ 1048576)
  | 12 => decide (1 ≤ c 12) && decide (c 12 ≤ 4096)
  | 13 => decide (1 ≤ c 13) && decide (c 13 ≤ 4096)
  | 14 => decide (1 ≤ c 14) && decide (c 14 ≤ 4096)
  | 15 => decide (1 ≤ c 15) && decide (c 15 ≤ 4096)
  | 16 => decide (0 ≤ c 16) && decide (c 16 < c 14) && decide (c 16 < c 15)
  | 17 => decide (0 ≤ c 17) && decide (c 17 ≤ 4096)
  | 18 => decide (c 18 ≤ c 19)
  | 19 => decide (1 ≤ c 19) && decide (c 19 ≤ 4294967296)
  | _ => true
theorem between_any (x lo hi : Int) (w : World) :
    Calls Try.prog 24 #[.int .i64 x, .int .i64 lo, .int .i64 hi] w fun r w' => r = .returned (.bool (decide (lo ≤ x) && decide (x ≤ hi))) ∧ w = w' := by
  go_enter Try.func24, Try.ntmps24
  go_wp2
  all_goals
    go_ret
    refine ⟨ret_bool ?_, rfl⟩
    simp
    try omega
set_option maxRecDepth 100000 in
set_option maxHeartbeats 800000 in
theorem right1 (c : Nat → Int) (w : World) :
    Calls Try.prog 22 #[cfgV c, .int .i64 1] w fun r w' => r = .returned (.bool (okR c 0)) ∧ Below w.heap.size w w' := by
  go_enter Try.func22, Try.ntmps22
  go_wp2_with (go_at_call 24; refine (between_any _ _ _ _).mono ?_; rintro r w' ⟨rfl, rfl⟩)
  all_goals
    go_ret
    refine ⟨ret_bool ?_, (Below.refl _ _).alloc (Nat.le_refl _) _⟩
    first
      | rfl
      | (simp only [okR]; done)
      | (simp only [okR]; rw [Bool.eq_iff_iff]; simp; done)
      | (simp only [okR]; rw [Bool.eq_iff_iff]; simp; omega)
set_option maxRecDepth 100000 in
set_option maxHeartbeats 800000 in
theorem right2 (c : Nat → Int) (w : World) :
    Calls Try.prog 22 #[cfgV c, .int .i64 2] w fun r w' => r = .returned (.bool (okR c 1)) ∧ Below w.heap.size w w' := by
  go_enter Try.func22, Try.ntmps22
  go_wp2_with (go_at_call 24; refine (between_any _ _ _ _).mono ?_; rintro r w' ⟨rfl, rfl⟩)
  all_goals
    go_ret
    refine ⟨ret_bool ?_, (Below.refl _ _).alloc (Nat.le_refl _) _⟩
    first
      | rfl
      | (simp only [okR]; done)
      | (simp only [okR]; rw [Bool.eq_iff_iff]; simp; done)
      | (simp only [okR]; rw [Bool.eq_iff_iff]; simp; omega)
set_option maxRecDepth 100000 in
set_option maxHeartbeats 800000 in
theorem right3 (c : Nat → Int) (w : World) :
    Calls Try.prog 22 #[cfgV c, .int .i64 3] w fun r w' => r = .returned (.bool (okR c 2)) ∧ Below w.heap.size w w' := by
  go_enter Try.func22, Try.ntmps22
  go_wp2_with (go_at_call 24; refine (between_any _ _ _ _).mono ?_; rintro r w' ⟨rfl, rfl⟩)
  all_goals
    go_ret
    refine ⟨ret_bool ?_, (Below.refl _ _).alloc (Nat.le_refl _) _⟩
    first
      | rfl
      | (simp only [okR]; done)
      | (simp only [okR]; rw [Bool.eq_iff_iff]; simp; done)
      | (simp only [okR]; rw [Bool.eq_iff_iff]; simp; omega)
set_option maxRecDepth 100000 in
set_option maxHeartbeats 800000 in
theorem right4 (c : Nat → Int) (w : World) :
    Calls Try.prog 22 #[cfgV c, .int .i64 4] w fun r w' => r = .returned (.bool (okR c 3)) ∧ Below w.heap.size w w' := by
  go_enter Try.func22, Try.ntmps22
  go_wp2_with (go_at_call 24; refine (between_any _ _ _ _).mono ?_; rintro r w' ⟨rfl, rfl⟩)
  all_goals
    go_ret
    refine ⟨ret_bool ?_, (Below.refl _ _).alloc (Nat.le_refl _) _⟩
    first
      | rfl
      | (simp only [okR]; done)
      | (simp only [okR]; rw [Bool.eq_iff_iff]; simp; done)
      | (simp only [okR]; rw [Bool.eq_iff_iff]; simp; omega)
set_option maxRecDepth 100000 in
set_option maxHeartbeats 800000 in
theorem right5 (c : Nat → Int) (w : World) :
    Calls Try.prog 22 #[cfgV c, .int .i64 5] w fun r w' => r = .returned (.bool (okR c 4)) ∧ Below w.heap.size w w' := by
  go_enter Try.func22, Try.ntmps22
  go_wp2_with (go_at_call 24; refine (between_any _ _ _ _).mono ?_; rintro r w' ⟨rfl, rfl⟩)
  all_goals
    go_ret
    refine ⟨ret_bool ?_, (Below.refl _ _).alloc (Nat.le_refl _) _⟩
    first
      | rfl
      | (simp only [okR]; done)
      | (simp only [okR]; rw [Bool.eq_iff_iff]; simp; done)
      | (simp only [okR]; rw [Bool.eq_iff_iff]; simp; omega)
set_option maxRecDepth 100000 in
set_option maxHeartbeats 800000 in
theorem right6 (c : Nat → Int) (w : World) :
    Calls Try.prog 22 #[cfgV c, .int .i64 6] w fun r w' => r = .returned (.bool (okR c 5)) ∧ Below w.heap.size w w' := by
  go_enter Try.func22, Try.ntmps22
  go_wp2_with (go_at_call 24; refine (between_any _ _ _ _).mono ?_; rintro r w' ⟨rfl, rfl⟩)
  all_goals
    go_ret
    refine ⟨ret_bool ?_, (Below.refl _ _).alloc (Nat.le_refl _) _⟩
    first
      | rfl
      | (simp only [okR]; done)
      | (simp only [okR]; rw [Bool.eq_iff_iff]; simp; done)
      | (simp only [okR]; rw [Bool.eq_iff_iff]; simp; omega)
set_option maxRecDepth 100000 in
set_option maxHeartbeats 800000 in
theorem right7 (c : Nat → Int) (w : World) :
    Calls Try.prog 22 #[cfgV c, .int .i64 7] w fun r w' => r = .returned (.bool (okR c 6)) ∧ Below w.heap.size w w' := by
  go_enter Try.func22, Try.ntmps22
  go_wp2_with (go_at_call 24; refine (between_any _ _ _ _).mono ?_; rintro r w' ⟨rfl, rfl⟩)
  all_goals
    go_ret
    refine ⟨ret_bool ?_, (Below.refl _ _).alloc (Nat.le_refl _) _⟩
    first
      | rfl
      | (simp only [okR]; done)
      | (simp only [okR]; rw [Bool.eq_iff_iff]; simp; done)
      | (simp only [okR]; rw [Bool.eq_iff_iff]; simp; omega)
set_option maxRecDepth 100000 in
set_option maxHeartbeats 800000 in
theorem right8 (c : Nat → Int) (w : World) :
    Calls Try.prog 22 #[cfgV c, .int .i64 8] w fun r w' => r = .returned (.bool (okR c 7)) ∧ Below w.heap.size w w' := by
  go_enter Try.func22, Try.ntmps22
  go_wp2_with (go_at_call 24; refine (between_any _ _ _ _).mono ?_; rintro r w' ⟨rfl, rfl⟩)
  all_goals
    go_ret
    refine ⟨ret_bool ?_, (Below.refl _ _).alloc (Nat.le_refl _) _⟩
    first
      | rfl
      | (simp only [okR]; done)
      | (simp only [okR]; rw [Bool.eq_iff_iff]; simp; done)
      | (simp only [okR]; rw [Bool.eq_iff_iff]; simp; omega)
set_option maxRecDepth 100000 in
set_option maxHeartbeats 800000 in
theorem right9 (c : Nat → Int) (w : World) :
    Calls Try.prog 22 #[cfgV c, .int .i64 9] w fun r w' => r = .returned (.bool (okR c 8)) ∧ Below w.heap.size w w' := by
  go_enter Try.func22, Try.ntmps22
  go_wp2_with (go_at_call 24; refine (between_any _ _ _ _).mono ?_; rintro r w' ⟨rfl, rfl⟩)
  all_goals
    go_ret
    refine ⟨ret_bool ?_, (Below.refl _ _).alloc (Nat.le_refl _) _⟩
    first
      | rfl
      | (simp only [okR]; done)
      | (simp only [okR]; rw [Bool.eq_iff_iff]; simp; done)
      | (simp only [okR]; rw [Bool.eq_iff_iff]; simp; omega)
set_option maxRecDepth 100000 in
set_option maxHeartbeats 800000 in
theorem right10 (c : Nat → Int) (w : World) :
    Calls Try.prog 22 #[cfgV c, .int .i64 10] w fun r w' => r = .returned (.bool (okR c 9)) ∧ Below w.heap.size w w' := by
  go_enter Try.func22, Try.ntmps22
  go_wp2_with (go_at_call 24; refine (between_any _ _ _ _).mono ?_; rintro r w' ⟨rfl, rfl⟩)
  all_goals
    go_ret
    refine ⟨ret_bool ?_, (Below.refl _ _).alloc (Nat.le_refl _) _⟩
    first
      | rfl
      | (simp only [okR]; done)
      | (simp only [okR]; rw [Bool.eq_iff_iff]; simp; done)
      | (simp only [okR]; rw [Bool.eq_iff_iff]; simp; omega)
set_option maxRecDepth 100000 in
set_option maxHeartbeats 800000 in
theorem right11 (c : Nat → Int) (w : World) :
    Calls Try.prog 22 #[cfgV c, .int .i64 11] w fun r w' => r = .returned (.bool (okR c 10)) ∧ Below w.heap.size w w' := by
  go_enter Try.func22, Try.ntmps22
  go_wp2_with (go_at_call 24; refine (between_any _ _ _ _).mono ?_; rintro r w' ⟨rfl, rfl⟩)
  all_goals
    go_ret
    refine ⟨ret_bool ?_, (Below.refl _ _).alloc (Nat.le_refl _) _⟩
    first
      | rfl
      | (simp only [okR]; done)
      | (simp only [okR]; rw [Bool.eq_iff_iff]; simp; done)
      | (simp only [okR]; rw [Bool.eq_iff_iff]; simp; omega)
set_option maxRecDepth 100000 in
set_option maxHeartbeats 800000 in
theorem right12 (c : Nat → Int) (w : World) :
    Calls Try.prog 22 #[cfgV c, .int .i64 12] w fun r w' => r = .returned (.bool (okR c 11)) ∧ Below w.heap.size w w' := by
  go_enter Try.func22, Try.ntmps22
  go_wp2_with (go_at_call 24; refine (between_any _ _ _ _).mono ?_; rintro r w' ⟨rfl, rfl⟩)
  all_goals
    go_ret
    refine ⟨ret_bool ?_, (Below.refl _ _).alloc (Nat.le_refl _) _⟩
    first
      | rfl
      | (simp only [okR]; done)
      | (simp only [okR]; rw [Bool.eq_iff_iff]; simp; done)
      | (simp only [okR]; rw [Bool.eq_iff_iff]; simp; omega)
set_option maxRecDepth 100000 in
set_option maxHeartbeats 800000 in
theorem right13 (c : Nat → Int) (w : World) :
    Calls Try.prog 22 #[cfgV c, .int .i64 13] w fun r w' => r = .returned (.bool (okR c 12)) ∧ Below w.heap.size w w' := by
  go_enter Try.func22, Try.ntmps22
  go_wp2_with (go_at_call 24; refine (between_any _ _ _ _).mono ?_; rintro r w' ⟨rfl, rfl⟩)
  all_goals
    go_ret
    refine ⟨ret_bool ?_, (Below.refl _ _).alloc (Nat.le_refl _) _⟩
    first
      | rfl
      | (simp only [okR]; done)
      | (simp only [okR]; rw [Bool.eq_iff_iff]; simp; done)
      | (simp only [okR]; rw [Bool.eq_iff_iff]; simp; omega)
set_option maxRecDepth 100000 in
set_option maxHeartbeats 800000 in
theorem right14 (c : Nat → Int) (w : World) :
    Calls Try.prog 22 #[cfgV c, .int .i64 14] w fun r w' => r = .returned (.bool (okR c 13)) ∧ Below w.heap.size w w' := by
  go_enter Try.func22, Try.ntmps22
  go_wp2_with (go_at_call 24; refine (between_any _ _ _ _).mono ?_; rintro r w' ⟨rfl, rfl⟩)
  all_goals
    go_ret
    refine ⟨ret_bool ?_, (Below.refl _ _).alloc (Nat.le_refl _) _⟩
    first
      | rfl
      | (simp only [okR]; done)
      | (simp only [okR]; rw [Bool.eq_iff_iff]; simp; done)
      | (simp only [okR]; rw [Bool.eq_iff_iff]; simp; omega)
set_option maxRecDepth 100000 in
set_option maxHeartbeats 800000 in
theorem right15 (c : Nat → Int) (w : World) :
    Calls Try.prog 22 #[cfgV c, .int .i64 15] w fun r w' => r = .returned (.bool (okR c 14)) ∧ Below w.heap.size w w' := by
  go_enter Try.func22, Try.ntmps22
  go_wp2_with (go_at_call 24; refine (between_any _ _ _ _).mono ?_; rintro r w' ⟨rfl, rfl⟩)
  all_goals
    go_ret
    refine ⟨ret_bool ?_, (Below.refl _ _).alloc (Nat.le_refl _) _⟩
    first
      | rfl
      | (simp only [okR]; done)
      | (simp only [okR]; rw [Bool.eq_iff_iff]; simp; done)
      | (simp only [okR]; rw [Bool.eq_iff_iff]; simp; omega)
set_option maxRecDepth 100000 in
set_option maxHeartbeats 800000 in
theorem right16 (c : Nat → Int) (w : World) :
    Calls Try.prog 22 #[cfgV c, .int .i64 16] w fun r w' => r = .returned (.bool (okR c 15)) ∧ Below w.heap.size w w' := by
  go_enter Try.func22, Try.ntmps22
  go_wp2_with (go_at_call 24; refine (between_any _ _ _ _).mono ?_; rintro r w' ⟨rfl, rfl⟩)
  all_goals
    go_ret
    refine ⟨ret_bool ?_, (Below.refl _ _).alloc (Nat.le_refl _) _⟩
    first
      | rfl
      | (simp only [okR]; done)
      | (simp only [okR]; rw [Bool.eq_iff_iff]; simp; done)
      | (simp only [okR]; rw [Bool.eq_iff_iff]; simp; omega)
set_option maxRecDepth 100000 in
set_option maxHeartbeats 800000 in
theorem right17 (c : Nat → Int) (w : World) :
    Calls Try.prog 22 #[cfgV c, .int .i64 17] w fun r w' => r = .returned (.bool (okR c 16)) ∧ Below w.heap.size w w' := by
  go_enter Try.func22, Try.ntmps22
  go_wp2_with (go_at_call 24; refine (between_any _ _ _ _).mono ?_; rintro r w' ⟨rfl, rfl⟩)
  all_goals
    go_ret
    refine ⟨ret_bool ?_, (Below.refl _ _).alloc (Nat.le_refl _) _⟩
    first
      | rfl
      | (simp only [okR]; done)
      | (simp only [okR]; rw [Bool.eq_iff_iff]; simp; done)
      | (simp only [okR]; rw [Bool.eq_iff_iff]; simp; omega)
set_option maxRecDepth 100000 in
set_option maxHeartbeats 800000 in
theorem right18 (c : Nat → Int) (w : World) :
    Calls Try.prog 22 #[cfgV c, .int .i64 18] w fun r w' => r = .returned (.bool (okR c 17)) ∧ Below w.heap.size w w' := by
  go_enter Try.func22, Try.ntmps22
  go_wp2_with (go_at_call 24; refine (between_any _ _ _ _).mono ?_; rintro r w' ⟨rfl, rfl⟩)
  all_goals
    go_ret
    refine ⟨ret_bool ?_, (Below.refl _ _).alloc (Nat.le_refl _) _⟩
    first
      | rfl
      | (simp only [okR]; done)
      | (simp only [okR]; rw [Bool.eq_iff_iff]; simp; done)
      | (simp only [okR]; rw [Bool.eq_iff_iff]; simp; omega)
set_option maxRecDepth 100000 in
set_option maxHeartbeats 800000 in
theorem right19 (c : Nat → Int) (w : World) :
    Calls Try.prog 22 #[cfgV c, .int .i64 19] w fun r w' => r = .returned (.bool (okR c 18)) ∧ Below w.heap.size w w' := by
  go_enter Try.func22, Try.ntmps22
  go_wp2_with (go_at_call 24; refine (between_any _ _ _ _).mono ?_; rintro r w' ⟨rfl, rfl⟩)
  all_goals
    go_ret
    refine ⟨ret_bool ?_, (Below.refl _ _).alloc (Nat.le_refl _) _⟩
    first
      | rfl
      | (simp only [okR]; done)
      | (simp only [okR]; rw [Bool.eq_iff_iff]; simp; done)
      | (simp only [okR]; rw [Bool.eq_iff_iff]; simp; omega)
set_option maxRecDepth 100000 in
set_option maxHeartbeats 800000 in
theorem right20 (c : Nat → Int) (w : World) :
    Calls Try.prog 22 #[cfgV c, .int .i64 20] w fun r w' => r = .returned (.bool (okR c 19)) ∧ Below w.heap.size w w' := by
  go_enter Try.func22, Try.ntmps22
  go_wp2_with (go_at_call 24; refine (between_any _ _ _ _).mono ?_; rintro r w' ⟨rfl, rfl⟩)
  all_goals
    go_ret
    refine ⟨ret_bool ?_, (Below.refl _ _).alloc (Nat.le_refl _) _⟩
    first
      | rfl
      | (simp only [okR]; done)
      | (simp only [okR]; rw [Bool.eq_iff_iff]; simp; done)
      | (simp only [okR]; rw [Bool.eq_iff_iff]; simp; omega)
end Go.Proofs.Ytgpglfkdpalmcaa
