/- The conditions of a configuration: each closure's contract. -/
import Derived.Test.YtgpglfkdpalmcaaRows
import Derived.Test.YtgpglfkdpalmcaaReg
namespace Go.Proofs.Ytgpglfkdpalmcaa
open Go.RowKit Go.Eg
/-- a configuration as a value, by its 20 numbers -/
@[reducible] def cfgV (c : Nat → Int) : Value := .agg #[.int .i64 (c 0), .int .i64 (c 1), .int .u64 (c 2), .int .u64 (c 3), .int .u64 (c 4), .int .u64 (c 5), .int .u64 (c 6), .int .u64 (c 7), .int .u64 (c 8), .int .u64 (c 9), .int .i64 (c 10), .int .i64 (c 11), .int .i64 (c 12), .int .i64 (c 13), .int .i64 (c 14), .int .i64 (c 15), .int .i64 (c 16), .int .i64 (c 17), .int .u64 (c 18), .int .u64 (c 19)]
/-- each number fits its field -/
def cfgOk (c : Nat → Int) : Prop := (∀ i, i < 20 → -9223372036854775808 ≤ c i ∧ c i ≤ 18446744073709551615) ∧ (∀ i, i < 20 → (2 ≤ i ∧ i ≤ 9 ∨ 18 ≤ i) → 0 ≤ c i) ∧ (∀ i, i < 20 → ¬ (2 ≤ i ∧ i ≤ 9 ∨ 18 ≤ i) → c i ≤ 9223372036854775807)
/-- condition k of the program -/
def okC (c : Nat → Int) : Nat → Bool
  | 0 => decide (1 ≤ c 0) && decide (c 0 ≤ 4096)
  | 1 => decide (1 ≤ c 1) && decide (c 1 ≤ 4096)
  | 2 => decide (0 < c 2)
  | 3 => decide (c 2 ≤ c 3)
  | 4 => decide (c 3 ≤ c 4) && decide (c 4 ≤ 1152921504606846976)
  | 5 => decide (1 ≤ c 5) && decide (c 5 ≤ c 2)
  | 6 => decide (c 3 ≤ c 6) && decide (c 6 ≤ c 4)
  | 7 => decide (1 ≤ c 7) && decide (c 7 ≤ 1152921504606846976)
  | 8 => decide (0 < c 8)
  | 9 => decide (c 9 ≤ 1152921504606846976)
  | 10 => decide (1 ≤ c 10) && decide (c 10 ≤ 1048576)
  | 11 => decide (wrap64 (c 10 + 1) ≤ c 11) && decide (c 11 ≤ 1048576)
  | 12 => decide (1 ≤ c 12) && decide (c 12 ≤ 4096)
  | 13 => decide (1 ≤ c 13) && decide (c 13 ≤ 4096)
  | 14 => decide (1 ≤ c 14) && decide (c 14 ≤ 4096)
  | 15 => decide (1 ≤ c 15) && decide (c 15 ≤ 4096)
  | 16 => decide (0 ≤ c 16) && decide (c 16 ≤ wrap64 ((if c 15 < c 14 then c 15 else c 14) - 1))
  | 17 => decide (0 ≤ c 17) && decide (c 17 ≤ 4096)
  | 18 => decide (c 18 ≤ c 19)
  | 19 => decide (1 ≤ c 19) && decide (c 19 ≤ 4294967296)
  | _ => true
theorem in_int (x lo hi : Int) (w : World) :
    Calls Try.prog 26 #[.int .i64 x, .int .i64 lo, .int .i64 hi] w fun r w' => r = .returned (.bool (decide (lo ≤ x) && decide (x ≤ hi))) ∧ w = w' := by
  go_enter Try.func26, Try.ntmps26
  go_wp2
  all_goals
    go_ret
    refine ⟨ret_bool ?_, rfl⟩
    simp
    try omega
theorem in_u64 (x lo hi : Int) (w : World) :
    Calls Try.prog 31 #[.int .u64 x, .int .u64 lo, .int .u64 hi] w fun r w' => r = .returned (.bool (decide (lo ≤ x) && decide (x ≤ hi))) ∧ w = w' := by
  go_enter Try.func31, Try.ntmps31
  go_wp2
  all_goals
    go_ret
    refine ⟨ret_bool ?_, rfl⟩
    simp
    try omega
theorem cond1 (c : Nat → Int) (w : World) :
    Calls Try.prog 25 #[cfgV c] w fun r w' => r = .returned (.bool (okC c 0)) ∧ Below w.heap.size w w' := by
  go_enter Try.func25, Try.ntmps25
  go_wp2_with (go_at_call 26; refine (in_int _ _ _ _).mono ?_; rintro r w' ⟨rfl, rfl⟩)
  all_goals
    go_ret
    exact ⟨ret_bool (by simp [okC]), (Below.refl _ _).alloc (Nat.le_refl _) _⟩
theorem cond2 (c : Nat → Int) (w : World) :
    Calls Try.prog 27 #[cfgV c] w fun r w' => r = .returned (.bool (okC c 1)) ∧ Below w.heap.size w w' := by
  go_enter Try.func27, Try.ntmps27
  go_wp2_with (go_at_call 26; refine (in_int _ _ _ _).mono ?_; rintro r w' ⟨rfl, rfl⟩)
  all_goals
    go_ret
    exact ⟨ret_bool (by simp [okC]), (Below.refl _ _).alloc (Nat.le_refl _) _⟩
theorem cond3 (c : Nat → Int) (w : World) :
    Calls Try.prog 28 #[cfgV c] w fun r w' => r = .returned (.bool (okC c 2)) ∧ Below w.heap.size w w' := by
  go_enter Try.func28, Try.ntmps28
  go_wp2
  all_goals
    go_ret
    exact ⟨ret_bool (by simp [okC]), (Below.refl _ _).alloc (Nat.le_refl _) _⟩
theorem cond4 (c : Nat → Int) (w : World) :
    Calls Try.prog 29 #[cfgV c] w fun r w' => r = .returned (.bool (okC c 3)) ∧ Below w.heap.size w w' := by
  go_enter Try.func29, Try.ntmps29
  go_wp2
  all_goals
    go_ret
    exact ⟨ret_bool (by simp [okC]), (Below.refl _ _).alloc (Nat.le_refl _) _⟩
theorem cond5 (c : Nat → Int) (w : World) :
    Calls Try.prog 30 #[cfgV c] w fun r w' => r = .returned (.bool (okC c 4)) ∧ Below w.heap.size w w' := by
  go_enter Try.func30, Try.ntmps30
  go_wp2_with (go_at_call 31; refine (in_u64 _ _ _ _).mono ?_; rintro r w' ⟨rfl, rfl⟩)
  all_goals
    go_ret
    exact ⟨ret_bool (by simp [okC]), (Below.refl _ _).alloc (Nat.le_refl _) _⟩
theorem cond6 (c : Nat → Int) (w : World) :
    Calls Try.prog 32 #[cfgV c] w fun r w' => r = .returned (.bool (okC c 5)) ∧ Below w.heap.size w w' := by
  go_enter Try.func32, Try.ntmps32
  go_wp2_with (go_at_call 31; refine (in_u64 _ _ _ _).mono ?_; rintro r w' ⟨rfl, rfl⟩)
  all_goals
    go_ret
    exact ⟨ret_bool (by simp [okC]), (Below.refl _ _).alloc (Nat.le_refl _) _⟩
theorem cond7 (c : Nat → Int) (w : World) :
    Calls Try.prog 33 #[cfgV c] w fun r w' => r = .returned (.bool (okC c 6)) ∧ Below w.heap.size w w' := by
  go_enter Try.func33, Try.ntmps33
  go_wp2_with (go_at_call 31; refine (in_u64 _ _ _ _).mono ?_; rintro r w' ⟨rfl, rfl⟩)
  all_goals
    go_ret
    exact ⟨ret_bool (by simp [okC]), (Below.refl _ _).alloc (Nat.le_refl _) _⟩
theorem cond8 (c : Nat → Int) (w : World) :
    Calls Try.prog 34 #[cfgV c] w fun r w' => r = .returned (.bool (okC c 7)) ∧ Below w.heap.size w w' := by
  go_enter Try.func34, Try.ntmps34
  go_wp2_with (go_at_call 31; refine (in_u64 _ _ _ _).mono ?_; rintro r w' ⟨rfl, rfl⟩)
  all_goals
    go_ret
    exact ⟨ret_bool (by simp [okC]), (Below.refl _ _).alloc (Nat.le_refl _) _⟩
theorem cond9 (c : Nat → Int) (w : World) :
    Calls Try.prog 35 #[cfgV c] w fun r w' => r = .returned (.bool (okC c 8)) ∧ Below w.heap.size w w' := by
  go_enter Try.func35, Try.ntmps35
  go_wp2
  all_goals
    go_ret
    exact ⟨ret_bool (by simp [okC]), (Below.refl _ _).alloc (Nat.le_refl _) _⟩
theorem cond10 (c : Nat → Int) (w : World) :
    Calls Try.prog 36 #[cfgV c] w fun r w' => r = .returned (.bool (okC c 9)) ∧ Below w.heap.size w w' := by
  go_enter Try.func36, Try.ntmps36
  go_wp2
  all_goals
    go_ret
    exact ⟨ret_bool (by simp [okC]), (Below.refl _ _).alloc (Nat.le_refl _) _⟩
theorem cond11 (c : Nat → Int) (w : World) :
    Calls Try.prog 37 #[cfgV c] w fun r w' => r = .returned (.bool (okC c 10)) ∧ Below w.heap.size w w' := by
  go_enter Try.func37, Try.ntmps37
  go_wp2_with (go_at_call 26; refine (in_int _ _ _ _).mono ?_; rintro r w' ⟨rfl, rfl⟩)
  all_goals
    go_ret
    exact ⟨ret_bool (by simp [okC]), (Below.refl _ _).alloc (Nat.le_refl _) _⟩
theorem cond12 (c : Nat → Int) (w : World) :
    Calls Try.prog 38 #[cfgV c] w fun r w' => r = .returned (.bool (okC c 11)) ∧ Below w.heap.size w w' := by
  go_enter Try.func38, Try.ntmps38
  go_wp2_with (go_at_call 26; refine (in_int _ _ _ _).mono ?_; rintro r w' ⟨rfl, rfl⟩)
  all_goals
    go_ret
    exact ⟨ret_bool (by simp [okC]), (Below.refl _ _).alloc (Nat.le_refl _) _⟩
theorem cond13 (c : Nat → Int) (w : World) :
    Calls Try.prog 39 #[cfgV c] w fun r w' => r = .returned (.bool (okC c 12)) ∧ Below w.heap.size w w' := by
  go_enter Try.func39, Try.ntmps39
  go_wp2_with (go_at_call 26; refine (in_int _ _ _ _).mono ?_; rintro r w' ⟨rfl, rfl⟩)
  all_goals
    go_ret
    exact ⟨ret_bool (by simp [okC]), (Below.refl _ _).alloc (Nat.le_refl _) _⟩
theorem cond14 (c : Nat → Int) (w : World) :
    Calls Try.prog 40 #[cfgV c] w fun r w' => r = .returned (.bool (okC c 13)) ∧ Below w.heap.size w w' := by
  go_enter Try.func40, Try.ntmps40
  go_wp2_with (go_at_call 26; refine (in_int _ _ _ _).mono ?_; rintro r w' ⟨rfl, rfl⟩)
  all_goals
    go_ret
    exact ⟨ret_bool (by simp [okC]), (Below.refl _ _).alloc (Nat.le_refl _) _⟩
theorem cond15 (c : Nat → Int) (w : World) :
    Calls Try.prog 41 #[cfgV c] w fun r w' => r = .returned (.bool (okC c 14)) ∧ Below w.heap.size w w' := by
  go_enter Try.func41, Try.ntmps41
  go_wp2_with (go_at_call 26; refine (in_int _ _ _ _).mono ?_; rintro r w' ⟨rfl, rfl⟩)
  all_goals
    go_ret
    exact ⟨ret_bool (by simp [okC]), (Below.refl _ _).alloc (Nat.le_refl _) _⟩
theorem cond16 (c : Nat → Int) (w : World) :
    Calls Try.prog 42 #[cfgV c] w fun r w' => r = .returned (.bool (okC c 15)) ∧ Below w.heap.size w w' := by
  go_enter Try.func42, Try.ntmps42
  go_wp2_with (go_at_call 26; refine (in_int _ _ _ _).mono ?_; rintro r w' ⟨rfl, rfl⟩)
  all_goals
    go_ret
    exact ⟨ret_bool (by simp [okC]), (Below.refl _ _).alloc (Nat.le_refl _) _⟩
theorem cond17 (c : Nat → Int) (w : World) :
    Calls Try.prog 43 #[cfgV c] w fun r w' => r = .returned (.bool (okC c 16)) ∧ Below w.heap.size w w' := by
  go_enter Try.func43, Try.ntmps43
  go_wp2_with (go_at_call 26; refine (in_int _ _ _ _).mono ?_; rintro r w' ⟨rfl, rfl⟩)
  all_goals
    go_ret
    exact ⟨ret_bool (by show _ = (decide (0 ≤ c 16) && decide (c 16 ≤ wrap64 ((if c 15 < c 14 then c 15 else c 14) - 1))); first | rw [if_pos (by omega)] | rw [if_neg (by omega)]), (Below.refl _ _).alloc (Nat.le_refl _) _⟩
theorem cond18 (c : Nat → Int) (w : World) :
    Calls Try.prog 44 #[cfgV c] w fun r w' => r = .returned (.bool (okC c 17)) ∧ Below w.heap.size w w' := by
  go_enter Try.func44, Try.ntmps44
  go_wp2_with (go_at_call 26; refine (in_int _ _ _ _).mono ?_; rintro r w' ⟨rfl, rfl⟩)
  all_goals
    go_ret
    exact ⟨ret_bool (by simp [okC]), (Below.refl _ _).alloc (Nat.le_refl _) _⟩
theorem cond19 (c : Nat → Int) (w : World) :
    Calls Try.prog 45 #[cfgV c] w fun r w' => r = .returned (.bool (okC c 18)) ∧ Below w.heap.size w w' := by
  go_enter Try.func45, Try.ntmps45
  go_wp2
  all_goals
    go_ret
    exact ⟨ret_bool (by simp [okC]), (Below.refl _ _).alloc (Nat.le_refl _) _⟩
theorem cond20 (c : Nat → Int) (w : World) :
    Calls Try.prog 46 #[cfgV c] w fun r w' => r = .returned (.bool (okC c 19)) ∧ Below w.heap.size w w' := by
  go_enter Try.func46, Try.ntmps46
  go_wp2_with (go_at_call 31; refine (in_u64 _ _ _ _).mono ?_; rintro r w' ⟨rfl, rfl⟩)
  all_goals
    go_ret
    exact ⟨ret_bool (by simp [okC]), (Below.refl _ _).alloc (Nat.le_refl _) _⟩
end Go.Proofs.Ytgpglfkdpalmcaa
