/- The reference's Valid. -/
import Derived.Test.YtljcodkcmenpaaaOpL
namespace Go.Proofs.Ytljcodkcmenpaaa
open Go.RowKit Go.Eg
abbrev InK (k : Int) : Prop := k = 1 ∨ k = 2 ∨ k = 3 ∨ k = 4 ∨ k = 5 ∨ k = 6 ∨ k = 7
def hasO (k : Int) (c : Nat) : Bool := ((opsOf k).getD []).contains c
theorem uses0_in (k : Int) (hk : InK k) (w : World) : Calls Try.prog 26 #[.int .i64 k, .int .u8 105] w fun r w' => r = .returned (.bool (hasO k 0)) ∧ w = w' := by
  have HO := Lib.hid (operandsR_in k w hk)
  rcases hk with rfl | rfl | rfl | rfl | rfl | rfl | rfl
  · go_enter Try.func26, Try.ntmps26
    go_wp2_with fail
    refine HO.out.mono ?_
    rintro r w1 ⟨rfl, rfl⟩
    simp only [strB]
    go_wp2
    go_loop [6] (fun i => (i = .int .i64 0) ∨ (i = .int .i64 1)) (fun i => 1 - (intOf i).toNat)
    case atStart => simp
    case round =>
      rcases hrel with rfl | rfl
      · go_wp2
        go_round
        case rel => simp
        case measure => simp [intOf]
      · go_wp2
        try rw [Exit.noGoto_ret]
        go_ret
        exact ⟨rfl, rfl⟩
  · go_enter Try.func26, Try.ntmps26
    go_wp2_with fail
    refine HO.out.mono ?_
    rintro r w1 ⟨rfl, rfl⟩
    simp only [strB]
    go_wp2
    go_loop [6] (fun i => (i = .int .i64 0)) (fun i => 1 - (intOf i).toNat)
    case atStart => simp
    case round =>
      rcases hrel with rfl
      · go_wp2
        try rw [Exit.noGoto_ret]
        go_ret
        exact ⟨rfl, rfl⟩
  · go_enter Try.func26, Try.ntmps26
    go_wp2_with fail
    refine HO.out.mono ?_
    rintro r w1 ⟨rfl, rfl⟩
    simp only [strB]
    go_wp2
    go_loop [6] (fun i => (i = .int .i64 0)) (fun i => 1 - (intOf i).toNat)
    case atStart => simp
    case round =>
      rcases hrel with rfl
      · go_wp2
        try rw [Exit.noGoto_ret]
        go_ret
        exact ⟨rfl, rfl⟩
  · go_enter Try.func26, Try.ntmps26
    go_wp2_with fail
    refine HO.out.mono ?_
    rintro r w1 ⟨rfl, rfl⟩
    simp only [strB]
    go_wp2
    go_loop [6] (fun i => (i = .int .i64 0)) (fun i => 1 - (intOf i).toNat)
    case atStart => simp
    case round =>
      rcases hrel with rfl
      · go_wp2
        try rw [Exit.noGoto_ret]
        go_ret
        exact ⟨rfl, rfl⟩
  · go_enter Try.func26, Try.ntmps26
    go_wp2_with fail
    refine HO.out.mono ?_
    rintro r w1 ⟨rfl, rfl⟩
    simp only [strB]
    go_wp2
    go_loop [6] (fun i => (i = .int .i64 0)) (fun i => 2 - (intOf i).toNat)
    case atStart => simp
    case round =>
      rcases hrel with rfl
      · go_wp2
        try rw [Exit.noGoto_ret]
        go_ret
        exact ⟨rfl, rfl⟩
  · go_enter Try.func26, Try.ntmps26
    go_wp2_with fail
    refine HO.out.mono ?_
    rintro r w1 ⟨rfl, rfl⟩
    simp only [strB]
    go_wp2
    go_loop [6] (fun i => (i = .int .i64 0)) (fun i => 2 - (intOf i).toNat)
    case atStart => simp
    case round =>
      rcases hrel with rfl
      · go_wp2
        try rw [Exit.noGoto_ret]
        go_ret
        exact ⟨rfl, rfl⟩
  · go_enter Try.func26, Try.ntmps26
    go_wp2_with fail
    refine HO.out.mono ?_
    rintro r w1 ⟨rfl, rfl⟩
    simp only [strB]
    go_wp2
    go_loop [6] (fun i => (i = .int .i64 0)) (fun i => 0 - (intOf i).toNat)
    case atStart => simp
    case round =>
      rcases hrel with rfl
      · go_wp2
        try rw [Exit.noGoto_ret]
        go_ret
        exact ⟨rfl, rfl⟩
theorem uses1_in (k : Int) (hk : InK k) (w : World) : Calls Try.prog 26 #[.int .i64 k, .int .u8 116] w fun r w' => r = .returned (.bool (hasO k 1)) ∧ w = w' := by
  have HO := Lib.hid (operandsR_in k w hk)
  rcases hk with rfl | rfl | rfl | rfl | rfl | rfl | rfl
  · go_enter Try.func26, Try.ntmps26
    go_wp2_with fail
    refine HO.out.mono ?_
    rintro r w1 ⟨rfl, rfl⟩
    simp only [strB]
    go_wp2
    go_loop [6] (fun i => (i = .int .i64 0) ∨ (i = .int .i64 1)) (fun i => 1 - (intOf i).toNat)
    case atStart => simp
    case round =>
      rcases hrel with rfl | rfl
      · go_wp2
        go_round
        case rel => simp
        case measure => simp [intOf]
      · go_wp2
        try rw [Exit.noGoto_ret]
        go_ret
        exact ⟨rfl, rfl⟩
  · go_enter Try.func26, Try.ntmps26
    go_wp2_with fail
    refine HO.out.mono ?_
    rintro r w1 ⟨rfl, rfl⟩
    simp only [strB]
    go_wp2
    go_loop [6] (fun i => (i = .int .i64 0) ∨ (i = .int .i64 1)) (fun i => 1 - (intOf i).toNat)
    case atStart => simp
    case round =>
      rcases hrel with rfl | rfl
      · go_wp2
        go_round
        case rel => simp
        case measure => simp [intOf]
      · go_wp2
        try rw [Exit.noGoto_ret]
        go_ret
        exact ⟨rfl, rfl⟩
  · go_enter Try.func26, Try.ntmps26
    go_wp2_with fail
    refine HO.out.mono ?_
    rintro r w1 ⟨rfl, rfl⟩
    simp only [strB]
    go_wp2
    go_loop [6] (fun i => (i = .int .i64 0) ∨ (i = .int .i64 1)) (fun i => 1 - (intOf i).toNat)
    case atStart => simp
    case round =>
      rcases hrel with rfl | rfl
      · go_wp2
        go_round
        case rel => simp
        case measure => simp [intOf]
      · go_wp2
        try rw [Exit.noGoto_ret]
        go_ret
        exact ⟨rfl, rfl⟩
  · go_enter Try.func26, Try.ntmps26
    go_wp2_with fail
    refine HO.out.mono ?_
    rintro r w1 ⟨rfl, rfl⟩
    simp only [strB]
    go_wp2
    go_loop [6] (fun i => (i = .int .i64 0) ∨ (i = .int .i64 1)) (fun i => 1 - (intOf i).toNat)
    case atStart => simp
    case round =>
      rcases hrel with rfl | rfl
      · go_wp2
        go_round
        case rel => simp
        case measure => simp [intOf]
      · go_wp2
        try rw [Exit.noGoto_ret]
        go_ret
        exact ⟨rfl, rfl⟩
  · go_enter Try.func26, Try.ntmps26
    go_wp2_with fail
    refine HO.out.mono ?_
    rintro r w1 ⟨rfl, rfl⟩
    simp only [strB]
    go_wp2
    go_loop [6] (fun i => (i = .int .i64 0) ∨ (i = .int .i64 1)) (fun i => 2 - (intOf i).toNat)
    case atStart => simp
    case round =>
      rcases hrel with rfl | rfl
      · go_wp2
        go_round
        case rel => simp
        case measure => simp [intOf]
      · go_wp2
        try rw [Exit.noGoto_ret]
        go_ret
        exact ⟨rfl, rfl⟩
  · go_enter Try.func26, Try.ntmps26
    go_wp2_with fail
    refine HO.out.mono ?_
    rintro r w1 ⟨rfl, rfl⟩
    simp only [strB]
    go_wp2
    go_loop [6] (fun i => (i = .int .i64 0) ∨ (i = .int .i64 1) ∨ (i = .int .i64 2)) (fun i => 2 - (intOf i).toNat)
    case atStart => simp
    case round =>
      rcases hrel with rfl | rfl | rfl
      · go_wp2
        go_round
        case rel => simp
        case measure => simp [intOf]
      · go_wp2
        go_round
        case rel => simp
        case measure => simp [intOf]
      · go_wp2
        try rw [Exit.noGoto_ret]
        go_ret
        exact ⟨rfl, rfl⟩
  · go_enter Try.func26, Try.ntmps26
    go_wp2_with fail
    refine HO.out.mono ?_
    rintro r w1 ⟨rfl, rfl⟩
    simp only [strB]
    go_wp2
    go_loop [6] (fun i => (i = .int .i64 0)) (fun i => 0 - (intOf i).toNat)
    case atStart => simp
    case round =>
      rcases hrel with rfl
      · go_wp2
        try rw [Exit.noGoto_ret]
        go_ret
        exact ⟨rfl, rfl⟩
theorem uses2_in (k : Int) (hk : InK k) (w : World) : Calls Try.prog 26 #[.int .i64 k, .int .u8 97] w fun r w' => r = .returned (.bool (hasO k 2)) ∧ w = w' := by
  have HO := Lib.hid (operandsR_in k w hk)
  rcases hk with rfl | rfl | rfl | rfl | rfl | rfl | rfl
  · go_enter Try.func26, Try.ntmps26
    go_wp2_with fail
    refine HO.out.mono ?_
    rintro r w1 ⟨rfl, rfl⟩
    simp only [strB]
    go_wp2
    go_loop [6] (fun i => (i = .int .i64 0)) (fun i => 1 - (intOf i).toNat)
    case atStart => simp
    case round =>
      rcases hrel with rfl
      · go_wp2
        try rw [Exit.noGoto_ret]
        go_ret
        exact ⟨rfl, rfl⟩
  · go_enter Try.func26, Try.ntmps26
    go_wp2_with fail
    refine HO.out.mono ?_
    rintro r w1 ⟨rfl, rfl⟩
    simp only [strB]
    go_wp2
    go_loop [6] (fun i => (i = .int .i64 0) ∨ (i = .int .i64 1)) (fun i => 1 - (intOf i).toNat)
    case atStart => simp
    case round =>
      rcases hrel with rfl | rfl
      · go_wp2
        go_round
        case rel => simp
        case measure => simp [intOf]
      · go_wp2
        try rw [Exit.noGoto_ret]
        go_ret
        exact ⟨rfl, rfl⟩
  · go_enter Try.func26, Try.ntmps26
    go_wp2_with fail
    refine HO.out.mono ?_
    rintro r w1 ⟨rfl, rfl⟩
    simp only [strB]
    go_wp2
    go_loop [6] (fun i => (i = .int .i64 0) ∨ (i = .int .i64 1)) (fun i => 1 - (intOf i).toNat)
    case atStart => simp
    case round =>
      rcases hrel with rfl | rfl
      · go_wp2
        go_round
        case rel => simp
        case measure => simp [intOf]
      · go_wp2
        try rw [Exit.noGoto_ret]
        go_ret
        exact ⟨rfl, rfl⟩
  · go_enter Try.func26, Try.ntmps26
    go_wp2_with fail
    refine HO.out.mono ?_
    rintro r w1 ⟨rfl, rfl⟩
    simp only [strB]
    go_wp2
    go_loop [6] (fun i => (i = .int .i64 0) ∨ (i = .int .i64 1)) (fun i => 1 - (intOf i).toNat)
    case atStart => simp
    case round =>
      rcases hrel with rfl | rfl
      · go_wp2
        go_round
        case rel => simp
        case measure => simp [intOf]
      · go_wp2
        try rw [Exit.noGoto_ret]
        go_ret
        exact ⟨rfl, rfl⟩
  · go_enter Try.func26, Try.ntmps26
    go_wp2_with fail
    refine HO.out.mono ?_
    rintro r w1 ⟨rfl, rfl⟩
    simp only [strB]
    go_wp2
    go_loop [6] (fun i => (i = .int .i64 0) ∨ (i = .int .i64 1) ∨ (i = .int .i64 2)) (fun i => 2 - (intOf i).toNat)
    case atStart => simp
    case round =>
      rcases hrel with rfl | rfl | rfl
      · go_wp2
        go_round
        case rel => simp
        case measure => simp [intOf]
      · go_wp2
        go_round
        case rel => simp
        case measure => simp [intOf]
      · go_wp2
        try rw [Exit.noGoto_ret]
        go_ret
        exact ⟨rfl, rfl⟩
  · go_enter Try.func26, Try.ntmps26
    go_wp2_with fail
    refine HO.out.mono ?_
    rintro r w1 ⟨rfl, rfl⟩
    simp only [strB]
    go_wp2
    go_loop [6] (fun i => (i = .int .i64 0) ∨ (i = .int .i64 1)) (fun i => 2 - (intOf i).toNat)
    case atStart => simp
    case round =>
      rcases hrel with rfl | rfl
      · go_wp2
        go_round
        case rel => simp
        case measure => simp [intOf]
      · go_wp2
        try rw [Exit.noGoto_ret]
        go_ret
        exact ⟨rfl, rfl⟩
  · go_enter Try.func26, Try.ntmps26
    go_wp2_with fail
    refine HO.out.mono ?_
    rintro r w1 ⟨rfl, rfl⟩
    simp only [strB]
    go_wp2
    go_loop [6] (fun i => (i = .int .i64 0)) (fun i => 0 - (intOf i).toNat)
    case atStart => simp
    case round =>
      rcases hrel with rfl
      · go_wp2
        try rw [Exit.noGoto_ret]
        go_ret
        exact ⟨rfl, rfl⟩
theorem refIndex_any (n : Int) (b : Bool) (w : World) : Calls Try.prog 25 #[.int .i64 n, .bool b] w fun r w' => r = .returned (.bool (idxOk n b)) ∧ w = w' := by
  unfold idxOk
  cases h0 : (n == 0)
  · cases b
    · go_enter Try.func25, Try.ntmps25
      go_wp2
      go_ret
      exact ⟨rfl, rfl⟩
    · by_cases h1 : 0 < n
      · by_cases h2 : n ≤ 65535
        · go_enter Try.func25, Try.ntmps25
          go_wp2
          go_ret
          exact ⟨ret_bool (by simp [h1, h2]), rfl⟩
        · go_enter Try.func25, Try.ntmps25
          go_wp2
          go_ret
          exact ⟨ret_bool (by simp [h2]), rfl⟩
      · go_enter Try.func25, Try.ntmps25
        go_wp2
        go_ret
        exact ⟨ret_bool (by rw [decide_eq_false (show ¬ 0 < n by omega)]; rfl), rfl⟩
  · go_enter Try.func25, Try.ntmps25
    go_wp2
    go_ret
    exact ⟨rfl, rfl⟩
theorem validR_out {o : Od} (h : opsOf o.kd = none) : validR o = false := by unfold validR; rw [h]
theorem validR_in {o : Od} {cs : List Nat} (h : opsOf o.kd = some cs) : validR o = (idxOk o.ix (hasO o.kd 0) && (idxOk o.tg (hasO o.kd 1) && (o.am == 0 || hasO o.kd 2))) := by unfold validR hasO; rw [h]; rfl
theorem opsOf_in {k : Int} (h : InK k) : ∃ cs, opsOf k = some cs := by rcases h with rfl | rfl | rfl | rfl | rfl | rfl | rfl <;> exact ⟨_, rfl⟩
theorem strB_q {k : Int} (h : InK k) : ((strB k).toList == [63]) = false := by
  simp only [ByteArray.toList_eq]
  rcases h with rfl | rfl | rfl | rfl | rfl | rfl | rfl <;> rfl
set_option maxHeartbeats 4000000 in
theorem refValid_in (o : Od) (hk : InK o.kd) (w : World) : Calls Try.prog 11 #[o.val] w fun r w' => r = .returned (.bool (validR o)) ∧ Keeps w w' := by
  obtain ⟨cs, hcs⟩ := opsOf_in hk
  rw [validR_in hcs]
  have HO := Lib.hid (fun w => operandsR_in o.kd w hk)
  have hS := strB_q hk
  have HU0 := Lib.hid (fun w => uses0_in o.kd hk w)
  have HU1 := Lib.hid (fun w => uses1_in o.kd hk w)
  have HU2 := Lib.hid (fun w => uses2_in o.kd hk w)
  have HI0 := Lib.hid (fun w => refIndex_any o.ix (hasO o.kd 0) w)
  have HI1 := Lib.hid (fun w => refIndex_any o.tg (hasO o.kd 1) w)
  generalize strB o.kd = S at *
  generalize hasO o.kd 0 = u0 at *
  generalize hasO o.kd 1 = u1 at *
  generalize hasO o.kd 2 = u2 at *
  generalize idxOk o.ix u0 = b0 at *
  generalize idxOk o.tg u1 = b1 at *
  obtain ⟨kd, ix, tg, am⟩ := o
  clear hk hcs
  simp only at *
  go_enter Try.func11, Try.ntmps11
  go_wp2
  cases ha : (am == 0) <;> cases b0 <;> cases b1
  all_goals
    go_quiet ((first | (go_at_call 24; with_reducible exact quiet_id (HO.out _)) | (go_at_call 25; with_reducible exact quiet_id (HI0.out _)) | (go_at_call 25; with_reducible exact quiet_id (HI1.out _)) | (go_at_call 26; with_reducible exact quiet_id (HU0.out _)) | (go_at_call 26; with_reducible exact quiet_id (HU1.out _)) | (go_at_call 26; with_reducible exact quiet_id (HU2.out _))))
    go_wp2
    go_ret
    first
      | exact ⟨rfl, ((Mods.refl _ w).alloc _).drewN _⟩
      | exact ⟨ret_bool (by rw [ha]; rfl), ((Mods.refl _ w).alloc _).drewN _⟩
theorem refValid_out (o : Od) (w : World) (h1 : o.kd ≠ 1) (h2 : o.kd ≠ 2) (h3 : o.kd ≠ 3) (h4 : o.kd ≠ 4) (h5 : o.kd ≠ 5) (h6 : o.kd ≠ 6) (h7 : o.kd ≠ 7) : Calls Try.prog 11 #[o.val] w fun r w' => r = .returned (.bool false) ∧ Keeps w w' := by
  have HO := Lib.hid (fun w => operandsR_out o.kd w h1 h2 h3 h4 h5 h6 h7)
  obtain ⟨kd, ix, tg, am⟩ := o
  clear h1 h2 h3 h4 h5 h6 h7
  go_enter Try.func11, Try.ntmps11
  go_wp2
  go_quiet ((go_at_call 24; with_reducible exact quiet_id (HO.out _)))
  go_wp2
  go_ret
  exact ⟨rfl, ((Mods.refl _ w).alloc _).drewN _⟩
theorem refValid_any (o : Od) (w : World) : Calls Try.prog 11 #[o.val] w fun r w' => r = .returned (.bool (validR o)) ∧ Keeps w w' := by
  rcases opsOf_cases o.kd with ⟨e, _⟩ | ⟨e, _⟩ | ⟨e, _⟩ | ⟨e, _⟩ | ⟨e, _⟩ | ⟨e, _⟩ | ⟨e, _⟩ | ⟨h1, h2, h3, h4, h5, h6, h7, g⟩
  case _ => exact refValid_in o (by simp [InK, e]) w
  case _ => exact refValid_in o (by simp [InK, e]) w
  case _ => exact refValid_in o (by simp [InK, e]) w
  case _ => exact refValid_in o (by simp [InK, e]) w
  case _ => exact refValid_in o (by simp [InK, e]) w
  case _ => exact refValid_in o (by simp [InK, e]) w
  case _ => exact refValid_in o (by simp [InK, e]) w
  rw [validR_out g]
  exact refValid_out o w h1 h2 h3 h4 h5 h6 h7
end Go.Proofs.Ytljcodkcmenpaaa
