/- The walks of OpEncodes and OpCuts. -/
import Derived.Test.YtljcodkcmenpaaaOpO
namespace Go.Proofs.Ytljcodkcmenpaaa
open Go.RowKit Go.Eg
theorem inK_of {k : Int} {cs : List Nat} (h : opsOf k = some cs) : InK k := by
  rcases opsOf_cases k with ⟨e, _⟩ | ⟨e, _⟩ | ⟨e, _⟩ | ⟨e, _⟩ | ⟨e, _⟩ | ⟨e, _⟩ | ⟨e, _⟩ | ⟨_, _, _, _, _, _, _, g⟩
  case _ => simp [InK, e]
  case _ => simp [InK, e]
  case _ => simp [InK, e]
  case _ => simp [InK, e]
  case _ => simp [InK, e]
  case _ => simp [InK, e]
  case _ => simp [InK, e]
  rw [g] at h
  cases h
set_option maxHeartbeats 1000000 in
theorem opEncodes_walk (o : Od) (w : World) (ho : o.ok) :
    Calls Try.prog 3 #[o.val] w fun r w' => r = .returned (.bool true) ∧ Below w.heap.size w w' := by
  have HRV := Lib.hid (fun w => refValid_any o w)
  have HV := Lib.hid (fun w => opValid_any o w ho)
  rw [← valid_law ho] at HRV
  cases hval : validO o
  · rw [hval] at HRV HV
    have HE := Lib.hid (fun w => opEncode_no o w ho hval)
    obtain ⟨kd, ix, tg, am⟩ := o
    clear hval ho
    go_enter Try.func3, Try.ntmps3
    go_wp2_with fail
    refine (HE.out _).mono ?_
    rintro r w1 ⟨rfl, hk1⟩
    have HVB := Lib.hid (hk1.at (heap_alloc_last w (odB ⟨kd, ix, tg, am⟩)) fun h => h)
    have HK1 := Lib.hid (((Mods.refl (fun _ => False) w).alloc (odB ⟨kd, ix, tg, am⟩)).keep hk1)
    obtain ⟨q0, q1, q2, q3⟩ := od_cells HVB.out
    simp only at q0 q1 q2 q3
    have hlt := cell_lt q0
    clear hk1
    go_wp2_with fail
    go_region_held3 (fun w' => w'.cell? ⟨w.heap.size, 0, none⟩ = some (.int .i64 kd) ∧ w'.cell? ⟨w.heap.size, 1, none⟩ = some (.int .i64 ix) ∧ w'.cell? ⟨w.heap.size, 2, none⟩ = some (.int .i64 tg) ∧ w'.cell? ⟨w.heap.size, 3, none⟩ = some (.int .u64 am))
      (first
        | (simp [q0, q1, q2, q3]; done)
        | (refine c4_mods (S := fun _ => False) q0 q1 q2 q3 ?_ (fun h => h); assumption))
      (first
        | (go_at_call 10; refine (HV.out _).mono ?_; rintro e w5 ⟨rfl, hk5⟩; have hk5' : Keeps w1 w5 := (by first | exact ((Mods.refl _ w1).drew).keep hk5 | exact Mods.keep (by assumption) hk5))
        | (go_at_call 11; refine (HRV.out _).mono ?_; rintro e w6 ⟨rfl, hk6⟩; have hk6' : Keeps w1 w6 := (by first | exact ((Mods.refl _ w1).drew).keep hk6 | exact Mods.keep (by assumption) hk6)))
    go_wp2_with fail
    refine (alive_any _).mono ?_
    rintro r w3 ⟨rfl, hk3⟩
    have HK3 := Lib.hid ((HK1.out.keep (by assumption)).keep hk3)
    clear hk3
    go_wp2
    go_ret
    exact ⟨rfl, HK3.out.below'⟩
  · obtain ⟨cs, hk, hf⟩ := validO_some hval
    have HE := Lib.hid (fun w => opEncode_yes o cs w ho hk hval)
    have HRE := Lib.hid (fun w => refEncode_any o ho (inK_of hk) cs hk w)
    have HSZ := Lib.hid (fun w => opSize_any o.kd w)
    rw [sizeK_some hk] at HSZ
    have HWL := Lib.hid (writeB_len o cs)
    rw [hval] at HRV HV
    obtain ⟨_, _, _, _, hz⟩ := opsOf_small hk
    generalize writeB o cs = WB at *
    obtain ⟨z, hzz⟩ : ∃ z, 1 + sumZ cs = z := ⟨_, rfl⟩
    rw [hzz] at HSZ HWL
    have hz11 : z ≤ 11 := by omega
    obtain ⟨kd, ix, tg, am⟩ := o
    simp only at HSZ
    clear hval hk hf hzz ho
    go_enter Try.func3, Try.ntmps3
    go_wp2_with fail
    refine (HE.out _).mono ?_
    rintro r w1 ⟨v, rfl, hbo, hk1⟩
    have HVB := Lib.hid (hk1.at (heap_alloc_last w (odB ⟨kd, ix, tg, am⟩)) fun h => h)
    have HK1 := Lib.hid (((Mods.refl (fun _ => False) w).alloc (odB ⟨kd, ix, tg, am⟩)).keep hk1)
    have HBL := Lib.hid hbo.bl
    obtain ⟨va, vc, hvs⟩ := hbo.slice
    rw [HWL.out] at hvs
    subst hvs
    obtain ⟨q0, q1, q2, q3⟩ := od_cells HVB.out
    simp only at q0 q1 q2 q3
    have hlt := cell_lt q0
    clear hk1 hbo
    go_wp2_with fail
    go_region_held3 (fun w' => w'.cell? ⟨w.heap.size, 0, none⟩ = some (.int .i64 kd) ∧ w'.cell? ⟨w.heap.size, 1, none⟩ = some (.int .i64 ix) ∧ w'.cell? ⟨w.heap.size, 2, none⟩ = some (.int .i64 tg) ∧ w'.cell? ⟨w.heap.size, 3, none⟩ = some (.int .u64 am))
      (first
        | (simp [q0, q1, q2, q3]; done)
        | (refine c4_mods (S := fun _ => False) q0 q1 q2 q3 ?_ (fun h => h); assumption))
      (first
        | (go_at_call 10; refine (HV.out _).mono ?_; rintro e w5 ⟨rfl, hk5⟩; have hk5' : Keeps w1 w5 := (by first | exact ((Mods.refl _ w1).drew).keep hk5 | exact Mods.keep (by assumption) hk5))
        | (go_at_call 11; refine (HRV.out _).mono ?_; rintro e w6 ⟨rfl, hk6⟩; have hk6' : Keeps w1 w6 := (by first | exact ((Mods.refl _ w1).drew).keep hk6 | exact Mods.keep (by assumption) hk6)))
    go_wp2_with fail
    refine (alive_any _).mono ?_
    rintro r w3 ⟨rfl, hk3⟩
    have HK13 : Hid (Keeps w1 w3) := Lib.hid (Mods.keep (by assumption) hk3)
    have HVB3 := Lib.hid (HK13.out.at HVB.out fun h => h)
    obtain ⟨p0, p1, p2, p3⟩ := od_cells HVB3.out
    simp only at p0 p1 p2 p3
    have hlt3 := cell_lt p0
    clear hk3 q0 q1 q2 q3
    go_wp2_with fail
    refine (HRE.out _).mono ?_
    rintro r w4 ⟨v4, rfl, hb4, hk4⟩
    have HB4 := Lib.hid hb4.bl
    have HK14 := Lib.hid (HK13.out.keep hk4)
    obtain ⟨a4, c4, h4⟩ := hb4.slice
    rw [HWL.out] at h4
    subst h4
    have HVB4 := Lib.hid (hk4.at HVB3.out fun h => h)
    clear hk4 hb4 p0 p1 p2 p3
    go_wp2_with fail
    refine (equalB_any _ _ WB w4 (HBL.out.keeps HK14.out) HB4.out (by rw [HWL.out]; omega)).mono ?_
    rintro r w5 ⟨rfl, hk5⟩
    have HK15 := Lib.hid (HK14.out.keep hk5)
    obtain ⟨p0, _, _, _⟩ := od_cells (hk5.at HVB4.out fun h => h)
    simp only at p0
    have hlt5 := cell_lt p0
    clear hk5
    go_wp2_with fail
    refine (HSZ.out _).mono ?_
    rintro r w6 ⟨rfl, hk6⟩
    have HK16 := Lib.hid (HK1.out.keep (HK15.out.keep hk6))
    clear hk6
    go_wp2
    go_ret
    exact ⟨rfl, HK16.out.below'⟩
theorem cut_dec {o : Od} {cs : List Nat} (hk : opsOf o.kd = some cs) {n : Nat} (h1 : 1 ≤ n) (h2 : n < 1 + sumZ cs) : decR ((writeB o cs).take n) 0 = (od0, (n : Int), true) := by
  obtain ⟨_, _, hk1, hk7, _⟩ := opsOf_small hk
  have el : ((writeB o cs).take n).length = n := by rw [List.length_take, writeB_len]; omega
  have e0 : ((writeB o cs).take n).getD 0 0 = o.kd := by
    obtain ⟨m, rfl⟩ : ∃ m, n = m + 1 := ⟨n - 1, by omega⟩
    unfold writeB
    rw [List.take_succ_cons]
    show o.kd % 256 = o.kd
    omega
  unfold decR
  rw [if_neg (by rw [el]; omega)]
  simp only [Int.toNat_zero, e0, hk]
  rw [if_pos (by rw [el]; omega), el]
set_option maxHeartbeats 1000000 in
theorem opCuts_walk (o : Od) (c : Int) (w : World) (ho : o.ok) (w1 : (Lit.int .u8 c).wf = true) :
    Calls Try.prog 7 #[o.val, .int .u8 c] w fun r w' => r = .returned (.bool true) ∧ Below w.heap.size w w' := by
  obtain ⟨hc0, hc1⟩ := bounds_u8 w1
  have HRV := Lib.hid (fun w => refValid_any o w)
  rw [← valid_law ho] at HRV
  clear w1
  by_cases hval : validO o = true ∧ o.kd ≠ 7
  · obtain ⟨hval, h7⟩ := hval
    obtain ⟨cs, hk, hf⟩ := validO_some hval
    have HRE := Lib.hid (fun w => refEncode_any o ho (inK_of hk) cs hk w)
    have HWL := Lib.hid (writeB_len o cs)
    have HWB := Lib.hid (writeB_bytes o cs)
    rw [hval] at HRV
    have hz2 : 2 ≤ sumZ cs ∧ sumZ cs ≤ 10 := by
      rcases opsOf_cases o.kd with ⟨e, g⟩ | ⟨e, g⟩ | ⟨e, g⟩ | ⟨e, g⟩ | ⟨e, g⟩ | ⟨e, g⟩ | ⟨e, g⟩ | ⟨_, _, _, _, _, _, _, g⟩
      case _ => rw [g] at hk; simp at hk; subst hk; decide
      case _ => rw [g] at hk; simp at hk; subst hk; decide
      case _ => rw [g] at hk; simp at hk; subst hk; decide
      case _ => rw [g] at hk; simp at hk; subst hk; decide
      case _ => rw [g] at hk; simp at hk; subst hk; decide
      case _ => rw [g] at hk; simp at hk; subst hk; decide
      case _ => exact absurd e h7
      rw [g] at hk
      cases hk
    have HCD := Lib.hid (fun (n : Nat) (h1 : 1 ≤ n) (h2 : n < 1 + sumZ cs) => cut_dec hk h1 h2)
    generalize writeB o cs = WB at *
    obtain ⟨z, hzz⟩ : ∃ z, 1 + sumZ cs = z := ⟨_, rfl⟩
    rw [hzz] at HWL HCD
    have hz3 : 3 ≤ z := by omega
    have hz11 : z ≤ 11 := by omega
    have hb7 : (o.kd == 7) = false := by simpa using h7
    obtain ⟨n, hn⟩ : ∃ n : Nat, 1 + c % ((z : Int) - 1) = (n : Int) := ⟨(1 + c % ((z : Int) - 1)).toNat, by have := Int.emod_nonneg c (show (z : Int) - 1 ≠ 0 by omega); omega⟩
    have hn1 : 1 ≤ n := by have := Int.emod_nonneg c (show (z : Int) - 1 ≠ 0 by omega); omega
    have hn2 : n < z := by have := Int.emod_lt_of_pos c (show (0 : Int) < (z : Int) - 1 by omega); omega
    have HN := Lib.hid (HCD.out n hn1 hn2)
    obtain ⟨kd, ix, tg, am⟩ := o
    simp only at hb7
    clear hval hk hf hzz ho h7 hz2
    go_enter Try.func7, Try.ntmps7
    go_wp2_with fail
    refine (HRV.out _).mono ?_
    rintro r w1 ⟨rfl, hk1⟩
    have HVB := Lib.hid (hk1.at (heap_alloc_last w (odB ⟨kd, ix, tg, am⟩)) fun h => h)
    have HK1 := Lib.hid (((Mods.refl (fun _ => False) w).alloc (odB ⟨kd, ix, tg, am⟩)).keep hk1)
    obtain ⟨q0, q1, q2, q3⟩ := od_cells HVB.out
    simp only at q0 q1 q2 q3
    have hlt := cell_lt q0
    clear hk1
    go_wp2_with fail
    refine (HRE.out _).mono ?_
    rintro r w2 ⟨v, rfl, hbo, hk2⟩
    have HK2 := Lib.hid (HK1.out.keep hk2)
    obtain ⟨va, vc, hvs⟩ := hbo.slice
    have hbl := hbo.bl
    rw [hvs] at hbl
    obtain ⟨b, off, e, _⟩ := hbl.at 0 (by rw [HWL.out]; omega)
    subst e
    have HT := Lib.hid (bl_to hbl n (by rw [HWL.out]; omega))
    have hcap : WB.length ≤ vc := by
      obtain ⟨a, c, e, h, _⟩ := hbl
      simp only [Value.slice.injEq] at e
      omega
    rw [HWL.out] at hvs hcap
    subst hvs
    have HTB : Hid (Bytes (WB.take n)) := Lib.hid fun x hx => HWB.out x (List.mem_of_mem_take hx)
    have HTL := Lib.hid (show (WB.take n).length ≤ 4294967296 by rw [List.length_take]; omega)
    clear hk2 hbo hbl q0 q1 q2 q3 hlt
    go_wp2_with fail
    refine (decode_any _ (WB.take n) 0 w2 HT.out HTB.out HTL.out).mono ?_
    rw [HN.out]
    rintro r w3 ⟨hr, hk3⟩
    rw [show od0.val = Value.agg #[.int .i64 0, .int .i64 0, .int .i64 0, .int .u64 0] from rfl] at hr
    subst hr
    have HVB3 := Lib.hid (heap_alloc_last w3 (odB ⟨0, 0, 0, 0⟩))
    have HK3 := Lib.hid ((HK2.out.keep hk3).alloc (odB ⟨0, 0, 0, 0⟩))
    clear hk3
    go_wp2_with fail
    refine (alive_any _).mono ?_
    rintro r w4 ⟨rfl, hk4⟩
    have HK4 := Lib.hid (HK3.out.keep hk4)
    obtain ⟨p0, p1, p2, p3⟩ := od_cells (hk4.at HVB3.out fun h => h)
    simp only at p0 p1 p2 p3
    have hlt4 := cell_lt p0
    clear hk4
    go_wp2
    go_ret
    exact ⟨rfl, HK4.out.below'⟩
  · cases hv : validO o
    · rw [hv] at HRV
      obtain ⟨kd, ix, tg, am⟩ := o
      clear hval hv ho
      go_enter Try.func7, Try.ntmps7
      go_wp2_with fail
      refine (HRV.out _).mono ?_
      rintro r w1 ⟨rfl, hk1⟩
      have HK1 := Lib.hid (((Mods.refl (fun _ => False) w).alloc (odB ⟨kd, ix, tg, am⟩)).keep hk1)
      clear hk1
      go_wp2_with fail
      refine (alive_any _).mono ?_
      rintro r w3 ⟨rfl, hk3⟩
      have HK3 := Lib.hid (HK1.out.keep hk3)
      clear hk3
      go_wp2
      go_ret
      exact ⟨rfl, HK3.out.below'⟩
    · have h7 : o.kd = 7 := by
        by_cases h : o.kd = 7
        · exact h
        · exact absurd ⟨hv, h⟩ hval
      rw [hv] at HRV
      obtain ⟨kd, ix, tg, am⟩ := o
      simp only at h7
      subst h7
      clear hval hv ho
      go_enter Try.func7, Try.ntmps7
      go_wp2_with fail
      refine (HRV.out _).mono ?_
      rintro r w1 ⟨rfl, hk1⟩
      have HVB := Lib.hid (hk1.at (heap_alloc_last w (odB ⟨7, ix, tg, am⟩)) fun h => h)
      have HK1 := Lib.hid (((Mods.refl (fun _ => False) w).alloc (odB ⟨7, ix, tg, am⟩)).keep hk1)
      obtain ⟨q0, q1, q2, q3⟩ := od_cells HVB.out
      simp only at q0 q1 q2 q3
      have hlt := cell_lt q0
      clear hk1
      go_wp2_with fail
      refine (alive_any _).mono ?_
      rintro r w3 ⟨rfl, hk3⟩
      have HK3 := Lib.hid (HK1.out.keep hk3)
      clear hk3
      go_wp2
      go_ret
      exact ⟨rfl, HK3.out.below'⟩
end Go.Proofs.Ytljcodkcmenpaaa
