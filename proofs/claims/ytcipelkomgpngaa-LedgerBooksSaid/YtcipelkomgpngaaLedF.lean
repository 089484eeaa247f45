/- The walks of LedgerNil and LedgerEmpties. -/
import Derived.Test.YtcipelkomgpngaaLedD
namespace Go.Proofs.Ytcipelkomgpngaa
open Go.RowKit Go.Eg
theorem eqT (x y z : Int) (w : World) : (binOp .eql 39 (.agg #[.int .u64 x, .int .u64 y, .int .u64 z]) (.agg #[.int .u64 x, .int .u64 y, .int .u64 z])).run Try.prog w = .ok (.bool true) w := by
  simp [go_sem]
set_option maxHeartbeats 400000 in
theorem ledgerNil_walk (x : Int) (w : World) (w0 : (Lit.int .u64 x).wf = true) :
    Calls Try.prog 8 #[.int .u64 x] w fun r w' => r = .returned (.bool true) ∧ Below w.heap.size w w' := by
  obtain ⟨hx0, hx1⟩ := bounds_u64 w0
  have X1 := Lib.hid (show x ≤ maxU from hx1)
  have OM := Lib.hid (led0_ok (c := 18446744073709551615) (by omega) (by unfold maxU; omega))
  have D1 := Lib.hid (show (led0 18446744073709551615).depC x = 0 ∧ (led0 18446744073709551615).dep x = ⟨x, 0, 0, 18446744073709551615⟩ from by
    rcases (led0 18446744073709551615).dep_cases x with ⟨h, _⟩ | ⟨_, h, _⟩ | ⟨_, _, e1, e2⟩
    · exact absurd h (by unfold led0 Led.sup; simp only; omega)
    · exact absurd h (by unfold led0 maxU; simp only; omega)
    · refine ⟨e1, ?_⟩
      rw [e2]
      unfold led0
      simp)
  have OX := Lib.hid (show (⟨x, 0, 0, 18446744073709551615⟩ : Led).ok from by rw [← D1.out.2]; exact Led.dep_ok OM.out hx0)
  have SX := Lib.hid (show (⟨x, 0, 0, 18446744073709551615⟩ : Led).sup = x from by unfold Led.sup; simp)
  have S0 := Lib.hid (show (led0 18446744073709551615).sup = 0 from rfl)
  clear w0 hx1
  go_enter Try.func8, Try.ntmps8
  go_wp2_with fail
  refine (ledNew_any _ w).mono ?_
  rintro r w1 ⟨rfl, rfl⟩
  go_wp2_with fail
  refine (ledNew_any _ _).mono ?_
  rintro r w1 ⟨rfl, rfl⟩
  obtain ⟨w1, hw1⟩ : ∃ w1, w1 = (w.alloc (ledB (led0 18446744073709551615))).alloc (ledB (led0 18446744073709551615)) := ⟨_, rfl⟩
  have hz : (w.alloc (ledB (led0 18446744073709551615))).heap.size = w.heap.size + 1 := by simp
  have HA := Lib.hid (show w1.heap[w.heap.size]? = some (ledB (led0 18446744073709551615)) from hw1 ▸ heap_keep (heap_alloc_last w _) _)
  have HB := Lib.hid (show w1.heap[w.heap.size + 1]? = some (ledB (led0 18446744073709551615)) from by rw [hw1, ← hz]; exact heap_alloc_last _ _)
  have HK := Lib.hid (show Keeps w w1 from hw1 ▸ ((Mods.refl (fun _ => False) w).alloc _).alloc _)
  rw [show (w.alloc (ledB ⟨0, 0, 0, 18446744073709551615⟩)).alloc (ledB ⟨0, 0, 0, 18446744073709551615⟩) = w1 from hw1.symm, show (w.alloc (ledB ⟨0, 0, 0, 18446744073709551615⟩)).heap.size = w.heap.size + 1 from hz]
  clear hw1 hz
  go_wp2_with fail
  refine (dep_any _ (led0 18446744073709551615) x w1 HA.out OM.out hx0 X1.out).mono ?_
  rw [D1.out.1, D1.out.2]
  rintro r w2 ⟨rfl, hb2, hm2⟩
  have HA2 := Lib.hid hb2
  have HB2 := Lib.hid (hm2.at HB.out (by omega))
  have HK2 := Lib.hid (HK.out.seq hm2 (fun i hi h => by omega))
  clear hb2 hm2
  go_wp2_with fail
  refine (alive_any _).mono ?_
  rintro r w3 ⟨rfl, hm3⟩
  have HA3 := Lib.hid (hm3.at HA2.out (fun h => h))
  have HB3 := Lib.hid (hm3.at HB2.out (fun h => h))
  have HK3 := Lib.hid (HK2.out.keep hm3)
  clear hm3
  go_wp2_with fail
  refine (dep_nil x _).mono ?_
  rintro r w4 ⟨rfl, rfl⟩
  go_wp2_with fail
  refine (pay_nil x _).mono ?_
  rintro r w4 ⟨rfl, rfl⟩
  go_wp2_with fail
  refine (burn_nil x _).mono ?_
  rintro r w4 ⟨rfl, rfl⟩
  go_wp2_with fail
  refine (supply_nil _).mono ?_
  rintro r w4 ⟨rfl, rfl⟩
  go_wp2_with fail
  refine (room_nil _).mono ?_
  rintro r w4 ⟨rfl, rfl⟩
  go_wp2_with fail
  refine (totals_nil _).mono ?_
  rintro r w4 ⟨rfl, hm4⟩
  have HA4 := Lib.hid (hm4.at HA3.out (fun h => h))
  have HB4 := Lib.hid (hm4.at HB3.out (fun h => h))
  have HK4 := Lib.hid (HK3.out.keep hm4)
  clear hm4
  go_wp2_with fail
  refine (supply_any _ _ _ HB4.out OM.out).mono ?_
  rw [S0.out]
  rintro r w5 ⟨rfl, hd5⟩
  have HA5 := Lib.hid ((hd5.mods (S := fun _ => False)).at HA4.out (fun h => h))
  have HK5 := Lib.hid (HK4.out.keep hd5.mods)
  clear hd5
  go_wp2_with fail
  refine (supply_any _ _ _ HA5.out OX.out).mono ?_
  rw [SX.out]
  rintro r w6 ⟨rfl, hd6⟩
  have HK6 := Lib.hid (HK5.out.keep hd6.mods)
  clear hd6
  go_wp2
  go_ret
  exact ⟨rfl, HK6.out.below'⟩
set_option maxHeartbeats 400000 in
theorem ledgerEmpties_walk (c m t : Int) (w : World) (w0 : (Lit.int .u64 c).wf = true) (w1 : (Lit.int .u64 m).wf = true) (w2 : (Lit.int .u64 t).wf = true) :
    Calls Try.prog 7 #[.int .u64 c, .int .u64 m, .int .u64 t] w fun r w' => r = .returned (.bool true) ∧ Below w.heap.size w w' := by
  obtain ⟨hc0, hc1⟩ := bounds_u64 w0
  obtain ⟨hm0, hm1⟩ := bounds_u64 w1
  obtain ⟨ht0, ht1⟩ := bounds_u64 w2
  have C1 := Lib.hid (show c ≤ maxU from hc1)
  have M1 := Lib.hid (show m ≤ maxU from hm1)
  have OM := Lib.hid (led0_ok hc0 C1.out)
  clear w0 w1 w2 hc1 ht1
  go_enter Try.func7, Try.ntmps7
  go_wp2_with fail
  refine (ledNew_any c w).mono ?_
  rintro r w1 ⟨rfl, rfl⟩
  obtain ⟨w1, hw1⟩ : ∃ w1, w1 = w.alloc (ledB (led0 c)) := ⟨_, rfl⟩
  have HA := Lib.hid (show w1.heap[w.heap.size]? = some (ledB (led0 c)) from hw1 ▸ heap_alloc_last w _)
  have HK := Lib.hid (show Keeps w w1 from hw1 ▸ (Mods.refl (fun _ => False) w).alloc _)
  rw [show w.alloc (ledB ⟨0, 0, 0, c⟩) = w1 from hw1.symm]
  clear hw1
  by_cases hgt : c < m
  · have D1 := Lib.hid (show (led0 c).depC m = 4 from by
      rcases (led0 c).dep_cases m with ⟨_, e, _⟩ | ⟨h, _⟩ | ⟨h, _⟩
      · exact e
      · exact absurd h (by unfold led0 Led.sup; simp only; omega)
      · exact absurd h (by unfold led0 Led.sup; simp only; omega))
    go_wp2_with fail
    refine (alive_any _).mono ?_
    rintro r w3 ⟨rfl, hm3⟩
    have HA3 := Lib.hid (hm3.at HA.out (fun h => h))
    have HK3 := Lib.hid (HK.out.keep hm3)
    clear hm3
    go_wp2_with fail
    refine (dep_any _ _ m _ HA3.out OM.out hm0 M1.out).mono ?_
    rw [D1.out]
    rintro r w4 ⟨rfl, hb4, hm4⟩
    have HK4 := Lib.hid (HK3.out.seq hm4 (fun i hi h => by omega))
    clear hb4 hm4
    go_wp2
    go_ret
    exact ⟨rfl, HK4.out.below'⟩
  · have D1 := Lib.hid (show (led0 c).depC m = 0 ∧ (led0 c).dep m = ⟨m, 0, 0, c⟩ from by
      rcases (led0 c).dep_cases m with ⟨h, _⟩ | ⟨_, h, _⟩ | ⟨_, _, e1, e2⟩
      · exact absurd h (by unfold led0 Led.sup; simp only; omega)
      · exact absurd h (by have := M1.out; unfold led0; simp only; omega)
      · refine ⟨e1, ?_⟩
        rw [e2]
        unfold led0
        simp)
    have O1 := Lib.hid (show (⟨m, 0, 0, c⟩ : Led).ok from by rw [← D1.out.2]; exact Led.dep_ok OM.out hm0)
    obtain ⟨pt, hpt⟩ : ∃ pt : Int, (if m < t then m else t) = pt := ⟨_, rfl⟩
    have hp : 0 ≤ pt ∧ pt ≤ m := by rw [← hpt]; split <;> omega
    have P1 := Lib.hid (show pt ≤ maxU from by have := M1.out; omega)
    obtain ⟨hp0, hp1⟩ := hp
    have D2 := Lib.hid (show (⟨m, 0, 0, c⟩ : Led).outC pt = 0 ∧ (⟨m, 0, 0, c⟩ : Led).pay pt = ⟨m, pt, 0, c⟩ from by
      rcases (⟨m, 0, 0, c⟩ : Led).out_cases pt with ⟨h, _⟩ | ⟨_, e1, e2, _⟩
      · exact absurd h (by unfold Led.sup; simp only; omega)
      · exact ⟨e1, by rw [e2]; simp⟩)
    have O2 := Lib.hid (show (⟨m, pt, 0, c⟩ : Led).ok from by rw [← D2.out.2]; exact Led.pay_ok O1.out hp0)
    have D3 := Lib.hid (show (⟨m, pt, 0, c⟩ : Led).outC (m - pt) = 0 ∧ (⟨m, pt, 0, c⟩ : Led).burn (m - pt) = ⟨m, pt, m - pt, c⟩ from by
      rcases (⟨m, pt, 0, c⟩ : Led).out_cases (m - pt) with ⟨h, _⟩ | ⟨_, e1, _, e2⟩
      · exact absurd h (by unfold Led.sup; simp only; omega)
      · exact ⟨e1, by rw [e2]; simp⟩)
    have O3 := Lib.hid (show (⟨m, pt, m - pt, c⟩ : Led).ok from by rw [← D3.out.2]; exact Led.burn_ok O2.out (by omega))
    have S3 := Lib.hid (show (⟨m, pt, m - pt, c⟩ : Led).sup = 0 from by unfold Led.sup; simp only; omega)
    obtain ⟨rm, hrm⟩ : ∃ rm : Int, (if 18446744073709551615 - m < c then 18446744073709551615 - m else c) = rm := ⟨_, rfl⟩
    have R3 := Lib.hid (show (⟨m, pt, m - pt, c⟩ : Led).room = rm from by unfold Led.room; rw [S3.out, ← hrm]; unfold maxU; simp only; split <;> omega)
    have D4 := Lib.hid (show (⟨m, pt, m - pt, c⟩ : Led).outC 1 = 3 from by unfold Led.outC; rw [S3.out]; rfl)
    have eT := eqT m pt (m - pt)
    go_wp2_with fail
    refine (dep_any _ _ m _ HA.out OM.out hm0 M1.out).mono ?_
    rw [D1.out.1, D1.out.2]
    rintro r w2 ⟨rfl, hb2, hm2⟩
    have HA2 := Lib.hid hb2
    have HK2 := Lib.hid (HK.out.seq hm2 (fun i hi h => by omega))
    clear hb2 hm2
    go_wp2_with fail
    refine (pay_any _ _ pt _ HA2.out O1.out hp0 P1.out).mono ?_
    rw [D2.out.1, D2.out.2]
    rintro r w3 ⟨rfl, hb3, hm3⟩
    have HA3 := Lib.hid hb3
    have HK3 := Lib.hid (HK2.out.seq hm3 (fun i hi h => by omega))
    clear hb3 hm3
    go_wp2_with fail
    refine (burn_any _ _ (m - pt) _ HA3.out O2.out (by omega) (by have := M1.out; omega)).mono ?_
    rw [D3.out.1, D3.out.2]
    rintro r w4 ⟨rfl, hb4, hm4⟩
    have HA4 := Lib.hid hb4
    have HK4 := Lib.hid (HK3.out.seq hm4 (fun i hi h => by omega))
    clear hb4 hm4
    go_wp2_with fail
    refine (alive_any _).mono ?_
    rintro r w5 ⟨rfl, hm5⟩
    have HA5 := Lib.hid (hm5.at HA4.out (fun h => h))
    have HK5 := Lib.hid (HK4.out.keep hm5)
    clear hm5
    go_wp2_with fail
    refine (supply_any _ _ _ HA5.out O3.out).mono ?_
    rw [S3.out]
    rintro r w6 ⟨rfl, hd6⟩
    have HA6 := Lib.hid ((hd6.mods (S := fun _ => False)).at HA5.out (fun h => h))
    have HK6 := Lib.hid (HK5.out.keep hd6.mods)
    clear hd6
    go_wp2_with fail
    refine (totals_any _ _ _ HA6.out).mono ?_
    rintro r w7 ⟨rfl, hm7⟩
    have HA7 := Lib.hid (hm7.at HA6.out (fun h => h))
    have HK7 := Lib.hid (HK6.out.keep hm7)
    clear hm7
    go_wp2_with fail
    refine (room_any _ _ _ HA7.out O3.out).mono ?_
    rw [R3.out]
    rintro r w8 ⟨rfl, hd8⟩
    have HA8 := Lib.hid ((hd8.mods (S := fun _ => False)).at HA7.out (fun h => h))
    have HK8 := Lib.hid (HK7.out.keep hd8.mods)
    clear hd8
    go_wp2_with fail
    refine (pay_any _ _ 1 _ HA8.out O3.out (by omega) (by unfold maxU; omega)).mono ?_
    rw [D4.out]
    rintro r w9 ⟨rfl, hb9, hm9⟩
    have HK9 := Lib.hid (HK8.out.seq hm9 (fun i hi h => by omega))
    clear hb9 hm9
    go_wp2
    go_ret
    exact ⟨rfl, HK9.out.below'⟩
end Go.Proofs.Ytcipelkomgpngaa
