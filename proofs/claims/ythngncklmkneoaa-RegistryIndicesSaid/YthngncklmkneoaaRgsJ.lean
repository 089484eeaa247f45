/- The walk of RegistryOverflow. -/
import Derived.Test.YthngncklmkneoaaRgsI
namespace Go.Proofs.Ythngncklmkneoaa
open Go.RowKit Go.Eg
theorem regSet_law {B : Nat} {w w0 : World} {g m : Nat} {lv : Value} {cap : Int} {l : List Vd} {n : Nat} (h : RegAt B w g m lv cap l n) (hB : ∀ k, RegS g m lv k → w0.heap.size ≤ k) (hk : Keeps w0 w) (v : Vd) (hv : v.ok) (i : Nat) (hi : i < l.length) (ho : totS (l.set i v) ≤ maxU) (hn : n + 1 < 4294967296) :
    Calls Try.prog 16 #[.pointer (some ⟨g, 0, none⟩), .int .i64 (i : Int), v.val] w fun r w' => r = .returned (.int .i64 0) ∧ RegAt B w' g m lv cap (l.set i v) (n + 2) ∧ Keeps w0 w' :=
  (regSet_any h v hv i hi ho hn).mono fun r w' ⟨hr, hg, hm⟩ => ⟨hr, hg, hk.seq hm fun i hi hs => by have := hB i hs; omega⟩
theorem new_own (w : World) : ∀ k, RegS (w.heap.size + 1) w.heap.size (.slice none 0 0) k → w.heap.size ≤ k := by
  rintro k (h | h | h)
  · omega
  · omega
  · cases h
set_option maxHeartbeats 400000 in
theorem registryOverflow_walk (a b x : Int) (w : World) (w0 : (Lit.int .u64 a).wf = true) (w1 : (Lit.int .u64 b).wf = true) (w2 : (Lit.int .i64 x).wf = true) :
    Calls Try.prog 5 #[.int .u64 a, .int .u64 b, .int .i64 x] w fun r w' => r = .returned (.bool true) ∧ Below w.heap.size w w' := by
  obtain ⟨a0, a1⟩ := bounds_u64 w0
  obtain ⟨b0, b1⟩ := bounds_u64 w1
  have va : Hid (Vd.ok ⟨a, x, false, 0, 0, 0, 0⟩) := Lib.hid ⟨a0, a1, w2⟩
  have vb : Hid (Vd.ok ⟨b, x, false, 0, 0, 0, 0⟩) := Lib.hid ⟨b0, b1, w2⟩
  have vm : Hid (Vd.ok ⟨18446744073709551615, x, false, 0, 0, 0, 0⟩) := Lib.hid ⟨by show (0 : Int) ≤ 18446744073709551615; omega, by show (18446744073709551615 : Int) ≤ maxU; unfold maxU; omega, w2⟩
  have s0 := Lib.hid (show totS [] + a ≤ maxU by unfold maxU totS; omega)
  have A1 := Lib.hid a1
  have B1 := Lib.hid b1
  have ws := u64_id (x := 18446744073709551615 - a) (by omega) (by unfold maxU; omega)
  clear w0 w1 w2
  by_cases h1 : 18446744073709551615 - a < b
  · have n1 := Lib.hid (show ¬ totS [(⟨a, x, false, 0, 0, 0, 0⟩ : Vd)] + b ≤ maxU by simp only [totS]; unfold maxU; omega)
    have n2 := Lib.hid (show totS ([(⟨a, x, false, 0, 0, 0, 0⟩ : Vd)].set 0 ⟨18446744073709551615, x, false, 0, 0, 0, 0⟩) ≤ maxU by simp [totS, maxU])
    have n3 := Lib.hid (show totS ([(⟨a, x, false, 0, 0, 0, 0⟩ : Vd)].set 0 ⟨18446744073709551615, x, false, 0, 0, 0, 0⟩) = 18446744073709551615 by simp [totS])
    go_enter Try.func5, Try.ntmps5
    go_wp2_with fail
    refine (regNew_any 4 w (by omega) (by omega)).mono ?_
    rintro r w1 ⟨rfl, hr1, hk1⟩
    have HR1 := Lib.hid hr1
    have HK1 := Lib.hid hk1
    clear hr1 hk1
    go_wp2_with fail
    refine (regAdd_law HR1.out (new_own w) HK1.out ⟨a, x, false, 0, 0, 0, 0⟩ va.out (by simp) s0.out (by omega)).mono ?_
    rintro r w2 ⟨rfl, lv2, hr2, hs2, hk2⟩
    have HR2 := Lib.hid hr2
    have HK2 := Lib.hid hk2
    have HS2 := Lib.hid hs2
    clear hr2 hk2 hs2
    rw [List.nil_append] at HR2
    go_wp2_with fail
    refine (regAdd_over HR2.out ⟨b, x, false, 0, 0, 0, 0⟩ vb.out (by simp) (Int.not_le.2 n1.out)).mono ?_
    rintro r w3 ⟨rfl, hk3⟩
    have HR3 := Lib.hid (HR2.out.keeps hk3)
    have HK3 := Lib.hid (HK2.out.keep hk3)
    clear hk3
    go_wp2_with fail
    refine (regSet_law HR3.out HS2.out HK3.out ⟨18446744073709551615, x, false, 0, 0, 0, 0⟩ vm.out 0 (by simp) n2.out (by omega)).mono ?_
    rintro r w4 ⟨rfl, hr4, hk4⟩
    have HR4 := Lib.hid hr4
    have HK4 := Lib.hid hk4
    clear hr4 hk4
    go_wp2_with fail
    refine (alive_any _).mono ?_
    rintro r w5 ⟨rfl, hk5⟩
    have HR5 := Lib.hid (HR4.out.keeps hk5)
    have HK5 := Lib.hid (HK4.out.keep hk5)
    clear hk5
    go_wp2_with fail
    refine (regLen_any HR5.out).mono ?_
    rintro r w6 ⟨rfl, rfl⟩
    go_wp2_with fail
    refine (regTotal_any HR5.out).mono ?_
    rintro r w6 ⟨rfl, rfl⟩
    rw [n3.out]
    go_wp2
    go_ret
    exact ⟨rfl, HK5.out.below'⟩
  · have n1 := Lib.hid (show totS [(⟨a, x, false, 0, 0, 0, 0⟩ : Vd)] + b ≤ maxU by simp only [totS]; unfold maxU; omega)
    have wab := u64_id (x := a + b) (by omega) (by unfold maxU; omega)
    by_cases h2 : 0 < b
    · have n2 := Lib.hid (show ¬ totS ([(⟨a, x, false, 0, 0, 0, 0⟩ : Vd), ⟨b, x, false, 0, 0, 0, 0⟩].set 0 ⟨18446744073709551615, x, false, 0, 0, 0, 0⟩) ≤ maxU by simp [totS, maxU]; omega)
      have n3 := Lib.hid (show totS [(⟨a, x, false, 0, 0, 0, 0⟩ : Vd), ⟨b, x, false, 0, 0, 0, 0⟩] = a + b by simp [totS])
      go_enter Try.func5, Try.ntmps5
      go_wp2_with fail
      refine (regNew_any 4 w (by omega) (by omega)).mono ?_
      rintro r w1 ⟨rfl, hr1, hk1⟩
      have HR1 := Lib.hid hr1
      have HK1 := Lib.hid hk1
      clear hr1 hk1
      go_wp2_with fail
      refine (regAdd_law HR1.out (new_own w) HK1.out ⟨a, x, false, 0, 0, 0, 0⟩ va.out (by simp) s0.out (by omega)).mono ?_
      rintro r w2 ⟨rfl, lv2, hr2, hs2, hk2⟩
      have HR2 := Lib.hid hr2
      have HK2 := Lib.hid hk2
      have HS2 := Lib.hid hs2
      clear hr2 hk2 hs2
      rw [List.nil_append] at HR2
      go_wp2_with fail
      refine (regAdd_law HR2.out HS2.out HK2.out ⟨b, x, false, 0, 0, 0, 0⟩ vb.out (by simp) n1.out (by omega)).mono ?_
      rintro r w3 ⟨rfl, lv3, hr3, hs3, hk3⟩
      have HR3 := Lib.hid hr3
      have HK3 := Lib.hid hk3
      have HS3 := Lib.hid hs3
      clear hr3 hk3 hs3
      rw [List.cons_append, List.nil_append] at HR3
      go_wp2_with fail
      refine (regSet_over HR3.out ⟨18446744073709551615, x, false, 0, 0, 0, 0⟩ 0 (by simp) (Int.not_le.2 n2.out)).mono ?_
      rintro r w4 ⟨rfl, hk4⟩
      have HR4 := Lib.hid (HR3.out.keeps hk4)
      have HK4 := Lib.hid (HK3.out.keep hk4)
      clear hk4
      go_wp2_with fail
      refine (alive_any _).mono ?_
      rintro r w5 ⟨rfl, hk5⟩
      have HR5 := Lib.hid (HR4.out.keeps hk5)
      have HK5 := Lib.hid (HK4.out.keep hk5)
      clear hk5
      go_wp2_with fail
      refine (regTotal_any HR5.out).mono ?_
      rintro r w6 ⟨rfl, rfl⟩
      rw [n3.out]
      go_wp2
      go_ret
      exact ⟨rfl, HK5.out.below'⟩
    · obtain rfl : b = 0 := by omega
      have n2 := Lib.hid (show totS ([(⟨a, x, false, 0, 0, 0, 0⟩ : Vd), ⟨0, x, false, 0, 0, 0, 0⟩].set 0 ⟨18446744073709551615, x, false, 0, 0, 0, 0⟩) ≤ maxU by simp [totS, maxU])
      have n3 := Lib.hid (show totS ([(⟨a, x, false, 0, 0, 0, 0⟩ : Vd), ⟨0, x, false, 0, 0, 0, 0⟩].set 0 ⟨18446744073709551615, x, false, 0, 0, 0, 0⟩) = 18446744073709551615 by simp [totS])
      go_enter Try.func5, Try.ntmps5
      go_wp2_with fail
      refine (regNew_any 4 w (by omega) (by omega)).mono ?_
      rintro r w1 ⟨rfl, hr1, hk1⟩
      have HR1 := Lib.hid hr1
      have HK1 := Lib.hid hk1
      clear hr1 hk1
      go_wp2_with fail
      refine (regAdd_law HR1.out (new_own w) HK1.out ⟨a, x, false, 0, 0, 0, 0⟩ va.out (by simp) s0.out (by omega)).mono ?_
      rintro r w2 ⟨rfl, lv2, hr2, hs2, hk2⟩
      have HR2 := Lib.hid hr2
      have HK2 := Lib.hid hk2
      have HS2 := Lib.hid hs2
      clear hr2 hk2 hs2
      rw [List.nil_append] at HR2
      go_wp2_with fail
      refine (regAdd_law HR2.out HS2.out HK2.out ⟨0, x, false, 0, 0, 0, 0⟩ vb.out (by simp) n1.out (by omega)).mono ?_
      rintro r w3 ⟨rfl, lv3, hr3, hs3, hk3⟩
      have HR3 := Lib.hid hr3
      have HK3 := Lib.hid hk3
      have HS3 := Lib.hid hs3
      clear hr3 hk3 hs3
      rw [List.cons_append, List.nil_append] at HR3
      go_wp2_with fail
      refine (regSet_law HR3.out HS3.out HK3.out ⟨18446744073709551615, x, false, 0, 0, 0, 0⟩ vm.out 0 (by simp) n2.out (by omega)).mono ?_
      rintro r w4 ⟨rfl, hr4, hk4⟩
      have HR4 := Lib.hid hr4
      have HK4 := Lib.hid hk4
      clear hr4 hk4
      go_wp2_with fail
      refine (alive_any _).mono ?_
      rintro r w5 ⟨rfl, hk5⟩
      have HR5 := Lib.hid (HR4.out.keeps hk5)
      have HK5 := Lib.hid (HK4.out.keep hk5)
      clear hk5
      go_wp2_with fail
      refine (regTotal_any HR5.out).mono ?_
      rintro r w6 ⟨rfl, rfl⟩
      rw [n3.out]
      go_wp2
      go_ret
      exact ⟨rfl, HK5.out.below'⟩
end Go.Proofs.Ythngncklmkneoaa
