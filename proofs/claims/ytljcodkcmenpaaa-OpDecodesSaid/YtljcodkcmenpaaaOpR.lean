/- The reference's Decode, the full way; the walk of OpDecodes. -/
import Derived.Test.YtljcodkcmenpaaaOpQ
namespace Go.Proofs.Ytljcodkcmenpaaa
open Go.RowKit Go.Eg
theorem bl_mods {w w' : World} {b off n cap g : Nat} {l : List Int} (h : BL w (.slice (some ⟨b, off, none⟩) n cap) l) (hm : Mods (fun q => q = g) w w') (hb : b ≠ g) : BL w' (.slice (some ⟨b, off, none⟩) n cap) l := by
  obtain ⟨p, c, e, hc, h0, hx⟩ := h
  refine ⟨p, c, e, hc, h0, fun hl => ?_⟩
  obtain ⟨q, o2, rfl, hcc⟩ := hx hl
  simp only [Value.slice.injEq, Option.some.injEq, Addr.mk.injEq, and_true] at e
  obtain ⟨⟨rfl, rfl⟩, _, rfl⟩ := e
  exact ⟨b, off, rfl, fun i hi => hm.cell (hcc i hi) hb⟩
theorem rdec_last {w wr : World} {o0 : Od} (hm : Mods (fun i => i = w.heap.size + 1) ((w.alloc (odB od0)).alloc (odB o0)) wr) (a b c d : Int) :
    ∃ W, W = (((wr.setCell ⟨w.heap.size, 0, none⟩ (.int .i64 a)).setCell ⟨w.heap.size, 1, none⟩ (.int .i64 b)).setCell ⟨w.heap.size, 2, none⟩ (.int .i64 c)).setCell ⟨w.heap.size, 3, none⟩ (.int .u64 d) ∧ W.heap[w.heap.size]? = some (odB ⟨a, b, c, d⟩) ∧ Keeps w W := by
  have h6 := hm.at (heap_keep (heap_alloc_last w (odB od0)) (odB o0)) (by omega)
  refine ⟨_, rfl, heap_setCell_same _ _ 3 _ _ _ (heap_setCell_same _ _ 2 _ _ _ (heap_setCell_same _ _ 1 _ _ _ (heap_setCell_same _ _ 0 _ _ _ h6))), ?_⟩
  have h1 : Keeps w wr := (((Mods.refl (fun _ => False) w).alloc (odB od0)).alloc (odB o0)).seq hm fun i hi h => by omega
  exact ((((h1).setCell _ _ fun h => Nat.lt_irrefl _ h).setCell _ _ fun h => Nat.lt_irrefl _ h).setCell _ _ fun h => Nat.lt_irrefl _ h).setCell _ _ fun h => Nat.lt_irrefl _ h
set_option maxHeartbeats 1000000 in
theorem rdec1 (v : Value) (l : List Int) (i : Nat) (w : World) (hv : BL w v l) (hb : Bytes l) (hi : i < l.length) (h64 : l.length ≤ 4294967296) (hk : l[i] = 1) (hs : 9 ≤ l.length - i) :
    Calls Try.prog 17 #[v, .int .i64 (i : Int)] w fun r w' => r = .returned (.tuple #[(fillD [2] ⟨1, 0, 0, 0⟩ (l.drop (i + 1))).val, .int .i64 ((i + 9 : Nat) : Int), .bool true]) ∧ Keeps w w' := by
  obtain ⟨a, cap, rfl⟩ := hv.slice
  obtain ⟨b, off, rfl, x0⟩ := hv.at i hi
  rw [hk] at x0
  have hcap : l.length ≤ cap := by
    obtain ⟨a, c, e, h, _⟩ := hv
    simp only [Value.slice.injEq] at e
    omega
  have hil : (i : Int) < (l.length : Int) := by omega
  have hlt := cell_lt x0
  have HS2 := Lib.hid (bl_mid hv (i + 1) 8 (by omega))
  have HB2 : Hid (Bytes ((l.drop (i + 1)).take 8)) := Lib.hid fun x hx => hb x (List.mem_of_mem_drop (List.mem_of_mem_take hx))
  have HL2 := Lib.hid (show ((l.drop (i + 1)).take 8).length ≤ 8 by rw [List.length_take]; omega)
  have HR : Hid (fillD [2] ⟨1, 0, 0, 0⟩ (l.drop (i + 1)) = ⟨1, 0, 0, valL ((l.drop (i + 1)).take 8)⟩) := Lib.hid (by
    rfl)
  generalize hV2 : valL ((l.drop (i + 1)).take 8) = U2 at *
  have HV2 := Lib.hid hV2
  clear hV2
  have e2 : U2 = U2 := rfl
  clear e2
  clear hv hb hk
  go_enter Try.func17, Try.ntmps17
  go_wp2_with fail
  refine (refSize_any 1 _).mono ?_
  rw [show sizeK 1 = 9 from rfl]
  rintro r w1 ⟨rfl, rfl⟩
  go_wp2_with fail
  obtain ⟨w2, hw2⟩ : ∃ w2, w2 = (w.alloc (odB od0)).alloc (odB ⟨1, 0, 0, 0⟩) := ⟨_, rfl⟩
  have HOD : Hid (w2.heap[w.heap.size + 1]? = some (odB ⟨1, 0, 0, 0⟩)) := Lib.hid (hw2 ▸ heap_alloc2_new' w _ _)
  have HK2 : Hid (Keeps w w2) := Lib.hid (hw2 ▸ ((Mods.refl _ w).alloc _).alloc _)
  have HW2 := Lib.hid hw2
  rw [show (w.alloc (.cells #[.int .i64 0, .int .i64 0, .int .i64 0, .int .u64 0] 24)).alloc (.cells #[.int .i64 1, .int .i64 0, .int .i64 0, .int .u64 0] 24) = w2 from hw2.symm]
  clear hw2
  refine (operandsR_in 1 w2 (by simp)).mono ?_
  rintro r w3 ⟨rfl, rfl⟩
  rw [show strB 1 = ⟨#[97]⟩ from rfl]
  go_wp2_with fail
  go_loopw [10, 12] (fun nx ii wr => (ii = .int .i64 0 ∧ nx = .int .i64 ((i + 1 : Nat) : Int) ∧ wr.heap[w.heap.size + 1]? = some (odB ⟨1, 0, 0, 0⟩) ∧ Mods (fun q => q = w.heap.size + 1) w2 wr) ∨ (ii = .int .i64 1 ∧ nx = .int .i64 ((i + 9 : Nat) : Int) ∧ wr.heap[w.heap.size + 1]? = some (odB ⟨1, 0, 0, U2⟩) ∧ Mods (fun q => q = w.heap.size + 1) w2 wr)) (fun _ ii _ => 1 - (intOf ii).toNat)
  case atStart => exact .inl ⟨rfl, by go_num, HOD.out, Mods.refl _ _⟩
  case round =>
    rcases hrel with ⟨rfl, rfl, hod, hm⟩ | ⟨rfl, rfl, hod, hm⟩
    · have HODJ := Lib.hid hod
      have HM := Lib.hid hm
      obtain ⟨q0, q1, q2, q3⟩ := od_cells hod
      have f1 := od_free hod 1
      have f2 := od_free hod 2
      have f3 := od_free hod 3
      simp only at q0 q1 q2 q3
      have hgl := heap_lt hod
      have HSV := Lib.hid (value_any _ _ wr (bl_mods (HS2.out.keeps HK2.out) hm (by omega)) HB2.out HL2.out)
      rw [HV2.out] at HSV
      clear hod hm
      go_wp2_with fail
      refine HSV.out.mono ?_
      rintro r w4 ⟨rfl, rfl⟩
      go_wp2
      go_roundw
      case rel => exact (.inr ⟨rfl, by go_num, heap_setCell_same _ _ 3 _ _ _ HODJ.out, HM.out.setCell _ _ (fun _ => rfl)⟩)
      case measure => simp [intOf]
    · have HODJ := Lib.hid hod
      have HM := Lib.hid hm
      obtain ⟨q0, q1, q2, q3⟩ := od_cells hod
      have f1 := od_free hod 1
      have f2 := od_free hod 2
      have f3 := od_free hod 3
      simp only at q0 q1 q2 q3
      have hgl := heap_lt hod
      have hm' := hm
      rw [HW2.out] at hm'
      obtain ⟨W, hW, hb1, hb2⟩ := rdec_last hm' 1 0 0 U2
      have HVB := Lib.hid (hm'.at (heap_keep (heap_alloc_last w (odB od0)) (odB ⟨1, 0, 0, 0⟩)) (by omega))
      obtain ⟨p0, p1, p2, p3⟩ := od_cells HVB.out
      have g0 := od_free HVB.out 0
      have g1 := od_free HVB.out 1
      have g2 := od_free HVB.out 2
      have g3 := od_free HVB.out 3
      have hwl := heap_lt HVB.out
      have HWE := Lib.hid hW
      have HB1 := Lib.hid hb1
      have HB2 := Lib.hid hb2
      clear hod hm hm' hW hb1 hb2
      go_wp2
      rw [← HWE.out]
      obtain ⟨s0, s1, s2, s3⟩ := od_cells HB1.out
      simp only at s0 s1 s2 s3
      exact bodyPost_ret (v := .tuple #[Od.val ⟨1, 0, 0, U2⟩, .int .i64 ((i + 9 : Nat) : Int), .bool true]) (by simp [results, Try.results17, go_sem, s0, s1, s2, s3]) rfl ⟨by rw [HR.out], HB2.out⟩
set_option maxHeartbeats 1000000 in
theorem rdec2 (v : Value) (l : List Int) (i : Nat) (w : World) (hv : BL w v l) (hb : Bytes l) (hi : i < l.length) (h64 : l.length ≤ 4294967296) (hk : l[i] = 2) (hs : 3 ≤ l.length - i) :
    Calls Try.prog 17 #[v, .int .i64 (i : Int)] w fun r w' => r = .returned (.tuple #[(fillD [0] ⟨2, 0, 0, 0⟩ (l.drop (i + 1))).val, .int .i64 ((i + 3 : Nat) : Int), .bool true]) ∧ Keeps w w' := by
  obtain ⟨a, cap, rfl⟩ := hv.slice
  obtain ⟨b, off, rfl, x0⟩ := hv.at i hi
  rw [hk] at x0
  have hcap : l.length ≤ cap := by
    obtain ⟨a, c, e, h, _⟩ := hv
    simp only [Value.slice.injEq] at e
    omega
  have hil : (i : Int) < (l.length : Int) := by omega
  have hlt := cell_lt x0
  have HS0 := Lib.hid (bl_mid hv (i + 1) 2 (by omega))
  have HB0 : Hid (Bytes ((l.drop (i + 1)).take 2)) := Lib.hid fun x hx => hb x (List.mem_of_mem_drop (List.mem_of_mem_take hx))
  have HL0 := Lib.hid (show ((l.drop (i + 1)).take 2).length ≤ 8 by rw [List.length_take]; omega)
  have HR : Hid (fillD [0] ⟨2, 0, 0, 0⟩ (l.drop (i + 1)) = ⟨2, wrap64 (valL ((l.drop (i + 1)).take 2)), 0, 0⟩) := Lib.hid (by
    rfl)
  generalize hV0 : valL ((l.drop (i + 1)).take 2) = U0 at *
  have HV0 := Lib.hid hV0
  clear hV0
  obtain ⟨V0, hW0⟩ : ∃ V, V = wrap64 U0 := ⟨_, rfl⟩
  rw [← hW0] at HR
  have HW0 := Lib.hid hW0
  clear hW0
  clear hv hb hk
  go_enter Try.func17, Try.ntmps17
  go_wp2_with fail
  refine (refSize_any 2 _).mono ?_
  rw [show sizeK 2 = 3 from rfl]
  rintro r w1 ⟨rfl, rfl⟩
  go_wp2_with fail
  obtain ⟨w2, hw2⟩ : ∃ w2, w2 = (w.alloc (odB od0)).alloc (odB ⟨2, 0, 0, 0⟩) := ⟨_, rfl⟩
  have HOD : Hid (w2.heap[w.heap.size + 1]? = some (odB ⟨2, 0, 0, 0⟩)) := Lib.hid (hw2 ▸ heap_alloc2_new' w _ _)
  have HK2 : Hid (Keeps w w2) := Lib.hid (hw2 ▸ ((Mods.refl _ w).alloc _).alloc _)
  have HW2 := Lib.hid hw2
  rw [show (w.alloc (.cells #[.int .i64 0, .int .i64 0, .int .i64 0, .int .u64 0] 24)).alloc (.cells #[.int .i64 2, .int .i64 0, .int .i64 0, .int .u64 0] 24) = w2 from hw2.symm]
  clear hw2
  refine (operandsR_in 2 w2 (by simp)).mono ?_
  rintro r w3 ⟨rfl, rfl⟩
  rw [show strB 2 = ⟨#[105]⟩ from rfl]
  go_wp2_with fail
  go_loopw [10, 12] (fun nx ii wr => (ii = .int .i64 0 ∧ nx = .int .i64 ((i + 1 : Nat) : Int) ∧ wr.heap[w.heap.size + 1]? = some (odB ⟨2, 0, 0, 0⟩) ∧ Mods (fun q => q = w.heap.size + 1) w2 wr) ∨ (ii = .int .i64 1 ∧ nx = .int .i64 ((i + 3 : Nat) : Int) ∧ wr.heap[w.heap.size + 1]? = some (odB ⟨2, V0, 0, 0⟩) ∧ Mods (fun q => q = w.heap.size + 1) w2 wr)) (fun _ ii _ => 1 - (intOf ii).toNat)
  case atStart => exact .inl ⟨rfl, by go_num, HOD.out, Mods.refl _ _⟩
  case round =>
    rcases hrel with ⟨rfl, rfl, hod, hm⟩ | ⟨rfl, rfl, hod, hm⟩
    · have HODJ := Lib.hid hod
      have HM := Lib.hid hm
      obtain ⟨q0, q1, q2, q3⟩ := od_cells hod
      have f1 := od_free hod 1
      have f2 := od_free hod 2
      have f3 := od_free hod 3
      simp only at q0 q1 q2 q3
      have hgl := heap_lt hod
      have HSV := Lib.hid (value_any _ _ wr (bl_mods (HS0.out.keeps HK2.out) hm (by omega)) HB0.out HL0.out)
      rw [HV0.out] at HSV
      clear hod hm
      go_wp2_with fail
      refine HSV.out.mono ?_
      rintro r w4 ⟨rfl, rfl⟩
      go_wp2
      go_roundw
      case rel => exact (.inr ⟨rfl, by go_num, by rw [HW0.out]; exact heap_setCell_same _ _ 1 _ _ _ HODJ.out, HM.out.setCell _ _ (fun _ => rfl)⟩)
      case measure => simp [intOf]
    · have HODJ := Lib.hid hod
      have HM := Lib.hid hm
      obtain ⟨q0, q1, q2, q3⟩ := od_cells hod
      have f1 := od_free hod 1
      have f2 := od_free hod 2
      have f3 := od_free hod 3
      simp only at q0 q1 q2 q3
      have hgl := heap_lt hod
      have hm' := hm
      rw [HW2.out] at hm'
      obtain ⟨W, hW, hb1, hb2⟩ := rdec_last hm' 2 V0 0 0
      have HVB := Lib.hid (hm'.at (heap_keep (heap_alloc_last w (odB od0)) (odB ⟨2, 0, 0, 0⟩)) (by omega))
      obtain ⟨p0, p1, p2, p3⟩ := od_cells HVB.out
      have g0 := od_free HVB.out 0
      have g1 := od_free HVB.out 1
      have g2 := od_free HVB.out 2
      have g3 := od_free HVB.out 3
      have hwl := heap_lt HVB.out
      have HWE := Lib.hid hW
      have HB1 := Lib.hid hb1
      have HB2 := Lib.hid hb2
      clear hod hm hm' hW hb1 hb2
      go_wp2
      rw [← HWE.out]
      obtain ⟨s0, s1, s2, s3⟩ := od_cells HB1.out
      simp only at s0 s1 s2 s3
      exact bodyPost_ret (v := .tuple #[Od.val ⟨2, V0, 0, 0⟩, .int .i64 ((i + 3 : Nat) : Int), .bool true]) (by simp [results, Try.results17, go_sem, s0, s1, s2, s3]) rfl ⟨by rw [HR.out], HB2.out⟩
set_option maxHeartbeats 1000000 in
theorem rdec3 (v : Value) (l : List Int) (i : Nat) (w : World) (hv : BL w v l) (hb : Bytes l) (hi : i < l.length) (h64 : l.length ≤ 4294967296) (hk : l[i] = 3) (hs : 3 ≤ l.length - i) :
    Calls Try.prog 17 #[v, .int .i64 (i : Int)] w fun r w' => r = .returned (.tuple #[(fillD [0] ⟨3, 0, 0, 0⟩ (l.drop (i + 1))).val, .int .i64 ((i + 3 : Nat) : Int), .bool true]) ∧ Keeps w w' := by
  obtain ⟨a, cap, rfl⟩ := hv.slice
  obtain ⟨b, off, rfl, x0⟩ := hv.at i hi
  rw [hk] at x0
  have hcap : l.length ≤ cap := by
    obtain ⟨a, c, e, h, _⟩ := hv
    simp only [Value.slice.injEq] at e
    omega
  have hil : (i : Int) < (l.length : Int) := by omega
  have hlt := cell_lt x0
  have HS0 := Lib.hid (bl_mid hv (i + 1) 2 (by omega))
  have HB0 : Hid (Bytes ((l.drop (i + 1)).take 2)) := Lib.hid fun x hx => hb x (List.mem_of_mem_drop (List.mem_of_mem_take hx))
  have HL0 := Lib.hid (show ((l.drop (i + 1)).take 2).length ≤ 8 by rw [List.length_take]; omega)
  have HR : Hid (fillD [0] ⟨3, 0, 0, 0⟩ (l.drop (i + 1)) = ⟨3, wrap64 (valL ((l.drop (i + 1)).take 2)), 0, 0⟩) := Lib.hid (by
    rfl)
  generalize hV0 : valL ((l.drop (i + 1)).take 2) = U0 at *
  have HV0 := Lib.hid hV0
  clear hV0
  obtain ⟨V0, hW0⟩ : ∃ V, V = wrap64 U0 := ⟨_, rfl⟩
  rw [← hW0] at HR
  have HW0 := Lib.hid hW0
  clear hW0
  clear hv hb hk
  go_enter Try.func17, Try.ntmps17
  go_wp2_with fail
  refine (refSize_any 3 _).mono ?_
  rw [show sizeK 3 = 3 from rfl]
  rintro r w1 ⟨rfl, rfl⟩
  go_wp2_with fail
  obtain ⟨w2, hw2⟩ : ∃ w2, w2 = (w.alloc (odB od0)).alloc (odB ⟨3, 0, 0, 0⟩) := ⟨_, rfl⟩
  have HOD : Hid (w2.heap[w.heap.size + 1]? = some (odB ⟨3, 0, 0, 0⟩)) := Lib.hid (hw2 ▸ heap_alloc2_new' w _ _)
  have HK2 : Hid (Keeps w w2) := Lib.hid (hw2 ▸ ((Mods.refl _ w).alloc _).alloc _)
  have HW2 := Lib.hid hw2
  rw [show (w.alloc (.cells #[.int .i64 0, .int .i64 0, .int .i64 0, .int .u64 0] 24)).alloc (.cells #[.int .i64 3, .int .i64 0, .int .i64 0, .int .u64 0] 24) = w2 from hw2.symm]
  clear hw2
  refine (operandsR_in 3 w2 (by simp)).mono ?_
  rintro r w3 ⟨rfl, rfl⟩
  rw [show strB 3 = ⟨#[105]⟩ from rfl]
  go_wp2_with fail
  go_loopw [10, 12] (fun nx ii wr => (ii = .int .i64 0 ∧ nx = .int .i64 ((i + 1 : Nat) : Int) ∧ wr.heap[w.heap.size + 1]? = some (odB ⟨3, 0, 0, 0⟩) ∧ Mods (fun q => q = w.heap.size + 1) w2 wr) ∨ (ii = .int .i64 1 ∧ nx = .int .i64 ((i + 3 : Nat) : Int) ∧ wr.heap[w.heap.size + 1]? = some (odB ⟨3, V0, 0, 0⟩) ∧ Mods (fun q => q = w.heap.size + 1) w2 wr)) (fun _ ii _ => 1 - (intOf ii).toNat)
  case atStart => exact .inl ⟨rfl, by go_num, HOD.out, Mods.refl _ _⟩
  case round =>
    rcases hrel with ⟨rfl, rfl, hod, hm⟩ | ⟨rfl, rfl, hod, hm⟩
    · have HODJ := Lib.hid hod
      have HM := Lib.hid hm
      obtain ⟨q0, q1, q2, q3⟩ := od_cells hod
      have f1 := od_free hod 1
      have f2 := od_free hod 2
      have f3 := od_free hod 3
      simp only at q0 q1 q2 q3
      have hgl := heap_lt hod
      have HSV := Lib.hid (value_any _ _ wr (bl_mods (HS0.out.keeps HK2.out) hm (by omega)) HB0.out HL0.out)
      rw [HV0.out] at HSV
      clear hod hm
      go_wp2_with fail
      refine HSV.out.mono ?_
      rintro r w4 ⟨rfl, rfl⟩
      go_wp2
      go_roundw
      case rel => exact (.inr ⟨rfl, by go_num, by rw [HW0.out]; exact heap_setCell_same _ _ 1 _ _ _ HODJ.out, HM.out.setCell _ _ (fun _ => rfl)⟩)
      case measure => simp [intOf]
    · have HODJ := Lib.hid hod
      have HM := Lib.hid hm
      obtain ⟨q0, q1, q2, q3⟩ := od_cells hod
      have f1 := od_free hod 1
      have f2 := od_free hod 2
      have f3 := od_free hod 3
      simp only at q0 q1 q2 q3
      have hgl := heap_lt hod
      have hm' := hm
      rw [HW2.out] at hm'
      obtain ⟨W, hW, hb1, hb2⟩ := rdec_last hm' 3 V0 0 0
      have HVB := Lib.hid (hm'.at (heap_keep (heap_alloc_last w (odB od0)) (odB ⟨3, 0, 0, 0⟩)) (by omega))
      obtain ⟨p0, p1, p2, p3⟩ := od_cells HVB.out
      have g0 := od_free HVB.out 0
      have g1 := od_free HVB.out 1
      have g2 := od_free HVB.out 2
      have g3 := od_free HVB.out 3
      have hwl := heap_lt HVB.out
      have HWE := Lib.hid hW
      have HB1 := Lib.hid hb1
      have HB2 := Lib.hid hb2
      clear hod hm hm' hW hb1 hb2
      go_wp2
      rw [← HWE.out]
      obtain ⟨s0, s1, s2, s3⟩ := od_cells HB1.out
      simp only at s0 s1 s2 s3
      exact bodyPost_ret (v := .tuple #[Od.val ⟨3, V0, 0, 0⟩, .int .i64 ((i + 3 : Nat) : Int), .bool true]) (by simp [results, Try.results17, go_sem, s0, s1, s2, s3]) rfl ⟨by rw [HR.out], HB2.out⟩
set_option maxHeartbeats 1000000 in
theorem rdec4 (v : Value) (l : List Int) (i : Nat) (w : World) (hv : BL w v l) (hb : Bytes l) (hi : i < l.length) (h64 : l.length ≤ 4294967296) (hk : l[i] = 4) (hs : 3 ≤ l.length - i) :
    Calls Try.prog 17 #[v, .int .i64 (i : Int)] w fun r w' => r = .returned (.tuple #[(fillD [0] ⟨4, 0, 0, 0⟩ (l.drop (i + 1))).val, .int .i64 ((i + 3 : Nat) : Int), .bool true]) ∧ Keeps w w' := by
  obtain ⟨a, cap, rfl⟩ := hv.slice
  obtain ⟨b, off, rfl, x0⟩ := hv.at i hi
  rw [hk] at x0
  have hcap : l.length ≤ cap := by
    obtain ⟨a, c, e, h, _⟩ := hv
    simp only [Value.slice.injEq] at e
    omega
  have hil : (i : Int) < (l.length : Int) := by omega
  have hlt := cell_lt x0
  have HS0 := Lib.hid (bl_mid hv (i + 1) 2 (by omega))
  have HB0 : Hid (Bytes ((l.drop (i + 1)).take 2)) := Lib.hid fun x hx => hb x (List.mem_of_mem_drop (List.mem_of_mem_take hx))
  have HL0 := Lib.hid (show ((l.drop (i + 1)).take 2).length ≤ 8 by rw [List.length_take]; omega)
  have HR : Hid (fillD [0] ⟨4, 0, 0, 0⟩ (l.drop (i + 1)) = ⟨4, wrap64 (valL ((l.drop (i + 1)).take 2)), 0, 0⟩) := Lib.hid (by
    rfl)
  generalize hV0 : valL ((l.drop (i + 1)).take 2) = U0 at *
  have HV0 := Lib.hid hV0
  clear hV0
  obtain ⟨V0, hW0⟩ : ∃ V, V = wrap64 U0 := ⟨_, rfl⟩
  rw [← hW0] at HR
  have HW0 := Lib.hid hW0
  clear hW0
  clear hv hb hk
  go_enter Try.func17, Try.ntmps17
  go_wp2_with fail
  refine (refSize_any 4 _).mono ?_
  rw [show sizeK 4 = 3 from rfl]
  rintro r w1 ⟨rfl, rfl⟩
  go_wp2_with fail
  obtain ⟨w2, hw2⟩ : ∃ w2, w2 = (w.alloc (odB od0)).alloc (odB ⟨4, 0, 0, 0⟩) := ⟨_, rfl⟩
  have HOD : Hid (w2.heap[w.heap.size + 1]? = some (odB ⟨4, 0, 0, 0⟩)) := Lib.hid (hw2 ▸ heap_alloc2_new' w _ _)
  have HK2 : Hid (Keeps w w2) := Lib.hid (hw2 ▸ ((Mods.refl _ w).alloc _).alloc _)
  have HW2 := Lib.hid hw2
  rw [show (w.alloc (.cells #[.int .i64 0, .int .i64 0, .int .i64 0, .int .u64 0] 24)).alloc (.cells #[.int .i64 4, .int .i64 0, .int .i64 0, .int .u64 0] 24) = w2 from hw2.symm]
  clear hw2
  refine (operandsR_in 4 w2 (by simp)).mono ?_
  rintro r w3 ⟨rfl, rfl⟩
  rw [show strB 4 = ⟨#[105]⟩ from rfl]
  go_wp2_with fail
  go_loopw [10, 12] (fun nx ii wr => (ii = .int .i64 0 ∧ nx = .int .i64 ((i + 1 : Nat) : Int) ∧ wr.heap[w.heap.size + 1]? = some (odB ⟨4, 0, 0, 0⟩) ∧ Mods (fun q => q = w.heap.size + 1) w2 wr) ∨ (ii = .int .i64 1 ∧ nx = .int .i64 ((i + 3 : Nat) : Int) ∧ wr.heap[w.heap.size + 1]? = some (odB ⟨4, V0, 0, 0⟩) ∧ Mods (fun q => q = w.heap.size + 1) w2 wr)) (fun _ ii _ => 1 - (intOf ii).toNat)
  case atStart => exact .inl ⟨rfl, by go_num, HOD.out, Mods.refl _ _⟩
  case round =>
    rcases hrel with ⟨rfl, rfl, hod, hm⟩ | ⟨rfl, rfl, hod, hm⟩
    · have HODJ := Lib.hid hod
      have HM := Lib.hid hm
      obtain ⟨q0, q1, q2, q3⟩ := od_cells hod
      have f1 := od_free hod 1
      have f2 := od_free hod 2
      have f3 := od_free hod 3
      simp only at q0 q1 q2 q3
      have hgl := heap_lt hod
      have HSV := Lib.hid (value_any _ _ wr (bl_mods (HS0.out.keeps HK2.out) hm (by omega)) HB0.out HL0.out)
      rw [HV0.out] at HSV
      clear hod hm
      go_wp2_with fail
      refine HSV.out.mono ?_
      rintro r w4 ⟨rfl, rfl⟩
      go_wp2
      go_roundw
      case rel => exact (.inr ⟨rfl, by go_num, by rw [HW0.out]; exact heap_setCell_same _ _ 1 _ _ _ HODJ.out, HM.out.setCell _ _ (fun _ => rfl)⟩)
      case measure => simp [intOf]
    · have HODJ := Lib.hid hod
      have HM := Lib.hid hm
      obtain ⟨q0, q1, q2, q3⟩ := od_cells hod
      have f1 := od_free hod 1
      have f2 := od_free hod 2
      have f3 := od_free hod 3
      simp only at q0 q1 q2 q3
      have hgl := heap_lt hod
      have hm' := hm
      rw [HW2.out] at hm'
      obtain ⟨W, hW, hb1, hb2⟩ := rdec_last hm' 4 V0 0 0
      have HVB := Lib.hid (hm'.at (heap_keep (heap_alloc_last w (odB od0)) (odB ⟨4, 0, 0, 0⟩)) (by omega))
      obtain ⟨p0, p1, p2, p3⟩ := od_cells HVB.out
      have g0 := od_free HVB.out 0
      have g1 := od_free HVB.out 1
      have g2 := od_free HVB.out 2
      have g3 := od_free HVB.out 3
      have hwl := heap_lt HVB.out
      have HWE := Lib.hid hW
      have HB1 := Lib.hid hb1
      have HB2 := Lib.hid hb2
      clear hod hm hm' hW hb1 hb2
      go_wp2
      rw [← HWE.out]
      obtain ⟨s0, s1, s2, s3⟩ := od_cells HB1.out
      simp only at s0 s1 s2 s3
      exact bodyPost_ret (v := .tuple #[Od.val ⟨4, V0, 0, 0⟩, .int .i64 ((i + 3 : Nat) : Int), .bool true]) (by simp [results, Try.results17, go_sem, s0, s1, s2, s3]) rfl ⟨by rw [HR.out], HB2.out⟩
set_option maxHeartbeats 1000000 in
theorem rdec5 (v : Value) (l : List Int) (i : Nat) (w : World) (hv : BL w v l) (hb : Bytes l) (hi : i < l.length) (h64 : l.length ≤ 4294967296) (hk : l[i] = 5) (hs : 5 ≤ l.length - i) :
    Calls Try.prog 17 #[v, .int .i64 (i : Int)] w fun r w' => r = .returned (.tuple #[(fillD [0, 1] ⟨5, 0, 0, 0⟩ (l.drop (i + 1))).val, .int .i64 ((i + 5 : Nat) : Int), .bool true]) ∧ Keeps w w' := by
  obtain ⟨a, cap, rfl⟩ := hv.slice
  obtain ⟨b, off, rfl, x0⟩ := hv.at i hi
  rw [hk] at x0
  have hcap : l.length ≤ cap := by
    obtain ⟨a, c, e, h, _⟩ := hv
    simp only [Value.slice.injEq] at e
    omega
  have hil : (i : Int) < (l.length : Int) := by omega
  have hlt := cell_lt x0
  have HS0 := Lib.hid (bl_mid hv (i + 1) 2 (by omega))
  have HB0 : Hid (Bytes ((l.drop (i + 1)).take 2)) := Lib.hid fun x hx => hb x (List.mem_of_mem_drop (List.mem_of_mem_take hx))
  have HL0 := Lib.hid (show ((l.drop (i + 1)).take 2).length ≤ 8 by rw [List.length_take]; omega)
  have HS1 := Lib.hid (bl_mid hv (i + 3) 2 (by omega))
  have HB1 : Hid (Bytes ((l.drop (i + 3)).take 2)) := Lib.hid fun x hx => hb x (List.mem_of_mem_drop (List.mem_of_mem_take hx))
  have HL1 := Lib.hid (show ((l.drop (i + 3)).take 2).length ≤ 8 by rw [List.length_take]; omega)
  have HR : Hid (fillD [0, 1] ⟨5, 0, 0, 0⟩ (l.drop (i + 1)) = ⟨5, wrap64 (valL ((l.drop (i + 1)).take 2)), wrap64 (valL ((l.drop (i + 3)).take 2)), 0⟩) := Lib.hid (by
    have e : (l.drop (i + 1)).drop 2 = l.drop (i + 3) := by rw [List.drop_drop]
    rw [← e]
    rfl)
  generalize hV0 : valL ((l.drop (i + 1)).take 2) = U0 at *
  have HV0 := Lib.hid hV0
  clear hV0
  generalize hV1 : valL ((l.drop (i + 3)).take 2) = U1 at *
  have HV1 := Lib.hid hV1
  clear hV1
  obtain ⟨V0, hW0⟩ : ∃ V, V = wrap64 U0 := ⟨_, rfl⟩
  rw [← hW0] at HR
  have HW0 := Lib.hid hW0
  clear hW0
  obtain ⟨V1, hW1⟩ : ∃ V, V = wrap64 U1 := ⟨_, rfl⟩
  rw [← hW1] at HR
  have HW1 := Lib.hid hW1
  clear hW1
  clear hv hb hk
  go_enter Try.func17, Try.ntmps17
  go_wp2_with fail
  refine (refSize_any 5 _).mono ?_
  rw [show sizeK 5 = 5 from rfl]
  rintro r w1 ⟨rfl, rfl⟩
  go_wp2_with fail
  obtain ⟨w2, hw2⟩ : ∃ w2, w2 = (w.alloc (odB od0)).alloc (odB ⟨5, 0, 0, 0⟩) := ⟨_, rfl⟩
  have HOD : Hid (w2.heap[w.heap.size + 1]? = some (odB ⟨5, 0, 0, 0⟩)) := Lib.hid (hw2 ▸ heap_alloc2_new' w _ _)
  have HK2 : Hid (Keeps w w2) := Lib.hid (hw2 ▸ ((Mods.refl _ w).alloc _).alloc _)
  have HW2 := Lib.hid hw2
  rw [show (w.alloc (.cells #[.int .i64 0, .int .i64 0, .int .i64 0, .int .u64 0] 24)).alloc (.cells #[.int .i64 5, .int .i64 0, .int .i64 0, .int .u64 0] 24) = w2 from hw2.symm]
  clear hw2
  refine (operandsR_in 5 w2 (by simp)).mono ?_
  rintro r w3 ⟨rfl, rfl⟩
  rw [show strB 5 = ⟨#[105, 116]⟩ from rfl]
  go_wp2_with fail
  go_loopw [10, 12] (fun nx ii wr => (ii = .int .i64 0 ∧ nx = .int .i64 ((i + 1 : Nat) : Int) ∧ wr.heap[w.heap.size + 1]? = some (odB ⟨5, 0, 0, 0⟩) ∧ Mods (fun q => q = w.heap.size + 1) w2 wr) ∨ (ii = .int .i64 1 ∧ nx = .int .i64 ((i + 3 : Nat) : Int) ∧ wr.heap[w.heap.size + 1]? = some (odB ⟨5, V0, 0, 0⟩) ∧ Mods (fun q => q = w.heap.size + 1) w2 wr) ∨ (ii = .int .i64 2 ∧ nx = .int .i64 ((i + 5 : Nat) : Int) ∧ wr.heap[w.heap.size + 1]? = some (odB ⟨5, V0, V1, 0⟩) ∧ Mods (fun q => q = w.heap.size + 1) w2 wr)) (fun _ ii _ => 2 - (intOf ii).toNat)
  case atStart => exact .inl ⟨rfl, by go_num, HOD.out, Mods.refl _ _⟩
  case round =>
    rcases hrel with ⟨rfl, rfl, hod, hm⟩ | ⟨rfl, rfl, hod, hm⟩ | ⟨rfl, rfl, hod, hm⟩
    · have HODJ := Lib.hid hod
      have HM := Lib.hid hm
      obtain ⟨q0, q1, q2, q3⟩ := od_cells hod
      have f1 := od_free hod 1
      have f2 := od_free hod 2
      have f3 := od_free hod 3
      simp only at q0 q1 q2 q3
      have hgl := heap_lt hod
      have HSV := Lib.hid (value_any _ _ wr (bl_mods (HS0.out.keeps HK2.out) hm (by omega)) HB0.out HL0.out)
      rw [HV0.out] at HSV
      clear hod hm
      go_wp2_with fail
      refine HSV.out.mono ?_
      rintro r w4 ⟨rfl, rfl⟩
      go_wp2
      go_roundw
      case rel => exact (.inr (.inl ⟨rfl, by go_num, by rw [HW0.out]; exact heap_setCell_same _ _ 1 _ _ _ HODJ.out, HM.out.setCell _ _ (fun _ => rfl)⟩))
      case measure => simp [intOf]
    · have HODJ := Lib.hid hod
      have HM := Lib.hid hm
      obtain ⟨q0, q1, q2, q3⟩ := od_cells hod
      have f1 := od_free hod 1
      have f2 := od_free hod 2
      have f3 := od_free hod 3
      simp only at q0 q1 q2 q3
      have hgl := heap_lt hod
      have HSV := Lib.hid (value_any _ _ wr (bl_mods (HS1.out.keeps HK2.out) hm (by omega)) HB1.out HL1.out)
      rw [HV1.out] at HSV
      clear hod hm
      go_wp2_with fail
      refine HSV.out.mono ?_
      rintro r w4 ⟨rfl, rfl⟩
      go_wp2
      go_roundw
      case rel => exact (.inr (.inr ⟨rfl, by go_num, by rw [HW1.out]; exact heap_setCell_same _ _ 2 _ _ _ HODJ.out, HM.out.setCell _ _ (fun _ => rfl)⟩))
      case measure => simp [intOf]
    · have HODJ := Lib.hid hod
      have HM := Lib.hid hm
      obtain ⟨q0, q1, q2, q3⟩ := od_cells hod
      have f1 := od_free hod 1
      have f2 := od_free hod 2
      have f3 := od_free hod 3
      simp only at q0 q1 q2 q3
      have hgl := heap_lt hod
      have hm' := hm
      rw [HW2.out] at hm'
      obtain ⟨W, hW, hb1, hb2⟩ := rdec_last hm' 5 V0 V1 0
      have HVB := Lib.hid (hm'.at (heap_keep (heap_alloc_last w (odB od0)) (odB ⟨5, 0, 0, 0⟩)) (by omega))
      obtain ⟨p0, p1, p2, p3⟩ := od_cells HVB.out
      have g0 := od_free HVB.out 0
      have g1 := od_free HVB.out 1
      have g2 := od_free HVB.out 2
      have g3 := od_free HVB.out 3
      have hwl := heap_lt HVB.out
      have HWE := Lib.hid hW
      have HB1 := Lib.hid hb1
      have HB2 := Lib.hid hb2
      clear hod hm hm' hW hb1 hb2
      go_wp2
      rw [← HWE.out]
      obtain ⟨s0, s1, s2, s3⟩ := od_cells HB1.out
      simp only at s0 s1 s2 s3
      exact bodyPost_ret (v := .tuple #[Od.val ⟨5, V0, V1, 0⟩, .int .i64 ((i + 5 : Nat) : Int), .bool true]) (by simp [results, Try.results17, go_sem, s0, s1, s2, s3]) rfl ⟨by rw [HR.out], HB2.out⟩
set_option maxHeartbeats 1000000 in
theorem rdec6 (v : Value) (l : List Int) (i : Nat) (w : World) (hv : BL w v l) (hb : Bytes l) (hi : i < l.length) (h64 : l.length ≤ 4294967296) (hk : l[i] = 6) (hs : 11 ≤ l.length - i) :
    Calls Try.prog 17 #[v, .int .i64 (i : Int)] w fun r w' => r = .returned (.tuple #[(fillD [0, 2] ⟨6, 0, 0, 0⟩ (l.drop (i + 1))).val, .int .i64 ((i + 11 : Nat) : Int), .bool true]) ∧ Keeps w w' := by
  obtain ⟨a, cap, rfl⟩ := hv.slice
  obtain ⟨b, off, rfl, x0⟩ := hv.at i hi
  rw [hk] at x0
  have hcap : l.length ≤ cap := by
    obtain ⟨a, c, e, h, _⟩ := hv
    simp only [Value.slice.injEq] at e
    omega
  have hil : (i : Int) < (l.length : Int) := by omega
  have hlt := cell_lt x0
  have HS0 := Lib.hid (bl_mid hv (i + 1) 2 (by omega))
  have HB0 : Hid (Bytes ((l.drop (i + 1)).take 2)) := Lib.hid fun x hx => hb x (List.mem_of_mem_drop (List.mem_of_mem_take hx))
  have HL0 := Lib.hid (show ((l.drop (i + 1)).take 2).length ≤ 8 by rw [List.length_take]; omega)
  have HS2 := Lib.hid (bl_mid hv (i + 3) 8 (by omega))
  have HB2 : Hid (Bytes ((l.drop (i + 3)).take 8)) := Lib.hid fun x hx => hb x (List.mem_of_mem_drop (List.mem_of_mem_take hx))
  have HL2 := Lib.hid (show ((l.drop (i + 3)).take 8).length ≤ 8 by rw [List.length_take]; omega)
  have HR : Hid (fillD [0, 2] ⟨6, 0, 0, 0⟩ (l.drop (i + 1)) = ⟨6, wrap64 (valL ((l.drop (i + 1)).take 2)), 0, valL ((l.drop (i + 3)).take 8)⟩) := Lib.hid (by
    have e : (l.drop (i + 1)).drop 2 = l.drop (i + 3) := by rw [List.drop_drop]
    rw [← e]
    rfl)
  generalize hV0 : valL ((l.drop (i + 1)).take 2) = U0 at *
  have HV0 := Lib.hid hV0
  clear hV0
  generalize hV2 : valL ((l.drop (i + 3)).take 8) = U2 at *
  have HV2 := Lib.hid hV2
  clear hV2
  obtain ⟨V0, hW0⟩ : ∃ V, V = wrap64 U0 := ⟨_, rfl⟩
  rw [← hW0] at HR
  have HW0 := Lib.hid hW0
  clear hW0
  have e2 : U2 = U2 := rfl
  clear e2
  clear hv hb hk
  go_enter Try.func17, Try.ntmps17
  go_wp2_with fail
  refine (refSize_any 6 _).mono ?_
  rw [show sizeK 6 = 11 from rfl]
  rintro r w1 ⟨rfl, rfl⟩
  go_wp2_with fail
  obtain ⟨w2, hw2⟩ : ∃ w2, w2 = (w.alloc (odB od0)).alloc (odB ⟨6, 0, 0, 0⟩) := ⟨_, rfl⟩
  have HOD : Hid (w2.heap[w.heap.size + 1]? = some (odB ⟨6, 0, 0, 0⟩)) := Lib.hid (hw2 ▸ heap_alloc2_new' w _ _)
  have HK2 : Hid (Keeps w w2) := Lib.hid (hw2 ▸ ((Mods.refl _ w).alloc _).alloc _)
  have HW2 := Lib.hid hw2
  rw [show (w.alloc (.cells #[.int .i64 0, .int .i64 0, .int .i64 0, .int .u64 0] 24)).alloc (.cells #[.int .i64 6, .int .i64 0, .int .i64 0, .int .u64 0] 24) = w2 from hw2.symm]
  clear hw2
  refine (operandsR_in 6 w2 (by simp)).mono ?_
  rintro r w3 ⟨rfl, rfl⟩
  rw [show strB 6 = ⟨#[105, 97]⟩ from rfl]
  go_wp2_with fail
  go_loopw [10, 12] (fun nx ii wr => (ii = .int .i64 0 ∧ nx = .int .i64 ((i + 1 : Nat) : Int) ∧ wr.heap[w.heap.size + 1]? = some (odB ⟨6, 0, 0, 0⟩) ∧ Mods (fun q => q = w.heap.size + 1) w2 wr) ∨ (ii = .int .i64 1 ∧ nx = .int .i64 ((i + 3 : Nat) : Int) ∧ wr.heap[w.heap.size + 1]? = some (odB ⟨6, V0, 0, 0⟩) ∧ Mods (fun q => q = w.heap.size + 1) w2 wr) ∨ (ii = .int .i64 2 ∧ nx = .int .i64 ((i + 11 : Nat) : Int) ∧ wr.heap[w.heap.size + 1]? = some (odB ⟨6, V0, 0, U2⟩) ∧ Mods (fun q => q = w.heap.size + 1) w2 wr)) (fun _ ii _ => 2 - (intOf ii).toNat)
  case atStart => exact .inl ⟨rfl, by go_num, HOD.out, Mods.refl _ _⟩
  case round =>
    rcases hrel with ⟨rfl, rfl, hod, hm⟩ | ⟨rfl, rfl, hod, hm⟩ | ⟨rfl, rfl, hod, hm⟩
    · have HODJ := Lib.hid hod
      have HM := Lib.hid hm
      obtain ⟨q0, q1, q2, q3⟩ := od_cells hod
      have f1 := od_free hod 1
      have f2 := od_free hod 2
      have f3 := od_free hod 3
      simp only at q0 q1 q2 q3
      have hgl := heap_lt hod
      have HSV := Lib.hid (value_any _ _ wr (bl_mods (HS0.out.keeps HK2.out) hm (by omega)) HB0.out HL0.out)
      rw [HV0.out] at HSV
      clear hod hm
      go_wp2_with fail
      refine HSV.out.mono ?_
      rintro r w4 ⟨rfl, rfl⟩
      go_wp2
      go_roundw
      case rel => exact (.inr (.inl ⟨rfl, by go_num, by rw [HW0.out]; exact heap_setCell_same _ _ 1 _ _ _ HODJ.out, HM.out.setCell _ _ (fun _ => rfl)⟩))
      case measure => simp [intOf]
    · have HODJ := Lib.hid hod
      have HM := Lib.hid hm
      obtain ⟨q0, q1, q2, q3⟩ := od_cells hod
      have f1 := od_free hod 1
      have f2 := od_free hod 2
      have f3 := od_free hod 3
      simp only at q0 q1 q2 q3
      have hgl := heap_lt hod
      have HSV := Lib.hid (value_any _ _ wr (bl_mods (HS2.out.keeps HK2.out) hm (by omega)) HB2.out HL2.out)
      rw [HV2.out] at HSV
      clear hod hm
      go_wp2_with fail
      refine HSV.out.mono ?_
      rintro r w4 ⟨rfl, rfl⟩
      go_wp2
      go_roundw
      case rel => exact (.inr (.inr ⟨rfl, by go_num, heap_setCell_same _ _ 3 _ _ _ HODJ.out, HM.out.setCell _ _ (fun _ => rfl)⟩))
      case measure => simp [intOf]
    · have HODJ := Lib.hid hod
      have HM := Lib.hid hm
      obtain ⟨q0, q1, q2, q3⟩ := od_cells hod
      have f1 := od_free hod 1
      have f2 := od_free hod 2
      have f3 := od_free hod 3
      simp only at q0 q1 q2 q3
      have hgl := heap_lt hod
      have hm' := hm
      rw [HW2.out] at hm'
      obtain ⟨W, hW, hb1, hb2⟩ := rdec_last hm' 6 V0 0 U2
      have HVB := Lib.hid (hm'.at (heap_keep (heap_alloc_last w (odB od0)) (odB ⟨6, 0, 0, 0⟩)) (by omega))
      obtain ⟨p0, p1, p2, p3⟩ := od_cells HVB.out
      have g0 := od_free HVB.out 0
      have g1 := od_free HVB.out 1
      have g2 := od_free HVB.out 2
      have g3 := od_free HVB.out 3
      have hwl := heap_lt HVB.out
      have HWE := Lib.hid hW
      have HB1 := Lib.hid hb1
      have HB2 := Lib.hid hb2
      clear hod hm hm' hW hb1 hb2
      go_wp2
      rw [← HWE.out]
      obtain ⟨s0, s1, s2, s3⟩ := od_cells HB1.out
      simp only at s0 s1 s2 s3
      exact bodyPost_ret (v := .tuple #[Od.val ⟨6, V0, 0, U2⟩, .int .i64 ((i + 11 : Nat) : Int), .bool true]) (by simp [results, Try.results17, go_sem, s0, s1, s2, s3]) rfl ⟨by rw [HR.out], HB2.out⟩
set_option maxHeartbeats 1000000 in
theorem rdec7 (v : Value) (l : List Int) (i : Nat) (w : World) (hv : BL w v l) (_hb : Bytes l) (hi : i < l.length) (h64 : l.length ≤ 4294967296) (hk : l[i] = 7) (_hs : 1 ≤ l.length - i) :
    Calls Try.prog 17 #[v, .int .i64 (i : Int)] w fun r w' => r = .returned (.tuple #[(fillD [] ⟨7, 0, 0, 0⟩ (l.drop (i + 1))).val, .int .i64 ((i + 1 : Nat) : Int), .bool true]) ∧ Keeps w w' := by
  obtain ⟨a, cap, rfl⟩ := hv.slice
  obtain ⟨b, off, rfl, x0⟩ := hv.at i hi
  rw [hk] at x0
  have hcap : l.length ≤ cap := by
    obtain ⟨a, c, e, h, _⟩ := hv
    simp only [Value.slice.injEq] at e
    omega
  have hil : (i : Int) < (l.length : Int) := by omega
  have hlt := cell_lt x0
  have HR : Hid (fillD [] ⟨7, 0, 0, 0⟩ (l.drop (i + 1)) = ⟨7, 0, 0, 0⟩) := Lib.hid (by
    rfl)
  clear hv hk
  go_enter Try.func17, Try.ntmps17
  go_wp2_with fail
  refine (refSize_any 7 _).mono ?_
  rw [show sizeK 7 = 1 from rfl]
  rintro r w1 ⟨rfl, rfl⟩
  go_wp2_with fail
  obtain ⟨w2, hw2⟩ : ∃ w2, w2 = (w.alloc (odB od0)).alloc (odB ⟨7, 0, 0, 0⟩) := ⟨_, rfl⟩
  have HOD : Hid (w2.heap[w.heap.size + 1]? = some (odB ⟨7, 0, 0, 0⟩)) := Lib.hid (hw2 ▸ heap_alloc2_new' w _ _)
  have HK2 : Hid (Keeps w w2) := Lib.hid (hw2 ▸ ((Mods.refl _ w).alloc _).alloc _)
  have HW2 := Lib.hid hw2
  rw [show (w.alloc (.cells #[.int .i64 0, .int .i64 0, .int .i64 0, .int .u64 0] 24)).alloc (.cells #[.int .i64 7, .int .i64 0, .int .i64 0, .int .u64 0] 24) = w2 from hw2.symm]
  clear hw2
  refine (operandsR_in 7 w2 (by simp)).mono ?_
  rintro r w3 ⟨rfl, rfl⟩
  rw [show strB 7 = ⟨#[]⟩ from rfl]
  go_wp2_with fail
  go_loopw [10, 12] (fun nx ii wr => (ii = .int .i64 0 ∧ nx = .int .i64 ((i + 1 : Nat) : Int) ∧ wr.heap[w.heap.size + 1]? = some (odB ⟨7, 0, 0, 0⟩) ∧ Mods (fun q => q = w.heap.size + 1) w2 wr)) (fun _ ii _ => 0 - (intOf ii).toNat)
  case atStart => exact ⟨rfl, by go_num, HOD.out, Mods.refl _ _⟩
  case round =>
    rcases hrel with ⟨rfl, rfl, hod, hm⟩
    · have HODJ := Lib.hid hod
      have HM := Lib.hid hm
      obtain ⟨q0, q1, q2, q3⟩ := od_cells hod
      have f1 := od_free hod 1
      have f2 := od_free hod 2
      have f3 := od_free hod 3
      simp only at q0 q1 q2 q3
      have hgl := heap_lt hod
      have hm' := hm
      rw [HW2.out] at hm'
      obtain ⟨W, hW, hb1, hb2⟩ := rdec_last hm' 7 0 0 0
      have HVB := Lib.hid (hm'.at (heap_keep (heap_alloc_last w (odB od0)) (odB ⟨7, 0, 0, 0⟩)) (by omega))
      obtain ⟨p0, p1, p2, p3⟩ := od_cells HVB.out
      have g0 := od_free HVB.out 0
      have g1 := od_free HVB.out 1
      have g2 := od_free HVB.out 2
      have g3 := od_free HVB.out 3
      have hwl := heap_lt HVB.out
      have HWE := Lib.hid hW
      have HB1 := Lib.hid hb1
      have HB2 := Lib.hid hb2
      clear hod hm hm' hW hb1 hb2
      go_wp2
      rw [← HWE.out]
      obtain ⟨s0, s1, s2, s3⟩ := od_cells HB1.out
      simp only at s0 s1 s2 s3
      exact bodyPost_ret (v := .tuple #[Od.val ⟨7, 0, 0, 0⟩, .int .i64 ((i + 1 : Nat) : Int), .bool true]) (by simp [results, Try.results17, go_sem, s0, s1, s2, s3]) rfl ⟨by rw [HR.out], HB2.out⟩
theorem refDecode_any (v : Value) (l : List Int) (i : Int) (w : World) (hv : BL w v l) (hb : Bytes l) (h64 : l.length ≤ 4294967296) :
    Calls Try.prog 17 #[v, .int .i64 i] w fun r w' => r = .returned (.tuple #[(decR l i).1.val, .int .i64 (decR l i).2.1, .bool (decR l i).2.2]) ∧ Keeps w w' := by
  unfold decR
  by_cases h : i < 0 ∨ (l.length : Int) ≤ i
  · rw [if_pos h]
    exact rdec_neg v l i w hv h
  · rw [if_neg h]
    obtain ⟨n, rfl⟩ : ∃ n : Nat, i = n := ⟨i.toNat, by omega⟩
    have hn : n < l.length := by omega
    have e : l.getD n 0 = l[n] := by simp [hn]
    rw [Int.toNat_natCast, e]
    cases hk : opsOf l[n] with
    | none => exact rdec_none v l n w hv hb hn h64 hk
    | some cs =>
      simp only
      by_cases hs : (l.length : Int) - n < ((1 + sumZ cs : Nat) : Int)
      · rw [if_pos hs]
        exact rdec_short v l cs n w hv hb hn hk hs
      · rw [if_neg hs]
        have hcs : ∀ m, ((n : Int) + ((m : Nat) : Int)) = ((n + m : Nat) : Int) := fun m => by rw [Int.natCast_add]
        rw [hcs]
        rcases opsOf_cases l[n] with ⟨q, g⟩ | ⟨q, g⟩ | ⟨q, g⟩ | ⟨q, g⟩ | ⟨q, g⟩ | ⟨q, g⟩ | ⟨q, g⟩ | ⟨_, _, _, _, _, _, _, g⟩
        case _ => rw [g] at hk; simp at hk; subst hk; rw [q]; exact rdec1 v l n w hv hb hn h64 q (by simp [sumZ, szO] at hs; omega)
        case _ => rw [g] at hk; simp at hk; subst hk; rw [q]; exact rdec2 v l n w hv hb hn h64 q (by simp [sumZ, szO] at hs; omega)
        case _ => rw [g] at hk; simp at hk; subst hk; rw [q]; exact rdec3 v l n w hv hb hn h64 q (by simp [sumZ, szO] at hs; omega)
        case _ => rw [g] at hk; simp at hk; subst hk; rw [q]; exact rdec4 v l n w hv hb hn h64 q (by simp [sumZ, szO] at hs; omega)
        case _ => rw [g] at hk; simp at hk; subst hk; rw [q]; exact rdec5 v l n w hv hb hn h64 q (by simp [sumZ, szO] at hs; omega)
        case _ => rw [g] at hk; simp at hk; subst hk; rw [q]; exact rdec6 v l n w hv hb hn h64 q (by simp [sumZ, szO] at hs; omega)
        case _ => rw [g] at hk; simp at hk; subst hk; rw [q]; exact rdec7 v l n w hv hb hn h64 q (by simp [sumZ] at hs; omega)
        rw [g] at hk
        cases hk
set_option maxHeartbeats 1000000 in
theorem opDecodes_walk (v : Value) (i : Int) (w : World) (h : ∃ l, BL w v l ∧ Bytes l ∧ l.length ≤ 9223372036854775807) (_w1 : (Lit.int .i64 i).wf = true) :
    Calls Try.prog 4 #[v, .int .i64 i] w fun r w' => r = .returned (.bool true) ∧ Below w.heap.size w w' := by
  obtain ⟨l, hv, hb, hl64⟩ := h
  have HV := Lib.hid hv
  have HB := Lib.hid hb
  obtain ⟨a, cap, rfl⟩ := hv.slice
  clear hv hb
  by_cases hbig : 1000 < l.length
  · go_enter Try.func4, Try.ntmps4
    go_wp2_with fail
    refine (alive_any _).mono ?_
    rintro r w3 ⟨rfl, hk3⟩
    have HK3 := Lib.hid hk3
    clear hk3
    go_wp2
    go_ret
    exact ⟨rfl, HK3.out.below'⟩
  · have HD := Lib.hid (fun w hv => decode_any (.slice a l.length cap) l i w hv HB.out (by omega))
    have HR := Lib.hid (fun w hv => refDecode_any (.slice a l.length cap) l i w hv HB.out (by omega))
    generalize decR l i = d at *
    obtain ⟨⟨kd, ix, tg, am⟩, n, ok⟩ := d
    simp only at HD HR
    go_enter Try.func4, Try.ntmps4
    go_wp2_with fail
    refine (HD.out w HV.out).mono ?_
    rintro r w1 ⟨rfl, hk1⟩
    have HVB := Lib.hid (heap_alloc_last w1 (odB ⟨kd, ix, tg, am⟩))
    have HK1 := Lib.hid (Mods.alloc hk1 (odB ⟨kd, ix, tg, am⟩))
    clear hk1
    go_wp2_with fail
    refine (HR.out _ (HV.out.keeps HK1.out)).mono ?_
    rintro r w2 ⟨rfl, hk2⟩
    have HVB2 := Lib.hid (heap_keep (hk2.at HVB.out fun h => h) (odB ⟨kd, ix, tg, am⟩))
    have HVC2 := Lib.hid (heap_alloc_last w2 (odB ⟨kd, ix, tg, am⟩))
    have HK2 := Lib.hid ((HK1.out.keep hk2).alloc (odB ⟨kd, ix, tg, am⟩))
    clear hk2
    go_wp2_with fail
    refine (alive_any _).mono ?_
    rintro r w3 ⟨rfl, hk3⟩
    have HK3 := Lib.hid (HK2.out.keep hk3)
    obtain ⟨q0, q1, q2, q3⟩ := od_cells (hk3.at HVB2.out fun h => h)
    obtain ⟨t0, t1, t2, t3⟩ := od_cells (hk3.at HVC2.out fun h => h)
    simp only at q0 q1 q2 q3 t0 t1 t2 t3
    have hlt := cell_lt q0
    have hlt2 := cell_lt t0
    clear hk3
    cases ok
    all_goals
      go_wp2
      go_ret
      exact ⟨rfl, HK3.out.below'⟩
end Go.Proofs.Ytljcodkcmenpaaa
