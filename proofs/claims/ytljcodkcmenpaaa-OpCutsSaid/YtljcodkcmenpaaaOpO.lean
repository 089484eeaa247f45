/- The reference's Encode; the walks of OpEncodes and OpCuts. -/
import Derived.Test.YtljcodkcmenpaaaOpN
namespace Go.Proofs.Ytljcodkcmenpaaa
open Go.RowKit Go.Eg
theorem big2n (x : Int) (w : World) (h0 : 0 ≤ x) (h1 : x ≤ 18446744073709551615) : Calls Try.prog 27 #[.int .u64 x, .int .i64 2] w fun r w' => ∃ v, r = .returned v ∧ BO w.heap.size w' v (bigL x 2) ∧ Keeps w w' := big_any x 2 w h0 h1 (by omega)
theorem big8n (x : Int) (w : World) (h0 : 0 ≤ x) (h1 : x ≤ 18446744073709551615) : Calls Try.prog 27 #[.int .u64 x, .int .i64 8] w fun r w' => ∃ v, r = .returned v ∧ BO w.heap.size w' v (bigL x 8) ∧ Keeps w w' := big_any x 8 w h0 h1 (by omega)
set_option maxHeartbeats 2000000 in
theorem refEncode_any (o : Od) (ho : o.ok) (hk : InK o.kd) (cs : List Nat) (hcs : opsOf o.kd = some cs) (w : World) : Calls Try.prog 14 #[o.val] w fun r w' => ∃ v, r = .returned v ∧ BO w.heap.size w' v (writeB o cs) ∧ Keeps w w' := by
  have HO := Lib.hid (fun w => operandsR_in o.kd w hk)
  have HB0 := Lib.hid (fun w => big2n (IntKind.u64.wrap o.ix) w (u64r _).1 (u64r _).2)
  have HB1 := Lib.hid (fun w => big2n (IntKind.u64.wrap o.tg) w (u64r _).1 (u64r _).2)
  have HB2 := Lib.hid (fun w => big8n o.am w ho.a.1 ho.a.2)
  have L0 := Lib.hid (bigL_len (IntKind.u64.wrap o.ix) 2)
  have L1 := Lib.hid (bigL_len (IntKind.u64.wrap o.tg) 2)
  have L2 := Lib.hid (bigL_len o.am 8)
  have HW := Lib.hid (show writeB o cs = o.kd % 256 :: bodyB o cs from rfl)
  have HBD := Lib.hid (show ∀ c r, bodyB o (c :: r) = bigL (getO c o) (szO c) ++ bodyB o r from fun _ _ => rfl)
  have HBN := Lib.hid (show bodyB o [] = [] from rfl)
  have G0 := Lib.hid (show bigL (getO 0 o) (szO 0) = bigL (IntKind.u64.wrap o.ix) 2 from rfl)
  have G1 := Lib.hid (show bigL (getO 1 o) (szO 1) = bigL (IntKind.u64.wrap o.tg) 2 from rfl)
  have G2 := Lib.hid (show bigL (getO 2 o) (szO 2) = bigL o.am 8 from rfl)
  generalize bigL (IntKind.u64.wrap o.ix) 2 = X0 at *
  generalize bigL (IntKind.u64.wrap o.tg) 2 = X1 at *
  generalize bigL o.am 8 = X2 at *
  obtain ⟨kd, ix, tg, am⟩ := o
  simp only at HO HW
  have hix := HB0
  clear ho hix
  rcases hk with rfl | rfl | rfl | rfl | rfl | rfl | rfl
  · have ec : cs = [2] := by
      have h : opsOf 1 = some [2] := rfl
      rw [h] at hcs
      simpa using hcs.symm
    subst ec
    have HWB : Hid (writeB ⟨1, ix, tg, am⟩ [2] = (([1] : List Int) ++ X2)) := Lib.hid (by rw [HW.out]; simp only [HBD.out, HBN.out, G2.out]; simp)
    generalize writeB ⟨1, ix, tg, am⟩ [2] = WB at *
    go_enter Try.func14, Try.ntmps14
    go_wp2_with fail
    obtain ⟨w2, hw2⟩ : ∃ w2, w2 = w.alloc (odB ⟨1, ix, tg, am⟩) := ⟨_, rfl⟩
    have HK2 := Lib.hid (show Keeps w w2 from hw2 ▸ (Mods.refl _ w).alloc _)
    have HV2 := Lib.hid (show w2.heap[w.heap.size]? = some (odB ⟨1, ix, tg, am⟩) from hw2 ▸ heap_alloc_last w _)
    have hs2 : w2.heap.size = w.heap.size + 1 := by rw [hw2]; simp
    rw [← hw2]
    clear hw2
    refine (HO.out _).mono ?_
    rintro r w3 ⟨rfl, hw3⟩
    have HB3 : Hid (BO (w.heap.size + 1) w3 (.slice (some ⟨w.heap.size + 1, 0, none⟩) 1 1) [1]) := Lib.hid (by
      have h := World.ownsRow_lit (base := w.heap.size + 1) (e := 5) (size := 1) w2 #[.int .u8 1] 1 (by omega) (by unfold maxLen; omega) rfl
      rw [hs2] at h
      rw [← hw3]
      exact h)
    have HK3 : Hid (Keeps w2 w3) := Lib.hid (hw3 ▸ (Mods.refl _ w2).alloc _)
    clear hw3
    rw [show strB 1 = ⟨#[97]⟩ from rfl]
    go_wp2_with fail
    go_loopw [3, 5] (fun s i wr => (i = .int .i64 0 ∧ BO (w.heap.size + 1) wr s ([1] : List Int) ∧ Keeps w2 wr) ∨ (i = .int .i64 1 ∧ BO (w.heap.size + 1) wr s (([1] : List Int) ++ X2) ∧ Keeps w2 wr)) (fun _ i _ => 1 - (intOf i).toNat)
    case atStart => exact .inl ⟨rfl, HB3.out, HK3.out⟩
    case round =>
      rcases hrel with ⟨rfl, hb, hm⟩ | ⟨rfl, hb, hm⟩
      · have HBJ := Lib.hid hb
        have HMJ := Lib.hid hm
        obtain ⟨q0, q1, q2, q3⟩ := od_cells (hm.at HV2.out fun h => h)
        simp only at q0 q1 q2 q3
        have hlt := cell_lt q0
        clear hb hm
        go_wp2_with fail
        refine (HB2.out _).mono ?_
        rintro r w4 ⟨v4, rfl, hb4, hk4⟩
        have HB4 := Lib.hid hb4.bl
        have HBK := Lib.hid (HBJ.out.keeps hk4)
        have HMK := Lib.hid (HMJ.out.keep hk4)
        have HSZ := Lib.hid (show w.heap.size + 1 ≤ w4.heap.size by have := HMK.out.size; omega)
        obtain ⟨a4, c4, h4⟩ := hb4.slice
        rw [L2.out] at h4
        subst h4
        clear hb4 hk4 q0 q1 q2 q3 hlt
        go_wp2_with (at_builtin; refine appendBL _ rfl (.tmp 22) (.tmp 25) rfl (w.heap.size + 1) _ ([1] : List Int) X2 rfl HBK.out _ rfl HB4.out (by rw [L2.out]; decide) HSZ.out ?_)
        intro v5 w5 ho5 hg5
        try rw [← List.append_assoc] at ho5
        have HO5 := Lib.hid ho5
        have HK5 := Lib.hid (grownB_keeps HBK.out HMK.out (by omega) hg5)
        clear ho5 hg5
        go_wp2
        go_roundw
        case rel => exact (.inr ⟨rfl, HO5.out, HK5.out⟩)
        case measure => simp [intOf]
      · have HBJ := Lib.hid hb
        have HMJ := Lib.hid hm
        have HF : Hid (BO w.heap.size wr u3 WB) := Lib.hid (by rw [HWB.out]; exact hb.base (by omega))
        rcases hb.2 with ⟨rfl, _⟩ | ⟨g, cap, cur, rfl, _⟩
        all_goals
          clear hb hm
          go_wp2
          go_ret
          exact ⟨_, rfl, HF.out, HK2.out.keep HMJ.out⟩
  · have ec : cs = [0] := by
      have h : opsOf 2 = some [0] := rfl
      rw [h] at hcs
      simpa using hcs.symm
    subst ec
    have HWB : Hid (writeB ⟨2, ix, tg, am⟩ [0] = (([2] : List Int) ++ X0)) := Lib.hid (by rw [HW.out]; simp only [HBD.out, HBN.out, G0.out]; simp)
    generalize writeB ⟨2, ix, tg, am⟩ [0] = WB at *
    go_enter Try.func14, Try.ntmps14
    go_wp2_with fail
    obtain ⟨w2, hw2⟩ : ∃ w2, w2 = w.alloc (odB ⟨2, ix, tg, am⟩) := ⟨_, rfl⟩
    have HK2 := Lib.hid (show Keeps w w2 from hw2 ▸ (Mods.refl _ w).alloc _)
    have HV2 := Lib.hid (show w2.heap[w.heap.size]? = some (odB ⟨2, ix, tg, am⟩) from hw2 ▸ heap_alloc_last w _)
    have hs2 : w2.heap.size = w.heap.size + 1 := by rw [hw2]; simp
    rw [← hw2]
    clear hw2
    refine (HO.out _).mono ?_
    rintro r w3 ⟨rfl, hw3⟩
    have HB3 : Hid (BO (w.heap.size + 1) w3 (.slice (some ⟨w.heap.size + 1, 0, none⟩) 1 1) [2]) := Lib.hid (by
      have h := World.ownsRow_lit (base := w.heap.size + 1) (e := 5) (size := 1) w2 #[.int .u8 2] 1 (by omega) (by unfold maxLen; omega) rfl
      rw [hs2] at h
      rw [← hw3]
      exact h)
    have HK3 : Hid (Keeps w2 w3) := Lib.hid (hw3 ▸ (Mods.refl _ w2).alloc _)
    clear hw3
    rw [show strB 2 = ⟨#[105]⟩ from rfl]
    go_wp2_with fail
    go_loopw [3, 5] (fun s i wr => (i = .int .i64 0 ∧ BO (w.heap.size + 1) wr s ([2] : List Int) ∧ Keeps w2 wr) ∨ (i = .int .i64 1 ∧ BO (w.heap.size + 1) wr s (([2] : List Int) ++ X0) ∧ Keeps w2 wr)) (fun _ i _ => 1 - (intOf i).toNat)
    case atStart => exact .inl ⟨rfl, HB3.out, HK3.out⟩
    case round =>
      rcases hrel with ⟨rfl, hb, hm⟩ | ⟨rfl, hb, hm⟩
      · have HBJ := Lib.hid hb
        have HMJ := Lib.hid hm
        obtain ⟨q0, q1, q2, q3⟩ := od_cells (hm.at HV2.out fun h => h)
        simp only at q0 q1 q2 q3
        have hlt := cell_lt q0
        clear hb hm
        go_wp2_with fail
        refine (HB0.out _).mono ?_
        rintro r w4 ⟨v4, rfl, hb4, hk4⟩
        have HB4 := Lib.hid hb4.bl
        have HBK := Lib.hid (HBJ.out.keeps hk4)
        have HMK := Lib.hid (HMJ.out.keep hk4)
        have HSZ := Lib.hid (show w.heap.size + 1 ≤ w4.heap.size by have := HMK.out.size; omega)
        obtain ⟨a4, c4, h4⟩ := hb4.slice
        rw [L0.out] at h4
        subst h4
        clear hb4 hk4 q0 q1 q2 q3 hlt
        go_wp2_with (at_builtin; refine appendBL _ rfl (.tmp 29) (.tmp 33) rfl (w.heap.size + 1) _ ([2] : List Int) X0 rfl HBK.out _ rfl HB4.out (by rw [L0.out]; decide) HSZ.out ?_)
        intro v5 w5 ho5 hg5
        try rw [← List.append_assoc] at ho5
        have HO5 := Lib.hid ho5
        have HK5 := Lib.hid (grownB_keeps HBK.out HMK.out (by omega) hg5)
        clear ho5 hg5
        go_wp2
        go_roundw
        case rel => exact (.inr ⟨rfl, HO5.out, HK5.out⟩)
        case measure => simp [intOf]
      · have HBJ := Lib.hid hb
        have HMJ := Lib.hid hm
        have HF : Hid (BO w.heap.size wr u3 WB) := Lib.hid (by rw [HWB.out]; exact hb.base (by omega))
        rcases hb.2 with ⟨rfl, _⟩ | ⟨g, cap, cur, rfl, _⟩
        all_goals
          clear hb hm
          go_wp2
          go_ret
          exact ⟨_, rfl, HF.out, HK2.out.keep HMJ.out⟩
  · have ec : cs = [0] := by
      have h : opsOf 3 = some [0] := rfl
      rw [h] at hcs
      simpa using hcs.symm
    subst ec
    have HWB : Hid (writeB ⟨3, ix, tg, am⟩ [0] = (([3] : List Int) ++ X0)) := Lib.hid (by rw [HW.out]; simp only [HBD.out, HBN.out, G0.out]; simp)
    generalize writeB ⟨3, ix, tg, am⟩ [0] = WB at *
    go_enter Try.func14, Try.ntmps14
    go_wp2_with fail
    obtain ⟨w2, hw2⟩ : ∃ w2, w2 = w.alloc (odB ⟨3, ix, tg, am⟩) := ⟨_, rfl⟩
    have HK2 := Lib.hid (show Keeps w w2 from hw2 ▸ (Mods.refl _ w).alloc _)
    have HV2 := Lib.hid (show w2.heap[w.heap.size]? = some (odB ⟨3, ix, tg, am⟩) from hw2 ▸ heap_alloc_last w _)
    have hs2 : w2.heap.size = w.heap.size + 1 := by rw [hw2]; simp
    rw [← hw2]
    clear hw2
    refine (HO.out _).mono ?_
    rintro r w3 ⟨rfl, hw3⟩
    have HB3 : Hid (BO (w.heap.size + 1) w3 (.slice (some ⟨w.heap.size + 1, 0, none⟩) 1 1) [3]) := Lib.hid (by
      have h := World.ownsRow_lit (base := w.heap.size + 1) (e := 5) (size := 1) w2 #[.int .u8 3] 1 (by omega) (by unfold maxLen; omega) rfl
      rw [hs2] at h
      rw [← hw3]
      exact h)
    have HK3 : Hid (Keeps w2 w3) := Lib.hid (hw3 ▸ (Mods.refl _ w2).alloc _)
    clear hw3
    rw [show strB 3 = ⟨#[105]⟩ from rfl]
    go_wp2_with fail
    go_loopw [3, 5] (fun s i wr => (i = .int .i64 0 ∧ BO (w.heap.size + 1) wr s ([3] : List Int) ∧ Keeps w2 wr) ∨ (i = .int .i64 1 ∧ BO (w.heap.size + 1) wr s (([3] : List Int) ++ X0) ∧ Keeps w2 wr)) (fun _ i _ => 1 - (intOf i).toNat)
    case atStart => exact .inl ⟨rfl, HB3.out, HK3.out⟩
    case round =>
      rcases hrel with ⟨rfl, hb, hm⟩ | ⟨rfl, hb, hm⟩
      · have HBJ := Lib.hid hb
        have HMJ := Lib.hid hm
        obtain ⟨q0, q1, q2, q3⟩ := od_cells (hm.at HV2.out fun h => h)
        simp only at q0 q1 q2 q3
        have hlt := cell_lt q0
        clear hb hm
        go_wp2_with fail
        refine (HB0.out _).mono ?_
        rintro r w4 ⟨v4, rfl, hb4, hk4⟩
        have HB4 := Lib.hid hb4.bl
        have HBK := Lib.hid (HBJ.out.keeps hk4)
        have HMK := Lib.hid (HMJ.out.keep hk4)
        have HSZ := Lib.hid (show w.heap.size + 1 ≤ w4.heap.size by have := HMK.out.size; omega)
        obtain ⟨a4, c4, h4⟩ := hb4.slice
        rw [L0.out] at h4
        subst h4
        clear hb4 hk4 q0 q1 q2 q3 hlt
        go_wp2_with (at_builtin; refine appendBL _ rfl (.tmp 29) (.tmp 33) rfl (w.heap.size + 1) _ ([3] : List Int) X0 rfl HBK.out _ rfl HB4.out (by rw [L0.out]; decide) HSZ.out ?_)
        intro v5 w5 ho5 hg5
        try rw [← List.append_assoc] at ho5
        have HO5 := Lib.hid ho5
        have HK5 := Lib.hid (grownB_keeps HBK.out HMK.out (by omega) hg5)
        clear ho5 hg5
        go_wp2
        go_roundw
        case rel => exact (.inr ⟨rfl, HO5.out, HK5.out⟩)
        case measure => simp [intOf]
      · have HBJ := Lib.hid hb
        have HMJ := Lib.hid hm
        have HF : Hid (BO w.heap.size wr u3 WB) := Lib.hid (by rw [HWB.out]; exact hb.base (by omega))
        rcases hb.2 with ⟨rfl, _⟩ | ⟨g, cap, cur, rfl, _⟩
        all_goals
          clear hb hm
          go_wp2
          go_ret
          exact ⟨_, rfl, HF.out, HK2.out.keep HMJ.out⟩
  · have ec : cs = [0] := by
      have h : opsOf 4 = some [0] := rfl
      rw [h] at hcs
      simpa using hcs.symm
    subst ec
    have HWB : Hid (writeB ⟨4, ix, tg, am⟩ [0] = (([4] : List Int) ++ X0)) := Lib.hid (by rw [HW.out]; simp only [HBD.out, HBN.out, G0.out]; simp)
    generalize writeB ⟨4, ix, tg, am⟩ [0] = WB at *
    go_enter Try.func14, Try.ntmps14
    go_wp2_with fail
    obtain ⟨w2, hw2⟩ : ∃ w2, w2 = w.alloc (odB ⟨4, ix, tg, am⟩) := ⟨_, rfl⟩
    have HK2 := Lib.hid (show Keeps w w2 from hw2 ▸ (Mods.refl _ w).alloc _)
    have HV2 := Lib.hid (show w2.heap[w.heap.size]? = some (odB ⟨4, ix, tg, am⟩) from hw2 ▸ heap_alloc_last w _)
    have hs2 : w2.heap.size = w.heap.size + 1 := by rw [hw2]; simp
    rw [← hw2]
    clear hw2
    refine (HO.out _).mono ?_
    rintro r w3 ⟨rfl, hw3⟩
    have HB3 : Hid (BO (w.heap.size + 1) w3 (.slice (some ⟨w.heap.size + 1, 0, none⟩) 1 1) [4]) := Lib.hid (by
      have h := World.ownsRow_lit (base := w.heap.size + 1) (e := 5) (size := 1) w2 #[.int .u8 4] 1 (by omega) (by unfold maxLen; omega) rfl
      rw [hs2] at h
      rw [← hw3]
      exact h)
    have HK3 : Hid (Keeps w2 w3) := Lib.hid (hw3 ▸ (Mods.refl _ w2).alloc _)
    clear hw3
    rw [show strB 4 = ⟨#[105]⟩ from rfl]
    go_wp2_with fail
    go_loopw [3, 5] (fun s i wr => (i = .int .i64 0 ∧ BO (w.heap.size + 1) wr s ([4] : List Int) ∧ Keeps w2 wr) ∨ (i = .int .i64 1 ∧ BO (w.heap.size + 1) wr s (([4] : List Int) ++ X0) ∧ Keeps w2 wr)) (fun _ i _ => 1 - (intOf i).toNat)
    case atStart => exact .inl ⟨rfl, HB3.out, HK3.out⟩
    case round =>
      rcases hrel with ⟨rfl, hb, hm⟩ | ⟨rfl, hb, hm⟩
      · have HBJ := Lib.hid hb
        have HMJ := Lib.hid hm
        obtain ⟨q0, q1, q2, q3⟩ := od_cells (hm.at HV2.out fun h => h)
        simp only at q0 q1 q2 q3
        have hlt := cell_lt q0
        clear hb hm
        go_wp2_with fail
        refine (HB0.out _).mono ?_
        rintro r w4 ⟨v4, rfl, hb4, hk4⟩
        have HB4 := Lib.hid hb4.bl
        have HBK := Lib.hid (HBJ.out.keeps hk4)
        have HMK := Lib.hid (HMJ.out.keep hk4)
        have HSZ := Lib.hid (show w.heap.size + 1 ≤ w4.heap.size by have := HMK.out.size; omega)
        obtain ⟨a4, c4, h4⟩ := hb4.slice
        rw [L0.out] at h4
        subst h4
        clear hb4 hk4 q0 q1 q2 q3 hlt
        go_wp2_with (at_builtin; refine appendBL _ rfl (.tmp 29) (.tmp 33) rfl (w.heap.size + 1) _ ([4] : List Int) X0 rfl HBK.out _ rfl HB4.out (by rw [L0.out]; decide) HSZ.out ?_)
        intro v5 w5 ho5 hg5
        try rw [← List.append_assoc] at ho5
        have HO5 := Lib.hid ho5
        have HK5 := Lib.hid (grownB_keeps HBK.out HMK.out (by omega) hg5)
        clear ho5 hg5
        go_wp2
        go_roundw
        case rel => exact (.inr ⟨rfl, HO5.out, HK5.out⟩)
        case measure => simp [intOf]
      · have HBJ := Lib.hid hb
        have HMJ := Lib.hid hm
        have HF : Hid (BO w.heap.size wr u3 WB) := Lib.hid (by rw [HWB.out]; exact hb.base (by omega))
        rcases hb.2 with ⟨rfl, _⟩ | ⟨g, cap, cur, rfl, _⟩
        all_goals
          clear hb hm
          go_wp2
          go_ret
          exact ⟨_, rfl, HF.out, HK2.out.keep HMJ.out⟩
  · have ec : cs = [0, 1] := by
      have h : opsOf 5 = some [0, 1] := rfl
      rw [h] at hcs
      simpa using hcs.symm
    subst ec
    have HWB : Hid (writeB ⟨5, ix, tg, am⟩ [0, 1] = ((([5] : List Int) ++ X0) ++ X1)) := Lib.hid (by rw [HW.out]; simp only [HBD.out, HBN.out, G0.out, G1.out]; simp)
    generalize writeB ⟨5, ix, tg, am⟩ [0, 1] = WB at *
    go_enter Try.func14, Try.ntmps14
    go_wp2_with fail
    obtain ⟨w2, hw2⟩ : ∃ w2, w2 = w.alloc (odB ⟨5, ix, tg, am⟩) := ⟨_, rfl⟩
    have HK2 := Lib.hid (show Keeps w w2 from hw2 ▸ (Mods.refl _ w).alloc _)
    have HV2 := Lib.hid (show w2.heap[w.heap.size]? = some (odB ⟨5, ix, tg, am⟩) from hw2 ▸ heap_alloc_last w _)
    have hs2 : w2.heap.size = w.heap.size + 1 := by rw [hw2]; simp
    rw [← hw2]
    clear hw2
    refine (HO.out _).mono ?_
    rintro r w3 ⟨rfl, hw3⟩
    have HB3 : Hid (BO (w.heap.size + 1) w3 (.slice (some ⟨w.heap.size + 1, 0, none⟩) 1 1) [5]) := Lib.hid (by
      have h := World.ownsRow_lit (base := w.heap.size + 1) (e := 5) (size := 1) w2 #[.int .u8 5] 1 (by omega) (by unfold maxLen; omega) rfl
      rw [hs2] at h
      rw [← hw3]
      exact h)
    have HK3 : Hid (Keeps w2 w3) := Lib.hid (hw3 ▸ (Mods.refl _ w2).alloc _)
    clear hw3
    rw [show strB 5 = ⟨#[105, 116]⟩ from rfl]
    go_wp2_with fail
    go_loopw [3, 5] (fun s i wr => (i = .int .i64 0 ∧ BO (w.heap.size + 1) wr s ([5] : List Int) ∧ Keeps w2 wr) ∨ (i = .int .i64 1 ∧ BO (w.heap.size + 1) wr s (([5] : List Int) ++ X0) ∧ Keeps w2 wr) ∨ (i = .int .i64 2 ∧ BO (w.heap.size + 1) wr s ((([5] : List Int) ++ X0) ++ X1) ∧ Keeps w2 wr)) (fun _ i _ => 2 - (intOf i).toNat)
    case atStart => exact .inl ⟨rfl, HB3.out, HK3.out⟩
    case round =>
      rcases hrel with ⟨rfl, hb, hm⟩ | ⟨rfl, hb, hm⟩ | ⟨rfl, hb, hm⟩
      · have HBJ := Lib.hid hb
        have HMJ := Lib.hid hm
        obtain ⟨q0, q1, q2, q3⟩ := od_cells (hm.at HV2.out fun h => h)
        simp only at q0 q1 q2 q3
        have hlt := cell_lt q0
        clear hb hm
        go_wp2_with fail
        refine (HB0.out _).mono ?_
        rintro r w4 ⟨v4, rfl, hb4, hk4⟩
        have HB4 := Lib.hid hb4.bl
        have HBK := Lib.hid (HBJ.out.keeps hk4)
        have HMK := Lib.hid (HMJ.out.keep hk4)
        have HSZ := Lib.hid (show w.heap.size + 1 ≤ w4.heap.size by have := HMK.out.size; omega)
        obtain ⟨a4, c4, h4⟩ := hb4.slice
        rw [L0.out] at h4
        subst h4
        clear hb4 hk4 q0 q1 q2 q3 hlt
        go_wp2_with (at_builtin; refine appendBL _ rfl (.tmp 29) (.tmp 33) rfl (w.heap.size + 1) _ ([5] : List Int) X0 rfl HBK.out _ rfl HB4.out (by rw [L0.out]; decide) HSZ.out ?_)
        intro v5 w5 ho5 hg5
        try rw [← List.append_assoc] at ho5
        have HO5 := Lib.hid ho5
        have HK5 := Lib.hid (grownB_keeps HBK.out HMK.out (by omega) hg5)
        clear ho5 hg5
        go_wp2
        go_roundw
        case rel => exact (.inr (.inl ⟨rfl, HO5.out, HK5.out⟩))
        case measure => simp [intOf]
      · have HBJ := Lib.hid hb
        have HMJ := Lib.hid hm
        obtain ⟨q0, q1, q2, q3⟩ := od_cells (hm.at HV2.out fun h => h)
        simp only at q0 q1 q2 q3
        have hlt := cell_lt q0
        clear hb hm
        go_wp2_with fail
        refine (HB1.out _).mono ?_
        rintro r w4 ⟨v4, rfl, hb4, hk4⟩
        have HB4 := Lib.hid hb4.bl
        have HBK := Lib.hid (HBJ.out.keeps hk4)
        have HMK := Lib.hid (HMJ.out.keep hk4)
        have HSZ := Lib.hid (show w.heap.size + 1 ≤ w4.heap.size by have := HMK.out.size; omega)
        obtain ⟨a4, c4, h4⟩ := hb4.slice
        rw [L1.out] at h4
        subst h4
        clear hb4 hk4 q0 q1 q2 q3 hlt
        go_wp2_with (at_builtin; refine appendBL _ rfl (.tmp 37) (.tmp 41) rfl (w.heap.size + 1) _ (([5] : List Int) ++ X0) X1 rfl HBK.out _ rfl HB4.out (by rw [List.length_append, L0.out, L1.out]; decide) HSZ.out ?_)
        intro v5 w5 ho5 hg5
        try rw [← List.append_assoc] at ho5
        have HO5 := Lib.hid ho5
        have HK5 := Lib.hid (grownB_keeps HBK.out HMK.out (by omega) hg5)
        clear ho5 hg5
        go_wp2
        go_roundw
        case rel => exact (.inr (.inr ⟨rfl, HO5.out, HK5.out⟩))
        case measure => simp [intOf]
      · have HBJ := Lib.hid hb
        have HMJ := Lib.hid hm
        have HF : Hid (BO w.heap.size wr u3 WB) := Lib.hid (by rw [HWB.out]; exact hb.base (by omega))
        rcases hb.2 with ⟨rfl, _⟩ | ⟨g, cap, cur, rfl, _⟩
        all_goals
          clear hb hm
          go_wp2
          go_ret
          exact ⟨_, rfl, HF.out, HK2.out.keep HMJ.out⟩
  · have ec : cs = [0, 2] := by
      have h : opsOf 6 = some [0, 2] := rfl
      rw [h] at hcs
      simpa using hcs.symm
    subst ec
    have HWB : Hid (writeB ⟨6, ix, tg, am⟩ [0, 2] = ((([6] : List Int) ++ X0) ++ X2)) := Lib.hid (by rw [HW.out]; simp only [HBD.out, HBN.out, G0.out, G2.out]; simp)
    generalize writeB ⟨6, ix, tg, am⟩ [0, 2] = WB at *
    go_enter Try.func14, Try.ntmps14
    go_wp2_with fail
    obtain ⟨w2, hw2⟩ : ∃ w2, w2 = w.alloc (odB ⟨6, ix, tg, am⟩) := ⟨_, rfl⟩
    have HK2 := Lib.hid (show Keeps w w2 from hw2 ▸ (Mods.refl _ w).alloc _)
    have HV2 := Lib.hid (show w2.heap[w.heap.size]? = some (odB ⟨6, ix, tg, am⟩) from hw2 ▸ heap_alloc_last w _)
    have hs2 : w2.heap.size = w.heap.size + 1 := by rw [hw2]; simp
    rw [← hw2]
    clear hw2
    refine (HO.out _).mono ?_
    rintro r w3 ⟨rfl, hw3⟩
    have HB3 : Hid (BO (w.heap.size + 1) w3 (.slice (some ⟨w.heap.size + 1, 0, none⟩) 1 1) [6]) := Lib.hid (by
      have h := World.ownsRow_lit (base := w.heap.size + 1) (e := 5) (size := 1) w2 #[.int .u8 6] 1 (by omega) (by unfold maxLen; omega) rfl
      rw [hs2] at h
      rw [← hw3]
      exact h)
    have HK3 : Hid (Keeps w2 w3) := Lib.hid (hw3 ▸ (Mods.refl _ w2).alloc _)
    clear hw3
    rw [show strB 6 = ⟨#[105, 97]⟩ from rfl]
    go_wp2_with fail
    go_loopw [3, 5] (fun s i wr => (i = .int .i64 0 ∧ BO (w.heap.size + 1) wr s ([6] : List Int) ∧ Keeps w2 wr) ∨ (i = .int .i64 1 ∧ BO (w.heap.size + 1) wr s (([6] : List Int) ++ X0) ∧ Keeps w2 wr) ∨ (i = .int .i64 2 ∧ BO (w.heap.size + 1) wr s ((([6] : List Int) ++ X0) ++ X2) ∧ Keeps w2 wr)) (fun _ i _ => 2 - (intOf i).toNat)
    case atStart => exact .inl ⟨rfl, HB3.out, HK3.out⟩
    case round =>
      rcases hrel with ⟨rfl, hb, hm⟩ | ⟨rfl, hb, hm⟩ | ⟨rfl, hb, hm⟩
      · have HBJ := Lib.hid hb
        have HMJ := Lib.hid hm
        obtain ⟨q0, q1, q2, q3⟩ := od_cells (hm.at HV2.out fun h => h)
        simp only at q0 q1 q2 q3
        have hlt := cell_lt q0
        clear hb hm
        go_wp2_with fail
        refine (HB0.out _).mono ?_
        rintro r w4 ⟨v4, rfl, hb4, hk4⟩
        have HB4 := Lib.hid hb4.bl
        have HBK := Lib.hid (HBJ.out.keeps hk4)
        have HMK := Lib.hid (HMJ.out.keep hk4)
        have HSZ := Lib.hid (show w.heap.size + 1 ≤ w4.heap.size by have := HMK.out.size; omega)
        obtain ⟨a4, c4, h4⟩ := hb4.slice
        rw [L0.out] at h4
        subst h4
        clear hb4 hk4 q0 q1 q2 q3 hlt
        go_wp2_with (at_builtin; refine appendBL _ rfl (.tmp 29) (.tmp 33) rfl (w.heap.size + 1) _ ([6] : List Int) X0 rfl HBK.out _ rfl HB4.out (by rw [L0.out]; decide) HSZ.out ?_)
        intro v5 w5 ho5 hg5
        try rw [← List.append_assoc] at ho5
        have HO5 := Lib.hid ho5
        have HK5 := Lib.hid (grownB_keeps HBK.out HMK.out (by omega) hg5)
        clear ho5 hg5
        go_wp2
        go_roundw
        case rel => exact (.inr (.inl ⟨rfl, HO5.out, HK5.out⟩))
        case measure => simp [intOf]
      · have HBJ := Lib.hid hb
        have HMJ := Lib.hid hm
        obtain ⟨q0, q1, q2, q3⟩ := od_cells (hm.at HV2.out fun h => h)
        simp only at q0 q1 q2 q3
        have hlt := cell_lt q0
        clear hb hm
        go_wp2_with fail
        refine (HB2.out _).mono ?_
        rintro r w4 ⟨v4, rfl, hb4, hk4⟩
        have HB4 := Lib.hid hb4.bl
        have HBK := Lib.hid (HBJ.out.keeps hk4)
        have HMK := Lib.hid (HMJ.out.keep hk4)
        have HSZ := Lib.hid (show w.heap.size + 1 ≤ w4.heap.size by have := HMK.out.size; omega)
        obtain ⟨a4, c4, h4⟩ := hb4.slice
        rw [L2.out] at h4
        subst h4
        clear hb4 hk4 q0 q1 q2 q3 hlt
        go_wp2_with (at_builtin; refine appendBL _ rfl (.tmp 22) (.tmp 25) rfl (w.heap.size + 1) _ (([6] : List Int) ++ X0) X2 rfl HBK.out _ rfl HB4.out (by rw [List.length_append, L0.out, L2.out]; decide) HSZ.out ?_)
        intro v5 w5 ho5 hg5
        try rw [← List.append_assoc] at ho5
        have HO5 := Lib.hid ho5
        have HK5 := Lib.hid (grownB_keeps HBK.out HMK.out (by omega) hg5)
        clear ho5 hg5
        go_wp2
        go_roundw
        case rel => exact (.inr (.inr ⟨rfl, HO5.out, HK5.out⟩))
        case measure => simp [intOf]
      · have HBJ := Lib.hid hb
        have HMJ := Lib.hid hm
        have HF : Hid (BO w.heap.size wr u3 WB) := Lib.hid (by rw [HWB.out]; exact hb.base (by omega))
        rcases hb.2 with ⟨rfl, _⟩ | ⟨g, cap, cur, rfl, _⟩
        all_goals
          clear hb hm
          go_wp2
          go_ret
          exact ⟨_, rfl, HF.out, HK2.out.keep HMJ.out⟩
  · have ec : cs = [] := by
      have h : opsOf 7 = some [] := rfl
      rw [h] at hcs
      simpa using hcs.symm
    subst ec
    have HWB : Hid (writeB ⟨7, ix, tg, am⟩ [] = ([7] : List Int)) := Lib.hid (by rw [HW.out]; simp only [HBN.out]; simp)
    generalize writeB ⟨7, ix, tg, am⟩ [] = WB at *
    go_enter Try.func14, Try.ntmps14
    go_wp2_with fail
    obtain ⟨w2, hw2⟩ : ∃ w2, w2 = w.alloc (odB ⟨7, ix, tg, am⟩) := ⟨_, rfl⟩
    have HK2 := Lib.hid (show Keeps w w2 from hw2 ▸ (Mods.refl _ w).alloc _)
    have HV2 := Lib.hid (show w2.heap[w.heap.size]? = some (odB ⟨7, ix, tg, am⟩) from hw2 ▸ heap_alloc_last w _)
    have hs2 : w2.heap.size = w.heap.size + 1 := by rw [hw2]; simp
    rw [← hw2]
    clear hw2
    refine (HO.out _).mono ?_
    rintro r w3 ⟨rfl, hw3⟩
    have HB3 : Hid (BO (w.heap.size + 1) w3 (.slice (some ⟨w.heap.size + 1, 0, none⟩) 1 1) [7]) := Lib.hid (by
      have h := World.ownsRow_lit (base := w.heap.size + 1) (e := 5) (size := 1) w2 #[.int .u8 7] 1 (by omega) (by unfold maxLen; omega) rfl
      rw [hs2] at h
      rw [← hw3]
      exact h)
    have HK3 : Hid (Keeps w2 w3) := Lib.hid (hw3 ▸ (Mods.refl _ w2).alloc _)
    clear hw3
    rw [show strB 7 = ⟨#[]⟩ from rfl]
    go_wp2_with fail
    go_loopw [3, 5] (fun s i wr => (i = .int .i64 0 ∧ BO (w.heap.size + 1) wr s ([7] : List Int) ∧ Keeps w2 wr)) (fun _ i _ => 0 - (intOf i).toNat)
    case atStart => exact ⟨rfl, HB3.out, HK3.out⟩
    case round =>
      rcases hrel with ⟨rfl, hb, hm⟩
      · have HBJ := Lib.hid hb
        have HMJ := Lib.hid hm
        have HF : Hid (BO w.heap.size wr u3 WB) := Lib.hid (by rw [HWB.out]; exact hb.base (by omega))
        rcases hb.2 with ⟨rfl, _⟩ | ⟨g, cap, cur, rfl, _⟩
        all_goals
          clear hb hm
          go_wp2
          go_ret
          exact ⟨_, rfl, HF.out, HK2.out.keep HMJ.out⟩
end Go.Proofs.Ytljcodkcmenpaaa
