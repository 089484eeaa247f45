/- The reference's sweep; slices.Equal at indices; the example of the chapter. -/
import Derived.Test.YthidgaedfabpeaaCurB
namespace Go.Proofs.Ythidgaedfabpeaa
open Go.RowKit Go.Eg
theorem refSweep_zero (x : Int) (v : Value) (n : Nat) (a : Option Addr) (cap : Nat) (visits pays : Int) (w : World) (hv : v = .slice a n cap) (h : n = 0 ∨ visits < 1 ∨ pays < 1) :
    Calls Try.prog 12 #[.int .i64 x, v, .int .i64 visits, .int .i64 pays] w fun r w' => r = .returned (.tuple #[.slice none 0 0, .int .i64 0, .int .i64 x]) ∧ w = w' := by
  subst hv
  by_cases h0 : n = 0
  · subst h0
    go_enter Try.func12, Try.ntmps12
    go_wp2
    go_ret3
    exact ⟨rfl, rfl⟩
  · by_cases hv : visits < 1
    · clear h
      go_enter Try.func12, Try.ntmps12
      go_wp2
      go_ret3
      exact ⟨rfl, rfl⟩
    · have hp : pays < 1 := by omega
      clear h
      go_enter Try.func12, Try.ntmps12
      go_wp2
      go_ret3
      exact ⟨rfl, rfl⟩
theorem refsweep_skip {n x k m p V : Nat} {rdy : Nat → Bool} {w w2 : World} {v : Value} {L : List Nat} (hv : vis rdy n x p (m - (k + 1)) (k + 1) = V) (hL : paidL rdy n x (k + 1) = L ++ if rdy (posN n x k) = true then [posN n x k] else []) (hr : rdy (posN n x k) = false)
    (hlt : k < m) (hown : w2.ownsRow w.heap.size 3 1 v L.length (intsV L)) (hmd : Keeps w w2) (hP : posN n x (k + 1) = (posN n x k + 1) % n) (hp : L.length < p) :
    ∃ k' : Nat, k' ≤ m ∧ Value.int .i64 ((k : Int) + 1) = .int .i64 k' ∧ Value.int .i64 (((posN n x k : Nat) + 1 : Int) % n) = .int .i64 (posN n x k' : Nat) ∧ vis rdy n x p (m - k') k' = V ∧ (paidL rdy n x k').length ≤ p ∧ w2.ownsRow w.heap.size 3 1 v (paidL rdy n x k').length (intsV (paidL rdy n x k')) ∧ Keeps w w2 := by
  refine ⟨k + 1, hlt, by go_num, by rw [hP]; push_cast; rfl, hv, by rw [hL, hr]; simp; omega, ?_, hmd⟩
  rw [hL, hr]
  simpa using hown
theorem refsweep_add {n x k m p V : Nat} {rdy : Nat → Bool} {w w2 w3 : World} {v v' : Value} {L : List Nat} {o : Obj} (hv : vis rdy n x p (m - (k + 1)) (k + 1) = V) (hL : paidL rdy n x (k + 1) = L ++ if rdy (posN n x k) = true then [posN n x k] else []) (hr : rdy (posN n x k) = true)
    (hlt : k < m) (hown : w3.ownsRow w.heap.size 3 1 v' (L.length + 1) (intsV L ++ [.int .i64 ((posN n x k : Nat) : Int)])) (hmd : Keeps w w2) (hg : (w2.alloc o).grownBy w3 v.ownBlock)
    (ho : w2.ownsRow w.heap.size 3 1 v L.length (intsV L)) (hP : posN n x (k + 1) = (posN n x k + 1) % n) (hp : L.length < p) :
    ∃ k' : Nat, k' ≤ m ∧ Value.int .i64 ((k : Int) + 1) = .int .i64 k' ∧ Value.int .i64 (((posN n x k : Nat) + 1 : Int) % n) = .int .i64 (posN n x k' : Nat) ∧ vis rdy n x p (m - k') k' = V ∧ (paidL rdy n x k').length ≤ p ∧ w3.ownsRow w.heap.size 3 1 v' (paidL rdy n x k').length (intsV (paidL rdy n x k')) ∧ Keeps w w3 := by
  refine ⟨k + 1, hlt, by go_num, by rw [hP]; push_cast; rfl, hv, by rw [hL, hr]; simp; omega, ?_, ?_⟩
  · rw [hL, hr, if_pos rfl, intsV_snoc]
    simpa using hown
  · exact (hmd.alloc o).grown hg fun j hj e => by have := (ho.lt j e).1; omega
set_option maxHeartbeats 1000000 in
theorem refSweep_main (x n rb ro cap p : Nat) (rdy : Nat → Bool) (visits : Int) (w : World) (hx : x ≤ 4294967296) (h0 : 0 < n) (h1 : n ≤ 4294967296) (hp : 0 < p) (hv1 : 1 ≤ visits)
    (hr : ∀ j, j < n → w.cell? ⟨rb, ro + j, none⟩ = some (.bool (rdy j))) (m : Nat) (hm : m = min visits.toNat n) :
    Calls Try.prog 12 #[.int .i64 (x : Int), .slice (some ⟨rb, ro, none⟩) n cap, .int .i64 visits, .int .i64 (p : Int)] w fun r w' => ∃ v, r = .returned (.tuple #[v, .int .i64 (vis rdy n x p m 0 : Nat), .int .i64 (posN n x (vis rdy n x p m 0) : Nat)]) ∧
      Ints w.heap.size w' v (paidL rdy n x (vis rdy n x p m 0)) ∧ Keeps w w' := by
  have HR := Lib.hid hr
  have HV := Lib.hid (rfl : vis rdy n x p m 0 = vis rdy n x p m 0)
  have HM := Lib.hid hm
  have hn0 : ((n : Int) == 0) = false := by simp; omega
  have hp0 : decide ((p : Int) < 1) = false := by simp; omega
  have hv0 : decide (visits < 1) = false := by simp; omega
  obtain ⟨i0, hi, hz0, hz1, hz2⟩ := info_parts infoInt
  have hp00 : posN n x 0 = x % n := rfl
  have HP0 := Lib.hid hp00
  clear hr hm hp00
  generalize hVg : vis rdy n x p m 0 = V at HV ⊢
  clear HV
  have HV := Lib.hid hVg
  clear hVg
  go_enter Try.func12, Try.ntmps12
  go_wp2_with fail
  go_loopw [0, 12, 13] (fun a v i wr => ∃ k : Nat, k ≤ m ∧ i = .int .i64 k ∧ a = .int .i64 (posN n x k : Nat) ∧ vis rdy n x p (m - k) k = V ∧ (paidL rdy n x k).length ≤ p ∧ wr.ownsRow w.heap.size 3 1 v (paidL rdy n x k).length (intsV (paidL rdy n x k)) ∧ Keeps w wr) (fun _ _ i _ => m - (intOf i).toNat)
  case atStart => exact ⟨0, Nat.zero_le _, rfl, by rw [HP0.out]; push_cast; rfl, HV.out, Nat.zero_le _, World.ownsRow_nil _ _ _ _, Mods.refl _ _⟩
  case round =>
    obtain ⟨k, hk, rfl, rfl, hvis, hLp, hown, hmd⟩ := hrel
    have hmn : m ≤ n := by rw [HM.out]; omega
    have hL := paidL_le rdy n x k
    have hLs := paidL_succ rdy n x k
    generalize hLg : paidL rdy n x k = L at *
    obtain ⟨va, vc, rfl⟩ := owns_slice hown
    by_cases hlt : k < m
    · have hv : (k : Int) < visits := by rw [HM.out] at hlt; omega
      have hkn : k < n := by omega
      have hvs : vis rdy n x p (m - k) k = if L.length = p then k else vis rdy n x p (m - (k + 1)) (k + 1) := by
        rw [show m - k = (m - (k + 1)) + 1 from by omega, vis, hLg]
      have hpn := posN_lt (n := n) x k (by omega)
      by_cases hfull : L.length = p
      · have hf1 : decide (L.length < p) = false := by simp; omega
        have hVk : V = k := by rw [← hvis, hvs, if_pos hfull]
        have HVK := Lib.hid hVk
        have HLG := Lib.hid hLg
        clear hVk hvis hvs hLs hfull hLg hLp
        go_wp2
        go_ret3
        refine ⟨_, ret3 rfl (by rw [HVK.out]; rfl) (by rw [HVK.out]; rfl), ?_⟩
        rw [HVK.out, HLG.out]
        exact ⟨hown, hmd⟩
      · have hf1 : decide ((L.length : Int) < (p : Int)) = true := by simp; omega
        have hf2 : L.length < p := by omega
        have hcell := hmd.cell (p := ⟨rb, ro + posN n x k, none⟩) (HR.out _ hpn) (fun h => h)
        have hP1 := (posN_succ n x k).symm
        have HP1 := Lib.hid hP1
        have hv2 : vis rdy n x p (m - (k + 1)) (k + 1) = V := by rw [← hvis, hvs, if_neg hfull]
        have HV2 := Lib.hid hv2
        have HLS := Lib.hid hLs
        have hlt2 : w.heap.size ≤ wr.heap.size := hmd.size
        clear hv2 hvis hvs hLs hfull hLg hP1
        cases hrd : rdy (posN n x k)
        · rw [hrd] at hcell
          have HRD := Lib.hid hrd
          clear hrd
          go_wp2
          go_roundw
          case rel => exact refsweep_skip HV2.out HLS.out HRD.out hlt hown hmd HP1.out hf2
          case measure => simp [intOf]; omega
        · rw [hrd] at hcell
          have HRD := Lib.hid hrd
          clear hrd
          go_wp2_with (at_builtin; refine wpList_append_own _ rfl _ _ 30 rfl w.heap.size 3 i0 (.int .i64 0) 1 8 Try.underlying30 hi hz0 hz1 hz2 rfl (by decide) _ _ _ rfl (hown.alloc _) ⟨wr.heap.size, 0, none⟩ 1 1 [.int .i64 ((posN n x k : Nat) : Int)] rfl rfl (one_news _ _ _) (fun u hu => by simp at hu; subst hu; rfl) (by unfold maxLen; omega) (by omega) (by simp; omega) ?_)
          intro v' w3 hown3 hgrow _
          go_wp2
          go_roundw
          case rel => exact refsweep_add HV2.out HLS.out HRD.out hlt hown3 hmd hgrow hown HP1.out hf2
          case measure => simp [intOf]; omega
    · have hVk : V = k := by rw [← hvis, show m - k = 0 from by omega, vis]
      have hlim : visits ≤ k ∨ (n : Int) ≤ k := by rw [HM.out] at hlt; omega
      have HVK := Lib.hid hVk
      have HLG := Lib.hid hLg
      clear hVk hvis hLs hLg
      rcases hlim with hlim | hlim
      · have hf1 : decide ((k : Int) < visits) = false := by simp; omega
        go_wp2
        go_ret3
        refine ⟨_, ret3 rfl (by rw [HVK.out]; rfl) (by rw [HVK.out]; rfl), ?_⟩
        rw [HVK.out, HLG.out]
        exact ⟨hown, hmd⟩
      · have hf2 : decide ((k : Int) < (n : Int)) = false := by simp; omega
        by_cases hv : (k : Int) < visits
        all_goals
          go_wp2
          go_ret3
          refine ⟨_, ret3 rfl (by rw [HVK.out]; rfl) (by rw [HVK.out]; rfl), ?_⟩
          rw [HVK.out, HLG.out]
          exact ⟨hown, hmd⟩
theorem refSweep_any (x n : Nat) (rdy : Nat → Bool) (rv : Value) (visits pays : Int) (w : World) (hx : x ≤ 4294967296) (h1 : n ≤ 4294967296) (hr : Bools w rv n rdy) :
    Calls Try.prog 12 #[.int .i64 (x : Int), rv, .int .i64 visits, .int .i64 pays] w fun r w' => ∃ v, r = .returned (.tuple #[v, .int .i64 (sweepV rdy n x visits pays : Nat), .int .i64 (sweepA rdy n x visits pays : Nat)]) ∧
      Ints w.heap.size w' v (sweepP rdy n x visits pays) ∧ Keeps w w' := by
  by_cases h3 : n = 0 ∨ visits < 1 ∨ pays < 1
  · have hV : sweepV rdy n x visits pays = 0 := if_pos h3
    have hA : sweepA rdy n x visits pays = x := if_pos h3
    obtain ⟨a, cap, hsl⟩ := hr.slice
    refine (refSweep_zero x rv n a cap visits pays w hsl h3).mono ?_
    rintro r w' ⟨rfl, rfl⟩
    refine ⟨_, by rw [hV, hA]; rfl, ?_, Mods.refl _ _⟩
    unfold sweepP
    rw [hV]
    exact World.ownsRow_nil _ _ _ _
  · obtain ⟨av, cap, rfl, hr⟩ := hr
    obtain ⟨rb, ro, rfl, hrc⟩ := hr (by omega)
    · obtain ⟨p, rfl⟩ : ∃ p : Nat, pays = p := ⟨pays.toNat, by omega⟩
      refine (refSweep_main x n rb ro cap p rdy visits w hx (by omega) h1 (by omega) (by omega) hrc _ rfl).mono ?_
      rintro r w' ⟨v, rfl, hi, hm⟩
      have hV : sweepV rdy n x visits p = vis rdy n x p (min visits.toNat n) 0 := by
        unfold sweepV
        rw [if_neg h3, Int.toNat_natCast]
      have hA : sweepA rdy n x visits p = posN n x (vis rdy n x p (min visits.toNat n) 0) := by
        unfold sweepA
        rw [if_neg h3, hV]
      refine ⟨v, by rw [hV, hA], ?_, hm⟩
      unfold sweepP
      rw [hV]
      exact hi
/-- slices.Equal at indices -/
theorem slicesEqual_any (va vb : Value) (xs ys : List Nat) (w : World) (ha : Sl w va (intsV xs)) (hb : Sl w vb (intsV ys)) (hl : xs.length ≤ 4294967296) :
    Calls Try.prog 14 #[va, vb] w fun r w' => r = .returned (.bool (decide (xs = ys))) ∧ Keeps w w' := by
  have hsa : ∃ a c, va = .slice a xs.length c := by
    rcases ha with ⟨rfl, h⟩ | ⟨b, off, cap, h, _⟩
    · exact ⟨none, 0, by rw [← intsV_len, h]; rfl⟩
    · exact ⟨_, _, by rw [h, intsV_len]⟩
  have hsb : ∃ a c, vb = .slice a ys.length c := by
    rcases hb with ⟨rfl, h⟩ | ⟨b, off, cap, h, _⟩
    · exact ⟨none, 0, by rw [← intsV_len, h]; rfl⟩
    · exact ⟨_, _, by rw [h, intsV_len]⟩
  by_cases hne : xs.length = ys.length
  · by_cases h0 : xs = []
    · subst h0
      obtain rfl : ys = [] := List.length_eq_zero_iff.1 (by simpa using hne.symm)
      obtain ⟨a, c, rfl⟩ := hsa
      obtain ⟨a', c', rfl⟩ := hsb
      clear ha hb
      go_enter Try.func14, Try.ntmps14
      go_wp2
      refine wp_loop_rounds 1 ?_
      rw [rounds_succ]
      go_wp2
      go_ret
      exact ⟨rfl, Mods.refl _ _⟩
    · have hpos : 0 < xs.length := List.length_pos_iff.2 h0
      rcases ha with ⟨rfl, h⟩ | ⟨b, off, cap, rfl, _, hca⟩
      · exact absurd (by simpa [intsV] using h) h0
      rcases hb with ⟨rfl, h⟩ | ⟨b', off', cap', rfl, _, hcb⟩
      · have : ys.length = 0 := by rw [← intsV_len, h]; rfl
        omega
      clear hsa hsb
      rw [intsV_len, intsV_len, ← hne]
      generalize hn : xs.length = n at *
      have hca : ∀ j, j < n → w.cell? ⟨b, off + j, none⟩ = some (.int .i64 (xs.getD j 0 : Nat)) := fun j hj => hca j _ (by simp [intsV, List.getD_eq_getElem?_getD, List.getElem?_eq_getElem (show j < xs.length from by omega)])
      have hcb : ∀ j, j < n → w.cell? ⟨b', off' + j, none⟩ = some (.int .i64 (ys.getD j 0 : Nat)) := fun j hj => hcb j _ (by simp [intsV, List.getD_eq_getElem?_getD, List.getElem?_eq_getElem (show j < ys.length from by omega)])
      have HA := Lib.hid hca
      have HB := Lib.hid hcb
      have HN := Lib.hid hn
      have HNE := Lib.hid hne
      clear hca hcb hn hne h0
      go_enter Try.func14, Try.ntmps14
      go_wp2
      go_loopw [13] (fun i wr => ∃ k : Nat, k ≤ n ∧ i = .int .i64 k ∧ (∀ j, j < k → xs.getD j 0 = ys.getD j 0) ∧ Keeps w wr) (fun i _ => n - (intOf i).toNat)
      case atStart => exact ⟨0, Nat.zero_le _, rfl, fun j hj => by omega, Mods.refl _ _⟩
      case round =>
        obtain ⟨k, hk, rfl, heq, hmd⟩ := hrel
        have HEQ := Lib.hid heq
        have HMD := Lib.hid hmd
        by_cases hlt : k < n
        · have h1 := hmd.cell (HA.out k hlt) (fun h => h)
          have h2 := hmd.cell (HB.out k hlt) (fun h => h)
          have b1 : (0 : Int) ≤ (k : Int) := by omega
          have b2 : (k : Int) < (n : Int) := by omega
          clear heq hmd
          generalize hx : xs.getD k 0 = x at *
          generalize hy : ys.getD k 0 = y at *
          have HX := Lib.hid hx
          have HY := Lib.hid hy
          clear hx hy
          by_cases hxy : x = y
          · have t1 : ((x : Int) != (y : Int)) = false := by simp; omega
            go_wp2
            go_quiet (fail)
            go_wp2
            go_roundw
            case rel => exact ⟨k + 1, by omega, by go_num, fun j hj => by
              by_cases e : j = k
              · subst e; rw [HX.out, HY.out, hxy]
              · exact HEQ.out j (by omega), HMD.out.drewN _⟩
            case measure => simp [intOf]; omega
          · have t1 : ((x : Int) != (y : Int)) = true := by simp; omega
            go_wp2
            go_quiet (fail)
            go_wp2
            go_ret
            exact ⟨ret_bool (by
              symm
              simp only [decide_eq_false_iff_not]
              intro e
              rw [e] at HX
              exact hxy (HX.out.symm.trans HY.out)), HMD.out.drewN _⟩
        · have hkn : k = n := by omega
          subst hkn
          clear heq hmd
          go_wp2
          go_ret
          exact ⟨ret_bool (by
            symm
            simp only [decide_eq_true_eq]
            refine List.ext_getElem (HN.out.trans HNE.out) fun j h1 h2 => ?_
            have := HEQ.out j (by have := HN.out; omega)
            simpa [List.getD_eq_getElem?_getD, List.getElem?_eq_getElem h1, List.getElem?_eq_getElem h2] using this), HMD.out⟩
  · obtain ⟨a, c, rfl⟩ := hsa
    obtain ⟨a', c', rfl⟩ := hsb
    have e : decide (xs = ys) = false := by simp; intro e; exact hne (by rw [e])
    have hne' : ((xs.length : Int) != (ys.length : Int)) = true := by simp; omega
    have E := Lib.hid e
    clear e hne ha hb
    go_enter Try.func14, Try.ntmps14
    go_wp2
    go_ret
    exact ⟨ret_bool E.out.symm, Mods.refl _ _⟩
end Go.Proofs.Ythidgaedfabpeaa
