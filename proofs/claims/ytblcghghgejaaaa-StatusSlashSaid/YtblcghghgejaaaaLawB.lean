/- The walks of StatusRuns, StatusSlash, StatusKinds. -/
import Derived.Test.YtblcghghgejaaaaLaw
namespace Go.Proofs.Ytblcghghgejaaaa
open Go.RowKit Go.Maps Go.Eg
set_option maxHeartbeats 800000 in
theorem statusRuns_walk (s : Int) (z : Nat → Int) (a0 : Option Addr) (n cap : Nat) (w : World) (w0 : (Lit.int .i64 s).wf = true) (_lc : n ≤ cap) (hrow : IntRow w a0 n z) :
    Calls Try.prog 4 #[.int .i64 s, .slice a0 n cap] w fun e w' => e = .returned (.bool true) ∧ Below w.heap.size w w' := by
  by_cases hbig : 1000 < n
  · go_enter Try.func4, Try.ntmps4
    go_wp2_with fail
    refine (alive_any _).mono ?_
    rintro r w3 ⟨rfl, hb⟩
    go_wp2
    go_ret
    exact ⟨rfl, hb⟩
  · have hm := runFrom_spec s z n 0
    have HM : Hid (0 ≤ runLen s z n ∧ runLen s z n ≤ 0 + n ∧ (∀ j, 0 ≤ j → j < runLen s z n → refNext (st s z j) (z j) ≠ 0) ∧ (runLen s z n < 0 + n → refNext (st s z (runLen s z n)) (z (runLen s z n)) = 0)) := Lib.hid hm
    clear hm
    have hrun := fun w => run_any s z a0 n cap w (by omega) w0
    have HR := Lib.hid hrun
    clear hrun
    generalize runLen s z n = m at *
    go_enter Try.func4, Try.ntmps4
    go_wp2_with fail
    refine (HR.out _ hrow).mono ?_
    rintro r w1 ⟨rfl, hb1⟩
    have hrow1 := hrow.below hb1
    obtain ⟨b, off, hbl, ha, hc⟩ := hrow1
    have HC := Lib.hid hc
    have HA := Lib.hid ha
    have HB := Lib.hid hbl
    have HW := Lib.hid hrow
    clear hc ha hbl hrow
    go_wp2_with fail
    go_loop [7, 8, 25] (fun t mm i => ∃ k : Nat, k ≤ n ∧ i = .int .i64 k ∧ mm = .int .i64 k ∧ t = .int .i64 (st s z k) ∧ (∀ j, j < k → refNext (st s z j) (z j) ≠ 0)) (fun _ _ i => n - (intOf i).toNat)
    case atStart => exact ⟨0, Nat.zero_le _, rfl, rfl, rfl, fun j hj => by omega⟩
    case round =>
      obtain ⟨k, hk, rfl, rfl, rfl, hok⟩ := hrel
      have HO := Lib.hid hok
      clear hok
      by_cases hlt : k < n
      · obtain ⟨hcs, hw⟩ := HC.out k hlt
        obtain rfl := HA.out (by omega)
        have HE : Hid (st s z (k + 1) = refNext (st s z k) (z k)) := Lib.hid rfl
        go_wp2_with fail
        refine (refNext_any (st s z k) (z k) _).mono ?_
        rintro r w2 ⟨rfl, rfl⟩
        by_cases h0 : refNext (st s z k) (z k) = 0
        · have hkm : m = k := by
            obtain ⟨_, h2, h3, h4⟩ := HM.out
            apply Classical.byContradiction
            intro hne
            rcases Nat.lt_or_gt_of_ne hne with h | h
            · exact HO.out m h (h4 (by omega))
            · exact h3 k (by omega) h h0
          subst hkm
          rw [h0]
          go_wp2_with fail
          refine (alive_any _).mono ?_
          rintro r w3 ⟨rfl, hb3⟩
          have hb := hb1.trans (hb3.mono hb1.size)
          clear hb1 hb3 hcs
          go_wp2
          go_ret
          exact ⟨rfl, hb⟩
        · have h0b : (refNext (st s z k) (z k) == 0) = false := by simpa using h0
          have H0 := Lib.hid h0
          clear h0
          go_wp2
          go_round
          case rel =>
            refine ⟨k + 1, by omega, by go_num, by go_num, by rw [HE.out], fun j hj => ?_⟩
            by_cases hjk : j = k
            · subst hjk; exact H0.out
            · exact HO.out j (by omega)
          case measure => simp [intOf]; omega
      · have hkm : m = k := by
          obtain ⟨_, h2, h3, h4⟩ := HM.out
          apply Classical.byContradiction
          intro hne
          exact HO.out m (by omega) (h4 (by omega))
        subst hkm
        go_wp2_with fail
        refine (alive_any _).mono ?_
        rintro r w3 ⟨rfl, hb3⟩
        have hb := hb1.trans (hb3.mono hb1.size)
        clear hb1 hb3
        go_wp2
        go_ret
        exact ⟨rfl, hb⟩
theorem statusSlash_walk (s : Int) (w : World) (w0 : (Lit.int .i64 s).wf = true) :
    Calls Try.prog 6 #[.int .i64 s] w fun e w' => e = .returned (.bool true) ∧ Below w.heap.size w w' := by
  have hcase : (refNext s 7 = 0 ∧ (s < 2 ∨ 5 < s)) ∨ (refNext s 7 = 3 ∧ (s = 2 ∨ s = 3)) ∨ (refNext s 7 = 4 ∧ (s = 4 ∨ s = 5)) := by
    unfold refNext
    repeat' split
    all_goals first | omega | (simp at *; omega)
  have h33 : refNext 3 7 = 3 := rfl
  have h44 : refNext 4 7 = 4 := rfl
  go_enter Try.func6, Try.ntmps6
  go_wp2_with fail
  refine (next_any s 7 _ w0 (by decide)).mono ?_
  rcases hcase with ⟨e, hs⟩ | ⟨e, hs⟩ | ⟨e, hs⟩
  · rw [e]
    have e0 : ((0 : Int) != 0) = false := rfl
    rw [e0]
    rintro r w1 ⟨rfl, hb1⟩
    clear e e0 h33 h44
    go_wp2_with fail
    refine (alive_any _).mono ?_
    rintro r w3 ⟨rfl, hb3⟩
    have hb := hb1.trans (hb3.mono hb1.size)
    clear hb1 hb3
    rcases hs with hs | hs
    all_goals
      go_wp2
      go_ret
      exact ⟨rfl, hb⟩
  · rw [e]
    have e0 : ((3 : Int) != 0) = true := rfl
    rw [e0]
    rintro r w1 ⟨rfl, hb1⟩
    clear e e0 h44
    go_wp2_with fail
    refine (next_any 3 7 _ (by decide) (by decide)).mono ?_
    rw [h33]
    have e0 : ((3 : Int) != 0) = true := rfl
    rw [e0]
    rintro r w2 ⟨rfl, hb2⟩
    clear e0 h33
    go_wp2_with fail
    refine (alive_any _).mono ?_
    rintro r w3 ⟨rfl, hb3⟩
    have hb := (hb1.trans (hb2.mono hb1.size)).trans (hb3.mono (Nat.le_trans hb1.size hb2.size))
    clear hb1 hb3 hb2
    go_wp2_with fail
    refine (live_any 3 _).mono ?_
    rintro r w4 ⟨rfl, rfl⟩
    go_wp2_with fail
    refine (live_any s _).mono ?_
    have hl : (s == 2 || s == 3) = true := by simp; exact hs
    rw [hl]
    rintro r w4 ⟨rfl, rfl⟩
    go_wp2
    go_ret
    exact ⟨rfl, hb⟩
  · rw [e]
    have e0 : ((4 : Int) != 0) = true := rfl
    rw [e0]
    rintro r w1 ⟨rfl, hb1⟩
    clear e e0 h33
    go_wp2_with fail
    refine (next_any 4 7 _ (by decide) (by decide)).mono ?_
    rw [h44]
    have e0 : ((4 : Int) != 0) = true := rfl
    rw [e0]
    rintro r w2 ⟨rfl, hb2⟩
    clear e0 h44
    go_wp2_with fail
    refine (alive_any _).mono ?_
    rintro r w3 ⟨rfl, hb3⟩
    have hb := (hb1.trans (hb2.mono hb1.size)).trans (hb3.mono (Nat.le_trans hb1.size hb2.size))
    clear hb1 hb3 hb2
    go_wp2_with fail
    refine (live_any 4 _).mono ?_
    rintro r w4 ⟨rfl, rfl⟩
    go_wp2_with fail
    refine (live_any s _).mono ?_
    have hl : (s == 2 || s == 3) = false := by simp; omega
    rw [hl]
    rintro r w4 ⟨rfl, rfl⟩
    go_wp2
    go_ret
    exact ⟨rfl, hb⟩
end Go.Proofs.Ytblcghghgejaaaa
