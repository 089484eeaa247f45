/- The walk of CursorSweeps. -/
import Derived.Test.YthidgaedfabpeaaCurD
namespace Go.Proofs.Ythidgaedfabpeaa
open Go.RowKit Go.Eg
theorem few_nr {n : Nat} {nr : Nat → Nat} (h : fewB n nr = true) (k : Nat) (hk : k < n) : nr k ≤ 100 := by
  unfold fewB at h
  simp only [decide_eq_true_eq] at h
  exact h.2 k hk
theorem sweepA_le {rdy : Nat → Bool} {n x : Nat} {visits pays : Int} (hx : x ≤ 4294967296) (hn : n ≤ 4294967296) : sweepA rdy n x visits pays ≤ 4294967296 := by
  by_cases h : n = 0 ∨ visits < 1 ∨ pays < 1
  · unfold sweepA
    rw [if_pos h]
    exact hx
  · have := sweepA_lt rdy n x visits pays h
    omega
theorem block_cell {w : World} {g : Nat} {cs : Array Value} {t : TypeId} {fr : Nat × Nat} (h : w.heap[g]? = some (.cells cs t fr)) (j : Nat) {v : Value} (hv : cs[j]? = some v) : w.cell? ⟨g, j, none⟩ = some v := by
  simp [World.cell?, h, hv]
set_option maxHeartbeats 1000000 in
theorem cursorSweeps_walk (lv : Value) (w : World) (h : ∃ n F nr rdy vs ps, Rounds w lv n F nr rdy vs ps) :
    Calls Try.prog 3 #[lv] w fun r w' => r = .returned (.bool true) ∧ Below w.heap.size w w' := by
  obtain ⟨n, F, nr, rdy, vs, ps, h⟩ := h
  obtain ⟨a, cap, hs⟩ := h.row.slice
  have H := Lib.hid h
  have hln := h.len
  clear h
  have hff := H.out
  subst hs
  have H2 := Lib.hid hff
  clear hff
  go_enter Try.func3, Try.ntmps3
  go_wp2_with fail
  refine (curNew_any w).mono ?_
  rintro r w1 ⟨rfl, rfl⟩
  have hc0 := Lib.hid (heap_alloc_last w (curB 0))
  have hk0 := Lib.hid ((Mods.refl (fun _ => False) w).alloc (curB 0))
  generalize hw1 : w.alloc (curB 0) = w1 at *
  clear hw1
  go_wp2_with fail
  refine (few_any w1 (H.out.keeps hk0.out)).mono ?_
  rintro r w2 ⟨rfl, hm2⟩
  have hc2 := Lib.hid (hm2.at hc0.out (fun h => h))
  have hk2 := Lib.hid (hk0.out.keep hm2)
  clear hm2 hc0 hk0
  cases hf : fewB n nr
  · go_wp2_with fail
    refine (alive_any _).mono ?_
    rintro r w3 ⟨rfl, hm3⟩
    have HK3 := Lib.hid (hk2.out.keep hm3)
    clear hm3
    go_wp2
    go_ret
    exact ⟨rfl, HK3.out.below'⟩
  · have HF := Lib.hid hf
    clear hf
    go_wp2_with fail
    go_loopw [4, 20] (fun at_ i wr => ∃ k x : Nat, k ≤ n ∧ i = .int .i64 k ∧ at_ = .int .i64 (x : Int) ∧ x ≤ 4294967296 ∧ wr.heap[w.heap.size]? = some (curB x) ∧ Keeps w wr) (fun _ i _ => n - (intOf i).toNat)
    case atStart => exact ⟨0, 0, Nat.zero_le _, rfl, rfl, by omega, hc2.out, hk2.out⟩
    case round =>
      obtain ⟨k, x, hk, rfl, rfl, hx, hcb, hmd⟩ := hrel
      have HC := Lib.hid hcb
      have HM := Lib.hid hmd
      by_cases hlt : k < n
      · have hR := H.out.keeps hmd
        obtain ⟨hB, hnk, e1, e2⟩ := hR.el k hlt
        obtain ⟨ra, rc, hs⟩ := hB.slice
        obtain ⟨a', cap', ha, hcell⟩ := hR.row
        obtain ⟨b, off, rfl, hcl⟩ := hcell (by omega)
        clear hcell
        simp only [Value.slice.injEq] at ha
        obtain ⟨rfl, _, rfl⟩ := ha
        have c0 := hcl k hlt 0 (by omega)
        have c1 := hcl k hlt 1 (by omega)
        have c2 := hcl k hlt 2 (by omega)
        rw [hs, Nat.add_zero] at c0
        rw [e1] at c1
        rw [e2] at c2
        rw [hs] at hB
        have hn100 := few_nr HF.out k hlt
        have HB := Lib.hid hB
        have HS := Lib.hid hs
        clear hcb hmd hR hcl hs e1 e2 hB
        go_wp2_with fail
        obtain ⟨w3, hw3⟩ : ∃ w3, w3 = wr.alloc (.cells #[.slice ra (nr k) rc, .int .i64 (vs k), .int .i64 (ps k)] 29) := ⟨_, rfl⟩
        have hb3 := Lib.hid (hw3 ▸ heap_alloc_last wr (.cells #[.slice ra (nr k) rc, .int .i64 (vs k), .int .i64 (ps k)] 29))
        have hm3 := Lib.hid (hw3 ▸ (Mods.refl (fun _ => False) wr).alloc (.cells #[.slice ra (nr k) rc, .int .i64 (vs k), .int .i64 (ps k)] 29))
        rw [← hw3]
        clear hw3 c0 c1 c2
        refine (refSweep_any x (nr k) (rdy k) _ (vs k) (ps k) w3 hx (by omega) (HB.out.keeps hm3.out)).mono ?_
        rintro r w4 ⟨v1, rfl, hI4, hm4⟩
        have hxa : sweepA (rdy k) (nr k) x (vs k) (ps k) ≤ 4294967296 := sweepA_le hx (by omega)
        have HM4 := Lib.hid (hm3.out.keep hm4)
        have hb4 := Lib.hid (hm4.at hb3.out (fun h => h))
        have hI4 := Lib.hid hI4
        have c0 := block_cell hb4.out 0 rfl
        have c1 := block_cell hb4.out 1 rfl
        have c2 := block_cell hb4.out 2 rfl
        have HC4 := Lib.hid (HM4.out.at HC.out (fun h => h))
        clear hm4
        generalize hA : sweepA (rdy k) (nr k) x (vs k) (ps k) = A at *
        have HA := Lib.hid hA
        clear hA
        go_wp2_with fail
        refine (sweep_any w.heap.size x (nr k) (rdy k) _ (vs k) (ps k) w4 HC4.out hx (by omega) (HB.out.keeps HM4.out) ?_).mono ?_
        · intro h0 e
          obtain ⟨b', hb1, hb2⟩ := (H.out.el k hlt).1.lt h0
          rw [HS.out, e] at hb1
          simp only [Option.some.injEq] at hb1
          omega
        rintro r w5 ⟨v2, rfl, hI5, hc5, hm5⟩
        rw [HA.out] at hc5
        have hI4' := ints_keep hI4.out hm5 (fun j h1 h2 => by have := heap_lt HC.out; have := hm3.out.size; omega)
        have HK5 := Lib.hid ((HM.out.keep HM4.out).seq hm5 (fun i hi h => by omega))
        have HC5 := Lib.hid hc5
        have HI5 := Lib.hid hI5
        have HI4 := Lib.hid hI4'
        clear hm5 hc5 hI5 hI4' hI4 c0 c1 c2
        go_wp2_with fail
        refine (slicesEqual_any v2 v1 _ _ _ (ints_sl HI5.out) (ints_sl HI4.out) ?_).mono ?_
        · have := sweepP_len (rdy k) (nr k) x (vs k) (ps k)
          have := sweepV_le (rdy k) (nr k) x (vs k) (ps k)
          omega
        rintro r w6 ⟨rfl, hm6⟩
        rw [decide_eq_true rfl]
        have HC6 := Lib.hid (hm6.at HC5.out (fun h => h))
        have HK6 := Lib.hid (HK5.out.keep hm6)
        generalize sweepV (rdy k) (nr k) x (vs k) (ps k) = V at *
        clear hm6
        go_wp2_with fail
        refine (curAt_any _ A _ HC6.out).mono ?_
        rintro r w7 ⟨rfl, rfl⟩
        go_wp2
        go_roundw
        case rel => exact ⟨k + 1, A, by omega, by go_num, rfl, hxa, HC6.out, HK6.out⟩
        case measure => simp [intOf]; omega
      · clear hcb hmd
        go_wp2_with fail
        refine (alive_any _).mono ?_
        rintro r w3 ⟨rfl, hm3⟩
        have HK3 := Lib.hid (HM.out.keep hm3)
        clear hm3
        go_wp2
        go_ret
        exact ⟨rfl, HK3.out.below'⟩
end Go.Proofs.Ythidgaedfabpeaa
