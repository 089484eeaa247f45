/- The walk of CursorBudget. -/
import Derived.Test.YthidgaedfabpeaaCurG
namespace Go.Eg
theorem paidL_mem (rdy : Nat → Bool) (n x k i : Nat) (h : i ∈ paidL rdy n x k) : rdy i = true ∧ ∃ j, j < k ∧ posN n x j = i := by
  unfold paidL at h
  rw [List.mem_filter, List.mem_map] at h
  obtain ⟨⟨j, hj, e⟩, hr⟩ := h
  exact ⟨hr, j, List.mem_range.1 hj, e⟩
theorem paidL_lt (rdy : Nat → Bool) (n x k i : Nat) (hn : 0 < n) (h : i ∈ paidL rdy n x k) : i < n := by
  obtain ⟨_, j, _, e⟩ := paidL_mem rdy n x k i h
  rw [← e]
  exact posN_lt x j hn
theorem paidL_nodup (rdy : Nat → Bool) (n x : Nat) : ∀ k, k ≤ n → (paidL rdy n x k).Nodup
  | 0, _ => by rw [paidL_zero]; exact List.nodup_nil
  | k + 1, h => by
    rw [paidL_succ]
    split
    · rw [List.nodup_append]
      refine ⟨paidL_nodup rdy n x k (by omega), by simp, ?_⟩
      intro a ha b hb e
      simp at hb
      subst e hb
      obtain ⟨_, j, hj, e⟩ := paidL_mem rdy n x k _ ha
      have := posN_inj x n j k (by omega) (by omega) e
      omega
    · rw [List.append_nil]
      exact paidL_nodup rdy n x k (by omega)
theorem sweepP_spec (rdy : Nat → Bool) (n x : Nat) (visits pays : Int) : (sweepP rdy n x visits pays).Nodup ∧ ∀ i ∈ sweepP rdy n x visits pays, i < n ∧ rdy i = true := by
  have hv := (sweepV_le rdy n x visits pays).1
  refine ⟨paidL_nodup _ _ _ _ hv, fun i hi => ?_⟩
  by_cases h0 : n = 0
  · unfold sweepP at hi
    rw [show sweepV rdy n x visits pays = 0 from by omega, paidL_zero] at hi
    cases hi
  · exact ⟨paidL_lt _ _ _ _ _ (by omega) hi, (paidL_mem _ _ _ _ _ hi).1⟩
/-- what has been seen behind k of the indices -/
def seenB (P : List Nat) (k : Nat) (j : Nat) : Bool := decide (j ∈ P.take k)
theorem seenB_zero (P : List Nat) : seenB P 0 = fun _ => false := by funext j; simp [seenB]
theorem seenB_new {P : List Nat} (h : P.Nodup) (k : Nat) (hk : k < P.length) : seenB P k (P.getD k 0) = false := by
  unfold seenB
  simp only [decide_eq_false_iff_not]
  intro hm
  rw [List.mem_take_iff_getElem] at hm
  obtain ⟨j, hj, e⟩ := hm
  rw [List.getD_eq_getElem?_getD, List.getElem?_eq_getElem hk] at e
  have := (List.getElem_inj h).1 e
  omega
theorem seenB_succ (P : List Nat) (k : Nat) (hk : k < P.length) : seenB P (k + 1) = fun j => if j = P.getD k 0 then true else seenB P k j := by
  funext j
  unfold seenB
  rw [List.take_succ_eq_append_getElem hk]
  have e : P.getD k 0 = P[k] := by rw [List.getD_eq_getElem?_getD, List.getElem?_eq_getElem hk]; rfl
  rw [e]
  simp only [List.mem_append, List.mem_singleton]
  by_cases h : j = P[k]
  · rw [if_pos h]; simp [h]
  · rw [if_neg h]; simp [h]
end Go.Eg
namespace Go.Proofs.Ythidgaedfabpeaa
open Go.RowKit Go.Eg
theorem ints_cell {B : Nat} {w : World} {v : Value} {l : List Nat} (h : Ints B w v l) : ∃ a c, v = .slice a l.length c ∧ ∀ j, j < l.length → ∃ g, a = some ⟨g, 0, none⟩ ∧ w.cell? ⟨g, j, none⟩ = some (.int .i64 (l.getD j 0 : Nat)) := by
  obtain ⟨h1, h2⟩ := h
  rcases h2 with ⟨rfl, h0⟩ | ⟨g, cap, cur, rfl, hg, hh, r⟩
  · exact ⟨none, 0, by rw [h0], fun j hj => by omega⟩
  · refine ⟨_, _, rfl, fun j hj => ⟨g, rfl, ?_⟩⟩
    have ho : w.ownsRow B 3 1 (.slice (some ⟨g, 0, none⟩) l.length cap) l.length (intsV l) := ⟨h1, .inr ⟨g, cap, cur, rfl, hg, hh, r⟩⟩
    rw [ho.cellAt j (by omega)]
    simp [intsV, List.getD_eq_getElem?_getD, List.getElem?_eq_getElem hj]
theorem pa_cell {B : Nat} {w : World} {a : Option Addr} {n c : Nat} {l : List Nat} (h : Ints B w (.slice a n c) l) (j : Nat) (hj : j < l.length) : ∃ g, a = some ⟨g, 0, none⟩ ∧ w.cell? ⟨g, j, none⟩ = some (.int .i64 (l.getD j 0 : Nat)) := by
  obtain ⟨a', c', e, hc⟩ := ints_cell h
  simp only [Value.slice.injEq] at e
  obtain ⟨rfl, rfl, rfl⟩ := e
  exact hc j hj
set_option maxRecDepth 100000 in
set_option maxHeartbeats 2000000 in
theorem cursorBudget_walk (lv : Value) (w : World) (h : ∃ n F nr rdy vs ps, Rounds w lv n F nr rdy vs ps) :
    Calls Try.prog 4 #[lv] w fun r w' => r = .returned (.bool true) ∧ Below w.heap.size w w' := by
  obtain ⟨n, F, nr, rdy, vs, ps, h⟩ := h
  obtain ⟨a, cap, hs⟩ := h.row.slice
  have H := Lib.hid h
  have hln := h.len
  clear h
  have hff := H.out
  subst hs
  have H2 := Lib.hid hff
  clear hff
  go_enter Try.func4, Try.ntmps4
  go_wp2_with fail
  refine (curNew_any w).mono ?_
  rintro r w1 ⟨rfl, rfl⟩
  have hc0 := Lib.hid (heap_alloc_last w (curB 0))
  have hk0 := Lib.hid ((Mods.refl (fun _ => False) w).alloc (curB 0))
  generalize hw1 : w.alloc (curB 0) = w1 at *
  clear hw1
  go_wp2_with fail
  refine (few_any w1 (H.out.keeps hk0.out)).mono ?_
  rintro r w2 ⟨rfl, hm2⟩
  have hc2 := Lib.hid (hm2.at hc0.out (fun h => h))
  have hk2 := Lib.hid (hk0.out.keep hm2)
  clear hm2 hc0 hk0
  cases hf : fewB n nr
  · go_wp2_with fail
    refine (alive_any _).mono ?_
    rintro r w3 ⟨rfl, hm3⟩
    have HK3 := Lib.hid (hk2.out.keep hm3)
    clear hm3
    go_wp2
    go_ret
    exact ⟨rfl, HK3.out.below'⟩
  · have HF := Lib.hid hf
    clear hf
    go_wp2_with fail
    go_loopg [20] (n) (fun g i wr => ∃ k x : Nat, g + k = n ∧ i = .int .i64 k ∧ x ≤ 4294967296 ∧ wr.heap[w.heap.size]? = some (curB x) ∧ Keeps w wr)
    case atStart => exact ⟨0, 0, by omega, rfl, by omega, hc2.out, hk2.out⟩
    case round =>
      obtain ⟨wo, rfl⟩ : ∃ wo : World, wo = wr := ⟨_, rfl⟩
      obtain ⟨k, x, hk, rfl, hx, hcb, hmd⟩ := hrel
      have HC := Lib.hid hcb
      have HM := Lib.hid hmd
      by_cases hlt : k < n
      · have hR := H.out.keeps hmd
        obtain ⟨hB, hnk, e1, e2⟩ := hR.el k hlt
        obtain ⟨ra, rc, hs⟩ := hB.slice
        obtain ⟨a', cap', ha, hcell⟩ := hR.row
        obtain ⟨b, off, rfl, hcl⟩ := hcell (by omega)
        clear hcell
        simp only [Value.slice.injEq] at ha
        obtain ⟨rfl, _, rfl⟩ := ha
        have c0 := hcl k hlt 0 (by omega)
        have c1 := hcl k hlt 1 (by omega)
        have c2 := hcl k hlt 2 (by omega)
        rw [hs, Nat.add_zero] at c0
        rw [e1] at c1
        rw [e2] at c2
        rw [hs] at hB
        have hn100 := few_nr HF.out k hlt
        have HB := Lib.hid hB
        have HS := Lib.hid hs
        clear hcb hmd hR hcl hs e1 e2 hB
        go_wp2_with fail
        obtain ⟨w3, hw3⟩ : ∃ w3, w3 = wo.alloc (.cells #[.slice ra (nr k) rc, .int .i64 (vs k), .int .i64 (ps k)] 29) := ⟨_, rfl⟩
        have hb3 := Lib.hid (hw3 ▸ heap_alloc_last wo (.cells #[.slice ra (nr k) rc, .int .i64 (vs k), .int .i64 (ps k)] 29))
        have hm3 := Lib.hid (hw3 ▸ (Mods.refl (fun _ => False) wo).alloc (.cells #[.slice ra (nr k) rc, .int .i64 (vs k), .int .i64 (ps k)] 29))
        rw [← hw3]
        clear hw3 c0 c1 c2
        have hxa : sweepA (rdy k) (nr k) x (vs k) (ps k) ≤ 4294967296 := sweepA_le hx (by omega)
        have HC3 := Lib.hid (hm3.out.at HC.out (fun h => h))
        obtain ⟨q1, q2⟩ := sweepV_le (rdy k) (nr k) x (vs k) (ps k)
        have q3 := sweepP_len (rdy k) (nr k) x (vs k) (ps k)
        have q4 := sweepP_pays (rdy k) (nr k) x (vs k) (ps k)
        have HSP := Lib.hid (sweepP_spec (rdy k) (nr k) x (vs k) (ps k))
        generalize hA : sweepA (rdy k) (nr k) x (vs k) (ps k) = A at *
        have HA := Lib.hid hA
        clear hA
        refine (sweep_any w.heap.size x (nr k) (rdy k) _ (vs k) (ps k) w3 HC3.out hx (by omega) (HB.out.keeps hm3.out) ?_).mono ?_
        · intro h0 e
          obtain ⟨b', hb1, hb2⟩ := (H.out.el k hlt).1.lt h0
          rw [HS.out, e] at hb1
          simp only [Option.some.injEq] at hb1
          omega
        generalize sweepV (rdy k) (nr k) x (vs k) (ps k) = V at *
        generalize sweepP (rdy k) (nr k) x (vs k) (ps k) = P at *
        rintro r w5 ⟨v2, rfl, hI5, hc5, hm5⟩
        rw [HA.out] at hc5
        have HK5 := Lib.hid ((HM.out.keep hm3.out).seq hm5 (fun i hi h => by omega))
        have HC5 := Lib.hid hc5
        have HI5 := Lib.hid hI5
        have hR5 : 0 < nr k → Bools w5 (.slice ra (nr k) rc) (nr k) (rdy k) := fun h0 => (HB.out.keeps hm3.out).mods hm5 fun j e h => by
          obtain ⟨b', hb1, hb2⟩ := (H.out.el k hlt).1.lt h0
          rw [HS.out, e] at hb1
          simp only [Option.some.injEq] at hb1
          omega
        have HR5 := Lib.hid hR5
        clear hR5
        have hlt3 : wo.heap.size < w3.heap.size := heap_lt hb3.out
        have HB5 := Lib.hid (hm5.at hb3.out (by have := heap_lt HC.out; omega))
        obtain ⟨pa, pc, rfl, hpc⟩ := ints_cell hI5
        have c0 := block_cell HB5.out 0 rfl
        have c1 := block_cell HB5.out 1 rfl
        have c2 := block_cell HB5.out 2 rfl
        obtain ⟨mv, hmv⟩ : ∃ mv : Int, (if vs k < 0 then (0 : Int) else vs k) = mv := ⟨_, rfl⟩
        obtain ⟨mp, hmp⟩ : ∃ mp : Int, (if ps k < 0 then (0 : Int) else ps k) = mp := ⟨_, rfl⟩
        have q2' : (V : Int) ≤ mv := by rw [← hmv]; split <;> omega
        have q4' : (P.length : Int) ≤ mp := by rw [← hmp]; split <;> omega
        clear hm5 hc5 hI5 hpc q2 q4
        go_wp2_with (at_make; refine wpList_make_bools rfl _ _ rfl (nr k) rfl rfl (by omega) ?_; refine Parked.out ?_)
        refine Parked.mk ?_
        intro w6 hb6 hm6
        have HB6 := Lib.hid hb6
        have HM6 := Lib.hid hm6
        clear hb6 hm6
        go_wp2_with fail
        go_loopw [71] (fun i wr => ∃ t : Nat, t ≤ P.length ∧ i = .int .i64 t ∧ wr.heap[w5.heap.size]? = some (boolsB (seenB P t) (nr k)) ∧ Mods (· = w5.heap.size) w6 wr) (fun i _ => P.length - (intOf i).toNat)
        case atStart => exact ⟨0, Nat.zero_le _, rfl, by rw [seenB_zero]; exact HB6.out, Mods.refl _ _⟩
        case round =>
          obtain ⟨t, ht, rfl, hbt, hmt⟩ := hrel
          have HBT := Lib.hid hbt
          have HMT := Lib.hid hmt
          have HM56 := Lib.hid ((HM6.out.weaken (T := (· = w5.heap.size)) fun _ _ h => h.elim).trans hmt)
          clear hbt hmt c0 c1 c2
          by_cases hlt2 : t < P.length
          · obtain ⟨pg, rfl, hpc⟩ := pa_cell HI5.out t hlt2
            have hmem : P.getD t 0 ∈ P := by rw [List.getD_eq_getElem?_getD, List.getElem?_eq_getElem hlt2]; exact List.getElem_mem hlt2
            obtain ⟨hpn, hpr⟩ := HSP.out.2 _ hmem
            have hnew := seenB_new HSP.out.1 t hlt2
            have hsucc := seenB_succ P t hlt2
            generalize hpg : P.getD t 0 = p at *
            obtain ⟨ra', rc', e, hrc⟩ := HR5.out (by omega)
            simp only [Value.slice.injEq] at e
            obtain ⟨rfl, _, rfl⟩ := e
            obtain ⟨rb, ro, rfl, hrcc⟩ := hrc (by omega)
            have d0 := HM56.out.cell hpc (by have := cell_lt hpc; simp at this; simp; omega)
            have d1 := boolsB_cell HBT.out p hpn
            rw [hnew] at d1
            have d2 := boolsB_free HBT.out p
            have d3 := HM56.out.cell (block_cell HB5.out 0 rfl) (by have := heap_lt HB5.out; simp; omega)
            have d4 := hrcc p hpn
            rw [hpr] at d4
            have d4 := HM56.out.cell d4 (by have := cell_lt d4; simp at this; simp; omega)
            have HSU := Lib.hid hsucc
            clear hmem hpr hnew hsucc hpg hrc hrcc hpc
            go_wp2
            go_roundw
            case rel => exact ⟨t + 1, by omega, by go_num, by rw [HSU.out]; exact boolsB_set true HBT.out, HMT.out.setCell _ _ (fun _ => rfl)⟩
            case measure => simp [intOf]; omega
          · go_wp2
            go_roundg (n - (k + 1))
            case rel => exact ⟨k + 1, A, by omega, by go_num, hxa, HM56.out.at HC5.out (by have := heap_lt HC.out; have := heap_lt HB5.out; omega), HK5.out.seq HM56.out (fun i hi h => by have := HK5.out.size; omega)⟩
            case measure => omega
      · clear hcb hmd
        go_wp2_with fail
        refine (alive_any _).mono ?_
        rintro r w3 ⟨rfl, hm3⟩
        have HK3 := Lib.hid (HM.out.keep hm3)
        clear hm3
        go_wp2
        go_ret
        exact ⟨rfl, HK3.out.below'⟩
end Go.Proofs.Ythidgaedfabpeaa
