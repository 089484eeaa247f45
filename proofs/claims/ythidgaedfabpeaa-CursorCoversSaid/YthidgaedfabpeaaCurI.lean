/- The walk of CursorCovers. -/
import Derived.Test.YthidgaedfabpeaaCurG
import Derived.OpenShut
namespace Go.Eg
open Go Go.RowKit Go.WideShapes
section
variable {H : Type} {enc : TypeId × Value → H} {P : Program} {w : World} {base : Nat} {spare : Nat → Bool} {held : Bool}
theorem open_arr4 {r : Reach} {b0 : Nat} {t e : TypeId} {v : Value} {d : DataW H} {p : List MemPlace} (ht : P.underlying t = some (.array 4 e)) (he : P.underlying e = some (.int .u8)) (hC : P.cellsOf t = 4) (hc : P.cellsOf e = 1)
    (hv : Value.okWide P w r b0 t v) (h : DataW.Trod enc P w base spare held t v d p) :
    ∃ z : Nat → Int, v = .agg #[.int .u8 (z 0), .int .u8 (z 1), .int .u8 (z 2), .int .u8 (z 3)] ∧ ∀ i, i < 4 → 0 ≤ z i ∧ z i ≤ 255 := by
  simp only [Value.okWide, ht] at hv
  obtain ⟨cs, rfl, h2, _⟩ := hv
  obtain ⟨l⟩ := cs
  obtain ⟨fuel, hf⟩ := h
  obtain ⟨xs, m, _, _, hl, hx, hg⟩ := DataW.trod_array ht hf
  match l, h2.trans hC with
  | [c0, c1, c2, c3], _ =>
    have el : ∀ i, i < 4 → ∃ a : Int, [c0, c1, c2, c3][i]? = some (.int .u8 a) ∧ (Lit.int .u8 a).wf = true := by
      intro i hi
      have := hg i hi
      rw [hc, List.getElem?_eq_getElem (show i < xs.length by omega)] at this
      obtain ⟨a, e1, _, wa⟩ := DataW.trod_int he this
      refine ⟨a, ?_, wa⟩
      match i, hi with
      | 0, _ | 1, _ | 2, _ | 3, _ => simpa [Value.cells] using e1
    obtain ⟨a0, e0, w0⟩ := el 0 (by omega)
    obtain ⟨a1, e1, w1⟩ := el 1 (by omega)
    obtain ⟨a2, e2, w2⟩ := el 2 (by omega)
    obtain ⟨a3, e3, w3⟩ := el 3 (by omega)
    simp at e0 e1 e2 e3
    subst e0 e1 e2 e3
    refine ⟨fun i => [a0, a1, a2, a3].getD i 0, rfl, fun i hi => ?_⟩
    match i, hi with
    | 0, _ => exact bounds_u8 w0
    | 1, _ => exact bounds_u8 w1
    | 2, _ => exact bounds_u8 w2
    | 3, _ => exact bounds_u8 w3
end
/-- what has been visited in T visits from x0 on -/
def seenF (x0 n T : Nat) (j : Nat) : Bool := (List.range T).any fun i => posN n x0 i == j
theorem seenF_zero (x0 n : Nat) : seenF x0 n 0 = fun _ => false := rfl
theorem seenF_succ (x0 n T : Nat) : seenF x0 n (T + 1) = fun j => if j = posN n x0 T then true else seenF x0 n T j := by
  funext j
  unfold seenF
  rw [List.range_succ, List.any_append]
  by_cases h : j = posN n x0 T
  · rw [if_pos h]; simp [h]
  · rw [if_neg h]; simp [Ne.symm h]
theorem seenF_all (x0 n T j : Nat) (hT : n ≤ T) (hj : j < n) : seenF x0 n T j = true := by
  unfold seenF
  rw [List.any_eq_true]
  have := distN_lt x0 n j (by omega)
  exact ⟨distN x0 n j, List.mem_range.2 (by omega), by rw [posN_dist x0 n j hj]; simp⟩
theorem posN_shift (x x0 n T k : Nat) (h : x % n = (x0 + T) % n) : (x + k) % n = posN n x0 (T + k) := by
  unfold posN
  rw [← Nat.mod_add_mod, h, Nat.mod_add_mod, Nat.add_assoc]
theorem vis_ge (rdy : Nat → Bool) (n at0 pays : Nat) : ∀ f k, min (k + f) (max k pays) ≤ vis rdy n at0 pays f k
  | 0, k => by rw [vis]; omega
  | f + 1, k => by
    rw [vis]
    have hl := paidL_le rdy n at0 k
    split
    · omega
    · have := vis_ge rdy n at0 pays f (k + 1)
      omega
/-- a sweep makes at least this many visits -/
theorem sweepV_ge (rdy : Nat → Bool) (n at0 : Nat) (v p : Nat) (hn : 0 < n) (hv : 0 < v) (hp : 0 < p) : min (min v n) p ≤ sweepV rdy n at0 v p ∧ 0 < sweepV rdy n at0 v p ∧ sweepA rdy n at0 v p = posN n at0 (sweepV rdy n at0 v p) := by
  have h3 : ¬ (n = 0 ∨ (v : Int) < 1 ∨ (p : Int) < 1) := by omega
  have e : sweepV rdy n at0 v p = vis rdy n at0 p (min v n) 0 := by unfold sweepV; rw [if_neg h3]; simp
  have := vis_ge rdy n at0 p (min v n) 0
  refine ⟨by rw [e]; omega, by rw [e]; omega, ?_⟩
  unfold sweepA
  rw [if_neg h3]
theorem blocks_cover (n q B : Nat) (hq : 0 < q) (hn : 0 < n) (hB : B = (n - 1) / q + 1) : n ≤ B * q := by
  subst hB
  have := Nat.div_add_mod (n - 1) q
  have := Nat.mod_lt (n - 1) hq
  rw [Nat.add_mul, Nat.mul_comm]
  omega
end Go.Eg
namespace Go.Proofs.Ythidgaedfabpeaa
open Go.RowKit Go.Eg
theorem blocksI_nat (n v p : Nat) (hn : 0 < n) (hv : 0 < v) (hp : 0 < p) : blocksI n v p = (((n - 1) / min v p + 1 : Nat) : Int) := by
  unfold blocksI
  rw [if_neg (by omega)]
  have e1 : ((n : Int) - 1) = ((n - 1 : Nat) : Int) := by omega
  have e2 : min (v : Int) (p : Int) = ((min v p : Nat) : Int) := by omega
  rw [e1, e2]
  push_cast
  rfl
theorem index_any (g n c : Nat) (f : Nat → Bool) (w : World) (hn : n ≤ 4294967296) (h : w.heap[g]? = some (boolsB f n)) (hall : ∀ j, j < n → f j = true) :
    Calls Try.prog 21 #[.slice (some ⟨g, 0, none⟩) n c, .bool false] w fun r w' => r = .returned (.int .i64 (-1)) ∧ w = w' := by
  have HB := Lib.hid h
  have HA := Lib.hid hall
  clear h hall
  go_enter Try.func21, Try.ntmps21
  go_wp2
  go_loop [8] (fun i => ∃ k : Nat, k ≤ n ∧ i = .int .i64 k) (fun i => n - (intOf i).toNat)
  case atStart => exact ⟨0, Nat.zero_le _, rfl⟩
  case round =>
    obtain ⟨k, hk, rfl⟩ := hrel
    by_cases hlt : k < n
    · have hc := boolsB_cell HB.out k hlt
      rw [HA.out k hlt] at hc
      go_wp2
      go_round
      case rel => exact ⟨k + 1, by omega, by go_num⟩
      case measure => simp [intOf]; omega
    · go_wp2
      go_ret
      exact ⟨rfl, rfl⟩
theorem contains_any (g n c : Nat) (f : Nat → Bool) (w : World) (hn : n ≤ 4294967296) (h : w.heap[g]? = some (boolsB f n)) (hall : ∀ j, j < n → f j = true) :
    Calls Try.prog 19 #[.slice (some ⟨g, 0, none⟩) n c, .bool false] w fun r w' => r = .returned (.bool false) ∧ w = w' := by
  go_enter Try.func19, Try.ntmps19
  go_wp2_with fail
  refine (index_any g n c f w hn h hall).mono ?_
  rintro r w' ⟨rfl, rfl⟩
  go_wp2
  go_ret
  exact ⟨rfl, rfl⟩
set_option maxRecDepth 100000 in
set_option maxHeartbeats 4000000 in
theorem cursorCovers_walk (z : Nat → Int) (lv : Value) (nl : Nat) (rl : Nat → Bool) (w : World) (hz : ∀ i, i < 4 → 0 ≤ z i ∧ z i ≤ 255) (hl : Bools w lv nl rl) (_ : nl ≤ 9223372036854775807) :
    Calls Try.prog 8 #[.agg #[.int .u8 (z 0), .int .u8 (z 1), .int .u8 (z 2), .int .u8 (z 3)], lv] w fun r w' => r = .returned (.bool true) ∧ Below w.heap.size w w' := by
  obtain ⟨a0, b0⟩ := hz 0 (by omega)
  obtain ⟨a1, b1⟩ := hz 1 (by omega)
  obtain ⟨a2, b2⟩ := hz 2 (by omega)
  obtain ⟨a3, b3⟩ := hz 3 (by omega)
  generalize z 0 = s at *
  generalize z 1 = z1 at *
  generalize z 2 = z2 at *
  generalize z 3 = z3 at *
  clear hz
  obtain ⟨n, hn⟩ : ∃ n : Nat, z1 % 30 + 1 = n := ⟨(z1 % 30 + 1).toNat, by omega⟩
  obtain ⟨v, hv⟩ : ∃ v : Nat, z2 % 8 + 1 = v := ⟨(z2 % 8 + 1).toNat, by omega⟩
  obtain ⟨p, hp⟩ : ∃ p : Nat, z3 % 8 + 1 = p := ⟨(z3 % 8 + 1).toNat, by omega⟩
  have hn1 : 1 ≤ n ∧ n ≤ 30 := by omega
  have hv1 : 1 ≤ v ∧ v ≤ 8 := by omega
  have hp1 : 1 ≤ p ∧ p ≤ 8 := by omega
  have r0 := Int.emod_nonneg s (show (n : Int) ≠ 0 by omega)
  have r1 := Int.emod_lt_of_pos s (show (0 : Int) < n by omega)
  obtain ⟨la, lc, hls⟩ := hl.slice
  have HL := Lib.hid hl
  clear hl
  subst hls
  go_enter Try.func8, Try.ntmps8
  go_wp2_with fail
  go_quiet (fail)
  go_wp2_with fail
  obtain ⟨w0, hw0⟩ : ∃ w0, w0 = (w.alloc (.cells #[.int .u8 s, .int .u8 z1, .int .u8 z2, .int .u8 z3] 42)).drewN nq := ⟨_, rfl⟩
  rw [← hw0]
  have hb0 := Lib.hid (show w0.heap[w.heap.size]? = some (.cells #[.int .u8 s, .int .u8 z1, .int .u8 z2, .int .u8 z3] 42 (0, 0)) from hw0 ▸ heap_alloc_last w _)
  have hk0 := Lib.hid (show Keeps w w0 from hw0 ▸ ((Mods.refl (fun _ => False) w).alloc _).drewN _)
  have hs0 : w.heap.size < w0.heap.size := heap_lt hb0.out
  clear hw0
  refine (curNew_any _).mono ?_
  rintro r w1 ⟨rfl, rfl⟩
  obtain ⟨w1, hw1⟩ : ∃ w1, w1 = w0.alloc (curB 0) := ⟨_, rfl⟩
  rw [← hw1]
  have hc1 := Lib.hid (show w1.heap[w0.heap.size]? = some (curB 0) from hw1 ▸ heap_alloc_last w0 _)
  have hm1 : Keeps w0 w1 := hw1 ▸ (Mods.refl (fun _ => False) w0).alloc _
  have hb1 := Lib.hid (hm1.at hb0.out (fun h => h))
  have hk1 := Lib.hid (hk0.out.keep hm1)
  have hs1 : w0.heap.size < w1.heap.size := heap_lt hc1.out
  have hx0 := block_cell hb1.out 0 rfl
  clear hw1 hm1 hb0 hk0
  by_cases hbig : nl > 1000
  · go_wp2_with fail
    refine (alive_any _).mono ?_
    rintro r w3 ⟨rfl, hm3⟩
    have HK3 := Lib.hid (hk1.out.keep hm3)
    clear hm3
    go_wp2
    go_ret
    exact ⟨rfl, HK3.out.below'⟩
  go_wp2_with (at_make; refine wpList_make_bools rfl _ _ rfl n rfl rfl (by omega) ?_; refine Parked.out ?_)
  refine Parked.mk ?_
  intro w2 hb2 hm2
  have hf2 := Lib.hid hb2
  have hc2 := Lib.hid (hm2.at hc1.out (fun h => h))
  have hz2 := Lib.hid (hm2.at hb1.out (fun h => h))
  have hk2 := Lib.hid (hk1.out.keep hm2)
  have hx2 := block_cell hz2.out 0 rfl
  have hs2 : w1.heap.size < w2.heap.size := heap_lt hb2
  clear hb2 hm2 hx0 hc1 hb1 hk1
  go_wp2_with fail
  refine (sweep_any w0.heap.size 0 n (fun _ => false) _ _ 1 w2 hc2.out (by omega) (by omega) (bools_of_boolsB hf2.out) (fun _ => by simp [Value.ownBlock]; omega)).mono ?_
  rintro r w3 ⟨v3, rfl, hI3, hc3, hm3⟩
  have hxa := sweepA_le (rdy := fun _ => false) (n := n) (x := 0) (visits := s % n + 1) (pays := 1) (by omega) (by omega)
  generalize sweepA (fun _ => false) n 0 (s % n + 1) 1 = x0 at *
  have hc3 := Lib.hid hc3
  have hk3 := Lib.hid (hk2.out.seq hm3 (fun i hi h => by omega))
  have hs3 : w2.heap.size ≤ w3.heap.size := hm3.size
  clear hI3 hm3 hx2 hc2 hf2 hk2 hz2
  go_wp2_with (at_make; refine wpList_make_bools rfl _ _ rfl n rfl rfl (by omega) ?_; refine Parked.out ?_)
  refine Parked.mk ?_
  intro w4 hb4 hm4
  have hf4 := Lib.hid hb4
  have hc4 := Lib.hid (hm4.at hc3.out (fun h => h))
  have hk4 := Lib.hid (hk3.out.keep hm4)
  have hs4 : w3.heap.size < w4.heap.size := heap_lt hb4
  clear hb4 hm4 hc3 hk3
  go_wp2_with fail
  refine (curBlocks_any n v p _ (by omega) (by omega) (by omega)).mono ?_
  rw [blocksI_nat n v p (by omega) (by omega) (by omega)]
  obtain ⟨q, hq⟩ : ∃ q, q = min v p := ⟨_, rfl⟩
  obtain ⟨B, hB⟩ : ∃ B, B = (n - 1) / q + 1 := ⟨_, rfl⟩
  rw [← hq, ← hB]
  have hcov := Lib.hid (blocks_cover n q B (by omega) (by omega) hB)
  have hB30 : B ≤ 30 := by
    have : (n - 1) / q ≤ n - 1 := Nat.div_le_self _ _
    omega
  have hq1 : 1 ≤ q ∧ q ≤ v ∧ q ≤ p := by omega
  have HQ := Lib.hid hq
  clear hB hq
  rintro r w5 ⟨rfl, rfl⟩
  go_wp2_with fail
  go_loopg [11, 57] (B) (fun g us i wr => ∃ t T x : Nat, g + t = B ∧ i = .int .i64 t ∧ us = .int .i64 ((t * n : Nat) : Int) ∧ x ≤ 4294967296 ∧ wr.heap[w0.heap.size]? = some (curB x) ∧ x % n = (x0 + T) % n ∧ (n ≤ T ∨ t * q ≤ T) ∧ wr.heap[w3.heap.size]? = some (boolsB (seenF x0 n T) n) ∧ Keeps w wr)
  case atStart => exact ⟨0, 0, x0, by omega, rfl, by simp, hxa, hc4.out, rfl, .inr (by omega), by rw [seenF_zero]; exact hf4.out, hk4.out⟩
  case round =>
    obtain ⟨wo, rfl⟩ : ∃ wo : World, wo = wr := ⟨_, rfl⟩
    obtain ⟨t, T, x, hg, rfl, rfl, hx, hcb, hxm, hT, hsb, hmd⟩ := hrel
    have HC := Lib.hid hcb
    have HM := Lib.hid hmd
    have HS := Lib.hid hsb
    have HXM := Lib.hid hxm
    have hso : w3.heap.size < wo.heap.size := heap_lt hsb
    clear hcb hmd hsb hxm
    by_cases hlt : t < B
    · have hU : t * n ≤ 900 := Nat.le_trans (Nat.mul_le_mul (by omega : t ≤ 30) hn1.2) (by omega)
      have hU2 : (t + 1) * n = t * n + n := by rw [Nat.add_mul, Nat.one_mul]
      have hT2 : (t + 1) * q = t * q + q := by rw [Nat.add_mul, Nat.one_mul]
      have HU2 := Lib.hid hU2
      have HT2 := Lib.hid hT2
      clear hU2 hT2
      have HT := Lib.hid hT
      clear hT
      generalize t * n = U at *
      generalize t * q = R at *
      go_wp2_with (at_make; refine wpList_make_bools rfl _ _ rfl n rfl rfl (by omega) ?_; refine Parked.out ?_)
      refine Parked.mk ?_
      intro w6 hb6 hm6
      have hf6 := Lib.hid hb6
      have HM6 := Lib.hid hm6
      have hs6 : wo.heap.size < w6.heap.size := heap_lt hb6
      clear hb6 hm6
      go_wp2_with fail
      go_loopw [11, 63] (fun us i wr => ∃ (k : Nat) (f : Nat → Bool), k ≤ n ∧ i = .int .i64 k ∧ us = .int .i64 ((U + k : Nat) : Int) ∧ wr.heap[wo.heap.size]? = some (boolsB f n) ∧ Mods (· = wo.heap.size) w6 wr) (fun _ i _ => n - (intOf i).toNat)
      case atStart => exact ⟨0, _, Nat.zero_le _, rfl, rfl, hf6.out, Mods.refl _ _⟩
      case round =>
        obtain ⟨k, f, hk, rfl, rfl, hbf, hmf⟩ := hrel
        have HBF := Lib.hid hbf
        have HMF := Lib.hid hmf
        clear hbf hmf
        by_cases hlk : k < n
        · have d1 := boolsB_cell HBF.out k hlk
          have d2 := boolsB_free HBF.out k
          have hpc : Value.int .i64 ((U + k : Nat) : Int) = .int .i64 ((U : Int) + (k : Int)) := by push_cast; rfl
          by_cases hus : U + k < nl
          · obtain ⟨la', lc', e, hlc⟩ := (HL.out.keeps HM.out).keeps HM6.out
            simp only [Value.slice.injEq] at e
            obtain ⟨rfl, _, rfl⟩ := e
            obtain ⟨lb, lo, rfl, hlcc⟩ := hlc (by omega)
            have hlb := hlcc (U + k) hus
            have d3 := HMF.out.cell hlb (by
              have h1 := HL.out.lt (by omega)
              obtain ⟨b', e1, e2⟩ := h1
              simp [Value.ownBlock] at e1
              have := HM.out.size
              simp; omega)
            generalize rl (U + k) = bb at *
            clear hlc hlcc hlb
            go_wp2
            go_roundw
            case rel => exact ⟨k + 1, _, by omega, by go_num, by go_num, boolsB_set bb HBF.out, HMF.out.setCell _ _ (fun _ => rfl)⟩
            case measure => simp [intOf]; omega
          · go_wp2
            go_roundw
            case rel => exact ⟨k + 1, _, by omega, by go_num, by go_num, boolsB_set false HBF.out, HMF.out.setCell _ _ (fun _ => rfl)⟩
            case measure => simp [intOf]; omega
        · have hkn : k = n := by omega
          subst hkn
          have hc7 := HMF.out.at (HM6.out.at HC.out (fun h => h)) (show w0.heap.size ≠ wo.heap.size by have := heap_lt HC.out; omega)
          have hs7 := Lib.hid (HMF.out.at (HM6.out.at HS.out (fun h => h)) (show w3.heap.size ≠ wo.heap.size by omega))
          have hk7 := Lib.hid ((HM.out.keep HM6.out).seq HMF.out (fun i hi h => by have := HM.out.size; omega))
          have hc7 := Lib.hid hc7
          go_wp2_with fail
          refine (curAt_any _ x _ hc7.out).mono ?_
          rintro r w7 ⟨rfl, rfl⟩
          go_wp2_with fail
          obtain ⟨g1, g2, g3⟩ := sweepV_ge f k x v p (by omega) (by omega) (by omega)
          obtain ⟨g4, _⟩ := sweepV_le f k x v p
          have hxa2 := sweepA_le (rdy := f) (n := k) (x := x) (visits := v) (pays := p) hx (by omega)
          have G3 := Lib.hid g3
          clear g3
          refine (sweep_any w0.heap.size x k f _ v p wr hc7.out hx (by omega) (bools_of_boolsB HBF.out) (fun _ => by have := heap_lt HC.out; simp [Value.ownBlock]; omega)).mono ?_
          generalize sweepV f k x v p = V at *
          generalize sweepA f k x v p = A at *
          generalize sweepP f k x v p = P at *
          rintro r w8 ⟨v8, rfl, hI8, hc8, hm8⟩
          have hc8 := Lib.hid hc8
          have hs8 := Lib.hid (hm8.at hs7.out (show w3.heap.size ≠ w0.heap.size by omega))
          have hk8 := Lib.hid (hk7.out.seq hm8 (fun i hi h => by omega))
          have hz8 : wr.heap.size ≤ w8.heap.size := hm8.size
          clear hI8 hm8
          have hlen : wo.heap.size ≤ wr.heap.size := by have := HMF.out.size; omega
          obtain ⟨wq, rfl⟩ : ∃ wq : World, wq = wr := ⟨_, rfl⟩
          go_wp2_with fail
          go_loopw [95] (fun i wr => ∃ j : Nat, j ≤ V ∧ i = .int .i64 j ∧ wr.heap[w3.heap.size]? = some (boolsB (seenF x0 k (T + j)) k) ∧ Mods (· = w3.heap.size) w8 wr) (fun i _ => V - (intOf i).toNat)
          case atStart => exact ⟨0, Nat.zero_le _, rfl, hs8.out, Mods.refl _ _⟩
          case round =>
            obtain ⟨j, hj, rfl, hbj, hmj⟩ := hrel
            have HBJ := Lib.hid hbj
            have HMJ := Lib.hid hmj
            clear hbj hmj
            by_cases hlj : j < V
            · have hps := posN_shift x x0 k T j HXM.out
              have hpl := posN_lt (n := k) x0 (T + j) (by omega)
              have hsu := seenF_succ x0 k (T + j)
              have hint : ((x : Int) + (j : Int)) % (k : Int) = (posN k x0 (T + j) : Nat) := by rw [← hps]; push_cast; rfl
              generalize posN k x0 (T + j) = i at *
              have d1 := boolsB_cell HBJ.out i hpl
              have d2 := boolsB_free HBJ.out i
              have HSU := Lib.hid hsu
              clear hsu hps
              go_wp2
              go_roundw
              case rel => exact ⟨j + 1, by omega, by go_num, by rw [← Nat.add_assoc, HSU.out]; exact boolsB_set true HBJ.out, HMJ.out.setCell _ _ (fun _ => rfl)⟩
              case measure => simp [intOf]; omega
            · have hjV : j = V := by omega
              subst hjV
              have hA : A % k = (x0 + (T + j)) % k := by
                rw [G3.out]
                unfold posN
                rw [Nat.mod_mod]
                exact posN_shift x x0 k T j HXM.out
              have HA := Lib.hid hA
              clear hA
              go_wp2
              go_roundg (B - (t + 1))
              case rel => exact ⟨t + 1, T + j, A, by omega, by go_num, by rw [HU2.out]; go_num, hxa2, HMJ.out.at hc8.out (by omega), HA.out, by
                have := HT.out; have := HT2.out; have := HQ.out; omega, HBJ.out, hk8.out.seq HMJ.out (fun i hi h => by omega)⟩
              case measure => omega
    · have htB : t = B := by omega
      subst htB
      have hTn : n ≤ T := by have := hcov.out; omega
      clear hT
      go_wp2_with fail
      refine (alive_any _).mono ?_
      rintro r w6 ⟨rfl, hm6⟩
      have hs6 := Lib.hid (hm6.at HS.out (fun h => h))
      have hk6 := Lib.hid (HM.out.keep hm6)
      clear hm6
      go_wp2_with fail
      refine (contains_any _ n _ _ _ (by omega) hs6.out (fun j hj => seenF_all x0 n T j hTn hj)).mono ?_
      rintro r w7 ⟨rfl, rfl⟩
      go_wp2
      go_ret
      exact ⟨rfl, hk6.out.below'⟩
end Go.Proofs.Ythidgaedfabpeaa
