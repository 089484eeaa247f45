/- The walk of CursorDistance. -/
import Derived.Test.YthidgaedfabpeaaCurF
import Derived.Deep.OwnRows
namespace Go.Eg
theorem vis_eq (rdy : Nat → Bool) (n at0 pays : Nat) : ∀ (f k V : Nat), k ≤ V → V ≤ k + f → (∀ j, k ≤ j → j < V → (paidL rdy n at0 j).length ≠ pays) → ((paidL rdy n at0 V).length = pays ∨ V = k + f) → vis rdy n at0 pays f k = V
  | 0, k, V, h1, h2, _, _ => by rw [vis]; omega
  | f + 1, k, V, h1, h2, h3, h4 => by
    rw [vis]
    by_cases h : k = V
    · subst h
      rcases h4 with h4 | h4
      · rw [if_pos h4]
      · omega
    · rw [if_neg (h3 k (Nat.le_refl _) (by omega))]
      exact vis_eq rdy n at0 pays f (k + 1) V (by omega) (by omega) (fun j a b => h3 j (by omega) b) (h4.imp id fun h => by omega)
/-- the visits ahead of index i -/
def distN (x n i : Nat) : Nat := (i + n - x % n) % n
theorem distN_lt (x n i : Nat) (hn : 0 < n) : distN x n i < n := Nat.mod_lt _ hn
theorem posN_dist (x n i : Nat) (hi : i < n) : posN n x (distN x n i) = i := by
  unfold posN distN
  have hx := Nat.mod_lt x (show 0 < n by omega)
  rw [← Nat.mod_add_mod]
  generalize x % n = y at *
  rw [Nat.add_mod_mod]
  have : y + (i + n - y) = i + n := by omega
  rw [this, Nat.add_mod_right, Nat.mod_eq_of_lt hi]
theorem posN_inj (x n j k : Nat) (hj : j < n) (hk : k < n) (h : posN n x j = posN n x k) : j = k := by
  unfold posN at h
  rw [← Nat.mod_add_mod, ← Nat.mod_add_mod x n k] at h
  have hx := Nat.mod_lt x (show 0 < n by omega)
  generalize x % n = y at *
  by_cases h1 : y + j < n
  · rw [Nat.mod_eq_of_lt h1] at h
    by_cases h2 : y + k < n
    · rw [Nat.mod_eq_of_lt h2] at h; omega
    · rw [Nat.mod_eq_sub_mod (by omega), Nat.mod_eq_of_lt (by omega)] at h; omega
  · rw [Nat.mod_eq_sub_mod (by omega), Nat.mod_eq_of_lt (by omega)] at h
    by_cases h2 : y + k < n
    · rw [Nat.mod_eq_of_lt h2] at h; omega
    · rw [Nat.mod_eq_sub_mod (by omega), Nat.mod_eq_of_lt (by omega)] at h; omega
def onlyI (i : Nat) (j : Nat) : Bool := j == i
theorem paid_before (x n i : Nat) (hi : i < n) : ∀ k, k ≤ distN x n i → paidL (onlyI i) n x k = []
  | 0, _ => rfl
  | k + 1, h => by
    rw [paidL_succ, paid_before x n i hi k (by omega)]
    have hd := distN_lt x n i (by omega)
    have : onlyI i (posN n x k) = false := by
      unfold onlyI
      simp only [beq_eq_false_iff_ne, ne_eq]
      intro e
      have := posN_inj x n k (distN x n i) (by omega) hd (e.trans (posN_dist x n i hi).symm)
      omega
    simp [this]
theorem paid_at (x n i : Nat) (hi : i < n) : paidL (onlyI i) n x (distN x n i + 1) = [i] := by
  rw [paidL_succ, paid_before x n i hi _ (Nat.le_refl _), posN_dist x n i hi]
  simp [onlyI]
theorem sweep_only (x n i : Nat) (hi : i < n) : sweepV (onlyI i) n x n 1 = distN x n i + 1 ∧ sweepP (onlyI i) n x n 1 = [i] := by
  have hd := distN_lt x n i (by omega)
  have hV : sweepV (onlyI i) n x n 1 = distN x n i + 1 := by
    unfold sweepV
    rw [if_neg (by omega), show min (n : Int).toNat n = n from by simp, show (1 : Int).toNat = 1 from rfl]
    refine vis_eq _ _ _ _ n 0 _ (by omega) (by omega) (fun j _ h => ?_) (.inl ?_)
    · rw [paid_before x n i hi j (by omega)]
      simp
    · rw [paid_at x n i hi]
      rfl
  exact ⟨hV, by unfold sweepP; rw [hV]; exact paid_at x n i hi⟩
end Go.Eg
namespace Go.Proofs.Ythidgaedfabpeaa
open Go.RowKit Go.Eg
theorem distI_eq (x n i : Nat) (hi : i < n) : distI x n i = (distN x n i : Nat) := by
  unfold distI distN
  rw [if_neg (by omega)]
  have hx := Nat.mod_lt x (show 0 < n by omega)
  have e : ((x % n : Nat) : Int) = (x : Int) % n := Int.natCast_emod x n
  rw [← e]
  generalize x % n = y at *
  by_cases h : (i : Int) - (y : Int) < 0
  · rw [if_pos h, Nat.mod_eq_of_lt (by omega)]; omega
  · rw [if_neg h, show i + n - y = (i - y) + n from by omega, Nat.add_mod_right, Nat.mod_eq_of_lt (by omega)]; omega
theorem infoBool : (Try.prog.info? 4).map (fun i => (i.zero, i.size, i.bytes)) = some (some (.bool false), 1, 1) := by kernel_rfl
/-- a block of n bools -/
abbrev boolsB (f : Nat → Bool) (n : Nat) : Obj := .cells ((Array.range n).map fun j => .bool (f j)) 4 (0, 0)
theorem boolsB_made (n : Nat) : Obj.cells (madeCells #[.bool false] n) 4 = boolsB (fun _ => false) n := by
  unfold boolsB madeCells
  congr 1
  apply Array.ext_getElem?
  intro j
  simp [Nat.mod_one]
theorem bools_of_boolsB {w : World} {g n c : Nat} {f : Nat → Bool} (h : w.heap[g]? = some (boolsB f n)) : Bools w (.slice (some ⟨g, 0, none⟩) n c) n f :=
  bools_of_block h n c f fun j hj => by simp [hj]
theorem boolsB_set {w : World} {g n i : Nat} {f : Nat → Bool} (b : Bool) (h : w.heap[g]? = some (boolsB f n)) : (w.setCell ⟨g, i, none⟩ (.bool b)).heap[g]? = some (boolsB (fun j => if j = i then b else f j) n) := by
  rw [heap_setCell_same w g i _ _ _ h]
  unfold boolsB
  congr 2
  apply Array.ext_getElem?
  intro j
  by_cases hj : j < n
  · by_cases e : i = j
    · subst e; simp [hj]
    · simp [hj, e, Ne.symm e]
  · simp [hj]
theorem boolsB_cell {w : World} {g n : Nat} {f : Nat → Bool} (h : w.heap[g]? = some (boolsB f n)) (j : Nat) (hj : j < n) : w.cell? ⟨g, j, none⟩ = some (.bool (f j)) := by simp [World.cell?, h, hj]
theorem boolsB_free {w : World} {g n : Nat} {f : Nat → Bool} (h : w.heap[g]? = some (boolsB f n)) (j : Nat) : w.frozen? ⟨g, j, none⟩ = false := by simp [World.frozen?, h]
theorem wpList_make_bools {w : World} {ops : Array Oper} {rest : List Oper} {o : Oper} {a : Act} {Q : Exit → Act → World → Prop}
    (hg : o.guard = none) (l c : Operand) (hop : o.op = Op.makeSlice 27 l c) (n : Nat) (hl : a.eval l = .int .i64 (n : Int)) (hc : a.eval c = .int .i64 (n : Int)) (hn : n ≤ 4294967296)
    (hK : ∀ w', w'.heap[w.heap.size]? = some (boolsB (fun _ => false) n) → Keeps w w' → wpList Try.prog ops Q rest (a.put o.dst (.slice (some ⟨w.heap.size, 0, none⟩) n n)) w') :
    wpList Try.prog ops Q (o :: rest) a w := by
  obtain ⟨i0, hi, hz0, hz1, hz2⟩ := info_parts infoBool
  refine wpList_make_row w hg l c _ hop 4 i0 (.bool false) Try.underlying27 hi hz0 hz1 rfl .i64 .i64 n hl hc (by rw [hz2]; omega) (by omega) ?_
  rw [boolsB_made]
  exact hK _ (heap_alloc_last w _) ((Mods.refl _ w).alloc _)
set_option maxHeartbeats 2000000 in
theorem cursorDistance_walk (lv : Value) (m i : Int) (w : World) (h : ∃ n F nr rdy vs ps, Rounds w lv n F nr rdy vs ps) (w1 : (Lit.int .i64 m).wf = true) (w2 : (Lit.int .i64 i).wf = true) :
    Calls Try.prog 5 #[lv, .int .i64 m, .int .i64 i] w fun r w' => r = .returned (.bool true) ∧ Below w.heap.size w w' := by
  obtain ⟨hm0, hm1⟩ := bounds_i64 w1
  obtain ⟨hi0, hi1⟩ := bounds_i64 w2
  clear w1 w2
  obtain ⟨n, F, nr, rdy, vs, ps, h⟩ := h
  obtain ⟨a, cap, hs⟩ := h.row.slice
  have H := Lib.hid h
  have hln := h.len
  clear h
  have hff := H.out
  subst hs
  have H2 := Lib.hid hff
  clear hff
  go_enter Try.func5, Try.ntmps5
  go_wp2_with fail
  refine (curNew_any w).mono ?_
  rintro r w1 ⟨rfl, rfl⟩
  have hc0 := Lib.hid (heap_alloc_last w (curB 0))
  have hk0 := Lib.hid ((Mods.refl (fun _ => False) w).alloc (curB 0))
  generalize hw1 : w.alloc (curB 0) = w1 at *
  clear hw1
  go_wp2_with fail
  refine (few_any w1 (H.out.keeps hk0.out)).mono ?_
  rintro r w2 ⟨rfl, hm2⟩
  have hc2 := Lib.hid (hm2.at hc0.out (fun h => h))
  have hk2 := Lib.hid (hk0.out.keep hm2)
  clear hm2 hc0 hk0
  cases hf : fewB n nr
  · go_wp2_with fail
    refine (alive_any _).mono ?_
    rintro r w3 ⟨rfl, hm3⟩
    have HK3 := Lib.hid (hk2.out.keep hm3)
    clear hm3
    go_wp2
    go_ret
    exact ⟨rfl, HK3.out.below'⟩
  · have HF := Lib.hid hf
    clear hf
    go_wp2_with fail
    go_loopw [24] (fun i wr => ∃ k x : Nat, k ≤ n ∧ i = .int .i64 k ∧ x ≤ 4294967296 ∧ wr.heap[w.heap.size]? = some (curB x) ∧ Keeps w wr) (fun i _ => n - (intOf i).toNat)
    case atStart => exact ⟨0, 0, Nat.zero_le _, rfl, by omega, hc2.out, hk2.out⟩
    case round =>
      obtain ⟨k, x, hk, rfl, hx, hcb, hmd⟩ := hrel
      have HC := Lib.hid hcb
      have HM := Lib.hid hmd
      by_cases hlt : k < n
      · have hR := H.out.keeps hmd
        obtain ⟨hB, hnk, e1, e2⟩ := hR.el k hlt
        obtain ⟨ra, rc, hs⟩ := hB.slice
        obtain ⟨a', cap', ha, hcell⟩ := hR.row
        obtain ⟨b, off, rfl, hcl⟩ := hcell (by omega)
        clear hcell
        simp only [Value.slice.injEq] at ha
        obtain ⟨rfl, _, rfl⟩ := ha
        have c0 := hcl k hlt 0 (by omega)
        have c1 := hcl k hlt 1 (by omega)
        have c2 := hcl k hlt 2 (by omega)
        rw [hs, Nat.add_zero] at c0
        rw [e1] at c1
        rw [e2] at c2
        rw [hs] at hB
        have hn100 := few_nr HF.out k hlt
        have HB := Lib.hid hB
        have HS := Lib.hid hs
        clear hcb hmd hR hcl hs e1 e2 hB
        go_wp2_with fail
        obtain ⟨w3, hw3⟩ : ∃ w3, w3 = wr.alloc (.cells #[.slice ra (nr k) rc, .int .i64 (vs k), .int .i64 (ps k)] 29) := ⟨_, rfl⟩
        have hm3 := Lib.hid (hw3 ▸ (Mods.refl (fun _ => False) wr).alloc (.cells #[.slice ra (nr k) rc, .int .i64 (vs k), .int .i64 (ps k)] 29))
        rw [← hw3]
        clear hw3 c0 c1 c2
        have hxa : sweepA (rdy k) (nr k) x (vs k) (ps k) ≤ 4294967296 := sweepA_le hx (by omega)
        have HC3 := Lib.hid (hm3.out.at HC.out (fun h => h))
        generalize hA : sweepA (rdy k) (nr k) x (vs k) (ps k) = A at *
        have HA := Lib.hid hA
        clear hA
        refine (sweep_any w.heap.size x (nr k) (rdy k) _ (vs k) (ps k) w3 HC3.out hx (by omega) (HB.out.keeps hm3.out) ?_).mono ?_
        · intro h0 e
          obtain ⟨b', hb1, hb2⟩ := (H.out.el k hlt).1.lt h0
          rw [HS.out, e] at hb1
          simp only [Option.some.injEq] at hb1
          omega
        rintro r w5 ⟨v2, rfl, hI5, hc5, hm5⟩
        rw [HA.out] at hc5
        have HK5 := Lib.hid ((HM.out.keep hm3.out).seq hm5 (fun i hi h => by omega))
        have HC5 := Lib.hid hc5
        clear hm5 hc5 hI5
        go_wp2
        go_roundw
        case rel => exact ⟨k + 1, A, by omega, by go_num, hxa, HC5.out, HK5.out⟩
        case measure => simp [intOf]; omega
      · clear hcb hmd
        go_wp2_with fail
        refine (distance_any _ x m i _ HC.out (by omega) hm1).mono ?_
        rintro r w3 ⟨rfl, rfl⟩
        by_cases hout : i < 0 ∨ m ≤ i
        · rw [show distI x m i = -1 from if_pos hout]
          have key : decide (i < 0) = true ∨ (decide (i < 0) = false ∧ decide (m ≤ i) = true) := by simp; omega
          clear hout
          rcases key with key | ⟨key, key2⟩
          all_goals
            go_wp2_with fail
            refine (alive_any _).mono ?_
            rintro r w3 ⟨rfl, hm3⟩
            have HK3 := Lib.hid (HM.out.keep hm3)
            clear hm3
            go_wp2
            go_ret
            exact ⟨rfl, HK3.out.below'⟩
        · obtain ⟨j, rfl⟩ : ∃ j : Nat, i = j := ⟨i.toNat, by omega⟩
          obtain ⟨q, rfl⟩ : ∃ q : Nat, m = q := ⟨m.toNat, by omega⟩
          have hjq : j < q := by omega
          rw [distI_eq x q j hjq]
          have hdl := distN_lt x q j (by omega)
          have k1 : decide ((j : Int) < 0) = false := by simp
          have k2 : decide (q ≤ j) = false := by simp; omega
          clear hout
          generalize hd : distN x q j = d at *
          have HD := Lib.hid hd
          clear hd
          by_cases hq : 100 < q
          · go_wp2_with fail
            refine (alive_any _).mono ?_
            rintro r w3 ⟨rfl, hm3⟩
            have HK3 := Lib.hid (HM.out.keep hm3)
            clear hm3
            go_wp2
            go_ret
            exact ⟨rfl, HK3.out.below'⟩
          · go_wp2_with fail
            refine (curAt_any _ x _ HC.out).mono ?_
            rintro r w7 ⟨rfl, rfl⟩
            go_wp2_with (at_make; refine wpList_make_bools rfl _ _ rfl q rfl rfl (by omega) ?_; refine Parked.out ?_)
            refine Parked.mk ?_
            intro w3 hb3 hm3
            have x0 := boolsB_cell hb3 j hjq
            have x1 := boolsB_free hb3 j
            have HB3 := Lib.hid hb3
            have HC3 := Lib.hid (hm3.at HC.out (fun h => h))
            have HK3 := Lib.hid (HM.out.keep hm3)
            have HM3 := Lib.hid hm3
            clear hb3 hm3
            go_wp2_with fail
            have hb4 := boolsB_set (i := j) true HB3.out
            have hc4 : (w3.setCell ⟨wr.heap.size, j, none⟩ (.bool true)).heap[w.heap.size]? = some (curB x) := by
              rw [heap_setCell_other _ _ _ _ (by have := heap_lt HC.out; simp; omega)]
              exact HC3.out
            have hk4 := HK3.out.setCell ⟨wr.heap.size, j, none⟩ (.bool true) (fun h => by have := HM.out.size; simp at h; omega)
            generalize w3.setCell ⟨wr.heap.size, j, none⟩ (.bool true) = w4 at *
            have e4 : (fun k => if k = j then true else (fun _ => false) k) = onlyI j := by
              funext k
              unfold onlyI
              by_cases e : k = j <;> simp [e]
            rw [e4] at hb4
            refine (sweep_any w.heap.size x q (onlyI j) _ q 1 w4 hc4 hx (by omega) (bools_of_boolsB hb4) ?_).mono ?_
            · intro _ e
              have := heap_lt HC.out
              simp [Value.ownBlock] at e
              omega
            rw [(sweep_only x q j hjq).1, (sweep_only x q j hjq).2, HD.out]
            rintro r w5 ⟨v5, rfl, hI5, hc5, hm5⟩
            have HI5 := Lib.hid hI5
            have HK5 := Lib.hid (hk4.seq hm5 (fun i hi h => by omega))
            clear hI5 hc5 hm5 hk4 hc4 hb4 x0 x1 e4
            go_wp2_with fail
            refine (alive_any _).mono ?_
            rintro r w6 ⟨rfl, hm6⟩
            have HI6 := Lib.hid (ints_keep HI5.out hm6 (fun _ _ h => h))
            have HK6 := Lib.hid (HK5.out.keep hm6)
            clear hm6
            have hmod : ((x : Int) + (d : Int)) % (q : Int) = j := by
              have := posN_dist x q j hjq
              rw [HD.out] at this
              unfold posN at this
              have := congrArg (fun n : Nat => (n : Int)) this
              push_cast at this
              exact this
            have e1 : (((x : Int) + (d : Int)) % (q : Int) == (j : Int)) = true := by simp [hmod]
            clear hmod
            go_wp2_with fail
            refine (slicesEqual_any v5 _ [j] [j] _ ((ints_sl HI6.out).keeps ((Mods.refl _ w6).alloc _)) (lit_sl w6 [j] _ _ rfl 1 rfl) (by simp)).mono ?_
            rintro r w7 ⟨rfl, hm7⟩
            rw [decide_eq_true rfl]
            have HK7 := Lib.hid ((HK6.out.alloc (.cells #[.int .i64 (j : Int)] 3)).keep hm7)
            clear hm7
            go_wp2
            go_ret
            exact ⟨rfl, HK7.out.below'⟩
end Go.Proofs.Ythidgaedfabpeaa
