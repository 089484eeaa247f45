/- The cursor: plain mathematics of a sweep; contracts of New, At, the closure of a cycle, Distance, Blocks. -/
import Derived.Test.YthidgaedfabpeaaRows
import Derived.Test.YthidgaedfabpeaaLeaf
namespace Go.Eg
/-- the index of visit j of a sweep that begins at at0 -/
def posN (n at0 j : Nat) : Nat := (at0 + j) % n
/-- what is paid in the first k visits -/
def paidL (rdy : Nat → Bool) (n at0 k : Nat) : List Nat := ((List.range k).map (posN n at0)).filter rdy
theorem paidL_zero (rdy : Nat → Bool) (n at0 : Nat) : paidL rdy n at0 0 = [] := rfl
theorem paidL_succ (rdy : Nat → Bool) (n at0 k : Nat) : paidL rdy n at0 (k + 1) = paidL rdy n at0 k ++ if rdy (posN n at0 k) = true then [posN n at0 k] else [] := by
  unfold paidL
  rw [List.range_succ, List.map_append, List.filter_append]
  simp only [List.map_cons, List.map_nil, List.filter_cons, List.filter_nil]
theorem paidL_le (rdy : Nat → Bool) (n at0 k : Nat) : (paidL rdy n at0 k).length ≤ k := by
  unfold paidL
  exact Nat.le_trans (List.length_filter_le _ _) (by simp)
/-- the visits of a sweep of at most k + f visits, from visit k on -/
def vis (rdy : Nat → Bool) (n at0 pays : Nat) : Nat → Nat → Nat
  | 0, k => k
  | f + 1, k => if (paidL rdy n at0 k).length = pays then k else vis rdy n at0 pays f (k + 1)
theorem vis_range (rdy : Nat → Bool) (n at0 pays : Nat) : ∀ f k, k ≤ vis rdy n at0 pays f k ∧ vis rdy n at0 pays f k ≤ k + f
  | 0, k => ⟨Nat.le_refl _, Nat.le_refl _⟩
  | f + 1, k => by
    have := vis_range rdy n at0 pays f (k + 1)
    rw [vis]
    split <;> omega
theorem vis_pays (rdy : Nat → Bool) (n at0 pays : Nat) : ∀ f k, (paidL rdy n at0 k).length ≤ pays → (paidL rdy n at0 (vis rdy n at0 pays f k)).length ≤ pays
  | 0, k, h => h
  | f + 1, k, h => by
    rw [vis]
    split
    · exact h
    · refine vis_pays rdy n at0 pays f (k + 1) ?_
      rw [paidL_succ]
      split
      · simp; omega
      · simp; omega
/-- the visits of a sweep -/
def sweepV (rdy : Nat → Bool) (n : Nat) (at0 : Nat) (visits pays : Int) : Nat :=
  if n = 0 ∨ visits < 1 ∨ pays < 1 then 0 else vis rdy n at0 pays.toNat (min visits.toNat n) 0
/-- the indices that are paid -/
def sweepP (rdy : Nat → Bool) (n : Nat) (at0 : Nat) (visits pays : Int) : List Nat := paidL rdy n at0 (sweepV rdy n at0 visits pays)
/-- where the cursor stands behind it -/
def sweepA (rdy : Nat → Bool) (n : Nat) (at0 : Nat) (visits pays : Int) : Nat :=
  if n = 0 ∨ visits < 1 ∨ pays < 1 then at0 else posN n at0 (sweepV rdy n at0 visits pays)
theorem sweepV_le (rdy : Nat → Bool) (n at0 : Nat) (visits pays : Int) : sweepV rdy n at0 visits pays ≤ n ∧ (sweepV rdy n at0 visits pays : Int) ≤ max visits 0 := by
  unfold sweepV
  split
  · omega
  · have := vis_range rdy n at0 pays.toNat (min visits.toNat n) 0
    omega
theorem sweepP_len (rdy : Nat → Bool) (n at0 : Nat) (visits pays : Int) : (sweepP rdy n at0 visits pays).length ≤ sweepV rdy n at0 visits pays := paidL_le _ _ _ _
theorem sweepP_pays (rdy : Nat → Bool) (n at0 : Nat) (visits pays : Int) : ((sweepP rdy n at0 visits pays).length : Int) ≤ max pays 0 := by
  unfold sweepP
  by_cases h : n = 0 ∨ visits < 1 ∨ pays < 1
  · have : sweepV rdy n at0 visits pays = 0 := by unfold sweepV; rw [if_pos h]
    rw [this, paidL_zero]
    simp
    omega
  · have e : sweepV rdy n at0 visits pays = vis rdy n at0 pays.toNat (min visits.toNat n) 0 := by unfold sweepV; rw [if_neg h]
    rw [e]
    have := vis_pays rdy n at0 pays.toNat (min visits.toNat n) 0 (by rw [paidL_zero]; simp)
    omega
theorem sweepA_lt (rdy : Nat → Bool) (n at0 : Nat) (visits pays : Int) (h : ¬ (n = 0 ∨ visits < 1 ∨ pays < 1)) : sweepA rdy n at0 visits pays < n := by
  unfold sweepA
  rw [if_neg h]
  exact Nat.mod_lt _ (by omega)
theorem posN_lt {n : Nat} (at0 j : Nat) (h : 0 < n) : posN n at0 j < n := Nat.mod_lt _ h
theorem posN_succ (n at0 j : Nat) : (posN n at0 j + 1) % n = posN n at0 (j + 1) := by
  unfold posN
  rw [Nat.mod_add_mod]
  rfl
end Go.Eg
namespace Go.Proofs.Ythidgaedfabpeaa
open Go.RowKit Go.Eg
/-- the block of a cursor at index x -/
abbrev curB (x : Nat) : Obj := .cells #[.int .i64 (x : Int)] 46 (0, 0)
theorem curNew_any (w : World) :
    Calls Try.prog 9 #[] w fun r w' => r = .returned (.pointer (some ⟨w.heap.size, 0, none⟩)) ∧ w' = w.alloc (curB 0) := by
  go_enter Try.func9, Try.ntmps9
  go_wp2
  go_ret
  exact ⟨rfl, rfl⟩
theorem curAt_nil (w : World) :
    Calls Try.prog 15 #[.pointer none] w fun r w' => r = .returned (.int .i64 0) ∧ w = w' := by
  go_enter Try.func15, Try.ntmps15
  go_wp2
  go_ret
  exact ⟨rfl, rfl⟩
theorem curAt_any (b x : Nat) (w : World) (hb : w.heap[b]? = some (curB x)) :
    Calls Try.prog 15 #[.pointer (some ⟨b, 0, none⟩)] w fun r w' => r = .returned (.int .i64 (x : Int)) ∧ w = w' := by
  have hc := cell_of_one hb
  go_enter Try.func15, Try.ntmps15
  go_wp2
  go_ret
  exact ⟨rfl, rfl⟩
/-- the closure of a cycle: one visit -/
theorem cycle1_any (bp bn b n x : Nat) (w : World) (hp : w.heap[bp]? = some (.cells #[.pointer (some ⟨b, 0, none⟩)] 23 (0, 0))) (hn : w.heap[bn]? = some (.cells #[.int .i64 (n : Int)] 3 (0, 0)))
    (hb : w.heap[b]? = some (curB x)) (h0 : 0 < n) (h1 : n ≤ 4294967296) (hx : x ≤ 9223372036854775807) :
    Calls Try.prog 22 #[.pointer (some ⟨bp, 0, none⟩), .pointer (some ⟨bn, 0, none⟩)] w fun r w' => r = .returned (.int .i64 ((x % n : Nat) : Int)) ∧ w'.heap[b]? = some (curB ((x + 1) % n)) ∧ Mods (· = b) w w' := by
  have c1 := cell_of_one hp
  have c2 := cell_of_one hn
  have c3 := cell_of_one hb
  have f3 := free_of_one hb
  have HB := Lib.hid hb
  have m0 : 0 ≤ (x : Int) % n := Int.emod_nonneg _ (by omega)
  have m1 : (x : Int) % n < n := Int.emod_lt_of_pos _ (by omega)
  have m2 : 0 ≤ ((x : Int) % n + 1) % n := Int.emod_nonneg _ (by omega)
  clear hp hn hb
  go_enter Try.func22, Try.ntmps22
  go_wp2
  go_quiet (fail)
  go_wp2
  go_region
  all_goals
    go_wp2
    go_ret
    refine ⟨ret_int (Int.natCast_emod x n).symm, ?_, ((Mods.refl _ w).drewN _).setCell _ _ fun _ => rfl⟩
    have := one_setCell (w := w.drewN (nq + 1)) (u := .int .i64 (((x : Int) + 1) % n)) HB.out
    rw [this]
    simp
theorem cycle_any (b n : Nat) (w : World) :
    Calls Try.prog 20 #[.pointer (some ⟨b, 0, none⟩), .int .i64 (n : Int)] w fun r w' => r = .returned (.func (Fn.func 22) #[] #[.pointer (some ⟨w.heap.size, 0, none⟩), .pointer (some ⟨w.heap.size + 1, 0, none⟩)]) ∧
      w'.heap[w.heap.size]? = some (.cells #[.pointer (some ⟨b, 0, none⟩)] 23 (0, 0)) ∧ w'.heap[w.heap.size + 1]? = some (.cells #[.int .i64 (n : Int)] 3 (0, 0)) ∧ Keeps w w' := by
  have hmf : ∀ (fn : Fn) (first cap : Array Value) (w : World), (Instr.makeFunc fn first cap).run Try.prog w = .ok (.func fn first cap) w := fun _ _ _ _ => rfl
  go_enter Try.func20, Try.ntmps20
  go_wp2
  go_ret
  have e := heap_alloc_last w (.cells #[.pointer (some ⟨b, 0, none⟩)] 23)
  have e2 := heap_alloc_last (w.alloc (.cells #[.pointer (some ⟨b, 0, none⟩)] 23)) (.cells #[.int .i64 (n : Int)] 3)
  exact ⟨rfl, heap_keep e _, by simpa using e2, ((Mods.refl _ w).alloc _).alloc _⟩
/-- Distance in Lean -/
def distI (x : Nat) (n i : Int) : Int := if i < 0 ∨ n ≤ i then -1 else if i - (x : Int) % n < 0 then i - (x : Int) % n + n else i - (x : Int) % n
theorem distance_nil (n i : Int) (w : World) :
    Calls Try.prog 16 #[.pointer none, .int .i64 n, .int .i64 i] w fun r w' => r = .returned (.int .i64 0) ∧ w = w' := by
  go_enter Try.func16, Try.ntmps16
  go_wp2
  go_ret
  exact ⟨rfl, rfl⟩
theorem distance_any (b x : Nat) (n i : Int) (w : World) (hb : w.heap[b]? = some (curB x)) (hx : x ≤ 9223372036854775807) (hn : n ≤ 9223372036854775807) :
    Calls Try.prog 16 #[.pointer (some ⟨b, 0, none⟩), .int .i64 n, .int .i64 i] w fun r w' => r = .returned (.int .i64 (distI x n i)) ∧ w = w' := by
  have hc := cell_of_one hb
  clear hb
  by_cases h : i < 0 ∨ n ≤ i
  · have e : distI x n i = -1 := if_pos h
    have E := Lib.hid e
    clear e
    go_enter Try.func16, Try.ntmps16
    rcases h with h | h
    · go_wp2
      go_ret
      exact ⟨ret_int E.out.symm, rfl⟩
    · go_wp2
      all_goals
        go_ret
        exact ⟨ret_int E.out.symm, rfl⟩
  · have h1 : 0 ≤ i := by omega
    have h2 : i < n := by omega
    have e : distI x n i = if i - (x : Int) % n < 0 then i - (x : Int) % n + n else i - (x : Int) % n := if_neg h
    have E := Lib.hid e
    have m0 : 0 ≤ (x : Int) % n := Int.emod_nonneg _ (by omega)
    have m1 : (x : Int) % n < n := Int.emod_lt_of_pos _ (by omega)
    clear e h
    go_enter Try.func16, Try.ntmps16
    go_wp2
    · go_ret
      exact ⟨ret_int (by rw [E.out, if_pos (by omega)]), rfl⟩
    · go_ret
      exact ⟨ret_int (by rw [E.out, if_neg (by omega)]), rfl⟩
/-- Blocks in Lean -/
def blocksI (n v p : Int) : Int := if n < 1 ∨ v < 1 ∨ p < 1 then 0 else (n - 1) / min v p + 1
theorem curBlocks_any (n v p : Int) (w : World) (hn : n ≤ 9223372036854775807) (hv : v ≤ 9223372036854775807) (hp : p ≤ 9223372036854775807) :
    Calls Try.prog 17 #[.int .i64 n, .int .i64 v, .int .i64 p] w fun r w' => r = .returned (.int .i64 (blocksI n v p)) ∧ w = w' := by
  by_cases h : n < 1 ∨ v < 1 ∨ p < 1
  · have E := Lib.hid (show blocksI n v p = 0 from if_pos h)
    go_enter Try.func17, Try.ntmps17
    go_wp2
    all_goals
      go_ret
      exact ⟨ret_int E.out.symm, rfl⟩
  · have E := Lib.hid (show blocksI n v p = (n - 1) / min v p + 1 from if_neg h)
    have h1 : 1 ≤ n := by omega
    have h2 : 1 ≤ v := by omega
    have h3 : 1 ≤ p := by omega
    have M : ∀ m : Int, 1 ≤ m → 0 ≤ (n - 1) / m ∧ (n - 1) / m ≤ n - 1 := fun m hm => ⟨Int.ediv_nonneg (by omega) (by omega), Int.ediv_le_self _ (by omega)⟩
    obtain ⟨a1, a2⟩ := M v h2
    obtain ⟨b1, b2⟩ := M p h3
    clear M h
    go_enter Try.func17, Try.ntmps17
    by_cases hvp : p < v
    · go_wp2
      go_ret
      exact ⟨ret_int (by rw [E.out, show min v p = p from by omega]), rfl⟩
    · go_wp2
      go_ret
      exact ⟨ret_int (by rw [E.out, show min v p = v from by omega]), rfl⟩
end Go.Proofs.Ythidgaedfabpeaa
