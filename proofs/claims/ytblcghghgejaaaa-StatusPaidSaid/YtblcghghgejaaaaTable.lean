/- The walk of status.table: the map that it makes holds the ten rows, in whatever order they were put in. -/
import Derived.Test.YtblcghghgejaaaaRows
import Derived.Test.YtblcghghgejaaaaReg
import Derived.DeepKeys4
namespace Go.Proofs.Ytblcghghgejaaaa
open Go.RowKit Go.Maps Go.Eg
theorem laidOut : laidOutB Try.prog = true := by kernel_rfl
theorem row41 : 41 < Try.prog.types.size := of_decide_eq_true (by kernel_rfl)
theorem wide41 : (match Try.prog.underlying 41 with | some (.array _ _) | some (.struct _) => true | _ => false) = true := by kernel_rfl
theorem law41 : Keyed Try.prog 41 := Keyed.of_law (deep_law_laid laidOut (m := 2) (by omega) row41 (by kernel_rfl) wide41)
theorem kt41 : Try.prog.keyType 41 = true := by kernel_rfl
theorem cells41 : Try.prog.cellsOf 41 = 2 := by kernel_rfl
theorem cells3 : Try.prog.cellsOf 3 = 1 := by kernel_rfl
theorem tsz : ∃ n, Try.prog.types.size + 1 = n + 2 := ⟨Try.prog.types.size - 1, by have := row41; omega⟩
/-- how a key of the table reads -/
def keyLit (s e : Int) : Lit := .string (keyBytes [.int .i64 s, .int .i64 e])
def keyVal (s e : Int) : Value := .agg #[.int .i64 s, .int .i64 e]
set_option maxRecDepth 100000 in
theorem key41 (s e : Int) (hs : (Lit.int .i64 s).wf = true) (he : (Lit.int .i64 e).wf = true) : keyOf Try.prog 41 (keyVal s e) = some (keyLit s e) := by
  obtain ⟨n, hn⟩ := tsz
  simp only [keyOf, Try.underlying41, kt41, hn, keyVal, keyLit]
  simp [Value.formed, Try.underlying41, cells41, Value.cells, Program.keyLits, cells3, Try.underlying3, hs, he]
/-- the rows of the table: status, event, the status after it -/
def tab : List (Int × Int × Int) := [(1, 1, 2), (2, 2, 3), (3, 3, 4), (4, 4, 5), (5, 5, 6), (2, 6, 7), (2, 7, 3), (3, 7, 3), (4, 7, 4), (5, 7, 4)]
def tS (j : Nat) : Int := (tab.getD j (0, 0, 0)).1
def tE (j : Nat) : Int := (tab.getD j (0, 0, 0)).2.1
def tV (j : Nat) : Int := (tab.getD j (0, 0, 0)).2.2
def tK (j : Nat) : Lit := keyLit (tS j) (tE j)
theorem tK_inj : ∀ i, i < 10 → ∀ j, j < 10 → tK i = tK j → i = j := by
  have : ∀ i, i < 10 → ∀ j, j < 10 → i ≠ j → keyBytes [.int .i64 (tS i), .int .i64 (tE i)] ≠ keyBytes [.int .i64 (tS j), .int .i64 (tE j)] := by decide +kernel
  intro i hi j hj h
  apply Classical.byContradiction
  intro hne
  exact this i hi j hj hne (by simpa [tK, keyLit] using h)
theorem tK_key (j : Nat) : WideAt.IsKeyLit (tK j) := trivial
def cntS (S : Nat → Bool) : Nat → Nat
  | 0 => 0
  | n + 1 => cntS S n + (if S n then 1 else 0)
theorem cntS_set {S : Nat → Bool} {i : Nat} (h : S i = false) : ∀ n, cntS (fun j => j == i || S j) n = cntS S n + (if i < n then 1 else 0)
  | 0 => rfl
  | n + 1 => by
    rw [cntS, cntS, cntS_set h n]
    by_cases hn : n = i
    · subst hn; simp [h]
    · have : (n == i) = false := by simpa using hn
      simp only [this, Bool.false_or]
      by_cases hi : i < n
      · rw [if_pos hi, if_pos (by omega : i < n + 1)]; omega
      · rw [if_neg hi, if_neg (by omega : ¬ i < n + 1)]; omega
theorem cntS_le (S : Nat → Bool) : ∀ n, cntS S n ≤ n
  | 0 => Nat.le_refl _
  | n + 1 => by rw [cntS]; have := cntS_le S n; split <;> omega
/-- what the map holds when the operations of S are done -/
structure Tab (S : Nat → Bool) (D : DataW Unit) : Prop where
  isMap : IsMap D
  has : ∀ kl, has D kl = true ↔ ∃ j, j < 10 ∧ S (2 * j + 2) = true ∧ tK j = kl
  at_ : ∀ j, j < 10 → S (2 * j + 2) = true → D.atKey (tK j) (.lit (.int .i64 0)) = .lit (.int .i64 (tV j))
theorem Tab.empty {S : Nat → Bool} (h : ∀ j, j < 10 → S (2 * j + 2) = false) : Tab S (.map []) := by
  refine ⟨⟨[], rfl⟩, fun kl => ⟨fun hh => ?_, fun ⟨j, hj, hS, _⟩ => ?_⟩, fun j hj hS => ?_⟩
  · simp [Maps.has] at hh
  · rw [h j hj] at hS; cases hS
  · rw [h j hj] at hS; cases hS
theorem Tab.same {S S' : Nat → Bool} {D : DataW Unit} (t : Tab S D) (h : ∀ j, j < 10 → S' (2 * j + 2) = S (2 * j + 2)) : Tab S' D := by
  refine ⟨t.isMap, fun kl => (t.has kl).trans ⟨fun ⟨j, hj, hS, hk⟩ => ⟨j, hj, by rw [h j hj]; exact hS, hk⟩, fun ⟨j, hj, hS, hk⟩ => ⟨j, hj, by rw [← h j hj]; exact hS, hk⟩⟩, fun j hj hS => t.at_ j hj (by rw [← h j hj]; exact hS)⟩
theorem Tab.put {S : Nat → Bool} {D : DataW Unit} (t : Tab S D) {i : Nat} (hi : i < 10) : Tab (fun j => j == 2 * i + 2 || S j) (D.put (tK i) (.lit (.int .i64 (tV i)))) := by
  refine ⟨t.isMap.put _ _, fun kl => ?_, fun j hj hS => ?_⟩
  · by_cases hk : kl = tK i
    · subst hk
      rw [has_put_same t.isMap (tK_key i)]
      exact ⟨fun _ => ⟨i, hi, by simp, rfl⟩, fun _ => rfl⟩
    · rw [has_put_other hk, t.has]
      constructor
      · rintro ⟨j, hj, hS, e⟩; exact ⟨j, hj, by simp [hS], e⟩
      · rintro ⟨j, hj, hS, e⟩
        refine ⟨j, hj, ?_, e⟩
        have : j ≠ i := fun h => hk (by rw [← e, h])
        have : (2 * j + 2 == 2 * i + 2) = false := by simp; omega
        simpa only [this, Bool.false_or] using hS
  · by_cases hji : j = i
    · subst hji
      exact atKey_put_same t.isMap (tK_key j) _ _
    · have hne : tK j ≠ tK i := fun h => hji (tK_inj j hj i hi h)
      rw [atKey_put_other hne]
      refine t.at_ j hj ?_
      have : (2 * j + 2 == 2 * i + 2) = false := by simp; omega
      simpa only [this, Bool.false_or] using hS

/-- the slot that an operation of the table's region writes, and what it writes -/
def tSlot (B : Nat) (i : Nat) : Option (Nat × Value) :=
  if i = 0 then some (1, .map (some B)) else if i = 21 then some (12, .map (some B)) else if i = 22 then some (0, .map (some B))
  else if i % 2 = 1 ∧ i < 21 then some ((i - 1) / 2 + 2, keyVal (tS ((i - 1) / 2)) (tE ((i - 1) / 2))) else none
theorem tSlot_inj (B : Nat) {i j d e : Nat} {v u : Value} (hi : tSlot B i = some (d, v)) (hj : tSlot B j = some (e, u)) (hne : i ≠ j) : d ≠ e := by
  unfold tSlot at hi hj
  split at hi <;> (try split at hi) <;> (try split at hi) <;> (try split at hi) <;> (try cases hi) <;>
    split at hj <;> (try split at hj) <;> (try split at hj) <;> (try split at hj) <;> (try cases hj) <;> omega
structure TInv (W : World) (S : Nat → Bool) (a : Act) (w : World) : Prop where
  defers : a.defers = []
  size : a.tmps.size = 13
  slots : ∀ i d v, tSlot W.heap.size i = some (d, v) → S i = true → a.tmps[d]? = some v
  none : S 0 = false → w = W.drew ∧ ∀ j, j < 10 → S (2 * j + 2) = false
  some : S 0 = true → ∃ D n, w.ownsMap Try.prog 41 (plainElem Try.prog 3) W.heap.size n D ∧ n ≤ cntS S 23 ∧ Tab S D ∧ Below W.heap.size W w ∧ W.heap.size + 1 ≤ w.heap.size
theorem slots_put {W : World} {S : Nat → Bool} {a : Act} (hs : a.tmps.size = 13) (h : ∀ i d v, tSlot W.heap.size i = some (d, v) → S i = true → a.tmps[d]? = some v) {i0 d0 : Nat} {v0 : Value}
    (h0 : tSlot W.heap.size i0 = some (d0, v0)) (hd : d0 < 13) : ∀ i d v, tSlot W.heap.size i = some (d, v) → (i == i0 || S i) = true → (a.put (some d0) v0).tmps[d]? = some v := by
  intro i d v hi hS
  by_cases hii : i = i0
  · subst hii
    rw [h0] at hi
    cases hi
    simp [Act.put, hs, hd]
  · have hne := tSlot_inj W.heap.size h0 hi (Ne.symm hii)
    have hS' : S i = true := by simpa [hii] using hS
    have := h i d v hi hS'
    simp [Act.put, Array.getElem?_setIfInBounds_ne hne, this]
theorem slots_none {W : World} {S : Nat → Bool} {a : Act} (h : ∀ i d v, tSlot W.heap.size i = some (d, v) → S i = true → a.tmps[d]? = some v) {i0 : Nat} 
    (h0 : tSlot W.heap.size i0 = none) : ∀ i d v, tSlot W.heap.size i = some (d, v) → (i == i0 || S i) = true → a.tmps[d]? = some v := by
  intro i d v hi hS
  by_cases hii : i = i0
  · subst hii; rw [h0] at hi; cases hi
  · exact h i d v hi (by simpa [hii] using hS)
section steps
variable {W : World} {S : Nat → Bool} {a : Act} {w : World} {Q : Exit → Act → World → Prop}

theorem step_make (I : TInv W S a w) (hS : S 0 = false) {o : Oper} (ho : o.dst = some 1) (hop : o.op = .makeMap 38 none) :
    o.wp Try.prog a w (TInv W (fun j => j == 0 || S j)) Q := by
  obtain ⟨rfl, hS'⟩ := I.none hS
  unfold Oper.wp
  have hr : (execOp a.eval o).run Try.prog W.drew = .ok (.value (.map (some W.heap.size))) (W.drew.alloc (.map #[] 0)) := by
    simp only [execOp, hop]
    simp [run_makeMap]
  rw [hr, Oper.upon_value, ho]
  refine ⟨I.defers, by simp [Act.put, I.size], slots_put I.size I.slots rfl (by omega), fun h => ?_, fun _ => ?_⟩
  · simp at h
  · exact ⟨.map [], 0, World.ownsMap_made W.drew _ _ _, Nat.zero_le _, Tab.empty fun j hj => by
      have : (2 * j + 2 == 0) = false := by simp
      simp only [this, Bool.false_or]; exact hS' j hj, ((Below.refl _ _).drew).alloc (Nat.le_refl _) _, by simp⟩
theorem step_slot (I : TInv W S a w) {i d : Nat} {v : Value} (h0 : tSlot W.heap.size i = some (d, v)) (hd : d < 13) (hi0 : i ≠ 0) (hodd : i % 2 = 1 ∨ 20 < i) : TInv W (fun j => j == i || S j) (a.put (some d) v) w := by
  have h0i : (0 == i) = false := by simpa using Ne.symm hi0
  refine ⟨I.defers, by simp [Act.put, I.size], slots_put I.size I.slots h0 hd, fun h => ?_, fun h => ?_⟩
  · obtain ⟨k1, k2⟩ := I.none (by simpa only [h0i, Bool.false_or] using h)
    refine ⟨k1, fun j hj => ?_⟩
    have : (2 * j + 2 == i) = false := by simp; omega
    simp only [this, Bool.false_or]
    exact k2 j hj
  · obtain ⟨D, n, h1, h2, h3, h4⟩ := I.some (by simpa only [h0i, Bool.false_or] using h)
    refine ⟨D, n, h1, ?_, h3.same fun j hj => ?_, h4⟩
    · refine Nat.le_trans h2 ?_
      cases hS : S i with
      | false => rw [cntS_set hS]; omega
      | true =>
        have : (fun j => j == i || S j) = S := by
          funext j
          by_cases hj : j = i
          · subst hj; simp [hS]
          · simp [hj]
        rw [this]; exact Nat.le_refl _
    · have : (2 * j + 2 == i) = false := by simp; omega
      simp only [this, Bool.false_or]
theorem step_insert (I : TInv W S a w) {j : Nat} (hj : j < 10) (h0 : S 0 = true) (h1 : S (2 * j + 1) = true) (hS : S (2 * j + 2) = false) {o : Oper} (ho : o.dst = none) (hw : (Lit.int .i64 (tS j)).wf = true) (hw2 : (Lit.int .i64 (tE j)).wf = true) (hw3 : (Lit.int .i64 (tV j)).wf = true)
    (hop : o.op = .insert 38 (.tmp 1) (.tmp (j + 2)) (.const (.int .i64 (tV j)))) :
    o.wp Try.prog a w (TInv W (fun i => i == 2 * j + 2 || S i)) Q := by
  obtain ⟨D, n, k1, k2, k3, k4, k5⟩ := I.some h0
  have m1 := I.slots 0 1 _ rfl h0
  have m2 := I.slots (2 * j + 1) (j + 2) (keyVal (tS j) (tE j)) (by unfold tSlot; rw [if_neg (by omega), if_neg (by omega), if_neg (by omega), if_pos ⟨by omega, by omega⟩]; rw [show (2 * j + 1 - 1) / 2 = j from by omega]) h1
  have hn : n < maxLen := Nat.lt_of_le_of_lt (Nat.le_trans k2 (cntS_le S 23)) (by unfold maxLen; omega)
  obtain ⟨w', hrun, r1, r2⟩ := k1.update law41 Try.underlying38 hn (key41 _ _ hw hw2) (plainElem_int Try.underlying3 hw3)
  have e1 : a.eval (.tmp 1) = .map (some W.heap.size) := by simp [Act.eval, m1]
  have e2 : a.eval (.tmp (j + 2)) = keyVal (tS j) (tE j) := by simp [Act.eval, m2]
  have hr : (execOp a.eval o).run Try.prog w = .ok .skip w' := by
    simp only [execOp, hop, e1, e2]
    simp only [Act.eval]
    simp [hrun]
  unfold Oper.wp
  rw [hr, Oper.upon_skip, ho]
  have hz : (0 == 2 * j + 2) = false := by simp
  refine ⟨I.defers, I.size, slots_none I.slots (by unfold tSlot; rw [if_neg (by omega), if_neg (by omega), if_neg (by omega), if_neg (by omega)]), fun h => ?_, fun _ => ?_⟩
  · simp only [hz, Bool.false_or] at h
    rw [h0] at h; cases h
  · refine ⟨_, n + 1, r1, ?_, k3.put hj, k4.grown r2 (by omega) (by intro k hk; cases hk; exact Nat.le_refl _), ?_⟩
    · rw [cntS_set hS, if_pos (by omega)]; omega
    · exact Nat.le_trans k5 r2.size
theorem step_build (I : TInv W S a w) {j : Nat} (hj : j < 10) {o : Oper} (ho : o.dst = some (j + 2)) (hop : o.op = .build 41 #[(0, .const (.int .i64 (tS j))), (1, .const (.int .i64 (tE j)))]) :
    o.wp Try.prog a w (TInv W (fun i => i == 2 * j + 1 || S i)) Q := by
  have hr : (execOp a.eval o).run Try.prog w = .ok (.value (keyVal (tS j) (tE j))) w := by
    simp only [execOp, hop]
    simp [go_sem, Act.eval, keyVal]
  unfold Oper.wp
  rw [hr, Oper.upon_value, ho]
  exact step_slot I (by unfold tSlot; rw [if_neg (by omega), if_neg (by omega), if_neg (by omega), if_pos ⟨by omega, by omega⟩]; rw [show (2 * j + 1 - 1) / 2 = j from by omega]) (by omega) (by omega) (by omega)
theorem step_move (I : TInv W S a w) (h0 : S 0 = true) {o : Oper} (ho : o.dst = some 12) (hop : o.op = .move (.tmp 1)) :
    o.wp Try.prog a w (TInv W (fun i => i == 21 || S i)) Q := by
  have m1 := I.slots 0 1 _ rfl h0
  have e1 : a.eval (.tmp 1) = .map (some W.heap.size) := by simp [Act.eval, m1]
  have hr : (execOp a.eval o).run Try.prog w = .ok (.value (.map (some W.heap.size))) w := by
    simp only [execOp, hop, e1]
    simp
  unfold Oper.wp
  rw [hr, Oper.upon_value, ho]
  exact step_slot I (i := 21) rfl (by omega) (by omega) (by omega)
theorem step_assign (I : TInv W S a w) (h0 : S 21 = true) {o : Oper} (ho : o.dst = some 0) (hop : o.op = .assign (.tmp 12)) :
    o.wp Try.prog a w (TInv W (fun i => i == 22 || S i)) Q := by
  have m1 := I.slots 21 12 _ rfl h0
  have e1 : a.eval (.tmp 12) = .map (some W.heap.size) := by simp [Act.eval, m1]
  have hr : (execOp a.eval o).run Try.prog w = .ok (.value (.map (some W.heap.size))) w := by
    simp only [execOp, hop, e1]
    simp
  unfold Oper.wp
  rw [hr, Oper.upon_value, ho]
  exact step_slot I (i := 22) rfl (by omega) (by omega) (by omega)
end steps
/-- status.table: a new map that holds the ten rows. -/
theorem table_any (W : World) :
    Calls Try.prog 19 #[] W fun r w => r = .returned (.map (some W.heap.size)) ∧ ∃ D, w.ownsMap Try.prog 41 (plainElem Try.prog 3) W.heap.size 23 D ∧ Tab (fun _ => true) D ∧ Below W.heap.size W w ∧ W.heap.size + 1 ≤ w.heap.size := by
  go_enter Try.func19, Try.ntmps19
  go_wp2
  refine wp_region_inv (by kernel_rfl) (by kernel_rfl) (fun S a w => TInv W S a w) ⟨rfl, rfl, fun i d v _ h => by simp at h, fun _ => ⟨rfl, fun _ _ => rfl⟩, fun h => by simp at h⟩ ?_ ?_
  · intro S a w i o ho hS hd hI
    have hi : i < 23 := by
      obtain ⟨h, _⟩ := Array.getElem?_eq_some_iff.1 ho
      simpa using h
    match i, hi with
    | 0, _ => obtain rfl := Option.some.inj ho; exact wpOp_one rfl rfl (step_make hI hS rfl rfl)
    | 1, _ => obtain rfl := Option.some.inj ho; exact wpOp_one rfl rfl (step_build hI (j := 0) (by omega) rfl rfl)
    | 2, _ => obtain rfl := Option.some.inj ho; exact wpOp_one rfl rfl (step_insert hI (j := 0) (by omega) (hd ⟨0, .data⟩ (by simp) rfl) (hd ⟨1, .data⟩ (by simp) rfl) hS rfl rfl rfl rfl rfl)
    | 3, _ => obtain rfl := Option.some.inj ho; exact wpOp_one rfl rfl (step_build hI (j := 1) (by omega) rfl rfl)
    | 4, _ => obtain rfl := Option.some.inj ho; exact wpOp_one rfl rfl (step_insert hI (j := 1) (by omega) (hd ⟨0, .data⟩ (by simp) rfl) (hd ⟨3, .data⟩ (by simp) rfl) hS rfl rfl rfl rfl rfl)
    | 5, _ => obtain rfl := Option.some.inj ho; exact wpOp_one rfl rfl (step_build hI (j := 2) (by omega) rfl rfl)
    | 6, _ => obtain rfl := Option.some.inj ho; exact wpOp_one rfl rfl (step_insert hI (j := 2) (by omega) (hd ⟨0, .data⟩ (by simp) rfl) (hd ⟨5, .data⟩ (by simp) rfl) hS rfl rfl rfl rfl rfl)
    | 7, _ => obtain rfl := Option.some.inj ho; exact wpOp_one rfl rfl (step_build hI (j := 3) (by omega) rfl rfl)
    | 8, _ => obtain rfl := Option.some.inj ho; exact wpOp_one rfl rfl (step_insert hI (j := 3) (by omega) (hd ⟨0, .data⟩ (by simp) rfl) (hd ⟨7, .data⟩ (by simp) rfl) hS rfl rfl rfl rfl rfl)
    | 9, _ => obtain rfl := Option.some.inj ho; exact wpOp_one rfl rfl (step_build hI (j := 4) (by omega) rfl rfl)
    | 10, _ => obtain rfl := Option.some.inj ho; exact wpOp_one rfl rfl (step_insert hI (j := 4) (by omega) (hd ⟨0, .data⟩ (by simp) rfl) (hd ⟨9, .data⟩ (by simp) rfl) hS rfl rfl rfl rfl rfl)
    | 11, _ => obtain rfl := Option.some.inj ho; exact wpOp_one rfl rfl (step_build hI (j := 5) (by omega) rfl rfl)
    | 12, _ => obtain rfl := Option.some.inj ho; exact wpOp_one rfl rfl (step_insert hI (j := 5) (by omega) (hd ⟨0, .data⟩ (by simp) rfl) (hd ⟨11, .data⟩ (by simp) rfl) hS rfl rfl rfl rfl rfl)
    | 13, _ => obtain rfl := Option.some.inj ho; exact wpOp_one rfl rfl (step_build hI (j := 6) (by omega) rfl rfl)
    | 14, _ => obtain rfl := Option.some.inj ho; exact wpOp_one rfl rfl (step_insert hI (j := 6) (by omega) (hd ⟨0, .data⟩ (by simp) rfl) (hd ⟨13, .data⟩ (by simp) rfl) hS rfl rfl rfl rfl rfl)
    | 15, _ => obtain rfl := Option.some.inj ho; exact wpOp_one rfl rfl (step_build hI (j := 7) (by omega) rfl rfl)
    | 16, _ => obtain rfl := Option.some.inj ho; exact wpOp_one rfl rfl (step_insert hI (j := 7) (by omega) (hd ⟨0, .data⟩ (by simp) rfl) (hd ⟨15, .data⟩ (by simp) rfl) hS rfl rfl rfl rfl rfl)
    | 17, _ => obtain rfl := Option.some.inj ho; exact wpOp_one rfl rfl (step_build hI (j := 8) (by omega) rfl rfl)
    | 18, _ => obtain rfl := Option.some.inj ho; exact wpOp_one rfl rfl (step_insert hI (j := 8) (by omega) (hd ⟨0, .data⟩ (by simp) rfl) (hd ⟨17, .data⟩ (by simp) rfl) hS rfl rfl rfl rfl rfl)
    | 19, _ => obtain rfl := Option.some.inj ho; exact wpOp_one rfl rfl (step_build hI (j := 9) (by omega) rfl rfl)
    | 20, _ => obtain rfl := Option.some.inj ho; exact wpOp_one rfl rfl (step_insert hI (j := 9) (by omega) (hd ⟨0, .data⟩ (by simp) rfl) (hd ⟨19, .data⟩ (by simp) rfl) hS rfl rfl rfl rfl rfl)
    | 21, _ => obtain rfl := Option.some.inj ho; exact wpOp_one rfl rfl (step_move hI (hd ⟨0, .data⟩ (by simp) rfl) rfl rfl)
    | 22, _ => obtain rfl := Option.some.inj ho; exact wpOp_one rfl rfl (step_assign hI (hd ⟨21, .data⟩ (by simp) rfl) rfl rfl)
  · intro S a w hall hI
    obtain ⟨D, n, h1, h2, h3, h4, h5⟩ := hI.some (hall 0 (by simp))
    have hm := hI.slots 22 0 _ rfl (hall 22 (by simp))
    have hdf := hI.defers
    have hT : Tab (fun _ => true) D := h3.same fun j hj => (hall (2 * j + 2) (by simp; omega)).symm
    have hn := h1.mono (Nat.le_trans h2 (cntS_le S 23))
    go_wp2
    exact bodyPost_ret (v := .map (some W.heap.size)) (by simp [results, Try.results19, hm, go_sem]) hdf ⟨rfl, D, hn, hT, h4, h5⟩
end Go.Proofs.Ytblcghghgejaaaa
