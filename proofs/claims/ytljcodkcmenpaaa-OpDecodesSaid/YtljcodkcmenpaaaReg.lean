/- General lemmas, no program in sight: a region that draws its order, proved by an invariant over the set of the operations that are done. -/
import Derived.WalkKit
import Derived.WalkSpells
import Derived.WalkLawsBesides
import Derived.Handy
import Derived.Outline
import Derived.Orders
import Derived.Lib.Hide
import Derived.Deep.LoopGhost
import Derived.Deep.DeepMust
import Derived.Deep.DeepFit
import Derived.Deep.QuietTactic
import Derived.BigQuiet
import Derived.Maps.OwnSet
import Derived.Maps.RangeWalk
namespace Go.Eg
open Go
section
variable {P : Program} {ops : Array Oper} {Q : Exit → Act → World → Prop}

/-- Every operation waits only for operations that stand ahead of it. -/
def backB (ops : Array Oper) : Bool := (List.range ops.size).all fun i => ((ops[i]?).map fun o => o.after.all fun e => decide (e.on < i)).getD true

theorem ready_mem {md : Region.Mode} {listed : Array Bool} {i : Nat} (h : i ∈ Region.ready md ops listed) :
    i < ops.size ∧ listed.getD i true = false ∧ ∃ o, ops[i]? = some o ∧ ∀ e ∈ o.after, Region.binds md e = true → listed.getD e.on false = true := by
  unfold Region.ready at h
  rw [List.mem_filter] at h
  obtain ⟨h1, h2⟩ := h
  rw [List.mem_range] at h1
  simp only [Bool.and_eq_true, Bool.not_eq_true'] at h2
  refine ⟨h1, h2.1, ops[i], by simp [h1], ?_⟩
  have h3 := h2.2
  simp only [Array.getElem?_eq_getElem h1, Option.map_some, Option.getD_some] at h3
  rw [Array.all_eq_true_iff_forall_mem] at h3
  intro e he hb
  have := h3 e he
  simpa [hb] using this

theorem ready_all {md : Region.Mode} {listed : Array Bool} (hb : backB ops = true) (hs : listed.size = ops.size) (h : Region.ready md ops listed = []) :
    ∀ i, i < ops.size → listed.getD i false = true := by
  intro i
  induction i using Nat.strongRecOn with
  | ind i ih =>
    intro hi
    cases hl : listed.getD i false with
    | true => rfl
    | false =>
      exfalso
      have hil : i < listed.size := by omega
      have hl' : listed[i] = false := by simpa [hil] using hl
      have hm : i ∈ Region.ready md ops listed := by
        unfold Region.ready
        rw [List.mem_filter]
        refine ⟨List.mem_range.2 hi, ?_⟩
        have h1 : listed.getD i true = false := by simp [hil, hl']
        rw [h1]
        simp only [Bool.not_false, Bool.true_and, Array.getElem?_eq_getElem hi, Option.map_some, Option.getD_some]
        rw [Array.all_eq_true_iff_forall_mem]
        intro e he
        unfold backB at hb
        rw [List.all_eq_true] at hb
        have hbi := hb i (List.mem_range.2 hi)
        simp only [Array.getElem?_eq_getElem hi, Option.map_some, Option.getD_some] at hbi
        rw [Array.all_eq_true_iff_forall_mem] at hbi
        have hlt := of_decide_eq_true (hbi e he)
        rw [ih e.on hlt (by omega)]
        simp
      rw [h] at hm
      cases hm

def cntF (listed : Array Bool) : Nat := (listed.toList.filter (fun b => !b)).length

theorem cntF_set {listed : Array Bool} {i : Nat} (hi : i < listed.size) (h : listed.getD i true = false) : cntF (listed.setIfInBounds i true) + 1 = cntF listed := by
  have hl : listed[i] = false := by simpa [hi] using h
  unfold cntF
  rw [Array.toList_setIfInBounds]
  have : ∀ (l : List Bool) (i : Nat) (hi : i < l.length), l[i] = false → ((l.set i true).filter (fun b => !b)).length + 1 = (l.filter (fun b => !b)).length := by
    intro l
    induction l with
    | nil => intro i hi; simp at hi
    | cons b r ih =>
      intro i hi hb
      cases i with
      | zero => simp at hb; subst hb; simp
      | succ j =>
        have := ih j (by simpa using hi) (by simpa using hb)
        cases b <;> simp <;> omega
  exact this listed.toList i (by simpa using hi) (by simpa using hl)

theorem cntF_pos {listed : Array Bool} {i : Nat} (hi : i < listed.size) (h : listed.getD i true = false) : 0 < cntF listed := by
  have := cntF_set hi h
  omega

theorem wpAny_inv (hb : backB ops = true) (I : (Nat → Bool) → Act → World → Prop)
    (hstep : ∀ (S : Nat → Bool) a w i o, ops[i]? = some o → S i = false → (∀ e ∈ o.after, Region.binds .any e = true → S e.on = true) → I S a w →
      wpOp P ops Q i (I fun j => j == i || S j) a w)
    (hend : ∀ (S : Nat → Bool) a w, (∀ i, i < ops.size → S i = true) → I S a w → Q .normal a w) :
    ∀ (fuel : Nat) (listed : Array Bool) (a : Act) (w : World), listed.size = ops.size → cntF listed ≤ fuel → I (fun j => listed.getD j false) a w → wpAny P .any ops Q fuel listed a w
  | 0, listed, a, w, hs, hc, hI => by
    have hr : Region.ready .any ops listed = [] := by
      cases hr : Region.ready .any ops listed with
      | nil => rfl
      | cons i r =>
        obtain ⟨h1, h2, _⟩ := ready_mem (i := i) (by rw [hr]; simp)
        have := cntF_pos (by omega) h2
        omega
    exact ⟨hr, hend _ a w (ready_all hb hs hr) hI⟩
  | fuel + 1, listed, a, w, hs, hc, hI => by
    refine ⟨fun hr => hend _ a w (ready_all hb hs hr) hI, fun i hi => ?_⟩
    obtain ⟨h1, h2, o, ho, hd⟩ := ready_mem hi
    have hil : i < listed.size := by omega
    have hl : listed[i] = false := by simpa [hil] using h2
    refine wpOp_mono ?_ (hstep (fun j => listed.getD j false) a w i o ho (by simp [hil, hl]) hd hI)
    intro a' w' hI'
    refine wpAny_inv hb I hstep hend fuel _ a' w' (by simp [hs]) (by have := cntF_set hil h2; omega) ?_
    have e : (fun j => (listed.setIfInBounds i true).getD j false) = (fun j => j == i || listed.getD j false) := by
      funext j
      simp only [Array.getD_eq_getD_getElem?, Array.getElem?_setIfInBounds]
      by_cases hji : i = j
      · subst hji; simp [hil]
      · simp [hji, Ne.symm hji]
    rw [e]
    exact hI'

/-- A REGION THAT DRAWS ITS ORDER, BY AN INVARIANT. -/
theorem wp_region_inv {id : Nat} {a : Act} {w : World} (hm : P.follows .mixedOrders = true) (hb : backB ops = true) (I : (Nat → Bool) → Act → World → Prop)
    (h0 : I (fun _ => false) a w.drew)
    (hstep : ∀ (S : Nat → Bool) a w i o, ops[i]? = some o → S i = false → (∀ e ∈ o.after, Region.binds .any e = true → S e.on = true) → I S a w →
      wpOp P ops Q i (I fun j => j == i || S j) a w)
    (hend : ∀ (S : Nat → Bool) a w, (∀ i, i < ops.size → S i = true) → I S a w → Q .normal a w) : (Code.region id ops true).wp P Q a w := by
  refine wp_region_any hm ?_
  refine wpAny_inv hb I hstep hend ops.size _ a _ (by simp) ?_ ?_
  · unfold cntF
    rw [Array.toList_replicate]
    exact Nat.le_trans (List.length_filter_le _ _) (by simp)
  · have e : (fun j => (Array.replicate ops.size false).getD j false) = (fun _ : Nat => false) := by
      funext j
      simp only [Array.getD_eq_getD_getElem?, Array.getElem?_replicate]
      split <;> rfl
    rw [e]
    exact h0

theorem ret_int {k : IntKind} {a b : Int} (h : a = b) : Ending.returned (.int k a) = .returned (.int k b) := by rw [h]
theorem ret_bool {a b : Bool} (h : a = b) : Ending.returned (.bool a) = .returned (.bool b) := by rw [h]
theorem ret_string {a b : ByteArray} (h : a = b) : Ending.returned (.string a) = .returned (.string b) := by rw [h]
theorem ret2 {v0 v1 u0 u1 : Value} (h0 : v0 = u0) (h1 : v1 = u1) : Ending.returned (.tuple #[v0, v1]) = .returned (.tuple #[u0, u1]) := by rw [h0, h1]
theorem ret3 {v0 v1 v2 u0 u1 u2 : Value} (h0 : v0 = u0) (h1 : v1 = u1) (h2 : v2 = u2) : Ending.returned (.tuple #[v0, v1, v2]) = .returned (.tuple #[u0, u1, u2]) := by rw [h0, h1, h2]
theorem addr_add (b off j : Nat) : (⟨b, off, none⟩ : Addr).add j = ⟨b, off + j, none⟩ := by
  unfold Addr.add
  split
  · rename_i h; subst h; rfl
  · rfl
theorem cell_lt {w : World} {a : Addr} {v : Value} (h : w.cell? a = some v) : a.block < w.heap.size := by
  cases hb : w.heap[a.block]? with
  | none => simp [World.cell?, hb] at h
  | some o => exact (Array.getElem?_eq_some_iff.1 hb).1
theorem heap_lt {w : World} {i : Nat} {o : Obj} (h : w.heap[i]? = some o) : i < w.heap.size := (Array.getElem?_eq_some_iff.1 h).1
/-- a goal at which the walk is to stand still -/
def Parked (p : Prop) : Prop := p
theorem Parked.out {p : Prop} (h : Parked p) : p := h
theorem Parked.mk {p : Prop} (h : p) : Parked p := h
theorem bytes_inj {a b : ByteArray} (h : a.toList = b.toList) : a = b := by
  rw [ByteArray.toList_eq, ByteArray.toList_eq] at h
  cases a; cases b
  simp only [Array.toList_inj] at h
  rw [h]
theorem bytes_eq_true {a b : ByteArray} (h : (a.toList == b.toList) = true) : a = b := bytes_inj (by simpa using h)
theorem bytes_eq_false {a b : ByteArray} (h : (a.toList == b.toList) = false) : a ≠ b := by
  intro e
  subst e
  simp at h
/-- An operation without a guard. -/
theorem wpOp_one {i : Nat} {o : Oper} {K : Act → World → Prop} {a : Act} {w : World} (ho : ops[i]? = some o) (hg : o.guard = none) (h : o.wp P a w K Q) : wpOp P ops Q i K a w := by
  unfold wpOp
  simp only [ho, Region.wanted, hg, if_true]
  exact .inl h
end
end Go.Eg
