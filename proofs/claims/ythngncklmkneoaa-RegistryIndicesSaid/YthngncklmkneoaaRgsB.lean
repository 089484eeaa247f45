/- The registry's state, and what its operations make of it: plain mathematics. -/
import Derived.Test.YthngncklmkneoaaRgsA
namespace Go.Eg
open Go Go.RowKit
theorem totS_append (l : List Vd) (v : Vd) : totS (l ++ [v]) = totS l + v.bal := by
  induction l with
  | nil => simp [totS]
  | cons x r ih => simp only [List.cons_append, totS, ih]; omega
theorem actS_append (l : List Vd) (v : Vd) : actS (l ++ [v]) = actS l + if v.live = true then v.bal else 0 := by
  induction l with
  | nil => simp [actS]
  | cons x r ih => simp only [List.cons_append, actS, ih]; omega
theorem cntS_append (l : List Vd) (v : Vd) (x : Int) : cntS (l ++ [v]) x = cntS l x + if v.st = x then 1 else 0 := by
  unfold cntS
  rw [List.filter_append, List.length_append]
  by_cases h : v.st = x
  · simp [h]
  · simp [h]
theorem totS_nonneg {l : List Vd} (h : ∀ v ∈ l, v.ok) : 0 ≤ totS l := by
  induction l with
  | nil => exact Int.le_refl _
  | cons x r ih =>
    have := ih fun v hv => h v (List.mem_cons_of_mem _ hv)
    have := (h x List.mem_cons_self).b0
    simp only [totS]
    omega
theorem actS_le {l : List Vd} (h : ∀ v ∈ l, v.ok) : 0 ≤ actS l ∧ actS l ≤ totS l := by
  induction l with
  | nil => exact ⟨Int.le_refl _, Int.le_refl _⟩
  | cons x r ih =>
    have := ih fun v hv => h v (List.mem_cons_of_mem _ hv)
    have := (h x List.mem_cons_self).b0
    simp only [totS, actS]
    split <;> omega
theorem cntS_range (l : List Vd) (x : Int) : 0 ≤ cntS l x ∧ cntS l x ≤ l.length := by
  unfold cntS
  have := List.length_filter_le (fun v : Vd => v.st == x) l
  omega
theorem set_split {l : List Vd} {i : Nat} (hi : i < l.length) (v : Vd) : l = l.take i ++ l[i] :: l.drop (i + 1) ∧ l.set i v = l.take i ++ v :: l.drop (i + 1) := by
  constructor
  · simp
  · rw [List.set_eq_take_append_cons_drop, if_pos hi]
theorem totS_mid (a : List Vd) (v : Vd) (b : List Vd) : totS (a ++ v :: b) = totS a + v.bal + totS b := by
  induction a with
  | nil => simp [totS]
  | cons x r ih => simp only [List.cons_append, totS, ih]; omega
theorem actS_mid (a : List Vd) (v : Vd) (b : List Vd) : actS (a ++ v :: b) = actS a + (if v.live = true then v.bal else 0) + actS b := by
  induction a with
  | nil => simp [actS]
  | cons x r ih => simp only [List.cons_append, actS, ih]; omega
theorem cntS_mid (a : List Vd) (v : Vd) (b : List Vd) (x : Int) : cntS (a ++ v :: b) x = cntS a x + (if v.st = x then 1 else 0) + cntS b x := by
  unfold cntS
  rw [List.filter_append, List.length_append, List.filter_cons]
  by_cases h : v.st = x
  · simp [h]; omega
  · simp [h]
theorem totS_set {l : List Vd} {i : Nat} (hi : i < l.length) (v : Vd) : totS (l.set i v) = totS l - l[i].bal + v.bal := by
  obtain ⟨h1, h2⟩ := set_split hi v
  have e : totS l = totS (l.take i ++ l[i] :: l.drop (i + 1)) := congrArg totS h1
  rw [h2, e, totS_mid, totS_mid]
  omega
theorem actS_set {l : List Vd} {i : Nat} (hi : i < l.length) (v : Vd) : actS (l.set i v) = actS l - (if l[i].live = true then l[i].bal else 0) + if v.live = true then v.bal else 0 := by
  obtain ⟨h1, h2⟩ := set_split hi v
  have e : actS l = actS (l.take i ++ l[i] :: l.drop (i + 1)) := congrArg actS h1
  rw [h2, e, actS_mid, actS_mid]
  omega
theorem cntS_set {l : List Vd} {i : Nat} (hi : i < l.length) (v : Vd) (x : Int) : cntS (l.set i v) x = cntS l x - (if l[i].st = x then 1 else 0) + if v.st = x then 1 else 0 := by
  obtain ⟨h1, h2⟩ := set_split hi v
  have e : cntS l x = cntS (l.take i ++ l[i] :: l.drop (i + 1)) x := congrArg (cntS · x) h1
  rw [h2, e, cntS_mid, cntS_mid]
  omega
theorem bal_le {l : List Vd} (h : ∀ v ∈ l, v.ok) {i : Nat} (hi : i < l.length) : l[i].bal ≤ totS l ∧ ((if l[i].live = true then l[i].bal else 0) ≤ actS l) := by
  obtain ⟨h1, _⟩ := set_split hi l[i]
  have ht := totS_nonneg (l := l.take i) fun v hv => h v (List.mem_of_mem_take hv)
  have hd := totS_nonneg (l := l.drop (i + 1)) fun v hv => h v (List.mem_of_mem_drop hv)
  have at_ := (actS_le (l := l.take i) fun v hv => h v (List.mem_of_mem_take hv)).1
  have ad := (actS_le (l := l.drop (i + 1)) fun v hv => h v (List.mem_of_mem_drop hv)).1
  have e : totS l = totS (l.take i ++ l[i] :: l.drop (i + 1)) := congrArg totS h1
  have e2 : actS l = actS (l.take i ++ l[i] :: l.drop (i + 1)) := congrArg actS h1
  rw [e, e2, totS_mid, actS_mid]
  omega
/-- the cells of a list -/
def flatV (l : List Vd) : List Value := l.flatMap fun v => v.cells.toList
theorem flatV_len (l : List Vd) : (flatV l).length = l.length * 7 := by
  induction l with
  | nil => rfl
  | cons x r ih =>
    have : flatV (x :: r) = x.cells.toList ++ flatV r := rfl
    rw [this, List.length_append, ih, List.length_cons]
    simp
    omega
theorem flatV_append (l : List Vd) (v : Vd) : flatV (l ++ [v]) = flatV l ++ v.cells.toList := by simp [flatV]
theorem flatV_at (l : List Vd) (i : Nat) (hi : i < l.length) (j : Nat) (hj : j < 7) : (flatV l)[i * 7 + j]? = l[i].cells.toList[j]? := by
  induction l generalizing i with
  | nil => simp at hi
  | cons x r ih =>
    have e : flatV (x :: r) = x.cells.toList ++ flatV r := rfl
    rw [e]
    have hx : x.cells.toList.length = 7 := rfl
    cases i with
    | zero =>
      rw [List.getElem?_append_left (by omega)]
      simp
    | succ i =>
      rw [List.getElem?_append_right (by omega), hx, show (i + 1) * 7 + j - 7 = i * 7 + j from by omega]
      exact ih i (by simpa using hi)
end Go.Eg
