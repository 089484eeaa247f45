/- The walks of package status and of its reference: each function's contract. -/
import Derived.Test.YtblcghghgejaaaaTable
namespace Go.Proofs.Ytblcghghgejaaaa
open Go.RowKit Go.Maps Go.Eg
/-- egressref05.Next in numbers -/
def refNext (s e : Int) : Int :=
  if e = 7 then (if s = 2 then 3 else if s = 3 then 3 else if s = 4 then 4 else if s = 5 then 4 else 0)
  else if e = 6 ∧ s = 2 then 7
  else if 1 ≤ e ∧ e ≤ 5 ∧ s = e then s + 1 else 0
theorem refNext_cases (s e : Int) : (∃ j, j < 10 ∧ s = tS j ∧ e = tE j ∧ refNext s e = tV j) ∨ (refNext s e = 0 ∧ ∀ j, j < 10 → ¬ (s = tS j ∧ e = tE j)) := by
  by_cases h : ∃ j, j < 10 ∧ s = tS j ∧ e = tE j
  · obtain ⟨j, hj, rfl, rfl⟩ := h
    refine .inl ⟨j, hj, rfl, rfl, ?_⟩
    have : ∀ j, j < 10 → refNext (tS j) (tE j) = tV j := by decide
    exact this j hj
  · have hn : ∀ j, j < 10 → ¬ (s = tS j ∧ e = tE j) := fun j hj hh => h ⟨j, hj, hh⟩
    refine .inr ⟨?_, hn⟩
    have h0 := hn 0 (by omega); have h1 := hn 1 (by omega); have h2 := hn 2 (by omega); have h3 := hn 3 (by omega); have h4 := hn 4 (by omega)
    have h5 := hn 5 (by omega); have h6 := hn 6 (by omega); have h7 := hn 7 (by omega); have h8 := hn 8 (by omega); have h9 := hn 9 (by omega)
    simp only [tS, tE, tab, List.getD_cons_zero, List.getD_cons_succ] at h0 h1 h2 h3 h4 h5 h6 h7 h8 h9
    unfold refNext
    repeat' split
    all_goals omega
theorem refNext_range (s e : Int) : 0 ≤ refNext s e ∧ refNext s e ≤ 7 := by
  unfold refNext
  repeat' split
  all_goals omega
theorem refNext_any (s e : Int) (w : World) :
    Calls Try.prog 10 #[.int .i64 s, .int .i64 e] w fun r w' => r = .returned (.int .i64 (refNext s e)) ∧ w = w' := by
  go_enter Try.func10, Try.ntmps10
  go_wp2
  all_goals
    go_ret
    refine ⟨ret_int ?_, rfl⟩
    simp only [beq_iff_eq, beq_eq_false_iff_ne, ne_eq] at *
    unfold refNext
    try unfold wrap64
    repeat' split
    all_goals omega
theorem key_eq {s e : Int} (hs : (Lit.int .i64 s).wf = true) (he : (Lit.int .i64 e).wf = true) {j : Nat} (hj : j < 10) (h : tK j = keyLit s e) : s = tS j ∧ e = tE j := by
  have hw : ∀ j, j < 10 → (Lit.int .i64 (tS j)).wf = true ∧ (Lit.int .i64 (tE j)).wf = true := by decide
  have h1 := key41 s e hs he
  have h2 := key41 (tS j) (tE j) (hw j hj).1 (hw j hj).2
  have h3 := law41.inj h1 (by rw [← h]; exact h2)
  simp only [keyVal, Value.agg.injEq, Array.mk.injEq, List.cons.injEq, Value.int.injEq, true_and, and_true] at h3
  exact h3
theorem tab_look {s e : Int} (hs : (Lit.int .i64 s).wf = true) (he : (Lit.int .i64 e).wf = true) {D : DataW Unit} (t : Tab (fun _ => true) D) :
    Maps.has D (keyLit s e) = (refNext s e != 0) ∧ D.atKey (keyLit s e) (.lit (.int .i64 0)) = .lit (.int .i64 (refNext s e)) := by
  rcases refNext_cases s e with ⟨j, hj, rfl, rfl, hr⟩ | ⟨hr, hn⟩
  · have h1 : Maps.has D (tK j) = true := (t.has _).2 ⟨j, hj, rfl, rfl⟩
    have h2 := t.at_ j hj rfl
    rw [hr]
    have hv : ∀ j, j < 10 → (tV j != 0) = true := by decide
    exact ⟨h1.trans (hv j hj).symm, h2⟩
  · have h1 : Maps.has D (keyLit s e) = false := by
      cases hh : Maps.has D (keyLit s e) with
      | false => rfl
      | true =>
        obtain ⟨j, hj, _, hk⟩ := (t.has _).1 hh
        exact absurd (key_eq hs he hj hk) (hn j hj)
    rw [hr]
    exact ⟨h1, atKey_of_not_has h1 _⟩
theorem zero3 (w : World) : (zeroValue 3).run Try.prog w = .ok (.int .i64 0) w := by kernel_rfl
theorem next_any (s e : Int) (w : World) (hs : (Lit.int .i64 s).wf = true) (he : (Lit.int .i64 e).wf = true) :
    Calls Try.prog 9 #[.int .i64 s, .int .i64 e] w fun r w' => r = .returned (.tuple #[.int .i64 (refNext s e), .bool (refNext s e != 0)]) ∧ Below w.heap.size w w' := by
  go_enter Try.func9, Try.ntmps9
  go_wp2_with fail
  refine (table_any w).mono ?_
  rintro r w1 ⟨rfl, D, hown, hT, hb, hsz⟩
  obtain ⟨l1, l2⟩ := tab_look hs he hT
  go_wp2_with (at_lookup; refine wpList_lookup_own_ok_int _ rfl _ _ 38 rfl 41 3 .i64 law41 Try.underlying38 Try.underlying3 (zero3 _) w.heap.size 23 D rfl hown _ _ rfl (key41 s e hs he) ?_; intro c hat hwc)
  obtain rfl : refNext s e = c := by rw [l2] at hat; simpa using hat
  go_ret2
  exact ⟨rfl, hb⟩
theorem live_any (s : Int) (w : World) :
    Calls Try.prog 13 #[.int .i64 s] w fun r w' => r = .returned (.bool (s == 2 || s == 3)) ∧ w = w' := by
  go_enter Try.func13, Try.ntmps13
  go_wp2
  all_goals
    go_ret
    refine ⟨ret_bool ?_, rfl⟩
    simp_all
theorem refLive_any (s : Int) (w : World) :
    Calls Try.prog 15 #[.int .i64 s] w fun r w' => r = .returned (.bool (s == 2 || s == 3)) ∧ w = w' := by
  go_enter Try.func15, Try.ntmps15
  go_wp2
  all_goals
    go_ret
    refine ⟨ret_bool ?_, rfl⟩
    simp_all
end Go.Proofs.Ytblcghghgejaaaa
