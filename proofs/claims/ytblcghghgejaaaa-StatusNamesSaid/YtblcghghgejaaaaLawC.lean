/- The walks of StatusKinds and StatusNames. -/
import Derived.Test.YtblcghghgejaaaaLaw
namespace Go.Proofs.Ytblcghghgejaaaa
open Go.RowKit Go.Maps Go.Eg
theorem statusKinds_walk (s event : Int) (w : World) (w0 : (Lit.int .i64 s).wf = true) (w1 : (Lit.int .i64 event).wf = true) :
    Calls Try.prog 7 #[.int .i64 s, .int .i64 event] w fun e w' => e = .returned (.bool true) ∧ Below w.heap.size w w' := by
  by_cases hs : s = 6 ∨ s = 7
  · have h0 : refNext s event = 0 := by
      unfold refNext
      repeat' split
      all_goals first | rfl | (exfalso; omega)
    have hf : (s == 6 || s == 7) = true := by simp; exact hs
    have hl : (s == 2 || s == 3) = false := by simp; omega
    go_enter Try.func7, Try.ntmps7
    go_wp2_with fail
    refine (next_any s event _ w0 w1).mono ?_
    rw [h0]
    have e0 : ((0 : Int) != 0) = false := rfl
    rw [e0]
    clear e0 h0
    rintro r w2 ⟨rfl, hb2⟩
    go_wp2_with fail
    refine (final_any s _).mono ?_
    rw [hf]
    rintro r w3 ⟨rfl, hb3⟩
    have hb := hb2.trans (hb3.mono hb2.size)
    clear hb2 hb3
    go_wp2_with fail
    refine (alive_any _).mono ?_
    rintro r w4 ⟨rfl, hb3⟩
    have hb := hb.trans (hb3.mono hb.size)
    clear hb3
    go_wp2_with fail
    refine (live_any s _).mono ?_
    rw [hl]
    rintro r w5 ⟨rfl, rfl⟩
    go_wp2_with fail
    refine (refLive_any s _).mono ?_
    rw [hl]
    rintro r w5 ⟨rfl, rfl⟩
    rcases hs with rfl | rfl
    all_goals
      go_wp2_with fail
      refine (live_any _ _).mono ?_
      rw [hl]
      rintro r w5 ⟨rfl, rfl⟩
      go_wp2
      go_ret
      exact ⟨rfl, hb⟩
  · have hf : (s == 6 || s == 7) = false := by simp; omega
    have h6 : (s == 6) = false := by simp; omega
    have h7 : (s == 7) = false := by simp; omega
    go_enter Try.func7, Try.ntmps7
    go_wp2_with fail
    refine (next_any s event _ w0 w1).mono ?_
    rintro r w2 ⟨rfl, hb2⟩
    generalize (refNext s event != 0) = b1
    generalize (refNext s event) = b2
    go_wp2_with fail
    refine (final_any s _).mono ?_
    rw [hf]
    rintro r w3 ⟨rfl, hb3⟩
    have hb := hb2.trans (hb3.mono hb2.size)
    clear hb2 hb3
    go_wp2_with fail
    refine (alive_any _).mono ?_
    rintro r w4 ⟨rfl, hb3⟩
    have hb := hb.trans (hb3.mono hb.size)
    clear hb3
    go_wp2_with fail
    refine (live_any s _).mono ?_
    rintro r w5 ⟨rfl, rfl⟩
    go_wp2_with fail
    refine (refLive_any s _).mono ?_
    rintro r w5 ⟨rfl, rfl⟩
    generalize (s == 2 || s == 3) = b3
    go_wp2
    go_ret
    exact ⟨rfl, hb⟩
theorem nameAt_inj : ∀ i, i < 7 → ∀ j, j < 7 → nameAt i = nameAt j → i = j := by
  have : ∀ i, i < 7 → ∀ j, j < 7 → i ≠ j → (nameAt i).data.toList ≠ (nameAt j).data.toList := by decide
  intro i hi j hj h
  apply Classical.byContradiction
  intro hne
  exact this i hi j hj hne (by rw [h])
theorem nameIdx_at {k : Nat} (hk : k < 7) : nameIdx (nameAt k) = k :=
  idxFrom_at nameAt (nameAt k) 7 0 k (by omega) (by omega) (fun j _ h e => by have := nameAt_inj k hk j (by omega) e; omega) rfl
theorem nameIdx_of {v : ByteArray} {k : Nat} (h : nameIdx v = k) : v = nameAt k := by
  have : ∀ (n i : Nat), idxFrom nameAt v i n = (k : Int) → v = nameAt k := by
    intro n
    induction n with
    | zero => intro i h; simp [idxFrom] at h
    | succ n ih =>
      intro i h
      rw [idxFrom] at h
      split at h
      · rename_i he
        have : i = k := by omega
        rw [← this]; exact he
      · exact ih (i + 1) h
  exact this 7 0 h
theorem nameIdx_empty : nameIdx ⟨#[]⟩ = -1 := by
  refine idxFrom_not nameAt _ 7 0 fun j _ hj e => ?_
  have : ∀ j, j < 7 → (nameAt j).data.toList ≠ [] := by decide
  exact this j (by omega) (by rw [← e])
/-- what the law's own loop has found among the first k names -/
def kn (v : ByteArray) (k : Nat) : Int := if 0 ≤ nameIdx v ∧ nameIdx v < k then nameIdx v + 1 else 0
theorem kn_hit {v : ByteArray} {k : Nat} (hk : k < 7) (h : nameAt k = v) : kn v (k + 1) = k + 1 := by
  have := nameIdx_at hk
  rw [h] at this
  unfold kn
  rw [this, if_pos ⟨by omega, by omega⟩]
theorem kn_miss {v : ByteArray} {k : Nat} (h : nameAt k ≠ v) : kn v (k + 1) = kn v k := by
  have : nameIdx v ≠ k := fun e => h (nameIdx_of e).symm
  unfold kn
  by_cases h1 : 0 ≤ nameIdx v ∧ nameIdx v < k
  · rw [if_pos h1, if_pos ⟨h1.1, by omega⟩]
  · rw [if_neg h1, if_neg (by omega)]
theorem kn_end (v : ByteArray) : kn v 7 = nameIdx v + 1 := by
  have := nameIdx_range v
  unfold kn
  split <;> omega
theorem nameIdx_name {s : Int} (h : 1 ≤ s ∧ s ≤ 7) : nameIdx (nameOf s) = s - 1 := by
  unfold nameOf
  rw [if_pos h, nameIdx_at (by omega)]
  omega
theorem nameOf_nonempty {s : Int} (h : 1 ≤ s ∧ s ≤ 7) : (nameOf s).toList.isEmpty = false := by
  have : ∀ j, j < 7 → (nameAt j).toList.isEmpty = false := by
    intro j hj
    rw [ByteArray.toList_eq]
    revert j
    decide
  unfold nameOf
  rw [if_pos h]
  exact this _ (by omega)
end Go.Proofs.Ytblcghghgejaaaa
