/- status.Final: its contract. -/
import Derived.Test.YtblcghghgejaaaaStatusC
namespace Go.Proofs.Ytblcghghgejaaaa
open Go.RowKit Go.Maps Go.Eg
def rowKey (x : Int × Int) : Value := .agg #[.int .i64 x.1, .int .i64 x.2]
structure FRel (w wr : World) (D : DataW Unit) (s : Int) (B r : Nat) : Prop where
  rng : ∃ left cnt, wr.ranges Try.prog 41 (plainElem Try.prog 3) B r 23 D left cnt ∧ ∀ j, j < 10 → left (tK j) = false → tS j ≠ s
  below : Below w.heap.size w wr
theorem final_any (s : Int) (w : World) :
    Calls Try.prog 14 #[.int .i64 s] w fun r w' => r = .returned (.bool (s == 6 || s == 7)) ∧ Below w.heap.size w w' := by
  by_cases hs : 1 ≤ s ∧ s ≤ 7
  · have hne : (nameOf s).toList.isEmpty = false := by
      have : ∀ j, j < 7 → (nameAt j).toList.isEmpty = false := by
        intro j hj
        rw [ByteArray.toList_eq]
        revert j
        decide
      unfold nameOf
      rw [if_pos hs]
      exact this _ (by omega)
    obtain ⟨hs1, hs2⟩ := hs
    go_enter Try.func14, Try.ntmps14
    go_wp2_with fail
    refine (name_any s _).mono ?_
    rintro r w1 ⟨rfl, hb1⟩
    go_wp2_with fail
    refine (table_any _).mono ?_
    rintro r w2 ⟨rfl, D, hown, hT, hb2, hsz2⟩
    have hb := hb1.trans (hb2.mono hb1.size)
    have hsz1 := hb1.size
    clear hb1 hb2
    generalize w1.heap.size = B at *
    go_wp2_with (at_range; refine wpList_range_own _ rfl _ 38 rfl 41 3 law41 Try.underlying38 _ B 23 D rfl hown ?_; intro w0 hrg0 hg0 hs0)
    go_frame
    have hbl := hb.grown hg0 hb.size (fun k hk => by cases hk)
    have hsz3 : B ≤ w0.heap.size := by have := hown.lt; omega
    have hrl : w.heap.size ≤ w2.heap.size := by have := hown.lt; omega
    clear hg0
    generalize w2.heap.size = r at *
    go_loopw [9] (fun _ wr => FRel w wr D s B r) (fun _ wr => wr.rangeLeft B r)
    case atStart =>
      exact ⟨⟨_, _, hrg0, fun j hj h => by
        have : Maps.has D (tK j) = true := (hT.has _).2 ⟨j, hj, rfl, rfl⟩
        rw [this] at h; cases h⟩, hbl⟩
    case round =>
      obtain ⟨⟨left, cnt, hrg, hleft⟩, hbel⟩ := hrel
      have HL := Lib.hid hleft
      clear hleft
      go_wp2_with (at_next; refine wpList_next_ranges _ rfl _ rfl 41 law41 (plainElem Try.prog 3) rowKey (Value.int .i64) (fun key kl hk => keyOf_inv hk) (fun v y hv => by obtain ⟨c, rfl, _⟩ := plainElem_int_inv Try.underlying3 hv; exact ⟨c, rfl⟩) B r 23 D left cnt rfl hrg ?_ ?_)
      · intro _ hall
        have hnone : ∀ j, j < 10 → tS j ≠ s := fun j hj => HL.out j hj (hall _)
        have hfin : (s == 6 || s == 7) = true := by
          have h0 := hnone 0 (by omega); have h1 := hnone 1 (by omega); have h2 := hnone 2 (by omega); have h3 := hnone 3 (by omega); have h4 := hnone 4 (by omega)
          simp only [tS, tab, List.getD_cons_zero, List.getD_cons_succ] at h0 h1 h2 h3 h4
          simp only [Bool.or_eq_true, beq_iff_eq]
          omega
        have HF := Lib.hid hfin
        clear hfin hnone hall
        go_wp2
        go_ret
        exact ⟨ret_bool HF.out.symm, hbel⟩
      · intro x1 x2 c kl y1 y2 w' cnt' hkey hlk hv hat hrg1 hlt hg1 hs1 hen
        have hj : ∃ j, j < 10 ∧ tK j = kl ∧ x1 = tS j := by
          have h1 : Maps.has D kl = true := has_true_of_atKey hat
          obtain ⟨j, hj, _, hk⟩ := (hT.has kl).1 h1
          refine ⟨j, hj, hk, ?_⟩
          have hw : ∀ j, j < 10 → (Lit.int .i64 (tS j)).wf = true ∧ (Lit.int .i64 (tE j)).wf = true := by decide
          have h2 := key41 (tS j) (tE j) (hw j hj).1 (hw j hj).2
          have h3 := law41.inj hkey (by rw [← hk]; exact h2)
          simp only [rowKey, keyVal, Value.agg.injEq, Array.mk.injEq, List.cons.injEq, Value.int.injEq, true_and, and_true] at h3
          exact h3.1
        have HJ := Lib.hid hj
        have HK := Lib.hid hlk
        have hbel1 := hbel.grown hg1 hbel.size (fun k hk => by cases hk; exact hrl)
        have HB := Lib.hid hs1
        clear hj hlk hkey hat hv hs1 hg1
        unfold rowKey at *
        by_cases hx : x1 = s
        · subst hx
          go_wp2
          go_ret
          obtain ⟨j, hj, _, e⟩ := HJ.out
          refine ⟨ret_bool ?_, hbel1.alloc hbel1.size _⟩
          have : ∀ j, j < 10 → (tS j == 6 || tS j == 7) = false := by decide
          rw [e, this j hj]
        · have hxb : (s == x1) = false := by simpa using fun h => hx h.symm
          go_wp2
          go_roundw
          case rel =>
            refine ⟨⟨_, _, hrg1.alloc _, fun i hi h => ?_⟩, hbel1.alloc hbel1.size _⟩
            obtain ⟨j, hj, hk, e⟩ := HJ.out
            by_cases hij : i = j
            · subst hij; rw [← e]; exact hx
            · refine HL.out i hi ?_
              have : (tK i).sameKey kl = false := sameKey_ne (fun h => hij (tK_inj i hi j hj (h.trans hk.symm)))
              simpa [this] using h
          case measure =>
            rw [(hrg1.alloc _).left_eq, hrg.left_eq]
            exact hlt
  · have hn : nameOf s = ⟨#[]⟩ := by unfold nameOf; rw [if_neg hs]
    have hne : (s == 6 || s == 7) = false := by simp; omega
    go_enter Try.func14, Try.ntmps14
    go_wp2_with fail
    refine (name_any s _).mono ?_
    rw [hn]
    rintro r w1 ⟨rfl, hb1⟩
    have HE := Lib.hid hne
    clear hne
    go_wp2
    go_ret
    exact ⟨ret_bool HE.out.symm, hb1⟩
end Go.Proofs.Ytblcghghgejaaaa
