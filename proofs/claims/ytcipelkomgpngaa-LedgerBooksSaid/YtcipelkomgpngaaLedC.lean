/- The ledger's Totals; the reference; an entry. -/
import Derived.Test.YtcipelkomgpngaaLedB
namespace Go.Eg
/-- an entry's code and what it makes of the ledger -/
def Led.code (s : Led) (k x : Int) : Int := if k = 0 then s.depC x else s.outC x
def Led.step (s : Led) (k x : Int) : Led := if k = 0 then s.dep x else if k = 1 then s.pay x else s.burn x
theorem Led.step_ok {s : Led} (h : s.ok) (k : Int) {x : Int} (h0 : 0 ≤ x) : (s.step k x).ok := by
  unfold Led.step
  split
  · exact Led.dep_ok h h0
  · split
    · exact Led.pay_ok h h0
    · exact Led.burn_ok h h0
end Go.Eg
namespace Go.Proofs.Ytcipelkomgpngaa
open Go.RowKit Go.Eg
theorem totals_any (g : Nat) (s : Led) (w : World) (hb : w.heap[g]? = some (ledB s)) :
    Calls Try.prog 14 #[.pointer (some ⟨g, 0, none⟩)] w fun r w' => r = .returned (.agg #[.int .u64 s.d, .int .u64 s.p, .int .u64 s.b]) ∧ Keeps w w' := by
  obtain ⟨c0, c1, c2, c3⟩ := led_cells hb
  have hlt := heap_lt hb
  clear hb
  go_enter Try.func14, Try.ntmps14
  go_wp2
  exact bodyPost_ret (v := .agg #[.int .u64 s.d, .int .u64 s.p, .int .u64 s.b]) (by simp [results, Try.results14, go_sem]) rfl ⟨rfl, (Mods.refl _ w).alloc _⟩
theorem totals_nil (w : World) :
    Calls Try.prog 14 #[.pointer none] w fun r w' => r = .returned (.agg #[.int .u64 0, .int .u64 0, .int .u64 0]) ∧ Keeps w w' := by
  go_enter Try.func14, Try.ntmps14
  go_wp2
  exact bodyPost_ret (v := .agg #[.int .u64 0, .int .u64 0, .int .u64 0]) (by simp [results, Try.results14, go_sem]) rfl ⟨rfl, (Mods.refl _ w).alloc _⟩
abbrev refB (s : Led) : Obj := .cells #[.int .u64 s.c, .int .u64 s.d, .int .u64 s.p, .int .u64 s.b] 28 (0, 0)
theorem ref_cells {w : World} {g : Nat} {s : Led} (h : w.heap[g]? = some (refB s)) : w.cell? ⟨g, 0, none⟩ = some (.int .u64 s.c) ∧ w.cell? ⟨g, 1, none⟩ = some (.int .u64 s.d) ∧ w.cell? ⟨g, 2, none⟩ = some (.int .u64 s.p) ∧ w.cell? ⟨g, 3, none⟩ = some (.int .u64 s.b) :=
  ⟨by simp [World.cell?, h], by simp [World.cell?, h], by simp [World.cell?, h], by simp [World.cell?, h]⟩
theorem ref_free {w : World} {g : Nat} {s : Led} (h : w.heap[g]? = some (refB s)) (j : Nat) : w.frozen? ⟨g, j, none⟩ = false := by simp [World.frozen?, h]
theorem ref_set {w : World} {g : Nat} {s : Led} (h : w.heap[g]? = some (refB s)) (x : Int) :
    (w.setCell ⟨g, 1, none⟩ (.int .u64 x)).heap[g]? = some (refB { s with d := x }) ∧ (w.setCell ⟨g, 2, none⟩ (.int .u64 x)).heap[g]? = some (refB { s with p := x }) ∧ (w.setCell ⟨g, 3, none⟩ (.int .u64 x)).heap[g]? = some (refB { s with b := x }) :=
  ⟨heap_setCell_same w g 1 _ _ _ h, heap_setCell_same w g 2 _ _ _ h, heap_setCell_same w g 3 _ _ _ h⟩
theorem refSupply_any (g : Nat) (s : Led) (w : World) (hb : w.heap[g]? = some (refB s)) (hs : s.ok) :
    Calls Try.prog 16 #[.pointer (some ⟨g, 0, none⟩)] w fun r w' => r = .returned (.int .u64 s.sup) ∧ Drawn w w' := by
  obtain ⟨c3, c0, c1, c2⟩ := ref_cells hb
  obtain ⟨a1, a2, a3, a4, a5, a6⟩ := hs
  obtain ⟨d, p, b, c⟩ := s
  simp only at c0 c1 c2 c3 a1 a2 a3 a4 a5 a6
  have w1 : IntKind.u64.wrap (d - p) = d - p := u64_small (by omega) (by omega)
  have w2 : IntKind.u64.wrap (d - p - b) = d - p - b := u64_small (by omega) (by omega)
  clear hb
  go_enter Try.func16, Try.ntmps16
  go_wp2
  go_quiet (fail)
  go_wp2
  go_ret
  exact ⟨rfl, Drawn.mk _ _⟩
theorem refRoom_any (g : Nat) (s : Led) (w : World) (hb : w.heap[g]? = some (refB s)) (hs : s.ok) :
    Calls Try.prog 17 #[.pointer (some ⟨g, 0, none⟩)] w fun r w' => r = .returned (.int .u64 s.room) ∧ Drawn w w' := by
  obtain ⟨c3, c0, c1, c2⟩ := ref_cells hb
  have HB := Lib.hid hb
  have HS := Lib.hid hs
  obtain ⟨a1, a2, a3, a4, a5, a6⟩ := hs
  have hsup : s.sup = s.d - s.p - s.b := rfl
  have w1 : IntKind.u64.wrap (s.c - s.sup) = s.c - s.sup := u64_small (by omega) (by omega)
  have w2 : IntKind.u64.wrap (18446744073709551615 - s.d) = 18446744073709551615 - s.d := u64_small (by unfold maxU at a4; omega) (by unfold maxU; omega)
  have hr : s.room = if 18446744073709551615 - s.d < s.c - s.sup then 18446744073709551615 - s.d else s.c - s.sup := by
    unfold Led.room maxU
    split <;> omega
  have HR := Lib.hid hr
  clear hb hr a1 a2 a3 a4 a5 a6 hsup c1 c2
  go_enter Try.func17, Try.ntmps17
  go_wp2
  by_cases hlt : 18446744073709551615 - s.d < s.c - s.sup
  · go_quiet ((first | (go_at_call 16; exact quiet_drawn (refSupply_any g s _ HB.out HS.out)) | (go_at_call 25; exact quiet_id (refMax_any _))))
    go_wp2
    go_ret
    exact ⟨ret_int (by rw [HR.out, if_pos hlt]), Drawn.mk _ _⟩
  · go_quiet ((first | (go_at_call 16; exact quiet_drawn (refSupply_any g s _ HB.out HS.out)) | (go_at_call 25; exact quiet_id (refMax_any _))))
    go_wp2
    go_ret
    exact ⟨ret_int (by rw [HR.out, if_neg (by omega)]), Drawn.mk _ _⟩
theorem refDep_any (g : Nat) (s : Led) (x : Int) (w : World) (hb : w.heap[g]? = some (refB s)) (hs : s.ok) (hx0 : 0 ≤ x) (hx1 : x ≤ maxU) :
    Calls Try.prog 21 #[.pointer (some ⟨g, 0, none⟩), .int .u64 x] w fun r w' => r = .returned (.int .i64 (s.depC x)) ∧ w'.heap[g]? = some (refB (s.dep x)) ∧ Mods (· = g) w w' := by
  have HB := Lib.hid hb
  have HS := Lib.hid hs
  obtain ⟨a1, a2, a3, a4, a5, a6⟩ := hs
  have hsup : s.sup = s.d - s.p - s.b := rfl
  have hd0 : 0 ≤ s.d := by omega
  have hu0 : 0 ≤ s.sup ∧ s.sup ≤ s.c := by omega
  have HU := Lib.hid (show s.sup ≤ maxU by omega)
  have HC1 := Lib.hid a6
  have HC := Lib.hid (s.dep_cases x)
  have A4 := Lib.hid a4
  have X1 := Lib.hid hx1
  have hadd1 : addOk (fun j => if j = 0 then s.sup else x) 2 = decide (s.sup + x ≤ maxU) := by unfold addOk; rw [sum2]
  have haddv1 : addV (fun j => if j = 0 then s.sup else x) 2 = if s.sup + x ≤ maxU then s.sup + x else 0 := by unfold addV; rw [sum2]
  have hadd : addOk (fun j => if j = 0 then s.d else x) 2 = decide (s.d + x ≤ maxU) := by unfold addOk; rw [sum2]
  have haddv : addV (fun j => if j = 0 then s.d else x) 2 = if s.d + x ≤ maxU then s.d + x else 0 := by unfold addV; rw [sum2]
  have HA1 := Lib.hid hadd1
  have HV1 := Lib.hid haddv1
  have HA := Lib.hid hadd
  have HV := Lib.hid haddv
  clear hb a1 a2 a3 a5 a6 hsup a4 hx1 hadd haddv hadd1 haddv1
  obtain ⟨hu0, hu1⟩ := hu0
  go_enter Try.func21, Try.ntmps21
  go_wp2_with fail
  refine (refSupply_any g s w HB.out HS.out).mono ?_
  rintro r w1 ⟨rfl, hd⟩
  have HB1 := Lib.hid (show w1.heap[g]? = some (refB s) by rw [hd.heap]; exact HB.out)
  have HM1 := Lib.hid (hd.mods (S := (· = g)))
  clear hd
  go_wp2_with fail
  have HB2 := Lib.hid (heap_keep HB1.out (.cells #[.int .u64 s.sup, .int .u64 x] 22))
  have HM2 := Lib.hid (HM1.out.alloc (.cells #[.int .u64 s.sup, .int .u64 x] 22))
  refine (refAdd_any _ 2 _ _ (amts2 w1 s.sup x 22 ⟨hu0, HU.out⟩ ⟨hx0, X1.out⟩) (by omega)).mono ?_
  rw [HA1.out, HV1.out]
  rintro r w2 ⟨rfl, hd2⟩
  have hb2' : w2.heap[g]? = some (refB s) := by rw [hd2.heap]; exact HB2.out
  have hm2' := HM2.out.trans hd2.mods
  have HB3 := Lib.hid hb2'
  have HM3 := Lib.hid hm2'
  obtain ⟨c0, c1, c2, c3⟩ := ref_cells hb2'
  clear hd2 hb2' hm2' HB2 HM2 HB1 HM1 c2 c3
  by_cases h4 : s.c - s.sup < x
  · have hcase : s.depC x = 4 ∧ s.dep x = s := by
      rcases HC.out with ⟨_, e1, e2⟩ | ⟨e, _⟩ | ⟨e, _⟩
      · exact ⟨e1, e2⟩
      · omega
      · omega
    have E1 := Lib.hid hcase.1
    have E2 := Lib.hid hcase.2
    clear hcase
    by_cases h5 : s.sup + x ≤ maxU
    · rw [if_pos h5, decide_eq_true h5]
      clear h5
      go_wp2
      go_ret
      exact ⟨ret_int E1.out.symm, by rw [E2.out]; exact HB3.out, HM3.out⟩
    · rw [if_neg h5, decide_eq_false h5]
      clear h5
      go_wp2
      go_ret
      exact ⟨ret_int E1.out.symm, by rw [E2.out]; exact HB3.out, HM3.out⟩
  · have h5 : s.sup + x ≤ maxU := by have := HC1.out; omega
    rw [if_pos h5, decide_eq_true h5]
    clear h5
    go_wp2_with fail
    have HB4 := Lib.hid (heap_keep HB3.out (.cells #[.int .u64 s.d, .int .u64 x] 22))
    have HM4 := Lib.hid (HM3.out.alloc (.cells #[.int .u64 s.d, .int .u64 x] 22))
    refine (refAdd_any _ 2 _ _ (amts2 w2 s.d x 22 ⟨hd0, A4.out⟩ ⟨hx0, X1.out⟩) (by omega)).mono ?_
    rw [HA.out, HV.out]
    rintro r w3 ⟨rfl, hd3⟩
    have hb3' : w3.heap[g]? = some (refB s) := by rw [hd3.heap]; exact HB4.out
    have hm3' := HM4.out.trans hd3.mods
    have HB5 := Lib.hid hb3'
    have HM5 := Lib.hid hm3'
    obtain ⟨e0, e1, e2, e3⟩ := ref_cells hb3'
    have f1 := ref_free hb3' 1
    clear hd3 hb3' hm3' HB4 HM4 c0 c1 e0 e2 e3
    by_cases h2 : s.d + x ≤ maxU
    · have hcase : s.depC x = 0 ∧ s.dep x = { s with d := s.d + x } := by
        rcases HC.out with ⟨e, _⟩ | ⟨_, e, _⟩ | ⟨_, _, e1, e2⟩
        · omega
        · omega
        · exact ⟨e1, e2⟩
      rw [if_pos h2, decide_eq_true h2]
      have E1 := Lib.hid hcase.1
      have E2 := Lib.hid hcase.2
      clear hcase h2
      go_wp2
      go_ret
      exact ⟨ret_int E1.out.symm, by rw [E2.out]; exact (ref_set HB5.out (s.d + x)).1, HM5.out.setCell _ _ (fun _ => rfl)⟩
    · have hcase : s.depC x = 10 ∧ s.dep x = s := by
        rcases HC.out with ⟨e, _⟩ | ⟨_, _, e1, e2⟩ | ⟨_, e, _⟩
        · omega
        · exact ⟨e1, e2⟩
        · omega
      rw [if_neg h2, decide_eq_false h2]
      have E1 := Lib.hid hcase.1
      have E2 := Lib.hid hcase.2
      clear hcase h2
      go_wp2
      go_ret
      exact ⟨ret_int E1.out.symm, by rw [E2.out]; exact HB5.out, HM5.out⟩
theorem refPay_any (g : Nat) (s : Led) (x : Int) (w : World) (hb : w.heap[g]? = some (refB s)) (hs : s.ok) (hx0 : 0 ≤ x) :
    Calls Try.prog 22 #[.pointer (some ⟨g, 0, none⟩), .int .u64 x] w fun r w' => r = .returned (.int .i64 (s.outC x)) ∧ w'.heap[g]? = some (refB (s.pay x)) ∧ Mods (· = g) w w' := by
  have HB := Lib.hid hb
  have HS := Lib.hid hs
  have HC := Lib.hid (s.out_cases x)
  have hsup : s.sup = s.d - s.p - s.b := rfl
  have hy0 : 0 ≤ s.p := hs.p0
  have hy1 : s.p + s.sup ≤ maxU := by have := hs.p0; have := hs.b0; have := hs.d1; omega
  clear hb hs hsup
  go_enter Try.func22, Try.ntmps22
  go_wp2_with fail
  refine (refSupply_any g s w HB.out HS.out).mono ?_
  rintro r w1 ⟨rfl, hd⟩
  have hb1 : w1.heap[g]? = some (refB s) := by rw [hd.heap]; exact HB.out
  have HB1 := Lib.hid hb1
  have HM1 := Lib.hid (hd.mods (S := (· = g)))
  obtain ⟨c0, c1, c2, c3⟩ := ref_cells hb1
  have f1 := ref_free hb1 2
  clear hd hb1
  by_cases h1 : s.sup < x
  · have hcase : s.outC x = 3 ∧ s.pay x = s := by
      rcases HC.out with ⟨_, e1, e2, e3⟩ | ⟨e, _⟩
      · exact ⟨e1, e2⟩
      · omega
    have E1 := Lib.hid hcase.1
    have E2 := Lib.hid hcase.2
    clear hcase
    go_wp2
    go_ret
    exact ⟨ret_int E1.out.symm, by rw [E2.out]; exact HB1.out, HM1.out⟩
  · have hcase : s.outC x = 0 ∧ s.pay x = { s with p := s.p + x } := by
      rcases HC.out with ⟨e, _⟩ | ⟨_, e1, e2, e3⟩
      · omega
      · exact ⟨e1, e2⟩
    have E1 := Lib.hid hcase.1
    have E2 := Lib.hid hcase.2
    have hsum : s.p + x ≤ maxU := by omega
    unfold maxU at hsum
    clear hcase hy1
    go_wp2
    go_ret
    exact ⟨ret_int E1.out.symm, by rw [E2.out]; exact (ref_set HB1.out (s.p + x)).2.1, HM1.out.setCell _ _ (fun _ => rfl)⟩
theorem refBurn_any (g : Nat) (s : Led) (x : Int) (w : World) (hb : w.heap[g]? = some (refB s)) (hs : s.ok) (hx0 : 0 ≤ x) :
    Calls Try.prog 23 #[.pointer (some ⟨g, 0, none⟩), .int .u64 x] w fun r w' => r = .returned (.int .i64 (s.outC x)) ∧ w'.heap[g]? = some (refB (s.burn x)) ∧ Mods (· = g) w w' := by
  have HB := Lib.hid hb
  have HS := Lib.hid hs
  have HC := Lib.hid (s.out_cases x)
  have hsup : s.sup = s.d - s.p - s.b := rfl
  have hy0 : 0 ≤ s.b := hs.b0
  have hy1 : s.b + s.sup ≤ maxU := by have := hs.p0; have := hs.b0; have := hs.d1; omega
  clear hb hs hsup
  go_enter Try.func23, Try.ntmps23
  go_wp2_with fail
  refine (refSupply_any g s w HB.out HS.out).mono ?_
  rintro r w1 ⟨rfl, hd⟩
  have hb1 : w1.heap[g]? = some (refB s) := by rw [hd.heap]; exact HB.out
  have HB1 := Lib.hid hb1
  have HM1 := Lib.hid (hd.mods (S := (· = g)))
  obtain ⟨c0, c1, c2, c3⟩ := ref_cells hb1
  have f1 := ref_free hb1 3
  clear hd hb1
  by_cases h1 : s.sup < x
  · have hcase : s.outC x = 3 ∧ s.burn x = s := by
      rcases HC.out with ⟨_, e1, e2, e3⟩ | ⟨e, _⟩
      · exact ⟨e1, e3⟩
      · omega
    have E1 := Lib.hid hcase.1
    have E2 := Lib.hid hcase.2
    clear hcase
    go_wp2
    go_ret
    exact ⟨ret_int E1.out.symm, by rw [E2.out]; exact HB1.out, HM1.out⟩
  · have hcase : s.outC x = 0 ∧ s.burn x = { s with b := s.b + x } := by
      rcases HC.out with ⟨e, _⟩ | ⟨_, e1, e2, e3⟩
      · omega
      · exact ⟨e1, e3⟩
    have E1 := Lib.hid hcase.1
    have E2 := Lib.hid hcase.2
    have hsum : s.b + x ≤ maxU := by omega
    unfold maxU at hsum
    clear hcase hy1
    go_wp2
    go_ret
    exact ⟨ret_int E1.out.symm, by rw [E2.out]; exact (ref_set HB1.out (s.b + x)).2.2, HM1.out.setCell _ _ (fun _ => rfl)⟩
def Two (g q : Nat) (i : Nat) : Prop := i = g ∨ i = q
theorem do_close {g q : Nat} {s' : Led} {w W0 w1 w2 : World} (hgq : g ≠ q) (hM : Mods (Two g q) w W0)
    (h : (w1.heap[g]? = some (ledB s') ∧ Mods (· = g) W0 w1 ∧ w2.heap[q]? = some (refB s') ∧ Mods (· = q) w1 w2) ∨ (w1.heap[q]? = some (refB s') ∧ Mods (· = q) W0 w1 ∧ w2.heap[g]? = some (ledB s') ∧ Mods (· = g) w1 w2)) :
    w2.heap[g]? = some (ledB s') ∧ w2.heap[q]? = some (refB s') ∧ Mods (Two g q) w w2 := by
  rcases h with ⟨h1, m1, h2, m2⟩ | ⟨h1, m1, h2, m2⟩
  · exact ⟨m2.at h1 hgq, h2, (hM.seq m1 fun _ _ h => .inl h).seq m2 fun _ _ h => .inr h⟩
  · exact ⟨h2, m2.at h1 (fun e => hgq e.symm), (hM.seq m1 fun _ _ h => .inr h).seq m2 fun _ _ h => .inl h⟩
theorem do_any (g q : Nat) (s : Led) (k x : Int) (w : World) (hb : w.heap[g]? = some (ledB s)) (hq : w.heap[q]? = some (refB s)) (hgq : g ≠ q) (hs : s.ok) (hx0 : 0 ≤ x) (hx1 : x ≤ maxU) :
    Calls Try.prog 11 #[.pointer (some ⟨g, 0, none⟩), .pointer (some ⟨q, 0, none⟩), .agg #[.int .i64 k, .int .u64 x]] w fun r w' => r = .returned (.tuple #[.int .i64 (s.code k x), .int .i64 (s.code k x)]) ∧
      w'.heap[g]? = some (ledB (s.step k x)) ∧ w'.heap[q]? = some (refB (s.step k x)) ∧ Mods (Two g q) w w' := by
  have hg1 := heap_lt hb
  have hq1 := heap_lt hq
  have HB := Lib.hid (show ((w.alloc (.cells #[.int .i64 k, .int .u64 x] 31)).drew).heap[g]? = some (ledB s) from heap_keep hb _)
  have HQ := Lib.hid (show ((w.alloc (.cells #[.int .i64 k, .int .u64 x] 31)).drew).heap[q]? = some (refB s) from heap_keep hq _)
  have HM := Lib.hid (show Mods (Two g q) w ((w.alloc (.cells #[.int .i64 k, .int .u64 x] 31)).drew) from ((Mods.refl _ w).alloc _).drew)
  have HS := Lib.hid hs
  have X1 := Lib.hid hx1
  have hqg : q ≠ g := fun h => hgq h.symm
  have hbg : w.heap.size ≠ g := by omega
  have hbq : w.heap.size ≠ q := by omega
  clear hb hq hs hx1
  by_cases h0 : k = 0
  · have E1 := Lib.hid (show s.code k x = s.depC x from if_pos h0)
    have E2 := Lib.hid (show s.step k x = s.dep x from if_pos h0)
    subst h0
    go_enter Try.func11, Try.ntmps11
    go_wp2
    go_region_held3 (fun w' => w'.cell? ⟨w.heap.size, 1, none⟩ = some (.int .u64 x)) (first | (simp [go_sem]; done) | exact Mods.cell (by assumption) (by assumption) hbg | exact Mods.cell (by assumption) (by assumption) hbq)
      (first
        | (go_at_call 13; refine (dep_any g s x _ ?_ HS.out hx0 X1.out).mono ?_; (first | exact HB.out | exact Mods.at (by assumption) HB.out hgq); rintro e w' ⟨rfl, hb', hm'⟩)
        | (go_at_call 21; refine (refDep_any q s x _ ?_ HS.out hx0 X1.out).mono ?_; (first | exact HQ.out | exact Mods.at (by assumption) HQ.out hqg); rintro e w' ⟨rfl, hb', hm'⟩))
    · have F := Lib.hid (do_close hgq HM.out (.inl ⟨by assumption, by assumption, by assumption, by assumption⟩))
      go_wp2
      go_ret2
      exact ⟨ret2 (by rw [E1.out]; rfl) (by rw [E1.out]; rfl), by rw [E2.out]; exact F.out⟩
  have h0b : (k == 0) = false := by simpa using h0
  have E1 := Lib.hid (show s.code k x = s.outC x from if_neg h0)
  by_cases h1 : k = 1
  · have E2 := Lib.hid (show s.step k x = s.pay x by unfold Led.step; rw [if_neg h0, if_pos h1])
    subst h1
    clear h0
    go_enter Try.func11, Try.ntmps11
    go_wp2
    go_region_held3 (fun w' => w'.cell? ⟨w.heap.size, 1, none⟩ = some (.int .u64 x)) (first | (simp [go_sem]; done) | exact Mods.cell (by assumption) (by assumption) hbg | exact Mods.cell (by assumption) (by assumption) hbq)
      (first
        | (go_at_call 19; refine (pay_any g s x _ ?_ HS.out hx0 X1.out).mono ?_; (first | exact HB.out | exact Mods.at (by assumption) HB.out hgq); rintro e w' ⟨rfl, hb', hm'⟩)
        | (go_at_call 22; refine (refPay_any q s x _ ?_ HS.out hx0).mono ?_; (first | exact HQ.out | exact Mods.at (by assumption) HQ.out hqg); rintro e w' ⟨rfl, hb', hm'⟩))
    · have F := Lib.hid (do_close hgq HM.out (.inl ⟨by assumption, by assumption, by assumption, by assumption⟩))
      go_wp2
      go_ret2
      exact ⟨ret2 (by rw [E1.out]; rfl) (by rw [E1.out]; rfl), by rw [E2.out]; exact F.out⟩
  · have h1b : (k == 1) = false := by simpa using h1
    have E2 := Lib.hid (show s.step k x = s.burn x by unfold Led.step; rw [if_neg h0, if_neg h1])
    clear h0 h1
    go_enter Try.func11, Try.ntmps11
    go_wp2
    go_region_held3 (fun w' => w'.cell? ⟨w.heap.size, 1, none⟩ = some (.int .u64 x)) (first | (simp [go_sem]; done) | exact Mods.cell (by assumption) (by assumption) hbg | exact Mods.cell (by assumption) (by assumption) hbq)
      (first
        | (go_at_call 20; refine (burn_any g s x _ ?_ HS.out hx0 X1.out).mono ?_; (first | exact HB.out | exact Mods.at (by assumption) HB.out hgq); rintro e w' ⟨rfl, hb', hm'⟩)
        | (go_at_call 23; refine (refBurn_any q s x _ ?_ HS.out hx0).mono ?_; (first | exact HQ.out | exact Mods.at (by assumption) HQ.out hqg); rintro e w' ⟨rfl, hb', hm'⟩))
    · have F := Lib.hid (do_close hgq HM.out (.inl ⟨by assumption, by assumption, by assumption, by assumption⟩))
      go_wp2
      go_ret2
      exact ⟨ret2 (by rw [E1.out]; rfl) (by rw [E1.out]; rfl), by rw [E2.out]; exact F.out⟩
end Go.Proofs.Ytcipelkomgpngaa
