/- The ledger and its reference: contracts. -/
import Derived.Test.YtcipelkomgpngaaLedA
import Derived.Deep.RegionHeld3
import Derived.Deep.RegionWith
namespace Go.Eg
open Go Go.RowKit
/-- deposited, paid, burned, the cap -/
structure Led where
  d : Int
  p : Int
  b : Int
  c : Int
def Led.sup (s : Led) : Int := s.d - s.p - s.b
structure Led.ok (s : Led) : Prop where
  p0 : 0 ≤ s.p
  b0 : 0 ≤ s.b
  s0 : s.p + s.b ≤ s.d
  d1 : s.d ≤ maxU
  sc : s.d - s.p - s.b ≤ s.c
  c1 : s.c ≤ maxU
def Led.depC (s : Led) (x : Int) : Int := if s.c - s.sup < x then 4 else if maxU < s.d + x then 10 else 0
def Led.dep (s : Led) (x : Int) : Led := if s.depC x = 0 then { s with d := s.d + x } else s
def Led.outC (s : Led) (x : Int) : Int := if s.sup < x then 3 else 0
def Led.pay (s : Led) (x : Int) : Led := if s.outC x = 0 then { s with p := s.p + x } else s
def Led.burn (s : Led) (x : Int) : Led := if s.outC x = 0 then { s with b := s.b + x } else s
def Led.room (s : Led) : Int := min (s.c - s.sup) (maxU - s.d)
theorem Led.dep_cases (s : Led) (x : Int) : (s.c - s.sup < x ∧ s.depC x = 4 ∧ s.dep x = s) ∨ (x ≤ s.c - s.sup ∧ maxU < s.d + x ∧ s.depC x = 10 ∧ s.dep x = s) ∨
    (x ≤ s.c - s.sup ∧ s.d + x ≤ maxU ∧ s.depC x = 0 ∧ s.dep x = { s with d := s.d + x }) := by
  by_cases h1 : s.c - s.sup < x
  · have e : s.depC x = 4 := if_pos h1
    exact .inl ⟨h1, e, by unfold Led.dep; rw [e]; rfl⟩
  · by_cases h2 : maxU < s.d + x
    · have e : s.depC x = 10 := by unfold Led.depC; rw [if_neg h1, if_pos h2]
      exact .inr (.inl ⟨by omega, h2, e, by unfold Led.dep; rw [e]; rfl⟩)
    · have e : s.depC x = 0 := by unfold Led.depC; rw [if_neg h1, if_neg h2]
      exact .inr (.inr ⟨by omega, by omega, e, by unfold Led.dep; rw [if_pos e]⟩)
theorem Led.out_cases (s : Led) (x : Int) : (s.sup < x ∧ s.outC x = 3 ∧ s.pay x = s ∧ s.burn x = s) ∨ (x ≤ s.sup ∧ s.outC x = 0 ∧ s.pay x = { s with p := s.p + x } ∧ s.burn x = { s with b := s.b + x }) := by
  by_cases h1 : s.sup < x
  · have e : s.outC x = 3 := if_pos h1
    exact .inl ⟨h1, e, by unfold Led.pay; rw [e]; rfl, by unfold Led.burn; rw [e]; rfl⟩
  · have e : s.outC x = 0 := if_neg h1
    exact .inr ⟨by omega, e, by unfold Led.pay; rw [if_pos e], by unfold Led.burn; rw [if_pos e]⟩
theorem Led.dep_ok {s : Led} (h : s.ok) {x : Int} (h0 : 0 ≤ x) : (s.dep x).ok := by
  rcases s.dep_cases x with ⟨_, _, e⟩ | ⟨_, _, _, e⟩ | ⟨h1, h2, _, e⟩
  · rw [e]; exact h
  · rw [e]; exact h
  · obtain ⟨a1, a2, a3, a4, a5, a6⟩ := h
    unfold Led.sup at h1
    rw [e]
    exact ⟨a1, a2, by simp only; omega, h2, by simp only; omega, a6⟩
theorem Led.pay_ok {s : Led} (h : s.ok) {x : Int} (h0 : 0 ≤ x) : (s.pay x).ok := by
  rcases s.out_cases x with ⟨_, _, e, _⟩ | ⟨h1, _, e, _⟩
  · rw [e]; exact h
  · obtain ⟨a1, a2, a3, a4, a5, a6⟩ := h
    unfold Led.sup at h1
    rw [e]
    exact ⟨by simp only; omega, a2, by simp only; omega, a4, by simp only; omega, a6⟩
theorem Led.burn_ok {s : Led} (h : s.ok) {x : Int} (h0 : 0 ≤ x) : (s.burn x).ok := by
  rcases s.out_cases x with ⟨_, _, _, e⟩ | ⟨h1, _, _, e⟩
  · rw [e]; exact h
  · obtain ⟨a1, a2, a3, a4, a5, a6⟩ := h
    unfold Led.sup at h1
    rw [e]
    exact ⟨a1, by simp only; omega, by simp only; omega, a4, by simp only; omega, a6⟩
theorem u64_small {x : Int} (h0 : 0 ≤ x) (h1 : x ≤ maxU) : IntKind.u64.wrap x = x := by
  rw [IntKind.wrap_u64]
  unfold maxU at h1
  omega
end Go.Eg
namespace Go.Proofs.Ytcipelkomgpngaa
open Go.RowKit Go.Eg
abbrev ledB (s : Led) : Obj := .cells #[.int .u64 s.d, .int .u64 s.p, .int .u64 s.b, .int .u64 s.c] 50 (0, 0)
theorem led_cells {w : World} {g : Nat} {s : Led} (h : w.heap[g]? = some (ledB s)) : w.cell? ⟨g, 0, none⟩ = some (.int .u64 s.d) ∧ w.cell? ⟨g, 1, none⟩ = some (.int .u64 s.p) ∧ w.cell? ⟨g, 2, none⟩ = some (.int .u64 s.b) ∧ w.cell? ⟨g, 3, none⟩ = some (.int .u64 s.c) :=
  ⟨by simp [World.cell?, h], by simp [World.cell?, h], by simp [World.cell?, h], by simp [World.cell?, h]⟩
theorem led_free {w : World} {g : Nat} {s : Led} (h : w.heap[g]? = some (ledB s)) (j : Nat) : w.frozen? ⟨g, j, none⟩ = false := by simp [World.frozen?, h]
theorem ledNew_any (c : Int) (w : World) :
    Calls Try.prog 9 #[.int .u64 c] w fun r w' => r = .returned (.pointer (some ⟨w.heap.size, 0, none⟩)) ∧ w' = w.alloc (ledB ⟨0, 0, 0, c⟩) := by
  go_enter Try.func9, Try.ntmps9
  go_wp2
  go_ret
  exact ⟨rfl, rfl⟩
theorem rest_any (g : Nat) (s : Led) (w : World) (hb : w.heap[g]? = some (ledB s)) (hs : s.ok) :
    Calls Try.prog 24 #[.pointer (some ⟨g, 0, none⟩)] w fun r w' => r = .returned (.int .u64 s.sup) ∧ Drawn w w' := by
  obtain ⟨c0, c1, c2, c3⟩ := led_cells hb
  obtain ⟨a1, a2, a3, a4, a5, a6⟩ := hs
  obtain ⟨d, p, b, c⟩ := s
  simp only at c0 c1 c2 c3 a1 a2 a3 a4 a5 a6
  have w1 : IntKind.u64.wrap (d - p) = d - p := u64_small (by omega) (by omega)
  have w2 : IntKind.u64.wrap (d - p - b) = d - p - b := u64_small (by omega) (by omega)
  clear hb
  go_enter Try.func24, Try.ntmps24
  go_wp2
  go_quiet (fail)
  go_wp2
  go_ret
  exact ⟨rfl, Drawn.mk _ _⟩
theorem supply_any (g : Nat) (s : Led) (w : World) (hb : w.heap[g]? = some (ledB s)) (hs : s.ok) :
    Calls Try.prog 15 #[.pointer (some ⟨g, 0, none⟩)] w fun r w' => r = .returned (.int .u64 s.sup) ∧ Drawn w w' := by
  have HB := Lib.hid hb
  have HS := Lib.hid hs
  clear hb hs
  go_enter Try.func15, Try.ntmps15
  go_wp2_with fail
  refine (rest_any g s w HB.out HS.out).mono ?_
  rintro r w1 ⟨rfl, hd⟩
  have HD := Lib.hid hd
  clear hd
  go_wp2
  go_ret
  exact ⟨rfl, HD.out⟩
theorem supply_nil (w : World) : Calls Try.prog 15 #[.pointer none] w fun r w' => r = .returned (.int .u64 0) ∧ w = w' := by
  go_enter Try.func15, Try.ntmps15
  go_wp2
  go_ret
  exact ⟨rfl, rfl⟩
theorem room_nil (w : World) : Calls Try.prog 12 #[.pointer none] w fun r w' => r = .returned (.int .u64 0) ∧ w = w' := by
  go_enter Try.func12, Try.ntmps12
  go_wp2
  go_ret
  exact ⟨rfl, rfl⟩
theorem dep_nil (x : Int) (w : World) : Calls Try.prog 13 #[.pointer none, .int .u64 x] w fun r w' => r = .returned (.int .i64 1) ∧ w = w' := by
  go_enter Try.func13, Try.ntmps13
  go_wp2
  go_ret
  exact ⟨rfl, rfl⟩
theorem pay_nil (x : Int) (w : World) : Calls Try.prog 19 #[.pointer none, .int .u64 x] w fun r w' => r = .returned (.int .i64 1) ∧ w = w' := by
  go_enter Try.func19, Try.ntmps19
  go_wp2
  go_ret
  exact ⟨rfl, rfl⟩
theorem burn_nil (x : Int) (w : World) : Calls Try.prog 20 #[.pointer none, .int .u64 x] w fun r w' => r = .returned (.int .i64 1) ∧ w = w' := by
  go_enter Try.func20, Try.ntmps20
  go_wp2
  go_ret
  exact ⟨rfl, rfl⟩
theorem room_any (g : Nat) (s : Led) (w : World) (hb : w.heap[g]? = some (ledB s)) (hs : s.ok) :
    Calls Try.prog 12 #[.pointer (some ⟨g, 0, none⟩)] w fun r w' => r = .returned (.int .u64 s.room) ∧ Drawn w w' := by
  obtain ⟨c0, c1, c2, c3⟩ := led_cells hb
  have HB := Lib.hid hb
  have HS := Lib.hid hs
  obtain ⟨a1, a2, a3, a4, a5, a6⟩ := hs
  have hsup : s.sup = s.d - s.p - s.b := rfl
  have w1 : IntKind.u64.wrap (s.c - s.sup) = s.c - s.sup := u64_small (by omega) (by omega)
  have w2 : IntKind.u64.wrap (18446744073709551615 - s.d) = 18446744073709551615 - s.d := u64_small (by unfold maxU at a4; omega) (by unfold maxU; omega)
  have hr : s.room = if 18446744073709551615 - s.d < s.c - s.sup then 18446744073709551615 - s.d else s.c - s.sup := by
    unfold Led.room maxU
    split <;> omega
  have HR := Lib.hid hr
  clear hb hr a1 a2 a3 a4 a5 a6 hsup c1 c2
  go_enter Try.func12, Try.ntmps12
  go_wp2
  by_cases hlt : 18446744073709551615 - s.d < s.c - s.sup
  · go_quiet ((go_at_call 24; exact quiet_drawn (rest_any g s _ HB.out HS.out)))
    go_wp2
    go_ret
    exact ⟨ret_int (by rw [HR.out, if_pos hlt]), Drawn.mk _ _⟩
  · go_quiet ((go_at_call 24; exact quiet_drawn (rest_any g s _ HB.out HS.out)))
    go_wp2
    go_ret
    exact ⟨ret_int (by rw [HR.out, if_neg (by omega)]), Drawn.mk _ _⟩
theorem amts2 (w : World) (x y : Int) (t : TypeId) (hx : 0 ≤ x ∧ x ≤ maxU) (hy : 0 ≤ y ∧ y ≤ maxU) : Amts (w.alloc (.cells #[.int .u64 x, .int .u64 y] t)) (.slice (some ⟨w.heap.size, 0, none⟩) 2 2) 2 (fun j => if j = 0 then x else y) :=
  amts_block (heap_alloc_last w _) 2 2 _ fun j hj => by
    match j, hj with
    | 0, _ => exact ⟨rfl, hx⟩
    | 1, _ => exact ⟨rfl, hy⟩
theorem amts1 (w : World) (x : Int) (t : TypeId) (hx : 0 ≤ x ∧ x ≤ maxU) : Amts (w.alloc (.cells #[.int .u64 x] t)) (.slice (some ⟨w.heap.size, 0, none⟩) 1 1) 1 (fun _ => x) :=
  amts_block (heap_alloc_last w _) 1 1 _ fun j hj => by
    match j, hj with
    | 0, _ => exact ⟨rfl, hx⟩
theorem sum2 (x y : Int) : sumF (fun j => if j = 0 then x else y) 2 = x + y := by simp [sumF]
theorem sum1 (x : Int) : sumF (fun _ => x) 1 = x := by simp [sumF]
theorem led_set {w : World} {g : Nat} {s : Led} (h : w.heap[g]? = some (ledB s)) (x : Int) :
    (w.setCell ⟨g, 0, none⟩ (.int .u64 x)).heap[g]? = some (ledB { s with d := x }) ∧ (w.setCell ⟨g, 1, none⟩ (.int .u64 x)).heap[g]? = some (ledB { s with p := x }) ∧ (w.setCell ⟨g, 2, none⟩ (.int .u64 x)).heap[g]? = some (ledB { s with b := x }) :=
  ⟨heap_setCell_same w g 0 _ _ _ h, heap_setCell_same w g 1 _ _ _ h, heap_setCell_same w g 2 _ _ _ h⟩
theorem dep_any (g : Nat) (s : Led) (x : Int) (w : World) (hb : w.heap[g]? = some (ledB s)) (hs : s.ok) (hx0 : 0 ≤ x) (hx1 : x ≤ maxU) :
    Calls Try.prog 13 #[.pointer (some ⟨g, 0, none⟩), .int .u64 x] w fun r w' => r = .returned (.int .i64 (s.depC x)) ∧ w'.heap[g]? = some (ledB (s.dep x)) ∧ Mods (· = g) w w' := by
  obtain ⟨c0, c1, c2, c3⟩ := led_cells hb
  have HB := Lib.hid hb
  have HS := Lib.hid hs
  obtain ⟨a1, a2, a3, a4, a5, a6⟩ := hs
  have hsup : s.sup = s.d - s.p - s.b := rfl
  have w1 : IntKind.u64.wrap (s.c - s.sup) = s.c - s.sup := u64_small (by omega) (by omega)
  have hd0 : 0 ≤ s.d := by omega
  have HC := Lib.hid (s.dep_cases x)
  have A4 := Lib.hid a4
  have X1 := Lib.hid hx1
  clear hb a1 a2 a3 a5 a6 hsup c1 c2 a4 hx1
  by_cases h1 : s.c - s.sup < x
  · have hcase : s.depC x = 4 ∧ s.dep x = s := by
      rcases HC.out with ⟨_, e1, e2⟩ | ⟨e, _⟩ | ⟨e, _⟩
      · exact ⟨e1, e2⟩
      · omega
      · omega
    rw [hcase.1, hcase.2]
    clear hcase
    go_enter Try.func13, Try.ntmps13
    go_wp2
    go_quiet ((go_at_call 24; exact quiet_drawn (rest_any g s _ HB.out HS.out)))
    go_wp2
    go_ret
    exact ⟨rfl, HB.out, (Drawn.mk _ _).mods⟩
  · have hadd : addOk (fun j => if j = 0 then s.d else x) 2 = decide (s.d + x ≤ maxU) := by unfold addOk; rw [sum2]
    have haddv : addV (fun j => if j = 0 then s.d else x) 2 = if s.d + x ≤ maxU then s.d + x else 0 := by unfold addV; rw [sum2]
    have HA := Lib.hid hadd
    have HV := Lib.hid haddv
    clear hadd haddv
    go_enter Try.func13, Try.ntmps13
    go_wp2
    go_quiet ((go_at_call 24; exact quiet_drawn (rest_any g s _ HB.out HS.out)))
    go_wp2_with fail
    have hb2 := heap_keep HB.out (.cells #[.int .u64 s.d, .int .u64 x] 22)
    have hm2 := (Mods.refl (· = g) w).alloc (.cells #[.int .u64 s.d, .int .u64 x] 22)
    refine (gweiAdd_any _ 2 _ _ ((amts2 w s.d x 22 ⟨hd0, A4.out⟩ ⟨hx0, X1.out⟩).mods ((Mods.refl (fun _ => False) _).drewN nq) (fun _ _ h => h)) (by omega)).mono ?_
    rw [HA.out, HV.out]
    rintro r w2 ⟨rfl, rfl⟩
    have k0 : w.cell? ⟨g, 0, none⟩ = some (.int .u64 s.d) := c0
    have hlt := heap_lt HB.out
    by_cases h2 : s.d + x ≤ maxU
    · have hcase : s.depC x = 0 ∧ s.dep x = { s with d := s.d + x } := by
        rcases HC.out with ⟨e, _⟩ | ⟨_, e, _⟩ | ⟨_, _, e1, e2⟩
        · omega
        · omega
        · exact ⟨e1, e2⟩
      rw [if_pos h2, decide_eq_true h2]
      have HB2 := Lib.hid hb2
      have HM2 := Lib.hid hm2
      have E1 := Lib.hid hcase.1
      have E2 := Lib.hid hcase.2
      have hf0 := led_free HB.out 0
      clear hcase hb2 hm2 h2
      go_wp2
      go_ret
      refine ⟨ret_int E1.out.symm, ?_, ?_⟩
      · rw [E2.out]
        exact (led_set HB2.out (s.d + x)).1
      · exact (HM2.out.setCell _ _ (fun _ => rfl)).drewN _
    · have hcase : s.depC x = 10 ∧ s.dep x = s := by
        rcases HC.out with ⟨e, _⟩ | ⟨_, _, e1, e2⟩ | ⟨_, e, _⟩
        · omega
        · exact ⟨e1, e2⟩
        · omega
      rw [if_neg h2, decide_eq_false h2]
      have E1 := Lib.hid hcase.1
      have E2 := Lib.hid hcase.2
      clear hcase h2
      have HB2 := Lib.hid hb2
      have HM2 := Lib.hid hm2
      clear hb2 hm2
      go_wp2
      go_ret
      exact ⟨ret_int E1.out.symm, by rw [E2.out]; exact HB2.out, HM2.out.drewN _⟩
theorem book_any (g j : Nat) (s s' sN : Led) (x y : Int) (v : Value) (w : World) (hb : w.heap[g]? = some (ledB s)) (hs : s.ok) (hx0 : 0 ≤ x) (hx1 : x ≤ maxU) (hv : Amts w v 1 (fun _ => x))
    (hc : w.cell? ⟨g, j, none⟩ = some (.int .u64 y)) (hy0 : 0 ≤ y) (hy1 : y + s.sup ≤ maxU) (hset : ∀ w : World, w.heap[g]? = some (ledB s) → (w.setCell ⟨g, j, none⟩ (.int .u64 (y + x))).heap[g]? = some (ledB s')) (hN : sN = if s.outC x = 0 then s' else s) :
    Calls Try.prog 27 #[.pointer (some ⟨g, 0, none⟩), .pointer (some ⟨g, j, none⟩), v] w fun r w' => r = .returned (.int .i64 (s.outC x)) ∧ w'.heap[g]? = some (ledB sN) ∧ Mods (· = g) w w' := by
  have HN := Lib.hid hN
  clear hN
  have HB := Lib.hid hb
  have HS := Lib.hid hs
  have HV := Lib.hid hv
  have HSET := Lib.hid hset
  have X1 := Lib.hid hx1
  have Y1 := Lib.hid hy1
  have hfr := led_free hb j
  have hadd : addOk (fun _ => x) 1 = true := by unfold addOk; rw [sum1]; exact decide_eq_true hx1
  have haddv : addV (fun _ => x) 1 = x := by unfold addV; rw [sum1]; exact if_pos hx1
  have HA := Lib.hid hadd
  have HAV := Lib.hid haddv
  obtain ⟨⟨va, vc, rfl, _⟩, _⟩ := hv
  clear hb hs hset hx1 hadd haddv hy1
  by_cases h1 : s.sup < x
  · have E := Lib.hid (show s.outC x = 3 from if_pos h1)
    go_enter Try.func27, Try.ntmps27
    go_wp2_with fail
    refine (gweiAdd_any _ 1 _ _ HV.out (by omega)).mono ?_
    rw [HA.out, HAV.out]
    rintro r w2 ⟨rfl, rfl⟩
    go_wp2_with fail
    refine (rest_any g s _ HB.out HS.out).mono ?_
    rintro r w3 ⟨rfl, hd⟩
    have HD := Lib.hid hd
    clear hd
    go_wp2
    go_ret
    exact ⟨ret_int E.out.symm, by rw [HN.out, E.out, if_neg (by omega), HD.out.heap]; exact HB.out, HD.out.mods⟩
  · have E := Lib.hid (show s.outC x = 0 from if_neg h1)
    go_enter Try.func27, Try.ntmps27
    go_wp2_with fail
    refine (gweiAdd_any _ 1 _ _ HV.out (by omega)).mono ?_
    rw [HA.out, HAV.out]
    rintro r w2 ⟨rfl, rfl⟩
    go_wp2_with fail
    refine (rest_any g s _ HB.out HS.out).mono ?_
    rintro r w3 ⟨rfl, hd⟩
    have HD := Lib.hid hd
    have hc3 := (hd.mods (S := fun _ => False)).cell hc (fun h => h)
    have hf3 : w3.frozen? ⟨g, j, none⟩ = false := by unfold World.frozen? at hfr ⊢; rw [hd.heap]; exact hfr
    have hsum : y + x ≤ maxU := by have := Y1.out; omega
    unfold maxU at hsum
    clear hd hc hfr
    go_wp2
    go_ret
    refine ⟨ret_int E.out.symm, ?_, ?_⟩
    · rw [HN.out, E.out, if_pos rfl]
      exact HSET.out w3 (by rw [HD.out.heap]; exact HB.out)
    · exact HD.out.mods.setCell _ _ (fun _ => rfl)
theorem pay_any (g : Nat) (s : Led) (x : Int) (w : World) (hb : w.heap[g]? = some (ledB s)) (hs : s.ok) (hx0 : 0 ≤ x) (hx1 : x ≤ maxU) :
    Calls Try.prog 19 #[.pointer (some ⟨g, 0, none⟩), .int .u64 x] w fun r w' => r = .returned (.int .i64 (s.outC x)) ∧ w'.heap[g]? = some (ledB (s.pay x)) ∧ Mods (· = g) w w' := by
  have hb1 : ((w.alloc (.cells #[.int .u64 x] 22)).drew).heap[g]? = some (ledB s) := heap_keep hb _
  have hm1 : Mods (· = g) w ((w.alloc (.cells #[.int .u64 x] 22)).drew) := ((Mods.refl _ w).alloc _).drew
  have ha1 : Amts ((w.alloc (.cells #[.int .u64 x] 22)).drew) (.slice (some ⟨w.heap.size, 0, none⟩) 1 1) 1 (fun _ => x) := (amts1 w x _ ⟨hx0, hx1⟩).mods (S := fun _ => False) (Mods.refl _ _).drew (fun _ _ h => h)
  have hsup : s.sup = s.d - s.p - s.b := rfl
  have hbk := book_any g 1 s { s with p := s.p + x } (s.pay x) x s.p _ _ hb1 hs hx0 hx1 ha1 (led_cells hb1).2.1 hs.p0 (by
    have := hs.p0; have := hs.b0; have := hs.d1; omega) (fun w h => (led_set h (s.p + x)).2.1) rfl
  have HBK := Lib.hid hbk
  have HM1 := Lib.hid hm1
  clear hb hs hx1 hb1 hm1 ha1 hbk hsup hx0
  go_enter Try.func19, Try.ntmps19
  go_wp2
  go_region_with ((go_at_call 27; refine HBK.out.mono ?_; rintro r w2 ⟨rfl, hb2, hm2⟩; have HB2 := Lib.hid hb2; have HM2 := Lib.hid hm2; clear hb2 hm2))
  all_goals
    rename_i HB2 HM2
    go_wp2
    go_ret
    exact ⟨rfl, HB2.out, HM1.out.trans HM2.out⟩
theorem burn_any (g : Nat) (s : Led) (x : Int) (w : World) (hb : w.heap[g]? = some (ledB s)) (hs : s.ok) (hx0 : 0 ≤ x) (hx1 : x ≤ maxU) :
    Calls Try.prog 20 #[.pointer (some ⟨g, 0, none⟩), .int .u64 x] w fun r w' => r = .returned (.int .i64 (s.outC x)) ∧ w'.heap[g]? = some (ledB (s.burn x)) ∧ Mods (· = g) w w' := by
  have hb1 : ((w.alloc (.cells #[.int .u64 x] 22)).drew).heap[g]? = some (ledB s) := heap_keep hb _
  have hm1 : Mods (· = g) w ((w.alloc (.cells #[.int .u64 x] 22)).drew) := ((Mods.refl _ w).alloc _).drew
  have ha1 : Amts ((w.alloc (.cells #[.int .u64 x] 22)).drew) (.slice (some ⟨w.heap.size, 0, none⟩) 1 1) 1 (fun _ => x) := (amts1 w x _ ⟨hx0, hx1⟩).mods (S := fun _ => False) (Mods.refl _ _).drew (fun _ _ h => h)
  have hsup : s.sup = s.d - s.p - s.b := rfl
  have hbk := book_any g 2 s { s with b := s.b + x } (s.burn x) x s.b _ _ hb1 hs hx0 hx1 ha1 (led_cells hb1).2.2.1 hs.b0 (by
    have := hs.p0; have := hs.b0; have := hs.d1; omega) (fun w h => (led_set h (s.b + x)).2.2) rfl
  have HBK := Lib.hid hbk
  have HM1 := Lib.hid hm1
  clear hb hs hx1 hb1 hm1 ha1 hbk hsup hx0
  go_enter Try.func20, Try.ntmps20
  go_wp2
  go_region_with ((go_at_call 27; refine HBK.out.mono ?_; rintro r w2 ⟨rfl, hb2, hm2⟩; have HB2 := Lib.hid hb2; have HM2 := Lib.hid hm2; clear hb2 hm2))
  all_goals
    rename_i HB2 HM2
    go_wp2
    go_ret
    exact ⟨rfl, HB2.out, HM1.out.trans HM2.out⟩
end Go.Proofs.Ytcipelkomgpngaa
