/- Size; the operands' functions; bytes. -/
import Derived.Test.YtljcodkcmenpaaaOpA
namespace Go.Eg
open Go Go.RowKit
theorem sumZ_take {cs : List Nat} {j : Nat} (h : j < cs.length) : sumZ (cs.take (j + 1)) = sumZ (cs.take j) + szO cs[j] := by
  have app : ∀ a b : List Nat, sumZ (a ++ b) = sumZ a + sumZ b := fun a b => by
    induction a with
    | nil => simp [sumZ]
    | cons x r ih => simp only [List.cons_append, sumZ, ih]; omega
  rw [List.take_succ_eq_append_getElem h, app]
  simp [sumZ]
theorem szO_le (c : Nat) : 1 ≤ szO c ∧ szO c ≤ 8 := by unfold szO; split <;> omega
def getO (c : Nat) (o : Od) : Int := if c = 0 then IntKind.u64.wrap o.ix else if c = 1 then IntKind.u64.wrap o.tg else o.am
def setO (c : Nat) (x : Int) (o : Od) : Od := if c = 0 then { o with ix := wrap64 x } else if c = 1 then { o with tg := wrap64 x } else { o with am := x }
end Go.Eg
namespace Go.Proofs.Ytljcodkcmenpaaa
open Go.RowKit Go.Eg
theorem flatO_at (cs : List Nat) (j : Nat) (hj : j < cs.length) : (flatO cs)[j * 3]? = some (.int .i64 ((szO cs[j] : Nat) : Int)) ∧ (flatO cs)[j * 3 + 1]? = some (getV cs[j]) ∧ (flatO cs)[j * 3 + 2]? = some (setV cs[j]) := by
  induction cs generalizing j with
  | nil => simp at hj
  | cons c r ih =>
    have hx : ([Value.int .i64 ((szO c : Nat) : Int), getV c, setV c] : List Value).length = 3 := rfl
    cases j with
    | zero => exact ⟨rfl, rfl, rfl⟩
    | succ j =>
      have := ih j (by simpa using hj)
      have e : ∀ q, (flatO (c :: r))[(j + 1) * 3 + q]? = (flatO r)[j * 3 + q]? := fun q => by
        show (([Value.int .i64 ((szO c : Nat) : Int), getV c, setV c] : List Value) ++ flatO r)[(j + 1) * 3 + q]? = _
        rw [List.getElem?_append_right (by omega), hx, show (j + 1) * 3 + q - 3 = j * 3 + q from by omega]
      have e0 := e 0
      simp only [Nat.add_zero] at e0
      rw [e0, e, e]
      exact this
theorem OL.at {w : World} {v : Value} {cs : List Nat} (h : OL w v cs) : ∃ b, v = .slice (some ⟨b, 0, none⟩) cs.length cs.length ∧ b < w.heap.size ∧ ∀ w', Keeps w w' → ∀ j (hj : j < cs.length), w'.cell? ⟨b, j * 3, none⟩ = some (.int .i64 ((szO cs[j] : Nat) : Int)) ∧ w'.cell? ⟨b, j * 3 + 1, none⟩ = some (getV cs[j]) ∧ w'.cell? ⟨b, j * 3 + 2, none⟩ = some (setV cs[j]) := by
  obtain ⟨b, rfl, hb⟩ := h
  refine ⟨b, rfl, heap_lt hb, fun w' hk j hj => ?_⟩
  have hb' := hk.at hb fun h => h
  obtain ⟨h0, h1, h2⟩ := flatO_at cs j hj
  exact ⟨by simp [World.cell?, hb', h0], by simp [World.cell?, hb', h1], by simp [World.cell?, hb', h2]⟩
theorem operands_none {k : Int} (h : opsOf k = none) (w : World) : Calls Try.prog 28 #[.int .i64 k] w fun r w' => r = .returned (.tuple #[.slice none 0 0, .bool false]) ∧ Keeps w w' :=
  (operands_any k w).mono fun r w' ⟨hk, hr⟩ => by
    rcases hr with ⟨_, hr⟩ | ⟨cs, v, hs, _, _⟩
    · exact ⟨hr, hk⟩
    · rw [h] at hs; cases hs
theorem operands_some {k : Int} {cs : List Nat} (h : opsOf k = some cs) (w : World) : Calls Try.prog 28 #[.int .i64 k] w fun r w' => ∃ b, r = .returned (.tuple #[.slice (some ⟨b, 0, none⟩) cs.length cs.length, .bool true]) ∧ Keeps w w' ∧ b < w'.heap.size ∧
      ∀ w2, Keeps w' w2 → ∀ j (hj : j < cs.length), w2.cell? ⟨b, j * 3, none⟩ = some (.int .i64 ((szO cs[j] : Nat) : Int)) ∧ w2.cell? ⟨b, j * 3 + 1, none⟩ = some (getV cs[j]) ∧ w2.cell? ⟨b, j * 3 + 2, none⟩ = some (setV cs[j]) :=
  (operands_any k w).mono fun r w' ⟨hk, hr⟩ => by
    rcases hr with ⟨hs, _⟩ | ⟨cs', v, hs, hr, hv⟩
    · rw [h] at hs; cases hs
    · rw [h] at hs
      cases hs
      obtain ⟨b, rfl, hb, hc⟩ := hv.at
      exact ⟨b, hr, hk, hb, hc⟩
theorem sumZ_take_le (cs : List Nat) (j : Nat) : sumZ (cs.take j) ≤ sumZ cs := by
  have app : ∀ a b : List Nat, sumZ (a ++ b) = sumZ a + sumZ b := fun a b => by
    induction a with
    | nil => simp [sumZ]
    | cons x r ih => simp only [List.cons_append, sumZ, ih]; omega
  have := app (cs.take j) (cs.drop j)
  rw [List.take_append_drop] at this
  omega
set_option maxHeartbeats 400000 in
theorem opSize_any (k : Int) (w : World) : Calls Try.prog 15 #[.int .i64 k] w fun r w' => r = .returned (.int .i64 (sizeK k)) ∧ Keeps w w' := by
  cases hs : opsOf k with
  | none =>
    have e : sizeK k = 0 := by unfold sizeK; rw [hs]
    rw [e]
    have HO := Lib.hid (operands_none hs w)
    clear hs e
    go_enter Try.func15, Try.ntmps15
    go_wp2_with fail
    refine HO.out.mono ?_
    rintro r w1 ⟨rfl, hk1⟩
    have HK1 := Lib.hid hk1
    clear hk1
    go_wp2
    go_ret
    exact ⟨rfl, HK1.out⟩
  | some cs =>
    have e : sizeK k = ((1 + sumZ cs : Nat) : Int) := by unfold sizeK; rw [hs]
    rw [e]
    obtain ⟨hl, _, _, _, hz⟩ := opsOf_small hs
    have HO := Lib.hid (operands_some hs w)
    clear hs e
    go_enter Try.func15, Try.ntmps15
    go_wp2_with fail
    refine HO.out.mono ?_
    rintro r w1 ⟨b, rfl, hk1, hb, hc⟩
    have HK1 := Lib.hid hk1
    have HC := Lib.hid hc
    clear hk1 hc
    go_wp2_with fail
    go_loopw [5, 17] (fun s i wr => ∃ j : Nat, j ≤ cs.length ∧ i = .int .i64 j ∧ s = .int .i64 ((1 + sumZ (cs.take j) : Nat) : Int) ∧ Keeps w1 wr) (fun _ i _ => cs.length - (intOf i).toNat)
    case atStart => exact ⟨0, Nat.zero_le _, rfl, rfl, Mods.refl _ _⟩
    case round =>
      obtain ⟨j, hj, rfl, rfl, hm⟩ := hrel
      have HM := Lib.hid hm
      by_cases hlt : j < cs.length
      · obtain ⟨x0, x1, x2⟩ := HC.out wr hm j hlt
        have HT := Lib.hid (sumZ_take hlt)
        have hsz := szO_le cs[j]
        have hq : sumZ (cs.take j) ≤ 20 := by have := sumZ_take_le cs j; omega
        have hbw := cell_lt x0
        generalize sumZ (cs.take j) = q at *
        generalize cs[j] = c at *
        generalize szO c = z at *
        generalize gF c = gv at *
        generalize sF c = sv at *
        clear hm
        go_wp2
        go_roundw
        case rel => exact ⟨j + 1, by omega, by go_num, by rw [HT.out]; go_num, HM.out.alloc _⟩
        case measure => simp [intOf]; omega
      · have e : j = cs.length := by omega
        subst e
        rw [List.take_length]
        clear hm
        go_wp2
        go_ret
        exact ⟨rfl, HK1.out.keep HM.out⟩
abbrev odB (o : Od) : Obj := .cells o.cells 24 (0, 0)
theorem od_cells {w : World} {b : Nat} {o : Od} (h : w.heap[b]? = some (odB o)) : w.cell? ⟨b, 0, none⟩ = some (.int .i64 o.kd) ∧ w.cell? ⟨b, 1, none⟩ = some (.int .i64 o.ix) ∧ w.cell? ⟨b, 2, none⟩ = some (.int .i64 o.tg) ∧ w.cell? ⟨b, 3, none⟩ = some (.int .u64 o.am) :=
  ⟨by simp [World.cell?, h], by simp [World.cell?, h], by simp [World.cell?, h], by simp [World.cell?, h]⟩
theorem od_free {w : World} {b : Nat} {o : Od} (h : w.heap[b]? = some (odB o)) (j : Nat) : w.frozen? ⟨b, j, none⟩ = false := by simp [World.frozen?, h]
theorem opget_any (c : Nat) (hc : c < 3) (o : Od) (w : World) : Calls Try.prog (gF c) #[o.val] w fun r w' => r = .returned (.int .u64 (getO c o)) ∧ Keeps w w' := by
  obtain ⟨kd, ix, tg, am⟩ := o
  match c, hc with
  | 0, _ =>
    go_enter Try.func38, Try.ntmps38
    go_wp2
    go_ret
    exact ⟨rfl, (Mods.refl _ w).alloc _⟩
  | 1, _ =>
    go_enter Try.func40, Try.ntmps40
    go_wp2
    go_ret
    exact ⟨rfl, (Mods.refl _ w).alloc _⟩
  | 2, _ =>
    go_enter Try.func36, Try.ntmps36
    go_wp2
    go_ret
    exact ⟨rfl, (Mods.refl _ w).alloc _⟩
theorem opset_any (c : Nat) (hc : c < 3) (o : Od) (b : Nat) (x : Int) (w : World) (hb : w.heap[b]? = some (odB o)) :
    Calls Try.prog (sF c) #[.pointer (some ⟨b, 0, none⟩), .int .u64 x] w fun r w' => r = .returned (.tuple #[]) ∧ w'.heap[b]? = some (odB (setO c x o)) ∧ Mods (fun i => i = b) w w' := by
  obtain ⟨c0, c1, c2, c3⟩ := od_cells hb
  have f1 := od_free hb 1
  have f2 := od_free hb 2
  have f3 := od_free hb 3
  have HB := Lib.hid hb
  clear hb
  match c, hc with
  | 0, _ =>
    go_enter Try.func39, Try.ntmps39
    go_wp2
    go_end0
    exact ⟨rfl, heap_setCell_same w b 1 _ _ _ HB.out, (Mods.refl _ w).setCell _ _ fun _ => rfl⟩
  | 1, _ =>
    go_enter Try.func41, Try.ntmps41
    go_wp2
    go_end0
    exact ⟨rfl, heap_setCell_same w b 2 _ _ _ HB.out, (Mods.refl _ w).setCell _ _ fun _ => rfl⟩
  | 2, _ =>
    go_enter Try.func37, Try.ntmps37
    go_wp2
    go_end0
    exact ⟨rfl, heap_setCell_same w b 3 _ _ _ HB.out, (Mods.refl _ w).setCell _ _ fun _ => rfl⟩
end Go.Proofs.Ytljcodkcmenpaaa
