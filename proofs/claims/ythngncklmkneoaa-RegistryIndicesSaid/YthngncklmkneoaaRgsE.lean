/- The registry: Set. -/
import Derived.Test.YthngncklmkneoaaRgsD
namespace Go.Proofs.Ythngncklmkneoaa
open Go.RowKit Go.Eg
def eqVd (v o : Vd) : Bool := v.bal == o.bal && (v.st == o.st && (v.sl == o.sl && (v.rq == o.rq && (v.ex == o.ex && (v.wd == o.wd && v.dl == o.dl)))))
theorem eqVd_iff (v o : Vd) : eqVd v o = true ↔ v = o := by
  obtain ⟨a0, a1, a2, a3, a4, a5, a6⟩ := v
  obtain ⟨b0, b1, b2, b3, b4, b5, b6⟩ := o
  simp [eqVd]
theorem eqV (v o : Vd) (w : World) : (binOp .eql 29 v.val o.val).run Try.prog w = .ok (.bool (eqVd v o)) w := by
  obtain ⟨a0, a1, a2, a3, a4, a5, a6⟩ := v
  obtain ⟨b0, b1, b2, b3, b4, b5, b6⟩ := o
  unfold eqVd
  simp only
  go_simp
  by_cases h0 : a0 = b0 <;> by_cases h1 : a1 = b1 <;> by_cases h2 : a2 = b2 <;> by_cases h3 : a3 = b3 <;> by_cases h4 : a4 = b4 <;> by_cases h5 : a5 = b5 <;> by_cases h6 : a6 = b6 <;> simp [h0, h1, h2, h3, h4, h5, h6]
theorem eqgV (x y : Operand) (v o : Vd) (w : World) : (eqGuard .eql 29 x y v.val o.val).run Try.prog w = .ok () w := by
  go_simp
theorem wpList_eqV {ops : Array Oper} {rest : List Oper} {o : Oper} {a : Act} {w : World} {Q : Exit → Act → World → Prop} (hg : o.guard = none) (x y : Operand) (t2 : TypeId) (ho : o.op = .binOp .eql 29 x y t2) (v u : Vd) (hx : a.eval x = v.val) (hy : a.eval y = u.val)
    (h : wpList Try.prog ops Q rest (a.put o.dst (.bool (eqVd v u))) w) : wpList Try.prog ops Q (o :: rest) a w :=
  wpList_plain hg fun K hK => by
    unfold Oper.wp execOp
    simp only [ho, hx, hy, Sem.run_bind, eqgV, eqV, Result.andThen_ok, Sem.run_pure]
    exact hK _ _ h
theorem row_at {w : World} {B : Nat} {a : Option Addr} {c : Nat} {l : List Vd} (hrow : w.ownsRow B 29 7 (.slice a l.length c) l.length (flatV l)) (i : Nat) (hi : i < l.length) :
    ∃ b, a = some ⟨b, 0, none⟩ ∧ B ≤ b ∧ ∀ j, j < 7 → w.cell? ⟨b, i * 7 + j, none⟩ = l[i].cells.toList[j]? ∧ w.frozen? ⟨b, i * 7 + j, none⟩ = false := by
  rcases hrow.2 with ⟨e, h0⟩ | ⟨b, cap', cur, hv, hg, hh, r⟩
  · omega
  · simp only [Value.slice.injEq] at hv
    obtain ⟨rfl, _, rfl⟩ := hv
    exact ⟨b, rfl, hg, fun j hj => ⟨by rw [hrow.cellAt (i * 7 + j) (by omega), flatV_at l i hi j hj], hrow.frozenAt _⟩⟩
theorem RegAt.mono {B : Nat} {w : World} {g m : Nat} {lv : Value} {cap : Int} {l : List Vd} {n n' : Nat} (h : RegAt B w g m lv cap l n) (hn : n ≤ n') : RegAt B w g m lv cap l n' :=
  ⟨h.blk, h.row, h.map.mono hn, h.bg, h.bm, h.gm, h.og, h.om, h.ok, h.tot, h.len, h.cap⟩
theorem set_self {l : List Vd} {i : Nat} {o : Vd} (h : l[i]? = some o) : l.set i o = l := by
  obtain ⟨hi, rfl⟩ := List.getElem?_eq_some_iff.1 h
  exact List.set_getElem_self hi
theorem flatV_set (l : List Vd) (i : Nat) (hi : i < l.length) (v : Vd) :
    (((((((flatV l).set (i * 7) (.int .u64 v.bal)).set (i * 7 + 1) (.int .i64 v.st)).set (i * 7 + 2) (.bool v.sl)).set (i * 7 + 3) (.int .i64 v.rq)).set (i * 7 + 4) (.int .i64 v.ex)).set (i * 7 + 5) (.int .i64 v.wd)).set (i * 7 + 6) (.int .i64 v.dl) = flatV (l.set i v) := by
  induction l generalizing i with
  | nil => simp at hi
  | cons x r ih =>
    have e : ∀ (y : Vd) (r : List Vd), flatV (y :: r) = y.cells.toList ++ flatV r := fun _ _ => rfl
    cases i with
    | zero =>
      rw [List.set_cons_zero, e, e]
      simp
    | succ i =>
      rw [List.set_cons_succ, e, e]
      have hx : x.cells.toList.length = 7 := rfl
      have hs : ∀ (ys : List Value) (j : Nat) (u : Value), (x.cells.toList ++ ys).set ((i + 1) * 7 + j) u = x.cells.toList ++ ys.set (i * 7 + j) u := fun ys j u => by
        rw [List.set_append_right _ _ (by omega), hx, show (i + 1) * 7 + j - 7 = i * 7 + j from by omega]
      have h0 := hs (flatV r) 0 (.int .u64 v.bal)
      rw [Nat.add_zero, Nat.add_zero] at h0
      rw [h0, hs, hs, hs, hs, hs, hs]
      simp only [Nat.add_zero]
      rw [ih i (by simpa using hi)]
/-- validator i is stored -/
def putV (w : World) (b i : Nat) (v : Vd) : World :=
  ((((((w.setCell ⟨b, i * 7, none⟩ (.int .u64 v.bal)).setCell ⟨b, i * 7 + 1, none⟩ (.int .i64 v.st)).setCell ⟨b, i * 7 + 2, none⟩ (.bool v.sl)).setCell ⟨b, i * 7 + 3, none⟩ (.int .i64 v.rq)).setCell ⟨b, i * 7 + 4, none⟩ (.int .i64 v.ex)).setCell ⟨b, i * 7 + 5, none⟩ (.int .i64 v.wd)).setCell ⟨b, i * 7 + 6, none⟩ (.int .i64 v.dl)
theorem putV_mods (w : World) (b i : Nat) (v : Vd) : Mods (fun k => k = b) w (putV w b i v) := by
  unfold putV
  exact (((((((Mods.refl (fun k => k = b) w).setCell _ _ fun _ => rfl).setCell _ _ fun _ => rfl).setCell _ _ fun _ => rfl).setCell _ _ fun _ => rfl).setCell _ _ fun _ => rfl).setCell _ _ fun _ => rfl).setCell _ _ fun _ => rfl
theorem putV_row {w : World} {B b c : Nat} {l : List Vd} (hrow : w.ownsRow B 29 7 (.slice (some ⟨b, 0, none⟩) l.length c) l.length (flatV l)) (i : Nat) (hi : i < l.length) (v : Vd) :
    (putV w b i v).ownsRow B 29 7 (.slice (some ⟨b, 0, none⟩) (l.set i v).length c) (l.set i v).length (flatV (l.set i v)) := by
  rw [← flatV_set l i hi v, List.length_set]
  unfold putV
  exact (((((((hrow.stored _ _).1.stored _ _).1.stored _ _).1.stored _ _).1.stored _ _).1.stored _ _).1.stored _ _).1
theorem set_end {B : Nat} {w wy w4 w6 : World} {g m b c i : Nat} {cap : Int} {l : List Vd} {n : Nat} {v o : Vd} (H : RegAt B wy g m (.slice (some ⟨b, 0, none⟩) l.length c) cap l n) (hv : v.ok) (ho : totS (l.set i v) ≤ maxU) (hK : Keeps w wy) (hi : i < l.length) (hl : l[i]? = some o)
    (hm4 : Mods (Two g m) wy w4)
    (hb6 : w6.heap[g]? = some (regB cap (.slice (some ⟨b, 0, none⟩) l.length c) (if v.live = true then IntKind.u64.wrap ((if o.live = true then IntKind.u64.wrap (actS l + IntKind.u64.wrap (-o.bal)) else actS l) + v.bal) else if o.live = true then IntKind.u64.wrap (actS l + IntKind.u64.wrap (-o.bal)) else actS l) (IntKind.u64.wrap (IntKind.u64.wrap (totS l + IntKind.u64.wrap (-o.bal)) + v.bal)) m))
    (hi6 : IM w6 m (n + 1 + 1) (fun y => if y = v.st then wrap64 ((fun y => if y = o.st then wrap64 (cntS l o.st + -1) else cntS l y) v.st + 1) else (fun y => if y = o.st then wrap64 (cntS l o.st + -1) else cntS l y) y))
    (hm6 : Mods (Two g m) (putV w4 b i v).drew w6) :
    RegAt B w6 g m (.slice (some ⟨b, 0, none⟩) l.length c) cap (l.set i v) (n + 2) ∧ Mods (RegS g m (.slice (some ⟨b, 0, none⟩) l.length c)) w w6 := by
  obtain ⟨_, hoe⟩ := List.getElem?_eq_some_iff.1 hl
  have hmem : o ∈ l := hoe ▸ List.getElem_mem hi
  have hok := H.ok o hmem
  have hb := bal_le H.ok hi
  rw [hoe] at hb
  have hlen : (l.length : Int) ≤ 4096 := by have := H.len; have := H.cap; omega
  have ha := actS_le H.ok
  have hsub : ∀ {x : Int}, 0 ≤ x → x ≤ maxU → o.bal ≤ x → IntKind.u64.wrap (x + IntKind.u64.wrap (-o.bal)) = x - o.bal := fun {x} h0 h1 h2 => by
    have := hok.b0
    unfold maxU at h1
    rw [IntKind.wrap_u64, IntKind.wrap_u64]
    omega
  have ht := H.tot
  have et : IntKind.u64.wrap (IntKind.u64.wrap (totS l + IntKind.u64.wrap (-o.bal)) + v.bal) = totS (l.set i v) := by
    rw [hsub (by omega) ht hb.1]
    have e := totS_set hi v
    rw [hoe] at e
    rw [← e]
    exact u64_id (by have := hok.b0; have := hv.b0; rw [e]; omega) ho
  have ea : (if v.live = true then IntKind.u64.wrap ((if o.live = true then IntKind.u64.wrap (actS l + IntKind.u64.wrap (-o.bal)) else actS l) + v.bal) else if o.live = true then IntKind.u64.wrap (actS l + IntKind.u64.wrap (-o.bal)) else actS l) = actS (l.set i v) := by
    have e := actS_set hi v
    rw [hoe] at e
    have hle : actS (l.set i v) ≤ totS (l.set i v) ∧ 0 ≤ actS (l.set i v) := by
      have h := actS_le (l := l.set i v) fun x hx => by
        rcases List.mem_or_eq_of_mem_set hx with h | h
        · exact H.ok x h
        · subst h; exact hv
      exact ⟨h.2, h.1⟩
    have h1 : (if o.live = true then IntKind.u64.wrap (actS l + IntKind.u64.wrap (-o.bal)) else actS l) = actS l - if o.live = true then o.bal else 0 := by
      split
      · rename_i hlv
        rw [if_pos hlv] at hb
        exact hsub ha.1 (by omega) hb.2
      · omega
    rw [h1, e]
    split
    · rename_i hlv
      rw [if_pos hlv] at e
      exact u64_id (by omega) (by omega)
    · omega
  have ec : (fun y => if y = v.st then wrap64 ((fun y => if y = o.st then wrap64 (cntS l o.st + -1) else cntS l y) v.st + 1) else (fun y => if y = o.st then wrap64 (cntS l o.st + -1) else cntS l y) y) = cntS (l.set i v) := by
    funext y
    have e := cntS_set hi v y
    rw [hoe] at e
    rw [e]
    have r1 := cntS_range l v.st
    have r2 := cntS_range l o.st
    have r3 := cntS_range l y
    have w1 : wrap64 (cntS l o.st + -1) = cntS l o.st + -1 := wrap64_id (by omega) (by omega)
    by_cases h1 : y = v.st
    · subst h1
      by_cases h2 : v.st = o.st
      · simp only [h2, if_true, w1]
        rw [wrap64_id (by omega) (by omega)]
        omega
      · have h3 : ¬ o.st = v.st := fun e => h2 e.symm
        simp only [if_true, if_neg h2, if_neg h3]
        rw [wrap64_id (by omega) (by omega)]
        omega
    · have h1' : ¬ v.st = y := fun e => h1 e.symm
      by_cases h2 : y = o.st
      · subst h2
        simp only [if_neg h1, if_neg h1', if_true, w1]
        omega
      · have h2' : ¬ o.st = y := fun e => h2 e.symm
        simp only [if_neg h1, if_neg h1', if_neg h2, if_neg h2']
        omega
  rw [et, ea] at hb6
  rw [ec] at hi6
  have nb : ∀ k, (Value.slice (some ⟨b, 0, none⟩) l.length c).ownBlock = some k → ¬ Two g m k := fun k hk e => by
    rcases e with e | e
    · exact H.og (e ▸ hk)
    · exact H.om (e ▸ hk)
  have h4 := hm4.owns H.row nb
  have h5 := putV_row h4 i hi v
  have h6 := ((Mods.refl (fun _ => False) (putV w4 b i v)).drew).owns h5 (fun _ _ h => h)
  have h7 := hm6.owns h6 nb
  rw [List.length_set] at h7
  refine ⟨⟨hb6, by rw [List.length_set]; exact h7, hi6, H.bg, H.bm, H.gm, H.og, H.om, ?_, ho, by rw [List.length_set]; exact H.len, H.cap⟩, ?_⟩
  · intro x hx
    rcases List.mem_or_eq_of_mem_set hx with h | h
    · exact H.ok x h
    · subst h; exact hv
  · have m1 : Mods (RegS g m (.slice (some ⟨b, 0, none⟩) l.length c)) w wy := hK.weaken fun _ _ h => h.elim
    have two : ∀ k, Two g m k → RegS g m (.slice (some ⟨b, 0, none⟩) l.length c) k := fun k h => by
      rcases h with h | h
      · exact .inl h
      · exact .inr (.inl h)
    exact ((m1.seq hm4 fun _ _ h => two _ h).seq (putV_mods w4 b i v).drew fun _ _ h => .inr (.inr (by subst h; rfl))).seq hm6 fun _ _ h => two _ h
theorem at_list {P : Program} {ops rest : _} {Q : Exit → Act → World → Prop} {a : Act} {w : World} (h : wpList P ops Q rest a w) : wpList P ops Q rest a w := h
theorem regSet_nil (v : Vd) (i : Int) (w : World) :
    Calls Try.prog 16 #[.pointer none, .int .i64 i, v.val] w fun r w' => r = .returned (.int .i64 1) ∧ Keeps w w' := by
  obtain ⟨bal, st, sl, rq, ex, wd, dl⟩ := v
  go_enter_defers Try.func16, Try.ntmps16
  go_wp2
  exact ⟨_, results_tmp rfl _ _ _, rfl, (Mods.refl _ w).alloc _⟩
theorem regSet_out {B : Nat} {w : World} {g m : Nat} {lv : Value} {cap : Int} {l : List Vd} {n : Nat} (h : RegAt B w g m lv cap l n) (v : Vd) (i : Int) (hi : i < 0 ∨ l.length ≤ i) :
    Calls Try.prog 16 #[.pointer (some ⟨g, 0, none⟩), .int .i64 i, v.val] w fun r w' => r = .returned (.int .i64 7) ∧ Keeps w w' := by
  obtain ⟨bal, st, sl, rq, ex, wd, dl⟩ := v
  have H := Lib.hid h
  clear h
  go_enter_defers Try.func16, Try.ntmps16
  go_wp2_with fail
  refine (regGet_out (H.out.keeps ((Mods.refl _ w).alloc _)) i hi).mono ?_
  rintro r w1 ⟨rfl, hk⟩
  have HK := Lib.hid (((Mods.refl (fun _ => False) w).alloc (.cells (Vd.cells ⟨bal, st, sl, rq, ex, wd, dl⟩) 29)).keep hk)
  clear hk
  go_wp2
  exact ⟨_, results_tmp rfl _ _ _, rfl, HK.out.alloc _⟩
set_option maxHeartbeats 400000 in
theorem regSet_over {B : Nat} {w : World} {g m : Nat} {lv : Value} {cap : Int} {l : List Vd} {n : Nat} (h : RegAt B w g m lv cap l n) (v : Vd) (i : Nat) (hi : i < l.length) (ho : ¬ totS (l.set i v) ≤ maxU) :
    Calls Try.prog 16 #[.pointer (some ⟨g, 0, none⟩), .int .i64 (i : Int), v.val] w fun r w' => r = .returned (.int .i64 10) ∧ Keeps w w' := by
  have hbal := bal_le h.ok hi
  have hok := h.ok l[i] (List.getElem_mem hi)
  have HB0 := hok.b0
  have HG := Lib.hid (regGet_any (h.keeps ((Mods.refl _ w).alloc (.cells v.cells 29))) i hi)
  obtain ⟨c0, c1, c2, c3, c4⟩ := reg_cells h.blk
  rw [totS_set hi] at ho
  have ht := h.tot
  generalize l[i] = o at *
  obtain ⟨bal, st, sl, rq, ex, wd, dl⟩ := v
  obtain ⟨bal', st', sl', rq', ex', wd', dl'⟩ := o
  simp only at hbal HB0 ho
  generalize totS l = T at *
  have w1 : IntKind.u64.wrap (T - bal') = T - bal' := u64_id (by omega) (by omega)
  have w2 : IntKind.u64.wrap (18446744073709551615 - (T - bal')) = 18446744073709551615 - (T - bal') := u64_id (by unfold maxU at ht; omega) (by unfold maxU; omega)
  have hlt := cell_lt c3
  have hgt : 18446744073709551615 - (T - bal') < bal := by unfold maxU at ho; omega
  have HI := Lib.hid hi
  clear h c0 c1 c2 c4 ho hbal HB0 hok ht hi
  go_enter_defers Try.func16, Try.ntmps16
  go_wp2_with fail
  refine HG.out.mono ?_
  rintro r w3 ⟨rfl, hk⟩
  have hvb := hk.at (heap_alloc_last w (.cells (Vd.cells ⟨bal, st, sl, rq, ex, wd, dl⟩) 29)) (fun h => h)
  have c3 := (((Mods.refl (fun _ => False) w).alloc (.cells (Vd.cells ⟨bal, st, sl, rq, ex, wd, dl⟩) 29)).keep hk).cell c3 (fun h => h)
  have HK := Lib.hid (((Mods.refl (fun _ => False) w).alloc (.cells (Vd.cells ⟨bal, st, sl, rq, ex, wd, dl⟩) 29)).keep hk)
  have v0 : w3.cell? ⟨w.heap.size, 0, none⟩ = some (.int .u64 bal) := block_cell hvb 0 rfl
  have hg3 := cell_lt c3
  have hv3 := cell_lt v0
  clear hk hvb
  go_wp2
  go_quiet (fail)
  go_wp2
  exact ⟨_, results_tmp rfl _ _ _, rfl, (HK.out.alloc _).drewN _⟩
set_option maxHeartbeats 400000 in
theorem regSet_any {B : Nat} {w : World} {g m : Nat} {lv : Value} {cap : Int} {l : List Vd} {n : Nat} (h : RegAt B w g m lv cap l n) (v : Vd) (hv : v.ok) (i : Nat) (hi : i < l.length) (ho : totS (l.set i v) ≤ maxU) (hn : n + 1 < 4294967296) :
    Calls Try.prog 16 #[.pointer (some ⟨g, 0, none⟩), .int .i64 (i : Int), v.val] w fun r w' => r = .returned (.int .i64 0) ∧ RegAt B w' g m lv cap (l.set i v) (n + 2) ∧ Mods (RegS g m lv) w w' := by
  have hbal := bal_le h.ok hi
  have hok := h.ok l[i] (List.getElem_mem hi)
  have HB0 := hok.b0
  have HG := Lib.hid (regGet_any (h.keeps ((Mods.refl _ w).alloc (.cells v.cells 29))) i hi)
  obtain ⟨c0, c1, c2, c3, c4⟩ := reg_cells h.blk
  have HO := Lib.hid ho
  have hV0 := hv.b0
  have hV1 := hv.b1
  rw [totS_set hi] at ho
  have ht := h.tot
  have hq : l[i]? = some l[i] := List.getElem?_eq_getElem hi
  generalize l[i] = o at *
  have HL := Lib.hid hq
  obtain ⟨bal, st, sl, rq, ex, wd, dl⟩ := v
  obtain ⟨bal', st', sl', rq', ex', wd', dl'⟩ := o
  simp only at hbal HB0 ho hV0 hV1
  generalize hT : totS l = T at *
  have HT := Lib.hid hT
  have w1 : IntKind.u64.wrap (T - bal') = T - bal' := u64_id (by omega) (by omega)
  have w2 : IntKind.u64.wrap (18446744073709551615 - (T - bal')) = 18446744073709551615 - (T - bal') := u64_id (by unfold maxU at ht; omega) (by unfold maxU; omega)
  have hlt := cell_lt c3
  have hgt : ¬ 18446744073709551615 - (T - bal') < bal := by unfold maxU at ho; omega
  have HI := Lib.hid hi
  have H := Lib.hid h
  have HV := Lib.hid hv
  have HOK := Lib.hid hok
  have HN := Lib.hid hn
  clear h c0 c1 c2 c4 ho hbal HB0 hok ht hi hq hT hv hV0 hV1 hn
  go_enter_defers Try.func16, Try.ntmps16
  go_wp2_with fail
  refine HG.out.mono ?_
  rintro r w3 ⟨rfl, hk⟩
  have hvb := hk.at (heap_alloc_last w (.cells (Vd.cells ⟨bal, st, sl, rq, ex, wd, dl⟩) 29)) (fun h => h)
  have c3 := (((Mods.refl (fun _ => False) w).alloc (.cells (Vd.cells ⟨bal, st, sl, rq, ex, wd, dl⟩) 29)).keep hk).cell c3 (fun h => h)
  have HK := Lib.hid (((Mods.refl (fun _ => False) w).alloc (.cells (Vd.cells ⟨bal, st, sl, rq, ex, wd, dl⟩) 29)).keep hk)
  have v0 : w3.cell? ⟨w.heap.size, 0, none⟩ = some (.int .u64 bal) := block_cell hvb 0 rfl
  have hg3 := cell_lt c3
  have hv3 := cell_lt v0
  have HVB := Lib.hid hvb
  clear hk hvb
  go_wp2
  go_quiet (fail)
  obtain ⟨wy, hwy⟩ : ∃ wy, wy = (w3.alloc (Obj.cells (Vd.cells ⟨bal', st', sl', rq', ex', wd', dl'⟩) 29)).drewN nq := ⟨_, rfl⟩
  have hY : Keeps w3 wy := hwy ▸ ((Mods.refl _ w3).alloc _).drewN _
  have hob := ((Mods.refl (fun _ => False) (w3.alloc (Obj.cells (Vd.cells ⟨bal', st', sl', rq', ex', wd', dl'⟩) 29))).drewN nq).at (heap_alloc_last w3 _) (fun h => h)
  rw [← hwy] at hob ⊢
  clear hwy v0 c3
  have hvy := hY.at HVB.out (fun h => h)
  have HKY := Lib.hid (HK.out.keep hY)
  have u0 : wy.cell? ⟨w.heap.size, 0, none⟩ = some (.int .u64 bal) := block_cell hvy 0 rfl
  have u1 : wy.cell? ⟨w.heap.size, 1, none⟩ = some (.int .i64 st) := block_cell hvy 1 rfl
  have u2 : wy.cell? ⟨w.heap.size, 2, none⟩ = some (.bool sl) := block_cell hvy 2 rfl
  have u3 : wy.cell? ⟨w.heap.size, 3, none⟩ = some (.int .i64 rq) := block_cell hvy 3 rfl
  have u4 : wy.cell? ⟨w.heap.size, 4, none⟩ = some (.int .i64 ex) := block_cell hvy 4 rfl
  have u5 : wy.cell? ⟨w.heap.size, 5, none⟩ = some (.int .i64 wd) := block_cell hvy 5 rfl
  have u6 : wy.cell? ⟨w.heap.size, 6, none⟩ = some (.int .i64 dl) := block_cell hvy 6 rfl
  have o0 : wy.cell? ⟨w3.heap.size, 0, none⟩ = some (.int .u64 bal') := block_cell hob 0 rfl
  have o1 : wy.cell? ⟨w3.heap.size, 1, none⟩ = some (.int .i64 st') := block_cell hob 1 rfl
  have o2 : wy.cell? ⟨w3.heap.size, 2, none⟩ = some (.bool sl') := block_cell hob 2 rfl
  have o3 : wy.cell? ⟨w3.heap.size, 3, none⟩ = some (.int .i64 rq') := block_cell hob 3 rfl
  have o4 : wy.cell? ⟨w3.heap.size, 4, none⟩ = some (.int .i64 ex') := block_cell hob 4 rfl
  have o5 : wy.cell? ⟨w3.heap.size, 5, none⟩ = some (.int .i64 wd') := block_cell hob 5 rfl
  have o6 : wy.cell? ⟨w3.heap.size, 6, none⟩ = some (.int .i64 dl') := block_cell hob 6 rfl
  clear hob hvy hY HVB
  go_wp2_with ((with_reducible refine at_list ?_); refine wpList_eqV rfl (.tmp 30) (.tmp 31) _ rfl ⟨bal, st, sl, rq, ex, wd, dl⟩ ⟨bal', st', sl', rq', ex', wd', dl'⟩ rfl rfl ?_; refine Parked.out ?_)
  have hE := eqVd_iff ⟨bal, st, sl, rq, ex, wd, dl⟩ ⟨bal', st', sl', rq', ex', wd', dl'⟩
  generalize eqVd ⟨bal, st, sl, rq, ex, wd, dl⟩ ⟨bal', st', sl', rq', ex', wd', dl'⟩ = eb at *
  have HE := Lib.hid hE
  clear hE
  refine Parked.mk ?_
  cases eb
  · go_wp2_with fail
    have HYR := Lib.hid (H.out.keeps HKY.out)
    refine (countF_any g m n cap (actS l) T lv (cntS l) ⟨bal', st', sl', rq', ex', wd', dl'⟩ wy (HT.out ▸ HYR.out.blk) HYR.out.map HYR.out.gm (by have := HN.out; omega) HOK.out).mono ?_
    rintro r w4 ⟨rfl, hb4, hm4, hmd4⟩
    have hb4 := Lib.hid hb4
    have hm4 := Lib.hid hm4
    have HM4 := Lib.hid hmd4
    have nb : ¬ Two g m w.heap.size := by
      have := heap_lt H.out.blk
      have := H.out.map.lt
      rintro (h | h) <;> omega
    obtain ⟨v0, v1, v2, v3, v4, v5, v6⟩ := cells7_keep u0 u1 u2 u3 u4 u5 u6 hmd4 nb
    clear u0 u1 u2 u3 u4 u5 u6 o0 o1 o2 o3 o4 o5 o6
    obtain ⟨x0, x1, x2, x3, x4⟩ := reg_cells hb4.out
    have hrow := hmd4.owns HYR.out.row (fun k hk e => by rcases e with e | e; exact HYR.out.og (e ▸ hk); exact HYR.out.om (e ▸ hk))
    have HROW := Lib.hid hrow
    obtain ⟨a, c, rfl⟩ := owns_slice' hrow
    obtain ⟨b, rfl, hBb, hrc⟩ := row_at hrow i HI.out
    have hil : (i : Int) < (l.length : Int) := by have := HI.out; omega
    have ol : l[i]'HI.out = ⟨bal', st', sl', rq', ex', wd', dl'⟩ := by
      obtain ⟨_, h⟩ := List.getElem?_eq_some_iff.1 HL.out
      exact h
    rw [ol] at hrc
    obtain ⟨r0, z0⟩ := hrc 0 (by omega)
    obtain ⟨r1, z1⟩ := hrc 1 (by omega)
    obtain ⟨r2, z2⟩ := hrc 2 (by omega)
    obtain ⟨r3, z3⟩ := hrc 3 (by omega)
    obtain ⟨r4, z4⟩ := hrc 4 (by omega)
    obtain ⟨r5, z5⟩ := hrc 5 (by omega)
    obtain ⟨r6, z6⟩ := hrc 6 (by omega)
    rw [Nat.add_zero] at r0 z0
    clear hrc hmd4 hrow
    go_wp2_with fail
    refine wp_region_noPanic ?_
    go_region
    all_goals
      refine NoPanic.normal ?_
      go_wp2
      refine leaves_cons (f := 27) (args := #[.pointer (some ⟨g, 0, none⟩), Vd.val ⟨bal, st, sl, rq, ex, wd, dl⟩, .bool true]) (by simp) (by simp [go_sem]) ?_
      have hbb : b ≠ g ∧ b ≠ m := ⟨fun e => HYR.out.og (by rw [← e]; rfl), fun e => HYR.out.om (by rw [← e]; rfl)⟩
      have hpm := (putV_mods w4 b i ⟨bal, st, sl, rq, ex, wd, dl⟩).drew
      refine (countD_any g m (n + 1) cap _ _ _ _ ⟨bal, st, sl, rq, ex, wd, dl⟩ _ (putV w4 b i ⟨bal, st, sl, rq, ex, wd, dl⟩).drew (hpm.at hb4.out (fun e => hbb.1 e.symm)) (hm4.out.mods hpm (fun e => hbb.2 e.symm)) HYR.out.gm (by have := HN.out; omega) HV.out).mono ?_
      rintro e u' w6 ⟨rfl, rfl, hb6, hi6, hm6⟩
      exact ⟨_, results_tmp rfl _ _ _, rfl, set_end HYR.out HV.out HO.out HKY.out HI.out HL.out HM4.out (by rw [HT.out]; exact hb6) hi6 hm6⟩
  · have ev := HE.out.1 rfl
    simp only [Vd.mk.injEq] at ev
    obtain ⟨rfl, rfl, rfl, rfl, rfl, rfl, rfl⟩ := ev
    go_wp2
    refine ⟨_, results_tmp rfl _ _ _, rfl, ?_, HKY.out.weaken fun _ _ h => h.elim⟩
    rw [set_self HL.out]
    exact (H.out.keeps HKY.out).mono (by omega)
end Go.Proofs.Ythngncklmkneoaa
