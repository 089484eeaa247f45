/- The registry: validators as data; a map of integers; the contract of count, called and deferred. -/
import Derived.Test.YthngncklmkneoaaLedA
import Derived.Defers
import Derived.Maps.OwnOps
import Derived.Maps.Ext
namespace Go.Eg
open Go Go.RowKit Go.Maps
/-- a validator -/
structure Vd where
  bal : Int
  st : Int
  sl : Bool
  rq : Int
  ex : Int
  wd : Int
  dl : Int
@[reducible] def Vd.cells (v : Vd) : Array Value := #[.int .u64 v.bal, .int .i64 v.st, .bool v.sl, .int .i64 v.rq, .int .i64 v.ex, .int .i64 v.wd, .int .i64 v.dl]
@[reducible] def Vd.val (v : Vd) : Value := .agg v.cells
structure Vd.ok (v : Vd) : Prop where
  b0 : 0 ≤ v.bal
  b1 : v.bal ≤ maxU
  st : (Lit.int .i64 v.st).wf = true
def Vd.live (v : Vd) : Bool := v.st == 2 || v.st == 3
/-- the sums -/
def totS : List Vd → Int
  | [] => 0
  | v :: r => v.bal + totS r
def actS : List Vd → Int
  | [] => 0
  | v :: r => (if v.live = true then v.bal else 0) + actS r
def cntS (l : List Vd) (x : Int) : Int := ((l.filter fun v => v.st == x).length : Int)
/-- block b is a map of integers that gives f; at most n stores were made -/
def IMap (P : Program) (k e : TypeId) (w : World) (b n : Nat) (f : Int → Int) : Prop :=
  ∃ D : DataW Unit, w.ownsMap P k (plainElem P e) b n D ∧ ∀ x, (Lit.int .i64 x).wf = true → D.atKey (.int .i64 x) (.lit (.int .i64 0)) = .lit (.int .i64 (f x))
section
variable {P : Program} {k e t : TypeId} {w : World} {b n : Nat} {f : Int → Int}
theorem IMap.lt (h : IMap P k e w b n f) : b < w.heap.size := by
  obtain ⟨D, hD, _⟩ := h
  exact hD.lt
theorem IMap.mods {S : Nat → Prop} {w' : World} (h : IMap P k e w b n f) (hm : Mods S w w') (hS : ¬ S b) : IMap P k e w' b n f := by
  have hl := h.lt
  obtain ⟨D, ⟨es, clock, hb, r⟩, hD⟩ := h
  exact ⟨D, ⟨es, clock, hm.at hb hS, r⟩, hD⟩
theorem IMap.mono {n' : Nat} (h : IMap P k e w b n f) (hn : n ≤ n') : IMap P k e w b n' f := by
  obtain ⟨D, hD, hx⟩ := h
  exact ⟨D, hD.mono hn, hx⟩
theorem IMap.made (w : World) (P : Program) (k e : TypeId) : IMap P k e (w.alloc (.map #[] 0)) w.heap.size 0 (fun _ => 0) :=
  ⟨.map [], World.ownsMap_made _ _ _ _, fun _ _ => rfl⟩
theorem IMap.look (h : IMap P k e w b n f) (ht : P.underlying t = some (.map k e)) (hk : P.underlying k = some (.int .i64)) (he : P.underlying e = some (.int .i64)) (hz : (zeroValue e).run P w = .ok (.int .i64 0) w) {x : Int} (hx : (Lit.int .i64 x).wf = true) :
    (Instr.lookup t (.map (some b)) (.int .i64 x) false).run P w = .ok (.int .i64 (f x)) w := by
  obtain ⟨D, hD, hf⟩ := h
  obtain ⟨c, hr, hat, _⟩ := hD.lookup_int (int_keyed hk) ht he hz (keyOf_int_mk hk hx)
  rw [hf x hx] at hat
  simp at hat
  rw [hat]
  exact hr
theorem IMap.put (h : IMap P k e w b n f) (ht : P.underlying t = some (.map k e)) (hk : P.underlying k = some (.int .i64)) (he : P.underlying e = some (.int .i64)) (hn : n < 4294967296) {x v : Int} (hx : (Lit.int .i64 x).wf = true) (hv : (Lit.int .i64 v).wf = true) :
    ∃ w', (Instr.mapUpdate t (.map (some b)) (.int .i64 x) (.int .i64 v)).run P w = .ok () w' ∧ IMap P k e w' b (n + 1) (fun y => if y = x then v else f y) ∧ Mods (· = b) w w' := by
  obtain ⟨D, hD, hf⟩ := h
  obtain ⟨w', hr, hD', hg⟩ := hD.update (int_keyed hk) ht (by unfold maxLen; omega) (keyOf_int_mk hk hx) (plainElem_int he hv)
  refine ⟨w', hr, ⟨_, hD', fun y hy => ?_⟩, (Mods.refl _ w).grown hg (fun j _ e => by simpa using e.symm)⟩
  by_cases e : y = x
  · subst e
    simp only [if_true]
    exact atKey_put_same hD.isMap (show WideAt.IsKeyLit (.int .i64 y) from trivial) _ _
  · simp only [if_neg e]
    rw [← hf y hy]
    exact atKey_put_other (fun h => e (by simpa using h)) _ _
end
end Go.Eg
namespace Go.Proofs.Ythngncklmkneoaa
open Go.RowKit Go.Eg
abbrev IM (w : World) (b n : Nat) (f : Int → Int) : Prop := IMap Try.prog 3 3 w b n f
theorem zeroInt (w : World) : (zeroValue 3).run Try.prog w = .ok (.int .i64 0) w := by kernel_rfl
abbrev regB (cap : Int) (lv : Value) (act tot : Int) (m : Nat) : Obj := .cells #[.int .i64 cap, lv, .int .u64 act, .int .u64 tot, .map (some m)] 56 (0, 0)
theorem live_any (s : Int) (w : World) :
    Calls Try.prog 33 #[.int .i64 s] w fun r w' => r = .returned (.bool (s == 2 || s == 3)) ∧ w = w' := by
  go_enter Try.func33, Try.ntmps33
  go_wp2
  all_goals
    go_ret
    refine ⟨ret_bool ?_, rfl⟩
    simp_all
theorem reg_cells {w : World} {g : Nat} {cap : Int} {lv : Value} {act tot : Int} {m : Nat} (h : w.heap[g]? = some (regB cap lv act tot m)) : w.cell? ⟨g, 0, none⟩ = some (.int .i64 cap) ∧ w.cell? ⟨g, 1, none⟩ = some lv ∧ w.cell? ⟨g, 2, none⟩ = some (.int .u64 act) ∧ w.cell? ⟨g, 3, none⟩ = some (.int .u64 tot) ∧ w.cell? ⟨g, 4, none⟩ = some (.map (some m)) :=
  ⟨by simp [World.cell?, h], by simp [World.cell?, h], by simp [World.cell?, h], by simp [World.cell?, h], by simp [World.cell?, h]⟩
theorem reg_free {w : World} {g : Nat} {cap : Int} {lv : Value} {act tot : Int} {m : Nat} (h : w.heap[g]? = some (regB cap lv act tot m)) (j : Nat) : w.frozen? ⟨g, j, none⟩ = false := by simp [World.frozen?, h]
theorem size_setCell' (w : World) (a : Addr) (v : Value) : (w.setCell a v).heap.size = w.heap.size := by simp [World.setCell]
def Two (g q : Nat) (i : Nat) : Prop := i = g ∨ i = q
theorem count_draw {w : World} {m n : Nat} {f : Int → Int} (h : IM w m n f) (hn : n < 4294967296) {x : Int} (hx : (Lit.int .i64 x).wf = true) (d : Int) :
    (Instr.lookup 54 (.map (some m)) (.int .i64 x) false).run Try.prog w.drew = .ok (.int .i64 (f x)) w.drew ∧
    ∃ w', (Instr.mapUpdate 54 (.map (some m)) (.int .i64 x) (.int .i64 (wrap64 (f x + d)))).run Try.prog w.drew = .ok () w' ∧ IM w' m (n + 1) (fun y => if y = x then wrap64 (f x + d) else f y) ∧ Mods (· = m) w w' := by
  have h1 : IM w.drew m n f := h.mods (S := fun _ => False) ((Mods.refl _ w).drew) (fun h => h)
  obtain ⟨w', hr, hm, hmd⟩ := h1.put Try.underlying54 Try.underlying3 Try.underlying3 hn hx (wrap64_wf (f x + d))
  exact ⟨h1.look Try.underlying54 Try.underlying3 Try.underlying3 (zeroInt _) hx, w', hr, hm, ((Mods.refl _ w).drew).trans hmd⟩
set_option maxHeartbeats 400000 in
theorem countD_any (g m n : Nat) (cap act tot : Int) (lv : Value) (f : Int → Int) (v : Vd) (u : FrameMode) (w : World) (hb : w.heap[g]? = some (regB cap lv act tot m)) (hm : IM w m n f) (hgm : g ≠ m) (hn : n < 4294967296) (hv : v.ok) :
    CallsD Try.prog 27 #[.pointer (some ⟨g, 0, none⟩), v.val, .bool true] u w fun r u' w' => u' = u ∧ (r = .returned (.tuple #[]) ∧
      w'.heap[g]? = some (regB cap lv (if v.live = true then IntKind.u64.wrap (act + v.bal) else act) (IntKind.u64.wrap (tot + v.bal)) m) ∧ IM w' m (n + 1) (fun y => if y = v.st then wrap64 (f v.st + 1) else f y) ∧ Mods (Two g m) w w') := by
  obtain ⟨c0, c1, c2, c3, c4⟩ := reg_cells hb
  have f2 := reg_free hb 2
  have f3 := reg_free hb 3
  have hg := heap_lt hb
  have HB := Lib.hid hb
  have HM := Lib.hid hm
  have HV := Lib.hid hv
  have HN := Lib.hid hn
  clear hb hm hv hn
  obtain ⟨bal, st, sl, rq, ex, wd, dl⟩ := v
  have hlive : (st == 2 || st == 3) = Vd.live ⟨bal, st, sl, rq, ex, wd, dl⟩ := rfl
  generalize Vd.live ⟨bal, st, sl, rq, ex, wd, dl⟩ = lb at *
  have HL := Lib.hid hlive
  clear hlive
  simp only
  go_enter_d Try.func27, Try.ntmps27
  go_wp2_with fail
  refine (live_any st _).mono ?_
  rw [HL.out]
  rintro r w1 ⟨rfl, rfl⟩
  cases lb
  · go_wp2_with fail
    obtain ⟨wx, hwx⟩ : ∃ wx, wx = (w.setCell ⟨g, 3, none⟩ (.int .u64 (IntKind.u64.wrap (tot + bal)))).alloc (.cells (Vd.cells ⟨bal, st, sl, rq, ex, wd, dl⟩) 29) := ⟨_, rfl⟩
    rw [← hwx]
    have hbx : wx.heap[g]? = some (regB cap lv act (IntKind.u64.wrap (tot + bal)) m) := by
      rw [hwx]
      exact heap_keep (heap_setCell_same w g 3 _ _ _ HB.out) _
    have hmx : Mods (· = g) w wx := by
      rw [hwx]
      exact ((Mods.refl (fun x => x = g) w).setCell _ _ (fun _ => rfl)).alloc _
    have hvx : wx.cell? ⟨w.heap.size, 1, none⟩ = some (.int .i64 st) := by
      rw [hwx]
      have := heap_alloc_last (w.setCell ⟨g, 3, none⟩ (.int .u64 (IntKind.u64.wrap (tot + bal)))) (.cells (Vd.cells ⟨bal, st, sl, rq, ex, wd, dl⟩) 29)
      simp only [size_setCell'] at this
      unfold World.cell?
      rw [this]
      rfl
    obtain ⟨_, _, _, _, x4⟩ := reg_cells hbx
    have HBX := Lib.hid hbx
    have HMX := Lib.hid hmx
    have hD := count_draw (HM.out.mods hmx (fun e => hgm e.symm)) HN.out HV.out.st 1
    obtain ⟨hl, w2, hu, hm2, hmd⟩ := hD
    have HM2 := Lib.hid hm2
    have HMD := Lib.hid hmd
    clear hwx hbx hmx hm2 hmd
    go_region
    all_goals
      go_wp2
      go_end0
      exact ⟨rfl, HMD.out.at HBX.out hgm, HM2.out, (HMX.out.weaken fun _ _ h => .inl h).seq HMD.out fun _ _ h => .inr h⟩
  · go_wp2_with fail
    obtain ⟨wx, hwx⟩ : ∃ wx, wx = ((w.setCell ⟨g, 3, none⟩ (.int .u64 (IntKind.u64.wrap (tot + bal)))).setCell ⟨g, 2, none⟩ (.int .u64 (IntKind.u64.wrap (act + bal)))).alloc (.cells (Vd.cells ⟨bal, st, sl, rq, ex, wd, dl⟩) 29) := ⟨_, rfl⟩
    rw [← hwx]
    have hbx : wx.heap[g]? = some (regB cap lv (IntKind.u64.wrap (act + bal)) (IntKind.u64.wrap (tot + bal)) m) := by
      rw [hwx]
      exact heap_keep (heap_setCell_same _ g 2 _ _ _ (heap_setCell_same w g 3 _ _ _ HB.out)) _
    have hmx : Mods (· = g) w wx := by
      rw [hwx]
      exact (((Mods.refl (fun x => x = g) w).setCell _ _ (fun _ => rfl)).setCell _ _ (fun _ => rfl)).alloc _
    have hvx : wx.cell? ⟨w.heap.size, 1, none⟩ = some (.int .i64 st) := by
      rw [hwx]
      have := heap_alloc_last ((w.setCell ⟨g, 3, none⟩ (.int .u64 (IntKind.u64.wrap (tot + bal)))).setCell ⟨g, 2, none⟩ (.int .u64 (IntKind.u64.wrap (act + bal)))) (.cells (Vd.cells ⟨bal, st, sl, rq, ex, wd, dl⟩) 29)
      simp only [size_setCell'] at this
      unfold World.cell?
      rw [this]
      rfl
    obtain ⟨_, _, _, _, x4⟩ := reg_cells hbx
    have HBX := Lib.hid hbx
    have HMX := Lib.hid hmx
    have hD := count_draw (HM.out.mods hmx (fun e => hgm e.symm)) HN.out HV.out.st 1
    obtain ⟨hl, w2, hu, hm2, hmd⟩ := hD
    have HM2 := Lib.hid hm2
    have HMD := Lib.hid hmd
    clear hwx hbx hmx hm2 hmd
    go_region
    all_goals
      go_wp2
      go_end0
      exact ⟨rfl, HMD.out.at HBX.out hgm, HM2.out, (HMX.out.weaken fun _ _ h => .inl h).seq HMD.out fun _ _ h => .inr h⟩
set_option maxHeartbeats 400000 in
theorem countF_any (g m n : Nat) (cap act tot : Int) (lv : Value) (f : Int → Int) (v : Vd) (w : World) (hb : w.heap[g]? = some (regB cap lv act tot m)) (hm : IM w m n f) (hgm : g ≠ m) (hn : n < 4294967296) (hv : v.ok) :
    Calls Try.prog 27 #[.pointer (some ⟨g, 0, none⟩), v.val, .bool false] w fun r w' => r = .returned (.tuple #[]) ∧
      w'.heap[g]? = some (regB cap lv (if v.live = true then IntKind.u64.wrap (act + IntKind.u64.wrap (-v.bal)) else act) (IntKind.u64.wrap (tot + IntKind.u64.wrap (-v.bal))) m) ∧ IM w' m (n + 1) (fun y => if y = v.st then wrap64 (f v.st + -1) else f y) ∧ Mods (Two g m) w w' := by
  obtain ⟨c0, c1, c2, c3, c4⟩ := reg_cells hb
  have f2 := reg_free hb 2
  have f3 := reg_free hb 3
  have hg := heap_lt hb
  have HB := Lib.hid hb
  have HM := Lib.hid hm
  have HV := Lib.hid hv
  have HN := Lib.hid hn
  clear hb hm hv hn
  obtain ⟨bal, st, sl, rq, ex, wd, dl⟩ := v
  have hlive : (st == 2 || st == 3) = Vd.live ⟨bal, st, sl, rq, ex, wd, dl⟩ := rfl
  generalize Vd.live ⟨bal, st, sl, rq, ex, wd, dl⟩ = lb at *
  have HL := Lib.hid hlive
  clear hlive
  simp only
  go_enter Try.func27, Try.ntmps27
  go_wp2_with fail
  refine (live_any st _).mono ?_
  rw [HL.out]
  rintro r w1 ⟨rfl, rfl⟩
  cases lb
  · go_wp2_with fail
    obtain ⟨wx, hwx⟩ : ∃ wx, wx = (w.setCell ⟨g, 3, none⟩ (.int .u64 (IntKind.u64.wrap (tot + IntKind.u64.wrap (-bal))))).alloc (.cells (Vd.cells ⟨bal, st, sl, rq, ex, wd, dl⟩) 29) := ⟨_, rfl⟩
    rw [← hwx]
    have hbx : wx.heap[g]? = some (regB cap lv act (IntKind.u64.wrap (tot + IntKind.u64.wrap (-bal))) m) := by
      rw [hwx]
      exact heap_keep (heap_setCell_same w g 3 _ _ _ HB.out) _
    have hmx : Mods (· = g) w wx := by
      rw [hwx]
      exact ((Mods.refl (fun x => x = g) w).setCell _ _ (fun _ => rfl)).alloc _
    have hvx : wx.cell? ⟨w.heap.size, 1, none⟩ = some (.int .i64 st) := by
      rw [hwx]
      have := heap_alloc_last (w.setCell ⟨g, 3, none⟩ (.int .u64 (IntKind.u64.wrap (tot + IntKind.u64.wrap (-bal))))) (.cells (Vd.cells ⟨bal, st, sl, rq, ex, wd, dl⟩) 29)
      simp only [size_setCell'] at this
      unfold World.cell?
      rw [this]
      rfl
    obtain ⟨_, _, _, _, x4⟩ := reg_cells hbx
    have HBX := Lib.hid hbx
    have HMX := Lib.hid hmx
    have hD := count_draw (HM.out.mods hmx (fun e => hgm e.symm)) HN.out HV.out.st (-1)
    obtain ⟨hl, w2, hu, hm2, hmd⟩ := hD
    have HM2 := Lib.hid hm2
    have HMD := Lib.hid hmd
    clear hwx hbx hmx hm2 hmd
    go_region
    all_goals
      go_wp2
      go_end0
      exact ⟨rfl, HMD.out.at HBX.out hgm, HM2.out, (HMX.out.weaken fun _ _ h => .inl h).seq HMD.out fun _ _ h => .inr h⟩
  · go_wp2_with fail
    obtain ⟨wx, hwx⟩ : ∃ wx, wx = ((w.setCell ⟨g, 3, none⟩ (.int .u64 (IntKind.u64.wrap (tot + IntKind.u64.wrap (-bal))))).setCell ⟨g, 2, none⟩ (.int .u64 (IntKind.u64.wrap (act + IntKind.u64.wrap (-bal))))).alloc (.cells (Vd.cells ⟨bal, st, sl, rq, ex, wd, dl⟩) 29) := ⟨_, rfl⟩
    rw [← hwx]
    have hbx : wx.heap[g]? = some (regB cap lv (IntKind.u64.wrap (act + IntKind.u64.wrap (-bal))) (IntKind.u64.wrap (tot + IntKind.u64.wrap (-bal))) m) := by
      rw [hwx]
      exact heap_keep (heap_setCell_same _ g 2 _ _ _ (heap_setCell_same w g 3 _ _ _ HB.out)) _
    have hmx : Mods (· = g) w wx := by
      rw [hwx]
      exact (((Mods.refl (fun x => x = g) w).setCell _ _ (fun _ => rfl)).setCell _ _ (fun _ => rfl)).alloc _
    have hvx : wx.cell? ⟨w.heap.size, 1, none⟩ = some (.int .i64 st) := by
      rw [hwx]
      have := heap_alloc_last ((w.setCell ⟨g, 3, none⟩ (.int .u64 (IntKind.u64.wrap (tot + IntKind.u64.wrap (-bal))))).setCell ⟨g, 2, none⟩ (.int .u64 (IntKind.u64.wrap (act + IntKind.u64.wrap (-bal))))) (.cells (Vd.cells ⟨bal, st, sl, rq, ex, wd, dl⟩) 29)
      simp only [size_setCell'] at this
      unfold World.cell?
      rw [this]
      rfl
    obtain ⟨_, _, _, _, x4⟩ := reg_cells hbx
    have HBX := Lib.hid hbx
    have HMX := Lib.hid hmx
    have hD := count_draw (HM.out.mods hmx (fun e => hgm e.symm)) HN.out HV.out.st (-1)
    obtain ⟨hl, w2, hu, hm2, hmd⟩ := hD
    have HM2 := Lib.hid hm2
    have HMD := Lib.hid hmd
    clear hwx hbx hmx hm2 hmd
    go_region
    all_goals
      go_wp2
      go_end0
      exact ⟨rfl, HMD.out.at HBX.out hgm, HM2.out, (HMX.out.weaken fun _ _ h => .inl h).seq HMD.out fun _ _ h => .inr h⟩
end Go.Proofs.Ythngncklmkneoaa
