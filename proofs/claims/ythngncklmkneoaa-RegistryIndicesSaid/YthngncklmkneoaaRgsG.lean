/- The registry: the example of the chapter; one operation beside the reference. -/
import Derived.Test.YthngncklmkneoaaRgsF
namespace Go.Proofs.Ythngncklmkneoaa
open Go.RowKit Go.Eg
theorem vd_ok {v : Vd} (h0 : 0 ≤ v.bal) (h1 : v.bal ≤ 1000) (h2 : (Lit.int .i64 v.st).wf = true) : v.ok := ⟨h0, by unfold maxU; omega, h2⟩
theorem regAdd_law {B : Nat} {w w0 : World} {g m : Nat} {lv : Value} {cap : Int} {l : List Vd} {n : Nat} (h : RegAt B w g m lv cap l n) (hB : ∀ k, RegS g m lv k → w0.heap.size ≤ k) (hk : Keeps w0 w) (v : Vd) (hv : v.ok) (hc : (l.length : Int) ≠ cap) (ho : totS l + v.bal ≤ maxU) (hn : n < 4294967296) :
    Calls Try.prog 15 #[.pointer (some ⟨g, 0, none⟩), v.val] w fun r w' => r = .returned (.tuple #[.int .i64 l.length, .int .i64 0]) ∧ ∃ lv', RegAt B w' g m lv' cap (l ++ [v]) (n + 1) ∧ (∀ k, RegS g m lv' k → w0.heap.size ≤ k) ∧ Keeps w0 w' := by
  refine (regAdd_any h v hv hc ho hn).mono ?_
  rintro r w' ⟨rfl, lv', hr, hm, hb⟩
  refine ⟨rfl, lv', hr, ?_, hk.seq hm fun i hi hs => by have := hB i hs; omega⟩
  intro k hs
  rcases hs with h | h | h
  · exact hB k (.inl h)
  · exact hB k (.inr (.inl h))
  · rcases hb k h with h | h
    · exact hB k (.inr (.inr h))
    · have := hk.size; omega
theorem alive_any (w : World) : Calls Try.prog 10 #[] w fun r w' => r = .returned (.bool true) ∧ Keeps w w' := by
  have v1 := Lib.hid (vd_ok (v := ⟨5, 2, false, 0, 0, 0, 0⟩) (by decide) (by decide) (by decide))
  have v2 := Lib.hid (vd_ok (v := ⟨7, 1, false, 0, 0, 0, 0⟩) (by decide) (by decide) (by decide))
  have x1 := Lib.hid (show totS [] + (5 : Int) ≤ maxU by unfold maxU totS; omega)
  have x2 := Lib.hid (show totS [⟨5, 2, false, 0, 0, 0, 0⟩] + (7 : Int) ≤ maxU by unfold maxU totS totS; simp)
  go_enter Try.func10, Try.ntmps10
  go_wp2_with fail
  refine (regNew_any 2 w (by omega) (by omega)).mono ?_
  rintro r w1 ⟨rfl, hr1, hk1⟩
  have hs1 : ∀ k, RegS (w.heap.size + 1) w.heap.size (.slice none 0 0) k → w.heap.size ≤ k := by
    rintro k (h | h | h)
    · omega
    · omega
    · cases h
  have HR1 := Lib.hid hr1
  have HK1 := Lib.hid hk1
  have HS1 := Lib.hid hs1
  clear hr1 hk1 hs1
  go_wp2_with fail
  refine (regAdd_law HR1.out HS1.out HK1.out ⟨5, 2, false, 0, 0, 0, 0⟩ v1.out (by simp) x1.out (by omega)).mono ?_
  rintro r w2 ⟨rfl, lv2, hr2, hs2, hk2⟩
  have HR2 := Lib.hid hr2
  have HK2 := Lib.hid hk2
  have HS2 := Lib.hid hs2
  clear hr2 hk2 hs2
  go_wp2_with fail
  refine (regAdd_law HR2.out HS2.out HK2.out ⟨7, 1, false, 0, 0, 0, 0⟩ v2.out (by simp) x2.out (by omega)).mono ?_
  rintro r w3 ⟨rfl, lv3, hr3, hs3, hk3⟩
  have HR3 := Lib.hid hr3
  have HK3 := Lib.hid hk3
  clear hr3 hk3 hs3
  go_wp2_with fail
  refine (regAdd_full HR3.out ⟨0, 0, false, 0, 0, 0, 0⟩ (by simp)).mono ?_
  rintro r w4 ⟨rfl, hk4⟩
  have HR4 := Lib.hid (HR3.out.keeps hk4)
  have HK4 := Lib.hid (HK3.out.keep hk4)
  clear hk4
  go_wp2_with fail
  refine (regActive_any HR4.out).mono ?_
  rintro r w5 ⟨rfl, rfl⟩
  rw [show actS ([] ++ [⟨5, 2, false, 0, 0, 0, 0⟩] ++ [⟨7, 1, false, 0, 0, 0, 0⟩]) = 5 from by decide]
  go_wp2_with fail
  refine (regTotal_any HR4.out).mono ?_
  rintro r w5 ⟨rfl, rfl⟩
  rw [show totS ([] ++ [⟨5, 2, false, 0, 0, 0, 0⟩] ++ [⟨7, 1, false, 0, 0, 0, 0⟩]) = 12 from by decide]
  go_wp2_with fail
  refine (regCount_any HR4.out 1 (by decide)).mono ?_
  rintro r w5 ⟨rfl, rfl⟩
  rw [show cntS ([] ++ [⟨5, 2, false, 0, 0, 0, 0⟩] ++ [⟨7, 1, false, 0, 0, 0, 0⟩]) 1 = 1 from by decide]
  go_wp2_with fail
  refine (regLen_any HR4.out).mono ?_
  rintro r w5 ⟨rfl, rfl⟩
  go_wp2
  go_ret
  exact ⟨rfl, HK4.out⟩
theorem wp_appendAll {o : Oper} {a : Act} {K : Act → World → Prop} {Q : Exit → Act → World → Prop} (w : World) (s x : Operand)
    (ho : o.op = .call { callee := .builtin .append, args := #[s, x], argTypes := #[26, 26] })
    (B : Nat) (v : Value) (l0 l : List Vd) (hs : a.eval s = v) (hown : w.ownsRow B 29 7 v l0.length (flatV l0)) (u : Value) (hx : a.eval x = u) (hu : VL w u l) (hn : l0.length + l.length ≤ 8192) (hB : B ≤ w.heap.size)
    (h : ∀ v' w', w'.ownsRow B 29 7 v' (l0 ++ l).length (flatV (l0 ++ l)) → w.grownBy w' v.ownBlock → K (a.put o.dst v') w') : Oper.wp Try.prog o a w K Q := by
  obtain ⟨i0, hi, hz0, hz1, hz2⟩ := info_parts infoV
  have hU := hu
  obtain ⟨ad, cap, rfl, h0, hc⟩ := hu
  have hf : flatV (l0 ++ l) = flatV l0 ++ flatV l := by simp [flatV]
  cases ad with
  | none =>
    obtain rfl := h0 rfl
    have hl : l = [] := by
      by_cases e : 0 < l.length
      · obtain ⟨_, _, e, _⟩ := hc e
        cases e
      · exact List.length_eq_zero_iff.1 (by omega)
    subst hl
    have hrun := run_append_owned_none (P := Try.prog) (w := w) B 26 o.type 29 i0 7 Try.underlying26 hi v l0.length (flatV l0) hown
    unfold Oper.wp
    simp only [List.length_nil] at hx
    simp [execOp, ho, resolve, invoke, builtin, hs, hx, hrun, Result.andThen]
    exact h v w (by simpa using hown) ⟨rfl, rfl, rfl, Nat.le_refl _, fun _ _ _ => rfl⟩
  | some ad =>
    refine wp_append_own w s x _ ho B _ i0 _ 7 56 Try.underlying26 hi hz0 hz1 hz2 rfl (by decide) v l0.length (flatV l0) hs hown ad l.length cap (flatV l) hx (flatV_len l) ?_ (flatV_one l) (by unfold maxLen; omega) (by omega) hB ?_
    · by_cases e : 0 < l.length
      · obtain ⟨b, off, e, _⟩ := hc e
        simp only [Option.some.injEq] at e
        subst e
        exact hU.news
      · have : l = [] := List.length_eq_zero_iff.1 (by omega)
        subst this
        intro j u hu
        simp [flatV] at hu
    · intro v' w' ho' hg _
      refine h v' w' ?_ hg
      rw [hf, List.length_append]
      exact ho'
theorem step_appendAll {ops : Array Oper} {o : Oper} {a : Act} {K : Act → World → Prop} {Q : Exit → Act → World → Prop} {E : Prop} (w : World) (hgd : o.guard = none) (s x : Operand)
    (ho : o.op = .call { callee := .builtin .append, args := #[s, x], argTypes := #[26, 26] })
    (B : Nat) (v : Value) (l0 l : List Vd) (hs : a.eval s = v) (hown : w.ownsRow B 29 7 v l0.length (flatV l0)) (u : Value) (hx : a.eval x = u) (hu : VL w u l) (hn : l0.length + l.length ≤ 8192) (hB : B ≤ w.heap.size)
    (h : ∀ v' w', w'.ownsRow B 29 7 v' (l0 ++ l).length (flatV (l0 ++ l)) → w.grownBy w' v.ownBlock → K (a.put o.dst v') w') :
    if Region.wanted o (yielded ops a.tmps) = true then Oper.wp Try.prog o a w K Q else E := by
  have hw : Region.wanted o (yielded ops a.tmps) = true := by simp [Region.wanted, hgd]
  rw [if_pos hw]
  exact wp_appendAll w s x ho B v l0 l hs hown u hx hu hn hB h
theorem VL.one {W : World} {A : Nat} {t : TypeId} {fr : Nat × Nat} (v : Vd) (h : W.heap[A]? = some (.cells v.cells t fr)) : VL W (.slice (some ⟨A, 0, none⟩) 1 1) [v] := by
  refine ⟨_, 1, rfl, (fun h => by cases h), fun _ => ⟨A, 0, rfl, fun i hi j hj => ?_⟩⟩
  have h0 : i = 0 := by simpa using hi
  subst h0
  simp only [Nat.zero_mul, Nat.add_zero, Nat.zero_add, List.getElem_cons_zero]
  simp [World.cell?, h]
theorem ownsE {W : World} {A B : Nat} (h : W.heap[A]? = some (.cells #[] 29 (0, 0))) (hb : B ≤ A) : W.ownsRow B 29 7 (.slice (some ⟨A, 0, none⟩) 0 0) ([] : List Vd).length (flatV []) :=
  ⟨rfl, .inr ⟨A, 0, #[], rfl, hb, h, Nat.le_refl _, by unfold maxLen; omega, rfl, rfl⟩⟩
theorem c7_keep {w0 w' : World} {b : Nat} {x0 x1 x2 x3 x4 x5 x6 : Value} (u0 : w0.cell? ⟨b, 1, none⟩ = some x0) (u1 : w0.cell? ⟨b, 2, none⟩ = some x1) (u2 : w0.cell? ⟨b, 3, none⟩ = some x2) (u3 : w0.cell? ⟨b, 4, none⟩ = some x3)
    (u4 : w0.cell? ⟨b, 5, none⟩ = some x4) (u5 : w0.cell? ⟨b, 6, none⟩ = some x5) (u6 : w0.cell? ⟨b, 7, none⟩ = some x6) (hm : Keeps w0 w') :
    w'.cell? ⟨b, 1, none⟩ = some x0 ∧ w'.cell? ⟨b, 2, none⟩ = some x1 ∧ w'.cell? ⟨b, 3, none⟩ = some x2 ∧ w'.cell? ⟨b, 4, none⟩ = some x3 ∧ w'.cell? ⟨b, 5, none⟩ = some x4 ∧ w'.cell? ⟨b, 6, none⟩ = some x5 ∧ w'.cell? ⟨b, 7, none⟩ = some x6 :=
  ⟨hm.cell u0 fun h => h, hm.cell u1 fun h => h, hm.cell u2 fun h => h, hm.cell u3 fun h => h, hm.cell u4 fun h => h, hm.cell u5 fun h => h, hm.cell u6 fun h => h⟩
abbrev opCells (k : Int) (v : Vd) : Array Value := #[.int .i64 k, .int .u64 v.bal, .int .i64 v.st, .bool v.sl, .int .i64 v.rq, .int .i64 v.ex, .int .i64 v.wd, .int .i64 v.dl]
def stepL (cap : Int) (l : List Vd) (k : Int) (v : Vd) : List Vd :=
  if k < 0 then (if (l.length : Int) = cap then l else if totS (l ++ [v]) ≤ maxU then l ++ [v] else l)
  else if (l.length : Int) ≤ k then l else if totS (l.set k.toNat v) ≤ maxU then l.set k.toNat v else l
/-- a registry beside a list -/
structure Beside (B : Nat) (w0 w : World) (g m : Nat) (lv : Value) (u : Value) (cap : Int) (l : List Vd) (n : Nat) : Prop where
  reg : RegAt B w g m lv cap l n
  row : VL w u l
  own : ∀ k, RegS g m lv k → w0.heap.size ≤ k
  apart : ∀ k, u.ownBlock = some k → ¬ RegS g m lv k
  keeps : Keeps w0 w
/-- what do leaves -/
def DoPost (B : Nat) (w0 w' : World) (g m : Nat) (cap : Int) (l : List Vd) (n : Nat) (r : Ending) : Prop :=
  ∃ lv u, r = .returned (.tuple #[u, .bool true]) ∧ Beside B w0 w' g m lv u cap l n
set_option maxHeartbeats 400000 in
theorem do_full {B : Nat} {w0 w : World} {g m : Nat} {lv u : Value} {cap : Int} {l : List Vd} {n : Nat} (h : Beside B w0 w g m lv u cap l n) (k : Int) (v : Vd) (hk : k < 0) (hc : (l.length : Int) = cap) :
    Calls Try.prog 11 #[.pointer (some ⟨g, 0, none⟩), u, .int .i64 cap, .agg (opCells k v)] w fun r w' => DoPost B w0 w' g m cap l n r := by
  have H := Lib.hid h
  obtain ⟨a, c, rfl⟩ := h.row.slice
  subst hc
  clear h
  obtain ⟨bal, st, sl, rq, ex, wd, dl⟩ := v
  go_enter Try.func11, Try.ntmps11
  go_wp2_with fail
  refine (regAdd_full (H.out.reg.keeps ((Mods.refl _ w).alloc _)) ⟨bal, st, sl, rq, ex, wd, dl⟩ rfl).mono ?_
  rintro r w1 ⟨rfl, hk1⟩
  have HK := Lib.hid (((Mods.refl (fun _ => False) w).alloc (.cells (opCells k ⟨bal, st, sl, rq, ex, wd, dl⟩) 31)).keep hk1)
  clear hk1
  go_wp2
  go_ret2
  exact ⟨lv, _, rfl, H.out.reg.keeps HK.out, H.out.row.keeps HK.out, H.out.own, H.out.apart, H.out.keeps.keep HK.out⟩
set_option maxHeartbeats 400000 in
theorem do_out {B : Nat} {w0 w : World} {g m : Nat} {lv u : Value} {cap : Int} {l : List Vd} {n : Nat} (h : Beside B w0 w g m lv u cap l n) (k : Int) (v : Vd) (hk : 0 ≤ k) (hc : (l.length : Int) ≤ k) :
    Calls Try.prog 11 #[.pointer (some ⟨g, 0, none⟩), u, .int .i64 cap, .agg (opCells k v)] w fun r w' => DoPost B w0 w' g m cap l n r := by
  have H := Lib.hid h
  obtain ⟨a, c, rfl⟩ := h.row.slice
  clear h
  obtain ⟨bal, st, sl, rq, ex, wd, dl⟩ := v
  go_enter Try.func11, Try.ntmps11
  go_wp2_with fail
  refine (regSet_out (H.out.reg.keeps ((Mods.refl _ w).alloc _)) ⟨bal, st, sl, rq, ex, wd, dl⟩ k (.inr hc)).mono ?_
  rintro r w1 ⟨rfl, hk1⟩
  have HK := Lib.hid (((Mods.refl (fun _ => False) w).alloc (.cells (opCells k ⟨bal, st, sl, rq, ex, wd, dl⟩) 31)).keep hk1)
  have hvb := hk1.at (heap_alloc_last w (.cells (opCells k ⟨bal, st, sl, rq, ex, wd, dl⟩) 31)) (fun h => h)
  have u0 : w1.cell? ⟨w.heap.size, 0, none⟩ = some (.int .i64 k) := block_cell hvb 0 rfl
  clear hk1 hvb
  go_wp2
  go_ret2
  exact ⟨lv, _, rfl, H.out.reg.keeps HK.out, H.out.row.keeps HK.out, H.out.own, H.out.apart, H.out.keeps.keep HK.out⟩
end Go.Proofs.Ythngncklmkneoaa
