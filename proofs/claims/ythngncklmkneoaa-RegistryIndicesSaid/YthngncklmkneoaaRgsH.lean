/- The registry: one operation beside the reference, its greater ways. -/
import Derived.Test.YthngncklmkneoaaRgsG
namespace Go.Proofs.Ythngncklmkneoaa
open Go.RowKit Go.Eg
theorem set_ok {l : List Vd} (h : ∀ x ∈ l, x.ok) (i : Nat) {v : Vd} (hv : v.ok) : ∀ x ∈ l.set i v, x.ok := by
  intro x hx
  rcases List.mem_or_eq_of_mem_set hx with h' | h'
  · exact h x h'
  · subst h'; exact hv
theorem app_ok {l : List Vd} (h : ∀ x ∈ l, x.ok) {v : Vd} (hv : v.ok) : ∀ x ∈ l ++ [v], x.ok := by
  intro x hx
  rcases List.mem_append.1 hx with h' | h'
  · exact h x h'
  · simp at h'; subst h'; exact hv
set_option maxHeartbeats 400000 in
theorem do_set {B : Nat} {w0 w : World} {g m : Nat} {lv u : Value} {cap : Int} {l : List Vd} {n : Nat} (h : Beside B w0 w g m lv u cap l n) (i : Nat) (hi : i < l.length) (v : Vd) (hv : v.ok) (hn : n + 1 < 4294967296) :
    Calls Try.prog 11 #[.pointer (some ⟨g, 0, none⟩), u, .int .i64 cap, .agg (opCells i v)] w fun r w' => DoPost B w0 w' g m cap (if totS (l.set i v) ≤ maxU then l.set i v else l) (n + 2) r := by
  have H := Lib.hid h
  obtain ⟨a, c, rfl⟩ := h.row.slice
  have hlen : l.length ≤ 4096 := by have := h.reg.len; have := h.reg.cap; omega
  have HI := Lib.hid hi
  have hil : (i : Int) < (l.length : Int) := by omega
  have HV := Lib.hid hv
  have HN := Lib.hid hn
  have HSO := Lib.hid (set_ok h.reg.ok i hv)
  clear h hi hn
  by_cases ho : totS (l.set i v) ≤ maxU
  · have e : (if totS (l.set i v) ≤ maxU then l.set i v else l) = l.set i v := if_pos ho
    rw [e]
    have HO := Lib.hid ho
    have HD := Lib.hid (decide_eq_true ho)
    clear e ho hv
    obtain ⟨bal, st, sl, rq, ex, wd, dl⟩ := v
    go_enter Try.func11, Try.ntmps11
    go_wp2_with fail
    refine (regSet_any (H.out.reg.keeps ((Mods.refl _ w).alloc _)) ⟨bal, st, sl, rq, ex, wd, dl⟩ HV.out i HI.out HO.out HN.out).mono ?_
    rintro r w1 ⟨rfl, hr1, hm1⟩
    have HR1 := Lib.hid hr1
    have HM1 := Lib.hid (((Mods.refl (RegS g m lv) w).alloc (.cells (opCells i ⟨bal, st, sl, rq, ex, wd, dl⟩) 31)).trans hm1)
    have hnb : ¬ RegS g m lv w.heap.size := by
      have hg := heap_lt H.out.reg.blk
      have hm := H.out.reg.map.lt
      rintro (e | e | e)
      · omega
      · omega
      · have := (H.out.reg.row.lt _ e).2; omega
    have hvb := hm1.at (heap_alloc_last w (.cells (opCells i ⟨bal, st, sl, rq, ex, wd, dl⟩) 31)) hnb
    have HVB := Lib.hid hvb
    have HU1 := Lib.hid (H.out.row.mods HM1.out H.out.apart)
    have u0 : w1.cell? ⟨w.heap.size, 0, none⟩ = some (.int .i64 (i : Int)) := block_cell hvb 0 rfl
    have u1 : w1.cell? ⟨w.heap.size, 1, none⟩ = some (.int .u64 bal) := block_cell hvb 1 rfl
    have u2 : w1.cell? ⟨w.heap.size, 2, none⟩ = some (.int .i64 st) := block_cell hvb 2 rfl
    have u3 : w1.cell? ⟨w.heap.size, 3, none⟩ = some (.bool sl) := block_cell hvb 3 rfl
    have u4 : w1.cell? ⟨w.heap.size, 4, none⟩ = some (.int .i64 rq) := block_cell hvb 4 rfl
    have u5 : w1.cell? ⟨w.heap.size, 5, none⟩ = some (.int .i64 ex) := block_cell hvb 5 rfl
    have u6 : w1.cell? ⟨w.heap.size, 6, none⟩ = some (.int .i64 wd) := block_cell hvb 6 rfl
    have u7 : w1.cell? ⟨w.heap.size, 7, none⟩ = some (.int .i64 dl) := block_cell hvb 7 rfl
    clear hr1 hm1 hvb
    go_wp2_with fail
    refine (put_any _ l i ⟨bal, st, sl, rq, ex, wd, dl⟩ w1 HU1.out (by omega) HI.out).mono ?_
    rintro r w2 ⟨v2, rfl, ho2, hk2⟩
    have HO2 := Lib.hid ho2
    have HK2 := Lib.hid hk2
    obtain ⟨a2, c2, rfl⟩ := owns_slice' ho2
    have HVL := Lib.hid (show VL w2 (.slice a2 l.length c2) (l.set i ⟨bal, st, sl, rq, ex, wd, dl⟩) from by have h := VL.of_owns ho2; rw [List.length_set] at h; exact h)
    have u0' := hk2.cell u0 (fun h => h)
    clear ho2 hk2 u0 u1 u2 u3 u4 u5 u6 u7
    go_wp2_with fail
    refine (fits_any _ (l.set i ⟨bal, st, sl, rq, ex, wd, dl⟩) w2 HVL.out (by rw [List.length_set]; omega) HSO.out).mono ?_
    rw [HD.out]
    rintro r w3 ⟨rfl, hk3⟩
    have HK3 := Lib.hid (HK2.out.keep hk3)
    have HO3 := Lib.hid (HVL.out.keeps hk3)
    clear hk3
    go_wp2
    go_ret2
    refine ⟨lv, .slice a2 l.length c2, rfl, HR1.out.keeps HK3.out, HO3.out, H.out.own, ?_, (H.out.keeps.seq HM1.out fun k hk hs => by have := H.out.own k hs; omega).keep HK3.out⟩
    intro k hk hs
    have := (HO2.out.lt k (by rw [List.length_set]; exact hk)).1
    have hg := heap_lt HR1.out.blk
    have hm := HR1.out.map.lt
    rcases hs with e | e | e
    · omega
    · omega
    · have := (HR1.out.row.lt _ e).2; omega
  · have e : (if totS (l.set i v) ≤ maxU then l.set i v else l) = l := if_neg ho
    rw [e]
    have HO := Lib.hid ho
    have HD := Lib.hid (decide_eq_false ho)
    clear e ho hv
    obtain ⟨bal, st, sl, rq, ex, wd, dl⟩ := v
    go_enter Try.func11, Try.ntmps11
    go_wp2_with fail
    refine (regSet_over (H.out.reg.keeps ((Mods.refl _ w).alloc _)) ⟨bal, st, sl, rq, ex, wd, dl⟩ i HI.out (by have := HO.out; omega)).mono ?_
    rintro r w1 ⟨rfl, hm1⟩
    have HM1 := Lib.hid (((Mods.refl (fun _ => False) w).alloc (.cells (opCells i ⟨bal, st, sl, rq, ex, wd, dl⟩) 31)).keep hm1)
    have hvb := hm1.at (heap_alloc_last w (.cells (opCells i ⟨bal, st, sl, rq, ex, wd, dl⟩) 31)) (fun h => h)
    have HU1 := Lib.hid (H.out.row.keeps HM1.out)
    have u0 : w1.cell? ⟨w.heap.size, 0, none⟩ = some (.int .i64 (i : Int)) := block_cell hvb 0 rfl
    have u1 : w1.cell? ⟨w.heap.size, 1, none⟩ = some (.int .u64 bal) := block_cell hvb 1 rfl
    have u2 : w1.cell? ⟨w.heap.size, 2, none⟩ = some (.int .i64 st) := block_cell hvb 2 rfl
    have u3 : w1.cell? ⟨w.heap.size, 3, none⟩ = some (.bool sl) := block_cell hvb 3 rfl
    have u4 : w1.cell? ⟨w.heap.size, 4, none⟩ = some (.int .i64 rq) := block_cell hvb 4 rfl
    have u5 : w1.cell? ⟨w.heap.size, 5, none⟩ = some (.int .i64 ex) := block_cell hvb 5 rfl
    have u6 : w1.cell? ⟨w.heap.size, 6, none⟩ = some (.int .i64 wd) := block_cell hvb 6 rfl
    have u7 : w1.cell? ⟨w.heap.size, 7, none⟩ = some (.int .i64 dl) := block_cell hvb 7 rfl
    clear hm1 hvb
    go_wp2_with fail
    refine (put_any _ l i ⟨bal, st, sl, rq, ex, wd, dl⟩ w1 HU1.out (by omega) HI.out).mono ?_
    rintro r w2 ⟨v2, rfl, ho2, hk2⟩
    have HO2 := Lib.hid ho2
    have HK2 := Lib.hid (HM1.out.keep hk2)
    obtain ⟨a2, c2, rfl⟩ := owns_slice' ho2
    have HVL := Lib.hid (show VL w2 (.slice a2 l.length c2) (l.set i ⟨bal, st, sl, rq, ex, wd, dl⟩) from by have h := VL.of_owns ho2; rw [List.length_set] at h; exact h)
    have u0' := hk2.cell u0 (fun h => h)
    clear ho2 hk2 u0 u1 u2 u3 u4 u5 u6 u7
    go_wp2_with fail
    refine (fits_any _ (l.set i ⟨bal, st, sl, rq, ex, wd, dl⟩) w2 HVL.out (by rw [List.length_set]; omega) HSO.out).mono ?_
    rw [HD.out]
    rintro r w3 ⟨rfl, hk3⟩
    have HK3 := Lib.hid (HK2.out.keep hk3)
    clear hk3
    go_wp2
    go_ret2
    exact ⟨lv, _, rfl, (H.out.reg.keeps HK3.out).mono (by omega), H.out.row.keeps HK3.out, H.out.own, H.out.apart, H.out.keeps.keep HK3.out⟩
theorem keep4 {w1 w3 w4 : World} {e : TypeId} {s n : Nat} {v : Value} {xs : List Value} (hk : Keeps w1 w3) (ho : w3.ownsRow w1.heap.size e s v n xs) (hg : w3.grownBy w4 v.ownBlock) : Keeps w1 w4 :=
  hk.grown hg fun j hj e => by have := (ho.lt j e).1; omega
theorem keep4a {w1 w3 w4 : World} {e : TypeId} {s n : Nat} {v : Value} {xs : List Value} {o : Obj} (hk : Keeps w1 w3) (ho : w3.ownsRow w1.heap.size e s v n xs) (hg : (w3.alloc o).grownBy w4 v.ownBlock) : Keeps w1 w4 :=
  (hk.alloc o).grown hg fun j hj e => by have := (ho.lt j e).1; omega
/-- v4 holds l, made since W -/
def More (W w4 : World) (v4 : Value) (l : List Vd) : Prop := w4.ownsRow W.heap.size 29 7 v4 l.length (flatV l) ∧ Keeps W w4
set_option maxHeartbeats 1000000 in
theorem do_over {B : Nat} {w0 w : World} {g m : Nat} {lv u : Value} {cap : Int} {l : List Vd} {n : Nat} (h : Beside B w0 w g m lv u cap l n) (k : Int) (hk : k < 0) (v : Vd) (hv : v.ok) (hc : (l.length : Int) ≠ cap) (ho : ¬ totS (l ++ [v]) ≤ maxU) :
    Calls Try.prog 11 #[.pointer (some ⟨g, 0, none⟩), u, .int .i64 cap, .agg (opCells k v)] w fun r w' => DoPost B w0 w' g m cap l n r := by
  have H := Lib.hid h
  obtain ⟨a, c, rfl⟩ := h.row.slice
  have hlen : l.length ≤ 4096 := by have := h.reg.len; have := h.reg.cap; omega
  have hlc : (l.length : Int) < cap := by have := h.reg.len; omega
  have HV := Lib.hid hv
  have HC := Lib.hid hc
  have HSO := Lib.hid (app_ok h.reg.ok hv)
  have HD := Lib.hid (decide_eq_false ho)
  rw [totS_append] at ho
  have HO := Lib.hid ho
  clear h hc ho hv
  obtain ⟨bal, st, sl, rq, ex, wd, dl⟩ := v
  go_enter Try.func11, Try.ntmps11
  go_wp2_with fail
  refine (regAdd_over (H.out.reg.keeps ((Mods.refl _ w).alloc _)) ⟨bal, st, sl, rq, ex, wd, dl⟩ HV.out HC.out (by have := HO.out; simp only at this ⊢; omega)).mono ?_
  rintro r w1 ⟨rfl, hm1⟩
  have HM1 := Lib.hid (((Mods.refl (fun _ => False) w).alloc (.cells (opCells k ⟨bal, st, sl, rq, ex, wd, dl⟩) 31)).keep hm1)
  have hvb := hm1.at (heap_alloc_last w (.cells (opCells k ⟨bal, st, sl, rq, ex, wd, dl⟩) 31)) (fun h => h)
  have HU1 := Lib.hid (H.out.row.keeps HM1.out)
  have u1 : w1.cell? ⟨w.heap.size, 1, none⟩ = some (.int .u64 bal) := block_cell hvb 1 rfl
  have u2 : w1.cell? ⟨w.heap.size, 2, none⟩ = some (.int .i64 st) := block_cell hvb 2 rfl
  have u3 : w1.cell? ⟨w.heap.size, 3, none⟩ = some (.bool sl) := block_cell hvb 3 rfl
  have u4 : w1.cell? ⟨w.heap.size, 4, none⟩ = some (.int .i64 rq) := block_cell hvb 4 rfl
  have u5 : w1.cell? ⟨w.heap.size, 5, none⟩ = some (.int .i64 ex) := block_cell hvb 5 rfl
  have u6 : w1.cell? ⟨w.heap.size, 6, none⟩ = some (.int .i64 wd) := block_cell hvb 6 rfl
  have u7 : w1.cell? ⟨w.heap.size, 7, none⟩ = some (.int .i64 dl) := block_cell hvb 7 rfl
  clear hm1 hvb
  go_wp2_with fail
  go_region_held3 (fun w' => w'.cell? ⟨w.heap.size, 1, none⟩ = some (.int .u64 bal) ∧ w'.cell? ⟨w.heap.size, 2, none⟩ = some (.int .i64 st) ∧ w'.cell? ⟨w.heap.size, 3, none⟩ = some (.bool sl) ∧ w'.cell? ⟨w.heap.size, 4, none⟩ = some (.int .i64 rq) ∧ w'.cell? ⟨w.heap.size, 5, none⟩ = some (.int .i64 ex) ∧ w'.cell? ⟨w.heap.size, 6, none⟩ = some (.int .i64 wd) ∧ w'.cell? ⟨w.heap.size, 7, none⟩ = some (.int .i64 dl))
    (first
      | (simp [u1, u2, u3, u4, u5, u6, u7]; done)
      | (exact c7_keep u1 u2 u3 u4 u5 u6 u7 (((Mods.refl _ w1).alloc _).drew))
      | (exact c7_keep u1 u2 u3 u4 u5 u6 u7 ((((Mods.refl _ w1).alloc _).alloc _).drew))
      | (refine c7_keep u1 u2 u3 u4 u5 u6 u7 ?_; assumption)
      | (refine c7_keep u1 u2 u3 u4 u5 u6 u7 (Mods.alloc ?_ _); assumption))
    (first
      | (refine step_appendAll _ (by rfl) (.tmp 36) (.tmp 37) (by rfl) w1.heap.size (.slice (some ⟨w1.heap.size, 0, none⟩) 0 0) [] l (by simp [Act.eval]) (ownsE (by exact heap_alloc_last w1 _) (by omega)) (.slice a l.length c) (by simp [Act.eval]) (by exact HU1.out.keeps (((Mods.refl (fun _ => False) w1).alloc _).drew)) (by simp; omega) (by simp; try omega) ?_; intro v3 w3 ho3 hg3; simp only [List.nil_append] at ho3; have hk3 : Keeps w1 w3 := (((Mods.refl (fun _ => False) w1).alloc _).drew).grown hg3 (fun j hj e => by simp [Value.ownBlock] at e; omega); have hs3 : w1.heap.size ≤ w3.heap.size := hk3.size)
      | (refine step_appendAll _ (by rfl) (.tmp 36) (.tmp 37) (by rfl) w1.heap.size (.slice (some ⟨w1.heap.size, 0, none⟩) 0 0) [] l (by simp [Act.eval]) (ownsE (by exact heap_keep (heap_alloc_last w1 _) _) (by omega)) (.slice a l.length c) (by simp [Act.eval]) (by exact HU1.out.keeps ((((Mods.refl (fun _ => False) w1).alloc _).alloc _).drew)) (by simp; omega) (by simp; try omega) ?_; intro v3 w3 ho3 hg3; simp only [List.nil_append] at ho3; have hk3 : Keeps w1 w3 := ((((Mods.refl (fun _ => False) w1).alloc _).alloc _).drew).grown hg3 (fun j hj e => by simp [Value.ownBlock] at e; omega); have hs3 : w1.heap.size ≤ w3.heap.size := hk3.size; have hV3 : VL w3 (.slice (some ⟨w1.heap.size + 1, 0, none⟩) 1 1) [⟨bal, st, sl, rq, ex, wd, dl⟩] := VL.one ⟨bal, st, sl, rq, ex, wd, dl⟩ ((((Mods.refl (fun i => i = w1.heap.size) ((w1.alloc (.cells #[] 29)).alloc (.cells (Vd.cells ⟨bal, st, sl, rq, ex, wd, dl⟩) 29))).drew).grown hg3 (fun j hj e => by simp [Value.ownBlock] at e; omega)).at (heap_alloc2_new w1 _ _) (by omega)))
      | (refine step_appendAll _ (by rfl) (.tmp 36) (.tmp 37) (by rfl) w1.heap.size (.slice (some ⟨w1.heap.size + 1, 0, none⟩) 0 0) [] l (by simp [Act.eval]) (ownsE (by exact heap_alloc2_new w1 _ _) (by omega)) (.slice a l.length c) (by simp [Act.eval]) (by exact HU1.out.keeps ((((Mods.refl (fun _ => False) w1).alloc _).alloc _).drew)) (by simp; omega) (by simp; try omega) ?_; intro v3 w3 ho3 hg3; simp only [List.nil_append] at ho3; have hk3 : Keeps w1 w3 := ((((Mods.refl (fun _ => False) w1).alloc _).alloc _).drew).grown hg3 (fun j hj e => by simp [Value.ownBlock] at e; omega); have hs3 : w1.heap.size ≤ w3.heap.size := hk3.size; have hV3 : VL w3 (.slice (some ⟨w1.heap.size, 0, none⟩) 1 1) [⟨bal, st, sl, rq, ex, wd, dl⟩] := VL.one ⟨bal, st, sl, rq, ex, wd, dl⟩ ((((Mods.refl (fun i => i = w1.heap.size + 1) ((w1.alloc (.cells (Vd.cells ⟨bal, st, sl, rq, ex, wd, dl⟩) 29)).alloc (.cells #[] 29))).drew).grown hg3 (fun j hj e => by simp [Value.ownBlock] at e; omega)).at (heap_keep (heap_alloc_last w1 _) _) (by omega)))
      | (refine step_appendAll _ (by rfl) (.tmp 38) (.tmp 41) (by rfl) w1.heap.size ?_ l [⟨bal, st, sl, rq, ex, wd, dl⟩] ?_ ?_ ?_ ?_ ?_ ?_ ?_ ?_; rotate_left 2; (first | assumption | (refine World.ownsRow.drew (World.ownsRow.alloc ?_ _); assumption)); rotate_left 2; (first | assumption | exact VL.one ⟨bal, st, sl, rq, ex, wd, dl⟩ (heap_alloc_last _ _)); (simp only [List.length_cons, List.length_nil]; omega); (first | assumption | (simp; omega)); rotate_left; (simp [Act.eval]); (simp [Act.eval]); intro v4 w4 ho4 hg4; have hk4 : Keeps w1 w4 := (by first | exact keep4 (by assumption) (by assumption) hg4 | exact keep4a (by assumption) (by assumption) hg4); have hF : More w1 w4 v4 (l ++ [⟨bal, st, sl, rq, ex, wd, dl⟩]) := ⟨ho4, hk4⟩))
  all_goals
    have HF := Lib.hid (show More w1 _ _ (l ++ [⟨bal, st, sl, rq, ex, wd, dl⟩]) from by assumption)
    obtain ⟨hf1, hf2⟩ := HF.out
    have HK4 := Lib.hid hf2
    rw [show (l ++ [(⟨bal, st, sl, rq, ex, wd, dl⟩ : Vd)]).length = l.length + 1 from by simp] at hf1
    have HO4 := Lib.hid hf1
    obtain ⟨a4, c4, rfl⟩ := owns_slice' hf1
    have HVL := Lib.hid (VL.of_owns (l := l ++ [(⟨bal, st, sl, rq, ex, wd, dl⟩ : Vd)]) (by rw [show (l ++ [(⟨bal, st, sl, rq, ex, wd, dl⟩ : Vd)]).length = l.length + 1 from by simp]; exact HO4.out))
    clear hf1 hf2 u1 u2 u3 u4 u5 u6 u7
    go_wp2_with fail
    refine (fits_any _ (l ++ [⟨bal, st, sl, rq, ex, wd, dl⟩]) _ HVL.out (by simp; omega) HSO.out).mono ?_
    rw [HD.out]
    rintro r w5 ⟨rfl, hk5⟩
    have HK5 := Lib.hid (HK4.out.keep hk5)
    have HVL5 := Lib.hid (HVL.out.keeps hk5)
    clear hk5
    go_wp2
    go_ret2
    have hk := HM1.out.keep HK5.out
    exact ⟨lv, _, rfl, H.out.reg.keeps hk, H.out.row.keeps hk, H.out.own, H.out.apart, H.out.keeps.keep hk⟩
set_option maxHeartbeats 1000000 in
theorem do_add {B : Nat} {w0 w : World} {g m : Nat} {lv u : Value} {cap : Int} {l : List Vd} {n : Nat} (h : Beside B w0 w g m lv u cap l n) (k : Int) (hk : k < 0) (v : Vd) (hv : v.ok) (hc : (l.length : Int) ≠ cap) (ho : totS (l ++ [v]) ≤ maxU) (hn : n < 4294967296) :
    Calls Try.prog 11 #[.pointer (some ⟨g, 0, none⟩), u, .int .i64 cap, .agg (opCells k v)] w fun r w' => DoPost B w0 w' g m cap (l ++ [v]) (n + 1) r := by
  have H := Lib.hid h
  obtain ⟨a, c, rfl⟩ := h.row.slice
  have hlen : l.length ≤ 4096 := by have := h.reg.len; have := h.reg.cap; omega
  have hlc : (l.length : Int) < cap := by have := h.reg.len; omega
  have HV := Lib.hid hv
  have HC := Lib.hid hc
  have HSO := Lib.hid (app_ok h.reg.ok hv)
  have HD := Lib.hid (decide_eq_true ho)
  rw [totS_append] at ho
  have HO := Lib.hid ho
  have HN := Lib.hid hn
  clear h hc ho hv hn
  obtain ⟨bal, st, sl, rq, ex, wd, dl⟩ := v
  go_enter Try.func11, Try.ntmps11
  go_wp2_with fail
  refine (regAdd_any (H.out.reg.keeps ((Mods.refl _ w).alloc _)) ⟨bal, st, sl, rq, ex, wd, dl⟩ HV.out HC.out HO.out HN.out).mono ?_
  rintro r w1 ⟨rfl, lv1, hr1, hm1, hb1⟩
  have HR1 := Lib.hid hr1
  have HB1 := Lib.hid hb1
  have HM1 := Lib.hid (((Mods.refl (RegS g m lv) w).alloc (.cells (opCells k ⟨bal, st, sl, rq, ex, wd, dl⟩) 31)).trans hm1)
  have hnb : ¬ RegS g m lv w.heap.size := by
    have hg := heap_lt H.out.reg.blk
    have hm := H.out.reg.map.lt
    rintro (e | e | e)
    · omega
    · omega
    · have := (H.out.reg.row.lt _ e).2; omega
  have hvb := hm1.at (heap_alloc_last w (.cells (opCells k ⟨bal, st, sl, rq, ex, wd, dl⟩) 31)) hnb
  have HU1 := Lib.hid (H.out.row.mods HM1.out H.out.apart)
  have u1 : w1.cell? ⟨w.heap.size, 1, none⟩ = some (.int .u64 bal) := block_cell hvb 1 rfl
  have u2 : w1.cell? ⟨w.heap.size, 2, none⟩ = some (.int .i64 st) := block_cell hvb 2 rfl
  have u3 : w1.cell? ⟨w.heap.size, 3, none⟩ = some (.bool sl) := block_cell hvb 3 rfl
  have u4 : w1.cell? ⟨w.heap.size, 4, none⟩ = some (.int .i64 rq) := block_cell hvb 4 rfl
  have u5 : w1.cell? ⟨w.heap.size, 5, none⟩ = some (.int .i64 ex) := block_cell hvb 5 rfl
  have u6 : w1.cell? ⟨w.heap.size, 6, none⟩ = some (.int .i64 wd) := block_cell hvb 6 rfl
  have u7 : w1.cell? ⟨w.heap.size, 7, none⟩ = some (.int .i64 dl) := block_cell hvb 7 rfl
  clear hm1 hvb hr1 hb1 hnb
  go_wp2_with fail
  go_region_held3 (fun w' => w'.cell? ⟨w.heap.size, 1, none⟩ = some (.int .u64 bal) ∧ w'.cell? ⟨w.heap.size, 2, none⟩ = some (.int .i64 st) ∧ w'.cell? ⟨w.heap.size, 3, none⟩ = some (.bool sl) ∧ w'.cell? ⟨w.heap.size, 4, none⟩ = some (.int .i64 rq) ∧ w'.cell? ⟨w.heap.size, 5, none⟩ = some (.int .i64 ex) ∧ w'.cell? ⟨w.heap.size, 6, none⟩ = some (.int .i64 wd) ∧ w'.cell? ⟨w.heap.size, 7, none⟩ = some (.int .i64 dl))
    (first
      | (simp [u1, u2, u3, u4, u5, u6, u7]; done)
      | (exact c7_keep u1 u2 u3 u4 u5 u6 u7 (((Mods.refl _ w1).alloc _).drew))
      | (exact c7_keep u1 u2 u3 u4 u5 u6 u7 ((((Mods.refl _ w1).alloc _).alloc _).drew))
      | (refine c7_keep u1 u2 u3 u4 u5 u6 u7 ?_; assumption)
      | (refine c7_keep u1 u2 u3 u4 u5 u6 u7 (Mods.alloc ?_ _); assumption))
    (first
      | (refine step_appendAll _ (by rfl) (.tmp 36) (.tmp 37) (by rfl) w1.heap.size (.slice (some ⟨w1.heap.size, 0, none⟩) 0 0) [] l (by simp [Act.eval]) (ownsE (by exact heap_alloc_last w1 _) (by omega)) (.slice a l.length c) (by simp [Act.eval]) (by exact HU1.out.keeps (((Mods.refl (fun _ => False) w1).alloc _).drew)) (by simp; omega) (by simp; try omega) ?_; intro v3 w3 ho3 hg3; simp only [List.nil_append] at ho3; have hk3 : Keeps w1 w3 := (((Mods.refl (fun _ => False) w1).alloc _).drew).grown hg3 (fun j hj e => by simp [Value.ownBlock] at e; omega); have hs3 : w1.heap.size ≤ w3.heap.size := hk3.size)
      | (refine step_appendAll _ (by rfl) (.tmp 36) (.tmp 37) (by rfl) w1.heap.size (.slice (some ⟨w1.heap.size, 0, none⟩) 0 0) [] l (by simp [Act.eval]) (ownsE (by exact heap_keep (heap_alloc_last w1 _) _) (by omega)) (.slice a l.length c) (by simp [Act.eval]) (by exact HU1.out.keeps ((((Mods.refl (fun _ => False) w1).alloc _).alloc _).drew)) (by simp; omega) (by simp; try omega) ?_; intro v3 w3 ho3 hg3; simp only [List.nil_append] at ho3; have hk3 : Keeps w1 w3 := ((((Mods.refl (fun _ => False) w1).alloc _).alloc _).drew).grown hg3 (fun j hj e => by simp [Value.ownBlock] at e; omega); have hs3 : w1.heap.size ≤ w3.heap.size := hk3.size; have hV3 : VL w3 (.slice (some ⟨w1.heap.size + 1, 0, none⟩) 1 1) [⟨bal, st, sl, rq, ex, wd, dl⟩] := VL.one ⟨bal, st, sl, rq, ex, wd, dl⟩ ((((Mods.refl (fun i => i = w1.heap.size) ((w1.alloc (.cells #[] 29)).alloc (.cells (Vd.cells ⟨bal, st, sl, rq, ex, wd, dl⟩) 29))).drew).grown hg3 (fun j hj e => by simp [Value.ownBlock] at e; omega)).at (heap_alloc2_new w1 _ _) (by omega)))
      | (refine step_appendAll _ (by rfl) (.tmp 36) (.tmp 37) (by rfl) w1.heap.size (.slice (some ⟨w1.heap.size + 1, 0, none⟩) 0 0) [] l (by simp [Act.eval]) (ownsE (by exact heap_alloc2_new w1 _ _) (by omega)) (.slice a l.length c) (by simp [Act.eval]) (by exact HU1.out.keeps ((((Mods.refl (fun _ => False) w1).alloc _).alloc _).drew)) (by simp; omega) (by simp; try omega) ?_; intro v3 w3 ho3 hg3; simp only [List.nil_append] at ho3; have hk3 : Keeps w1 w3 := ((((Mods.refl (fun _ => False) w1).alloc _).alloc _).drew).grown hg3 (fun j hj e => by simp [Value.ownBlock] at e; omega); have hs3 : w1.heap.size ≤ w3.heap.size := hk3.size; have hV3 : VL w3 (.slice (some ⟨w1.heap.size, 0, none⟩) 1 1) [⟨bal, st, sl, rq, ex, wd, dl⟩] := VL.one ⟨bal, st, sl, rq, ex, wd, dl⟩ ((((Mods.refl (fun i => i = w1.heap.size + 1) ((w1.alloc (.cells (Vd.cells ⟨bal, st, sl, rq, ex, wd, dl⟩) 29)).alloc (.cells #[] 29))).drew).grown hg3 (fun j hj e => by simp [Value.ownBlock] at e; omega)).at (heap_keep (heap_alloc_last w1 _) _) (by omega)))
      | (refine step_appendAll _ (by rfl) (.tmp 38) (.tmp 41) (by rfl) w1.heap.size ?_ l [⟨bal, st, sl, rq, ex, wd, dl⟩] ?_ ?_ ?_ ?_ ?_ ?_ ?_ ?_; rotate_left 2; (first | assumption | (refine World.ownsRow.drew (World.ownsRow.alloc ?_ _); assumption)); rotate_left 2; (first | assumption | exact VL.one ⟨bal, st, sl, rq, ex, wd, dl⟩ (heap_alloc_last _ _)); (simp only [List.length_cons, List.length_nil]; omega); (first | assumption | (simp; omega)); rotate_left; (simp [Act.eval]); (simp [Act.eval]); intro v4 w4 ho4 hg4; have hk4 : Keeps w1 w4 := (by first | exact keep4 (by assumption) (by assumption) hg4 | exact keep4a (by assumption) (by assumption) hg4); have hF : More w1 w4 v4 (l ++ [⟨bal, st, sl, rq, ex, wd, dl⟩]) := ⟨ho4, hk4⟩))
  all_goals
    have HF := Lib.hid (show More w1 _ _ (l ++ [⟨bal, st, sl, rq, ex, wd, dl⟩]) from by assumption)
    obtain ⟨hf1, hf2⟩ := HF.out
    have HK4 := Lib.hid hf2
    rw [show (l ++ [(⟨bal, st, sl, rq, ex, wd, dl⟩ : Vd)]).length = l.length + 1 from by simp] at hf1
    have HO4 := Lib.hid hf1
    obtain ⟨a4, c4, rfl⟩ := owns_slice' hf1
    have HVL := Lib.hid (VL.of_owns (l := l ++ [(⟨bal, st, sl, rq, ex, wd, dl⟩ : Vd)]) (by rw [show (l ++ [(⟨bal, st, sl, rq, ex, wd, dl⟩ : Vd)]).length = l.length + 1 from by simp]; exact HO4.out))
    clear hf1 hf2 u1 u2 u3 u4 u5 u6 u7
    go_wp2_with fail
    refine (fits_any _ (l ++ [⟨bal, st, sl, rq, ex, wd, dl⟩]) _ HVL.out (by simp; omega) HSO.out).mono ?_
    rw [HD.out]
    rintro r w5 ⟨rfl, hk5⟩
    have HK5 := Lib.hid (HK4.out.keep hk5)
    have HVL5 := Lib.hid (HVL.out.keeps hk5)
    clear hk5
    go_wp2
    go_ret2
    refine ⟨lv1, .slice a4 (l.length + 1) c4, rfl, HR1.out.keeps HK5.out, HVL5.out, ?_, ?_, (H.out.keeps.seq HM1.out fun k hk hs => by have := H.out.own k hs; omega).keep HK5.out⟩
    · intro j hs
      rcases hs with e | e | e
      · exact H.out.own j (.inl e)
      · exact H.out.own j (.inr (.inl e))
      · rcases HB1.out j e with e | e
        · exact H.out.own j (.inr (.inr e))
        · have h1 := H.out.keeps.size
          have h2 : (w.alloc (.cells (opCells k ⟨bal, st, sl, rq, ex, wd, dl⟩) 31)).heap.size = w.heap.size + 1 := by simp
          omega
    · intro j hj hs
      have := (HO4.out.lt j hj).1
      have hg := heap_lt HR1.out.blk
      have hm := HR1.out.map.lt
      rcases hs with e | e | e
      · omega
      · omega
      · have := (HR1.out.row.lt _ e).2; omega
end Go.Proofs.Ythngncklmkneoaa
