/- The walk of RegistryIndices. -/
import Derived.Test.YthngncklmkneoaaRgsM
namespace Go.Proofs.Ythngncklmkneoaa
open Go.RowKit Go.Eg
theorem step_appendAllG {ops : Array Oper} {o : Oper} {a : Act} {K : Act → World → Prop} {Q : Exit → Act → World → Prop} {E : Prop} (w : World) (s x : Operand)
    (ho : o.op = .call { callee := .builtin .append, args := #[s, x], argTypes := #[26, 26] })
    (B : Nat) (v : Value) (l0 l : List Vd) (hw : Region.wanted o (yielded ops a.tmps) = true) (hs : a.eval s = v) (hown : w.ownsRow B 29 7 v l0.length (flatV l0)) (u : Value) (hx : a.eval x = u) (hu : VL w u l) (hn : l0.length + l.length ≤ 8192) (hB : B ≤ w.heap.size)
    (h : ∀ v' w', w'.ownsRow B 29 7 v' (l0 ++ l).length (flatV (l0 ++ l)) → w.grownBy w' v.ownBlock → K (a.put o.dst v') w') :
    if Region.wanted o (yielded ops a.tmps) = true then Oper.wp Try.prog o a w K Q else E := by
  rw [if_pos hw]
  exact wp_appendAll w s x ho B v l0 l hs hown u hx hu hn hB h
theorem fits_of_more {W w4 : World} {v4 : Value} {l : List Vd} (h : More W w4 v4 l) (hn : l.length ≤ 8192) (hok : ∀ v ∈ l, v.ok) :
    Calls Try.prog 24 #[v4] w4 fun r w' => r = .returned (.bool (decide (totS l ≤ maxU))) ∧ Keeps W w' :=
  (fits_any v4 l w4 (VL.of_owns h.1) hn hok).mono fun _ _ ⟨hr, hk⟩ => ⟨hr, h.2.keep hk⟩
theorem regNew_law (w0 w : World) (hk : Keeps w0 w) (c : Int) (h1 : 1 ≤ c) (h2 : c ≤ 4096) : Calls Try.prog 9 #[.int .i64 c] w fun r w' => ∃ g m, r = .returned (.pointer (some ⟨g, 0, none⟩)) ∧ RegAt w0.heap.size w' g m (.slice none 0 0) c [] 0 ∧ (∀ k, RegS g m (.slice none 0 0) k → w0.heap.size ≤ k) ∧ Keeps w0 w' := by
  refine (regNew_any c w h1 h2).mono ?_
  rintro r w' ⟨rfl, hr, hm⟩
  have hs := hk.size
  exact ⟨_, _, rfl, ⟨hr.blk, World.ownsRow_nil _ _ _ _, hr.map, by omega, by omega, hr.gm, hr.og, hr.om, hr.ok, hr.tot, hr.len, hr.cap⟩, fun k h => by have := new_own w k h; omega, hk.keep hm⟩
theorem totS_app (a b : List Vd) : totS (a ++ b) = totS a + totS b := by
  induction a with
  | nil => simp [totS]
  | cons x r ih => simp only [List.cons_append, totS, ih]; omega
theorem take_sum {l : List Vd} {v : Vd} (hok : ∀ x ∈ l ++ [v], x.ok) (ht : totS (l ++ [v]) ≤ maxU) {k : Nat} (hk : k < l.length) : totS (l.take k) + l[k].bal ≤ maxU := by
  have h0 : totS (l.take k) + l[k].bal = totS (l.take (k + 1)) := by rw [take_step hk, totS_append]
  have h1 : totS l = totS (l.take (k + 1)) + totS (l.drop (k + 1)) := by rw [← totS_app, List.take_append_drop]
  have h2 := totS_nonneg (l := l.drop (k + 1)) fun x hx => hok x (List.mem_append_left _ (List.mem_of_mem_drop hx))
  have h3 := (hok v (by simp)).b0
  rw [totS_append] at ht
  omega
theorem set_sum {l : List Vd} {v : Vd} (hok : ∀ x ∈ l ++ [v], x.ok) (ht : totS (l ++ [v]) ≤ maxU) {k : Nat} (hk : k < l.length) : totS (l.set k v) ≤ maxU := by
  have h1 := totS_set hk v
  have h2 := (hok l[k] (List.mem_append_left _ (List.getElem_mem hk))).b0
  rw [totS_append] at ht
  omega
set_option maxHeartbeats 2000000 in
theorem registryIndices_walk (lv : Value) (i : Int) (v : Vd) (w : World) (h : ∃ l, VL w lv l ∧ l.length ≤ 9223372036854775807 ∧ ∀ x ∈ l, x.ok) (w1 : (Lit.int .u8 i).wf = true) (hv : v.ok) :
    Calls Try.prog 7 #[lv, .int .u8 i, v.val] w fun r w' => r = .returned (.bool true) ∧ Below w.heap.size w w' := by
  obtain ⟨hi0, hi1⟩ := bounds_u8 w1
  obtain ⟨l, h, hlm, hok⟩ := h
  obtain ⟨a, c, rfl⟩ := h.slice
  have H := Lib.hid h
  have HV := Lib.hid hv
  have HSO := Lib.hid (app_ok hok hv)
  have HOK := Lib.hid hok
  clear h w1 hok hv
  by_cases hsm : l.length = 0 ∨ 40 < l.length
  · obtain ⟨bal, st, sl, rq, ex, wd, dl⟩ := v
    have hsm2 : ((l.length : Int) == 0) = true ∨ (((l.length : Int) == 0) = false ∧ 40 < (l.length : Int)) := by
      rcases hsm with e | e
      · exact .inl (by simp [e])
      · exact .inr ⟨by simp only [beq_eq_false_iff_ne]; omega, by omega⟩
    clear hsm
    rcases hsm2 with e | ⟨e, e2⟩
    all_goals
      go_enter Try.func7, Try.ntmps7
      go_wp2
      go_quiet (fail)
      go_wp2_with fail
      refine (alive_any _).mono ?_
      rintro r w3 ⟨rfl, hk3⟩
      have HK3 := Lib.hid ((((Mods.refl (fun _ => False) w).alloc (.cells (Vd.cells ⟨bal, st, sl, rq, ex, wd, dl⟩) 29)).drewN nq).keep hk3)
      clear hk3
      go_wp2
      go_ret
      exact ⟨rfl, HK3.out.below'⟩
  have hl1 : 1 ≤ l.length := by omega
  have hl2 : l.length ≤ 40 := by omega
  have e0 : ((l.length : Int) == 0) = false := by simp only [beq_eq_false_iff_ne]; omega
  have e2 : decide ((40 : Int) < (l.length : Int)) = false := decide_eq_false (by omega)
  have HLL := Lib.hid (show (l ++ [v]).length ≤ 8192 by simp; omega)
  clear hsm hlm
  by_cases ht : totS (l ++ [v]) ≤ maxU
  · have HD := Lib.hid (decide_eq_true ht)
    have HT := Lib.hid ht
    clear ht
    obtain ⟨bal, st, sl, rq, ex, wd, dl⟩ := v
    go_enter Try.func7, Try.ntmps7
    go_wp2_with fail
    obtain ⟨w1, hw1⟩ : ∃ w1, w1 = w.alloc (.cells (Vd.cells ⟨bal, st, sl, rq, ex, wd, dl⟩) 29) := ⟨_, rfl⟩
    have HK1 := Lib.hid (show Keeps w w1 from hw1 ▸ (Mods.refl _ w).alloc _)
    have hvb : w1.heap[w.heap.size]? = some (.cells (Vd.cells ⟨bal, st, sl, rq, ex, wd, dl⟩) 29) := hw1 ▸ heap_alloc_last w _
    have HVB := Lib.hid hvb
    have HU1 := Lib.hid (H.out.keeps HK1.out)
    rw [← hw1]
    have u0 : w1.cell? ⟨w.heap.size, 0, none⟩ = some (.int .u64 bal) := block_cell hvb 0 rfl
    have u1 : w1.cell? ⟨w.heap.size, 1, none⟩ = some (.int .i64 st) := block_cell hvb 1 rfl
    have u2 : w1.cell? ⟨w.heap.size, 2, none⟩ = some (.bool sl) := block_cell hvb 2 rfl
    have u3 : w1.cell? ⟨w.heap.size, 3, none⟩ = some (.int .i64 rq) := block_cell hvb 3 rfl
    have u4 : w1.cell? ⟨w.heap.size, 4, none⟩ = some (.int .i64 ex) := block_cell hvb 4 rfl
    have u5 : w1.cell? ⟨w.heap.size, 5, none⟩ = some (.int .i64 wd) := block_cell hvb 5 rfl
    have u6 : w1.cell? ⟨w.heap.size, 6, none⟩ = some (.int .i64 dl) := block_cell hvb 6 rfl
    clear hw1 hvb
    go_region_held3 (fun w' => w'.cell? ⟨w.heap.size, 0, none⟩ = some (.int .u64 bal) ∧ w'.cell? ⟨w.heap.size, 1, none⟩ = some (.int .i64 st) ∧ w'.cell? ⟨w.heap.size, 2, none⟩ = some (.bool sl) ∧ w'.cell? ⟨w.heap.size, 3, none⟩ = some (.int .i64 rq) ∧ w'.cell? ⟨w.heap.size, 4, none⟩ = some (.int .i64 ex) ∧ w'.cell? ⟨w.heap.size, 5, none⟩ = some (.int .i64 wd) ∧ w'.cell? ⟨w.heap.size, 6, none⟩ = some (.int .i64 dl))
      (first
        | (simp [u0, u1, u2, u3, u4, u5, u6]; done)
        | (exact cells7_keep (S := fun _ => False) u0 u1 u2 u3 u4 u5 u6 (((Mods.refl _ w1).alloc _).drew) (fun h => h))
        | (exact cells7_keep (S := fun _ => False) u0 u1 u2 u3 u4 u5 u6 ((((Mods.refl _ w1).alloc _).alloc _).drew) (fun h => h))
        | (refine cells7_keep (S := fun _ => False) u0 u1 u2 u3 u4 u5 u6 ?_ (fun h => h); assumption)
        | (refine cells7_keep (S := fun _ => False) u0 u1 u2 u3 u4 u5 u6 (Mods.alloc ?_ _) (fun h => h); assumption))
      (first
        | (refine step_appendAllG _ (.tmp 25) (.tmp 26) (by rfl) w1.heap.size (.slice (some ⟨w1.heap.size, 0, none⟩) 0 0) [] l (by go_simp) (by simp [Act.eval]) (ownsE (by exact heap_alloc_last w1 _) (by omega)) (.slice a l.length c) (by simp [Act.eval]) (by exact HU1.out.keeps (((Mods.refl (fun _ => False) w1).alloc _).drew)) (by simp; omega) (by simp; try omega) ?_; intro v3 w3 ho3 hg3; simp only [List.nil_append] at ho3; have hk3 : Keeps w1 w3 := (((Mods.refl (fun _ => False) w1).alloc _).drew).grown hg3 (fun j hj e => by simp [Value.ownBlock] at e; omega); have hs3 : w1.heap.size ≤ w3.heap.size := hk3.size)
        | (refine step_appendAllG _ (.tmp 25) (.tmp 26) (by rfl) w1.heap.size (.slice (some ⟨w1.heap.size, 0, none⟩) 0 0) [] l (by go_simp) (by simp [Act.eval]) (ownsE (by exact heap_keep (heap_alloc_last w1 _) _) (by omega)) (.slice a l.length c) (by simp [Act.eval]) (by exact HU1.out.keeps ((((Mods.refl (fun _ => False) w1).alloc _).alloc _).drew)) (by simp; omega) (by simp; try omega) ?_; intro v3 w3 ho3 hg3; simp only [List.nil_append] at ho3; have hk3 : Keeps w1 w3 := ((((Mods.refl (fun _ => False) w1).alloc _).alloc _).drew).grown hg3 (fun j hj e => by simp [Value.ownBlock] at e; omega); have hs3 : w1.heap.size ≤ w3.heap.size := hk3.size; have hV3 : VL w3 (.slice (some ⟨w1.heap.size + 1, 0, none⟩) 1 1) [⟨bal, st, sl, rq, ex, wd, dl⟩] := VL.one ⟨bal, st, sl, rq, ex, wd, dl⟩ ((((Mods.refl (fun i => i = w1.heap.size) ((w1.alloc (.cells #[] 29)).alloc (.cells (Vd.cells ⟨bal, st, sl, rq, ex, wd, dl⟩) 29))).drew).grown hg3 (fun j hj e => by simp [Value.ownBlock] at e; omega)).at (heap_alloc2_new w1 _ _) (by omega)))
        | (refine step_appendAllG _ (.tmp 25) (.tmp 26) (by rfl) w1.heap.size (.slice (some ⟨w1.heap.size + 1, 0, none⟩) 0 0) [] l (by go_simp) (by simp [Act.eval]) (ownsE (by exact heap_alloc2_new w1 _ _) (by omega)) (.slice a l.length c) (by simp [Act.eval]) (by exact HU1.out.keeps ((((Mods.refl (fun _ => False) w1).alloc _).alloc _).drew)) (by simp; omega) (by simp; try omega) ?_; intro v3 w3 ho3 hg3; simp only [List.nil_append] at ho3; have hk3 : Keeps w1 w3 := ((((Mods.refl (fun _ => False) w1).alloc _).alloc _).drew).grown hg3 (fun j hj e => by simp [Value.ownBlock] at e; omega); have hs3 : w1.heap.size ≤ w3.heap.size := hk3.size; have hV3 : VL w3 (.slice (some ⟨w1.heap.size, 0, none⟩) 1 1) [⟨bal, st, sl, rq, ex, wd, dl⟩] := VL.one ⟨bal, st, sl, rq, ex, wd, dl⟩ ((((Mods.refl (fun i => i = w1.heap.size + 1) ((w1.alloc (.cells (Vd.cells ⟨bal, st, sl, rq, ex, wd, dl⟩) 29)).alloc (.cells #[] 29))).drew).grown hg3 (fun j hj e => by simp [Value.ownBlock] at e; omega)).at (heap_keep (heap_alloc_last w1 _) _) (by omega)))
        | (refine step_appendAllG _ (.tmp 27) (.tmp 29) (by rfl) w1.heap.size ?_ l [⟨bal, st, sl, rq, ex, wd, dl⟩] (by go_simp) ?_ ?_ ?_ ?_ ?_ ?_ ?_ ?_; rotate_left 2; (first | assumption | (refine World.ownsRow.drew (World.ownsRow.alloc ?_ _); assumption)); rotate_left 2; (first | assumption | exact VL.one ⟨bal, st, sl, rq, ex, wd, dl⟩ (heap_alloc_last _ _)); (simp only [List.length_cons, List.length_nil]; omega); (first | assumption | (simp; omega)); rotate_left; (simp [Act.eval]); (simp [Act.eval]); intro v4 w4 ho4 hg4; have hk4 : Keeps w1 w4 := (by first | exact keep4 (by assumption) (by assumption) hg4 | exact keep4a (by assumption) (by assumption) hg4); have hF : More w1 w4 v4 (l ++ [⟨bal, st, sl, rq, ex, wd, dl⟩]) := ⟨ho4, hk4⟩)
        | (go_at_call 24; refine (fits_of_more (by assumption) HLL.out HSO.out).mono ?_; rw [HD.out]; rintro r w5 ⟨rfl, hk5⟩))
    all_goals
      clear u0 u1 u2 u3 u4 u5 u6
      go_wp2_with fail
      refine (regNew_law w1 _ (by assumption) (l.length : Int) (by omega) (by omega)).mono ?_
      rintro r w6 ⟨g, m, rfl, hr6, hs6, hk6⟩
      have HR6 := Lib.hid hr6
      have HS6 := Lib.hid hs6
      have HK6 := Lib.hid hk6
      clear hr6 hs6 hk6
      go_wp2_with fail
      go_loopw [42] (fun i wr => ∃ (k : Nat) (lr : Value), k ≤ l.length ∧ i = .int .i64 k ∧ RegAt w1.heap.size wr g m lr l.length (l.take k) k ∧ (∀ b, RegS g m lr b → w1.heap.size ≤ b) ∧ Keeps w1 wr) (fun i _ => l.length - (intOf i).toNat)
      case atStart => exact ⟨0, _, Nat.zero_le _, rfl, HR6.out, HS6.out, HK6.out⟩
      case round =>
        obtain ⟨k, lr, hk, rfl, hr, hs, hkw⟩ := hrel
        have HR := Lib.hid hr
        have HS := Lib.hid hs
        have HKW := Lib.hid hkw
        by_cases hlt : k < l.length
        · obtain ⟨b, off, rfl, y0, y1, y2, y3, y4, y5, y6⟩ := (HU1.out.keeps hkw).at k hlt
          have hb := cell_lt y0
          have HTK := Lib.hid (take_step hlt)
          have hok := HOK.out l[k] (List.getElem_mem hlt)
          have HOKK := Lib.hid hok
          have HSUM := Lib.hid (take_sum HSO.out HT.out hlt)
          have hlk : (l.take k).length = k := by simp; omega
          have HLK := Lib.hid hlk
          generalize l[k] = x at *
          obtain ⟨xb, xst, xsl, xrq, xex, xwd, xdl⟩ := x
          simp only at y0 y1 y2 y3 y4 y5 y6
          clear hr hs hkw hok hlk
          go_wp2_with fail
          have hA := regAdd_law (HR.out.keeps ((Mods.refl _ wr).alloc (.cells (Vd.cells ⟨xb, xst, xsl, xrq, xex, xwd, xdl⟩) 29))) HS.out (HKW.out.alloc _) ⟨xb, xst, xsl, xrq, xex, xwd, xdl⟩ HOKK.out (by rw [HLK.out]; omega) HSUM.out (by omega)
          rw [HLK.out, ← HTK.out] at hA
          refine hA.mono ?_
          clear hA
          rintro r w7 ⟨rfl, lr7, hr7, hs7, hk7⟩
          have HR7 := Lib.hid hr7
          have HS7 := Lib.hid hs7
          have HK7 := Lib.hid hk7
          clear hr7 hs7 hk7 y0 y1 y2 y3 y4 y5 y6
          go_wp2
          go_roundw
          case rel => exact ⟨k + 1, lr7, by omega, by go_num, HR7.out, HS7.out, HK7.out⟩
          case measure => simp [intOf]; omega
        · have hkl : k = l.length := by omega
          subst hkl
          rw [List.take_length] at HR
          obtain ⟨j, hj⟩ : ∃ j : Nat, i % (l.length : Int) = (j : Int) := ⟨(i % (l.length : Int)).toNat, by have := Int.emod_nonneg i (show (l.length : Int) ≠ 0 by omega); omega⟩
          have hjl : j < l.length := by have := Int.emod_lt_of_pos i (show (0 : Int) < (l.length : Int) by omega); omega
          have HJ := Lib.hid hjl
          have HSET := Lib.hid (set_sum HSO.out HT.out hjl)
          have HVBR := Lib.hid (hkw.at HVB.out (fun h => h))
          have hwb := heap_lt HVBR.out
          have u0 : wr.cell? ⟨w.heap.size, 0, none⟩ = some (.int .u64 bal) := block_cell HVBR.out 0 rfl
          have u1 : wr.cell? ⟨w.heap.size, 1, none⟩ = some (.int .i64 st) := block_cell HVBR.out 1 rfl
          have u2 : wr.cell? ⟨w.heap.size, 2, none⟩ = some (.bool sl) := block_cell HVBR.out 2 rfl
          have u3 : wr.cell? ⟨w.heap.size, 3, none⟩ = some (.int .i64 rq) := block_cell HVBR.out 3 rfl
          have u4 : wr.cell? ⟨w.heap.size, 4, none⟩ = some (.int .i64 ex) := block_cell HVBR.out 4 rfl
          have u5 : wr.cell? ⟨w.heap.size, 5, none⟩ = some (.int .i64 wd) := block_cell HVBR.out 5 rfl
          have u6 : wr.cell? ⟨w.heap.size, 6, none⟩ = some (.int .i64 dl) := block_cell HVBR.out 6 rfl
          clear hr hs hkw
          go_wp2_with fail
          refine (regAdd_full HR.out ⟨bal, st, sl, rq, ex, wd, dl⟩ rfl).mono ?_
          rintro r w8 ⟨rfl, hk8⟩
          have HR8 := Lib.hid (HR.out.keeps hk8)
          have HK8 := Lib.hid (HKW.out.keep hk8)
          have HVB8 := Lib.hid (hk8.at HVBR.out (fun h => h))
          clear hk8 u0 u1 u2 u3 u4 u5 u6
          have u0 : w8.cell? ⟨w.heap.size, 0, none⟩ = some (.int .u64 bal) := block_cell HVB8.out 0 rfl
          have u1 : w8.cell? ⟨w.heap.size, 1, none⟩ = some (.int .i64 st) := block_cell HVB8.out 1 rfl
          have u2 : w8.cell? ⟨w.heap.size, 2, none⟩ = some (.bool sl) := block_cell HVB8.out 2 rfl
          have u3 : w8.cell? ⟨w.heap.size, 3, none⟩ = some (.int .i64 rq) := block_cell HVB8.out 3 rfl
          have u4 : w8.cell? ⟨w.heap.size, 4, none⟩ = some (.int .i64 ex) := block_cell HVB8.out 4 rfl
          have u5 : w8.cell? ⟨w.heap.size, 5, none⟩ = some (.int .i64 wd) := block_cell HVB8.out 5 rfl
          have u6 : w8.cell? ⟨w.heap.size, 6, none⟩ = some (.int .i64 dl) := block_cell HVB8.out 6 rfl
          go_wp2_with fail
          refine (regSet_law HR8.out HS.out HK8.out ⟨bal, st, sl, rq, ex, wd, dl⟩ HV.out j HJ.out HSET.out (by omega)).mono ?_
          rintro r w9 ⟨rfl, hr9, hk9⟩
          have HR9 := Lib.hid hr9
          have HK9 := Lib.hid hk9
          have HVB9 := Lib.hid (hk9.at HVB.out (fun h => h))
          have HU9 := Lib.hid (HU1.out.keeps hk9)
          have hw9 := heap_lt HVB9.out
          clear hr9 hk9 u0 u1 u2 u3 u4 u5 u6
          have u0 : w9.cell? ⟨w.heap.size, 0, none⟩ = some (.int .u64 bal) := block_cell HVB9.out 0 rfl
          have u1 : w9.cell? ⟨w.heap.size, 1, none⟩ = some (.int .i64 st) := block_cell HVB9.out 1 rfl
          have u2 : w9.cell? ⟨w.heap.size, 2, none⟩ = some (.bool sl) := block_cell HVB9.out 2 rfl
          have u3 : w9.cell? ⟨w.heap.size, 3, none⟩ = some (.int .i64 rq) := block_cell HVB9.out 3 rfl
          have u4 : w9.cell? ⟨w.heap.size, 4, none⟩ = some (.int .i64 ex) := block_cell HVB9.out 4 rfl
          have u5 : w9.cell? ⟨w.heap.size, 5, none⟩ = some (.int .i64 wd) := block_cell HVB9.out 5 rfl
          have u6 : w9.cell? ⟨w.heap.size, 6, none⟩ = some (.int .i64 dl) := block_cell HVB9.out 6 rfl
          have HLS := Lib.hid (show (l.set j ⟨bal, st, sl, rq, ex, wd, dl⟩).length ≤ 8192 by rw [List.length_set]; omega)
          go_wp2_with fail
          go_region_held3 (fun w' => w'.cell? ⟨w.heap.size, 0, none⟩ = some (.int .u64 bal) ∧ w'.cell? ⟨w.heap.size, 1, none⟩ = some (.int .i64 st) ∧ w'.cell? ⟨w.heap.size, 2, none⟩ = some (.bool sl) ∧ w'.cell? ⟨w.heap.size, 3, none⟩ = some (.int .i64 rq) ∧ w'.cell? ⟨w.heap.size, 4, none⟩ = some (.int .i64 ex) ∧ w'.cell? ⟨w.heap.size, 5, none⟩ = some (.int .i64 wd) ∧ w'.cell? ⟨w.heap.size, 6, none⟩ = some (.int .i64 dl))
            (first
              | (simp [u0, u1, u2, u3, u4, u5, u6]; done)
              | (refine cells7_keep (S := fun _ => False) u0 u1 u2 u3 u4 u5 u6 ?_ (fun h => h); assumption))
            (first
              | (go_at_call 10; refine (alive_any _).mono ?_; rintro r w10 ⟨rfl, hk10⟩; have hk10' : Keeps w9 w10 := ((Mods.refl _ w9).drew).keep hk10)
              | (go_at_call 23; refine (regAll_any (HR9.out.keeps (by assumption))).mono ?_; rintro r w11 ⟨v5, rfl, ho5, hk5⟩; have hk11' : Keeps w9 w11 := Mods.keep (by assumption) hk5; have hVA := VL.of_owns ho5)
              | (go_at_call 25; refine (put_any _ l j ⟨bal, st, sl, rq, ex, wd, dl⟩ _ (HU9.out.keeps (by assumption)) (by omega) HJ.out).mono ?_; rintro r w12 ⟨v6, rfl, ho6, hk6⟩; have hk12' : Keeps w9 w12 := Mods.keep (by assumption) hk6; have hVB := VL.of_owns ho6; have hVC := VL.keeps (l := l.set j ⟨bal, st, sl, rq, ex, wd, dl⟩) (by assumption) hk6)
              | (go_at_call 22; refine (same_any _ _ (l.set j ⟨bal, st, sl, rq, ex, wd, dl⟩) _ (by assumption) (by assumption) HLS.out).mono ?_; rintro r w13 ⟨rfl, hd⟩; have hk13' : Keeps w9 w13 := Mods.keep (by assumption) hd.mods))
          have HKE := Lib.hid (show Keeps w9 _ from by assumption)
          go_wp2
          go_ret
          exact ⟨rfl, (HK1.out.keep (HK9.out.keep HKE.out)).below'⟩
  · have HD := Lib.hid (decide_eq_false ht)
    clear ht
    obtain ⟨bal, st, sl, rq, ex, wd, dl⟩ := v
    go_enter Try.func7, Try.ntmps7
    go_wp2_with fail
    obtain ⟨w1, hw1⟩ : ∃ w1, w1 = w.alloc (.cells (Vd.cells ⟨bal, st, sl, rq, ex, wd, dl⟩) 29) := ⟨_, rfl⟩
    have HK1 := Lib.hid (show Keeps w w1 from hw1 ▸ (Mods.refl _ w).alloc _)
    have hvb : w1.heap[w.heap.size]? = some (.cells (Vd.cells ⟨bal, st, sl, rq, ex, wd, dl⟩) 29) := hw1 ▸ heap_alloc_last w _
    have HVB := Lib.hid hvb
    have HU1 := Lib.hid (H.out.keeps HK1.out)
    rw [← hw1]
    have u0 : w1.cell? ⟨w.heap.size, 0, none⟩ = some (.int .u64 bal) := block_cell hvb 0 rfl
    have u1 : w1.cell? ⟨w.heap.size, 1, none⟩ = some (.int .i64 st) := block_cell hvb 1 rfl
    have u2 : w1.cell? ⟨w.heap.size, 2, none⟩ = some (.bool sl) := block_cell hvb 2 rfl
    have u3 : w1.cell? ⟨w.heap.size, 3, none⟩ = some (.int .i64 rq) := block_cell hvb 3 rfl
    have u4 : w1.cell? ⟨w.heap.size, 4, none⟩ = some (.int .i64 ex) := block_cell hvb 4 rfl
    have u5 : w1.cell? ⟨w.heap.size, 5, none⟩ = some (.int .i64 wd) := block_cell hvb 5 rfl
    have u6 : w1.cell? ⟨w.heap.size, 6, none⟩ = some (.int .i64 dl) := block_cell hvb 6 rfl
    clear hw1 hvb
    go_region_held3 (fun w' => w'.cell? ⟨w.heap.size, 0, none⟩ = some (.int .u64 bal) ∧ w'.cell? ⟨w.heap.size, 1, none⟩ = some (.int .i64 st) ∧ w'.cell? ⟨w.heap.size, 2, none⟩ = some (.bool sl) ∧ w'.cell? ⟨w.heap.size, 3, none⟩ = some (.int .i64 rq) ∧ w'.cell? ⟨w.heap.size, 4, none⟩ = some (.int .i64 ex) ∧ w'.cell? ⟨w.heap.size, 5, none⟩ = some (.int .i64 wd) ∧ w'.cell? ⟨w.heap.size, 6, none⟩ = some (.int .i64 dl))
      (first
        | (simp [u0, u1, u2, u3, u4, u5, u6]; done)
        | (exact cells7_keep (S := fun _ => False) u0 u1 u2 u3 u4 u5 u6 (((Mods.refl _ w1).alloc _).drew) (fun h => h))
        | (exact cells7_keep (S := fun _ => False) u0 u1 u2 u3 u4 u5 u6 ((((Mods.refl _ w1).alloc _).alloc _).drew) (fun h => h))
        | (refine cells7_keep (S := fun _ => False) u0 u1 u2 u3 u4 u5 u6 ?_ (fun h => h); assumption)
        | (refine cells7_keep (S := fun _ => False) u0 u1 u2 u3 u4 u5 u6 (Mods.alloc ?_ _) (fun h => h); assumption))
      (first
        | (refine step_appendAllG _ (.tmp 25) (.tmp 26) (by rfl) w1.heap.size (.slice (some ⟨w1.heap.size, 0, none⟩) 0 0) [] l (by go_simp) (by simp [Act.eval]) (ownsE (by exact heap_alloc_last w1 _) (by omega)) (.slice a l.length c) (by simp [Act.eval]) (by exact HU1.out.keeps (((Mods.refl (fun _ => False) w1).alloc _).drew)) (by simp; omega) (by simp; try omega) ?_; intro v3 w3 ho3 hg3; simp only [List.nil_append] at ho3; have hk3 : Keeps w1 w3 := (((Mods.refl (fun _ => False) w1).alloc _).drew).grown hg3 (fun j hj e => by simp [Value.ownBlock] at e; omega); have hs3 : w1.heap.size ≤ w3.heap.size := hk3.size)
        | (refine step_appendAllG _ (.tmp 25) (.tmp 26) (by rfl) w1.heap.size (.slice (some ⟨w1.heap.size, 0, none⟩) 0 0) [] l (by go_simp) (by simp [Act.eval]) (ownsE (by exact heap_keep (heap_alloc_last w1 _) _) (by omega)) (.slice a l.length c) (by simp [Act.eval]) (by exact HU1.out.keeps ((((Mods.refl (fun _ => False) w1).alloc _).alloc _).drew)) (by simp; omega) (by simp; try omega) ?_; intro v3 w3 ho3 hg3; simp only [List.nil_append] at ho3; have hk3 : Keeps w1 w3 := ((((Mods.refl (fun _ => False) w1).alloc _).alloc _).drew).grown hg3 (fun j hj e => by simp [Value.ownBlock] at e; omega); have hs3 : w1.heap.size ≤ w3.heap.size := hk3.size; have hV3 : VL w3 (.slice (some ⟨w1.heap.size + 1, 0, none⟩) 1 1) [⟨bal, st, sl, rq, ex, wd, dl⟩] := VL.one ⟨bal, st, sl, rq, ex, wd, dl⟩ ((((Mods.refl (fun i => i = w1.heap.size) ((w1.alloc (.cells #[] 29)).alloc (.cells (Vd.cells ⟨bal, st, sl, rq, ex, wd, dl⟩) 29))).drew).grown hg3 (fun j hj e => by simp [Value.ownBlock] at e; omega)).at (heap_alloc2_new w1 _ _) (by omega)))
        | (refine step_appendAllG _ (.tmp 25) (.tmp 26) (by rfl) w1.heap.size (.slice (some ⟨w1.heap.size + 1, 0, none⟩) 0 0) [] l (by go_simp) (by simp [Act.eval]) (ownsE (by exact heap_alloc2_new w1 _ _) (by omega)) (.slice a l.length c) (by simp [Act.eval]) (by exact HU1.out.keeps ((((Mods.refl (fun _ => False) w1).alloc _).alloc _).drew)) (by simp; omega) (by simp; try omega) ?_; intro v3 w3 ho3 hg3; simp only [List.nil_append] at ho3; have hk3 : Keeps w1 w3 := ((((Mods.refl (fun _ => False) w1).alloc _).alloc _).drew).grown hg3 (fun j hj e => by simp [Value.ownBlock] at e; omega); have hs3 : w1.heap.size ≤ w3.heap.size := hk3.size; have hV3 : VL w3 (.slice (some ⟨w1.heap.size, 0, none⟩) 1 1) [⟨bal, st, sl, rq, ex, wd, dl⟩] := VL.one ⟨bal, st, sl, rq, ex, wd, dl⟩ ((((Mods.refl (fun i => i = w1.heap.size + 1) ((w1.alloc (.cells (Vd.cells ⟨bal, st, sl, rq, ex, wd, dl⟩) 29)).alloc (.cells #[] 29))).drew).grown hg3 (fun j hj e => by simp [Value.ownBlock] at e; omega)).at (heap_keep (heap_alloc_last w1 _) _) (by omega)))
        | (refine step_appendAllG _ (.tmp 27) (.tmp 29) (by rfl) w1.heap.size ?_ l [⟨bal, st, sl, rq, ex, wd, dl⟩] (by go_simp) ?_ ?_ ?_ ?_ ?_ ?_ ?_ ?_; rotate_left 2; (first | assumption | (refine World.ownsRow.drew (World.ownsRow.alloc ?_ _); assumption)); rotate_left 2; (first | assumption | exact VL.one ⟨bal, st, sl, rq, ex, wd, dl⟩ (heap_alloc_last _ _)); (simp only [List.length_cons, List.length_nil]; omega); (first | assumption | (simp; omega)); rotate_left; (simp [Act.eval]); (simp [Act.eval]); intro v4 w4 ho4 hg4; have hk4 : Keeps w1 w4 := (by first | exact keep4 (by assumption) (by assumption) hg4 | exact keep4a (by assumption) (by assumption) hg4); have hF : More w1 w4 v4 (l ++ [⟨bal, st, sl, rq, ex, wd, dl⟩]) := ⟨ho4, hk4⟩)
        | (go_at_call 24; refine (fits_of_more (by assumption) HLL.out HSO.out).mono ?_; rw [HD.out]; rintro r w5 ⟨rfl, hk5⟩))
    all_goals
      go_wp2_with fail
      refine (alive_any _).mono ?_
      rintro r w6 ⟨rfl, hk6⟩
      have HK6 := Lib.hid ((HK1.out.keep (by assumption)).keep hk6)
      clear hk6
      go_wp2
      go_ret
      exact ⟨rfl, HK6.out.below'⟩
end Go.Proofs.Ythngncklmkneoaa
