/- The registry: Add. -/
import Derived.Test.YthngncklmkneoaaRgsC
import Derived.Laws.AppendOwn
import Derived.Deep.RegionHeld3
import Derived.Deep.RegionWith
import Derived.Deep.AppendLies
import Derived.Deep.RegionLaw
namespace Go.Proofs.Ythngncklmkneoaa
open Go.RowKit Go.Eg
theorem regAdd_nil (v : Vd) (w : World) :
    Calls Try.prog 15 #[.pointer none, v.val] w fun r w' => r = .returned (.tuple #[.int .i64 (-1), .int .i64 1]) ∧ Keeps w w' := by
  obtain ⟨bal, st, sl, rq, ex, wd, dl⟩ := v
  go_enter_defers Try.func15, Try.ntmps15
  go_wp2
  exact ⟨_, results_tmp2 rfl _ _ _, rfl, (Mods.refl _ w).alloc _⟩
theorem regAdd_full {B : Nat} {w : World} {g m : Nat} {lv : Value} {cap : Int} {l : List Vd} {n : Nat} (h : RegAt B w g m lv cap l n) (v : Vd) (hc : (l.length : Int) = cap) :
    Calls Try.prog 15 #[.pointer (some ⟨g, 0, none⟩), v.val] w fun r w' => r = .returned (.tuple #[.int .i64 (-1), .int .i64 5]) ∧ Keeps w w' := by
  obtain ⟨bal, st, sl, rq, ex, wd, dl⟩ := v
  obtain ⟨a, c, rfl⟩ := owns_slice' h.row
  obtain ⟨c0, c1, c2, c3, c4⟩ := reg_cells h.blk
  subst hc
  have hlt := cell_lt c0
  clear h c2 c3 c4
  go_enter_defers Try.func15, Try.ntmps15
  go_wp2
  go_quiet (fail)
  go_wp2
  exact ⟨_, results_tmp2 rfl _ _ _, rfl, ((Mods.refl _ w).alloc _).drewN _⟩
theorem block_cell {w : World} {g : Nat} {cs : Array Value} {t : TypeId} {fr : Nat × Nat} (h : w.heap[g]? = some (.cells cs t fr)) (j : Nat) {v : Value} (hv : cs[j]? = some v) : w.cell? ⟨g, j, none⟩ = some v := by
  simp [World.cell?, h, hv]
theorem cells2_keep {w0 w' : World} {p q : Addr} {x y : Value} (t1 : w0.cell? p = some x) (t2 : w0.cell? q = some y) (hd : Keeps w0 w') : w'.cell? p = some x ∧ w'.cell? q = some y := ⟨hd.cell t1 fun h => h, hd.cell t2 fun h => h⟩
set_option maxHeartbeats 400000 in
theorem regAdd_over {B : Nat} {w : World} {g m : Nat} {lv : Value} {cap : Int} {l : List Vd} {n : Nat} (h : RegAt B w g m lv cap l n) (v : Vd) (hv : v.ok) (hc : (l.length : Int) ≠ cap) (ho : ¬ totS l + v.bal ≤ maxU) :
    Calls Try.prog 15 #[.pointer (some ⟨g, 0, none⟩), v.val] w fun r w' => r = .returned (.tuple #[.int .i64 (-1), .int .i64 10]) ∧ Keeps w w' := by
  obtain ⟨a, c, rfl⟩ := owns_slice' h.row
  obtain ⟨c0, c1, c2, c3, c4⟩ := reg_cells h.blk
  have AO := Lib.hid (show addOk (fun j => if j = 0 then totS l else v.bal) 2 = false from by unfold addOk; rw [sum2]; exact decide_eq_false ho)
  have AV := Lib.hid (show addV (fun j => if j = 0 then totS l else v.bal) 2 = 0 from by unfold addV; rw [sum2]; exact if_neg ho)
  have A0 := Lib.hid (show 0 ≤ totS l ∧ totS l ≤ maxU from ⟨totS_nonneg h.ok, h.tot⟩)
  have A1 := Lib.hid (show 0 ≤ v.bal ∧ v.bal ≤ maxU from ⟨hv.b0, hv.b1⟩)
  have hlt := cell_lt c0
  have hcb : ((l.length : Int) == cap) = false := by simpa using hc
  clear h c2 c4 ho hc hv
  obtain ⟨bal, st, sl, rq, ex, wd, dl⟩ := v
  generalize totS l = T at *
  go_enter_defers Try.func15, Try.ntmps15
  go_wp2
  go_quiet (fail)
  go_wp2_with fail
  obtain ⟨wx, hwx⟩ : ∃ wx, wx = (w.alloc (.cells (Vd.cells ⟨bal, st, sl, rq, ex, wd, dl⟩) 29)).drewN nq := ⟨_, rfl⟩
  have HX := Lib.hid (show Keeps w wx from hwx ▸ ((Mods.refl _ w).alloc _).drewN _)
  have t1 : wx.cell? ⟨g, 3, none⟩ = some (.int .u64 T) := HX.out.cell c3 fun h => h
  have hvb := (((Mods.refl (fun _ => False) (w.alloc (.cells (Vd.cells ⟨bal, st, sl, rq, ex, wd, dl⟩) 29))).drewN nq)).at (heap_alloc_last w (.cells (Vd.cells ⟨bal, st, sl, rq, ex, wd, dl⟩) 29)) (fun h => h)
  rw [← hwx] at hvb ⊢
  have t2 : wx.cell? ⟨w.heap.size, 0, none⟩ = some (.int .u64 bal) := block_cell hvb 0 rfl
  clear hwx c0 c1 c3 hvb
  go_region_held3 (fun w' => w'.cell? ⟨g, 3, none⟩ = some (.int .u64 T) ∧ w'.cell? ⟨w.heap.size, 0, none⟩ = some (.int .u64 bal))
    (first
      | (simp [t1, t2]; done)
      | (refine cells2_keep t1 t2 ?_; exact ((Mods.refl _ wx).drew).alloc _))
    (first
      | (go_at_call 26; refine (gweiAdd_any _ 2 (fun j => if j = 0 then T else bal) _ ?_ (by omega)).mono ?_; (exact amts2 _ _ _ _ A0.out A1.out); rw [AO.out, AV.out]; rintro e w' ⟨rfl, rfl⟩))
  go_wp2
  exact ⟨_, results_tmp2 rfl _ _ _, rfl, HX.out.keep (((Mods.refl _ wx).alloc _).drew)⟩
theorem cells7_keep {S : Nat → Prop} {w0 w' : World} {b : Nat} {x0 x1 x2 x3 x4 x5 x6 : Value} (u0 : w0.cell? ⟨b, 0, none⟩ = some x0) (u1 : w0.cell? ⟨b, 1, none⟩ = some x1) (u2 : w0.cell? ⟨b, 2, none⟩ = some x2) (u3 : w0.cell? ⟨b, 3, none⟩ = some x3)
    (u4 : w0.cell? ⟨b, 4, none⟩ = some x4) (u5 : w0.cell? ⟨b, 5, none⟩ = some x5) (u6 : w0.cell? ⟨b, 6, none⟩ = some x6) (hm : Mods S w0 w') (hb : ¬ S b) :
    w'.cell? ⟨b, 0, none⟩ = some x0 ∧ w'.cell? ⟨b, 1, none⟩ = some x1 ∧ w'.cell? ⟨b, 2, none⟩ = some x2 ∧ w'.cell? ⟨b, 3, none⟩ = some x3 ∧ w'.cell? ⟨b, 4, none⟩ = some x4 ∧ w'.cell? ⟨b, 5, none⟩ = some x5 ∧ w'.cell? ⟨b, 6, none⟩ = some x6 :=
  ⟨hm.cell u0 hb, hm.cell u1 hb, hm.cell u2 hb, hm.cell u3 hb, hm.cell u4 hb, hm.cell u5 hb, hm.cell u6 hb⟩
theorem cells8_keep {S : Nat → Prop} {w0 w' : World} {g b : Nat} {x x0 x1 x2 x3 x4 x5 x6 : Value} (y : w0.cell? ⟨g, 1, none⟩ = some x) (u0 : w0.cell? ⟨b, 0, none⟩ = some x0) (u1 : w0.cell? ⟨b, 1, none⟩ = some x1) (u2 : w0.cell? ⟨b, 2, none⟩ = some x2) (u3 : w0.cell? ⟨b, 3, none⟩ = some x3)
    (u4 : w0.cell? ⟨b, 4, none⟩ = some x4) (u5 : w0.cell? ⟨b, 5, none⟩ = some x5) (u6 : w0.cell? ⟨b, 6, none⟩ = some x6) (hm : Mods S w0 w') (hg : ¬ S g) (hb : ¬ S b) :
    w'.cell? ⟨g, 1, none⟩ = some x ∧ w'.cell? ⟨b, 0, none⟩ = some x0 ∧ w'.cell? ⟨b, 1, none⟩ = some x1 ∧ w'.cell? ⟨b, 2, none⟩ = some x2 ∧ w'.cell? ⟨b, 3, none⟩ = some x3 ∧ w'.cell? ⟨b, 4, none⟩ = some x4 ∧ w'.cell? ⟨b, 5, none⟩ = some x5 ∧ w'.cell? ⟨b, 6, none⟩ = some x6 :=
  ⟨hm.cell y hg, hm.cell u0 hb, hm.cell u1 hb, hm.cell u2 hb, hm.cell u3 hb, hm.cell u4 hb, hm.cell u5 hb, hm.cell u6 hb⟩
theorem vd_one (v : Vd) : ∀ u ∈ v.cells.toList, u.oneCell' = true := by
  intro u hu
  simp at hu
  rcases hu with rfl | rfl | rfl | rfl | rfl | rfl | rfl <;> rfl
theorem infoV : (Try.prog.info? 29).map (fun i => (i.zero, i.size, i.bytes)) = some (some (Vd.val ⟨0, 0, false, 0, 0, 0, 0⟩), 7, 56) := by kernel_rfl
theorem u64_id {x : Int} (h0 : 0 ≤ x) (h1 : x ≤ maxU) : IntKind.u64.wrap x = x := by
  unfold maxU at h1
  rw [IntKind.wrap_u64]
  exact Int.emod_eq_of_lt h0 (by omega)
theorem wrap64_id {x : Int} (h0 : -4096 ≤ x) (h1 : x ≤ 1000000) : wrap64 x = x := IntWalk.wrap64_in x ⟨by omega, by omega⟩
theorem add_mid {B : Nat} {wy w1 : World} {g m gb cb : Nat} {lv : Value} {cap : Int} {l : List Vd} {n : Nat} {v : Vd} {o : Obj} (H : RegAt B wy g m lv cap l n)
    (hown : w1.ownsRow B 29 7 (.slice (some ⟨gb, 0, none⟩) (l.length + 1) cb) (l.length + 1) (flatV l ++ v.cells.toList)) (hgrow : ((wy.alloc o).drew).grownBy w1 lv.ownBlock) (hat : lv.ownBlock = some gb ∨ gb = wy.heap.size + 1) :
    (w1.setCell ⟨g, 1, none⟩ (.slice (some ⟨gb, 0, none⟩) (l.length + 1) cb)).heap[g]? = some (regB cap (.slice (some ⟨gb, 0, none⟩) (l.length + 1) cb) (actS l) (totS l) m) ∧
    IM (w1.setCell ⟨g, 1, none⟩ (.slice (some ⟨gb, 0, none⟩) (l.length + 1) cb)) m n (cntS l) ∧
    (w1.setCell ⟨g, 1, none⟩ (.slice (some ⟨gb, 0, none⟩) (l.length + 1) cb)).ownsRow B 29 7 (.slice (some ⟨gb, 0, none⟩) (l.length + 1) cb) (l.length + 1) (flatV (l ++ [v])) ∧
    Mods (RegS g m lv) wy (w1.setCell ⟨g, 1, none⟩ (.slice (some ⟨gb, 0, none⟩) (l.length + 1) cb)) ∧ gb ≠ g ∧ gb ≠ m := by
  have hg := heap_lt H.blk
  have hm := H.map.lt
  have m1 : Mods (fun i => lv.ownBlock = some i) wy w1 := (((Mods.refl _ wy).alloc _).drew).grown hgrow fun _ _ h => h
  have hb1 := m1.at H.blk H.og
  have him : IM w1 m n (cntS l) := H.map.mods m1 H.om
  have n1 : gb ≠ g := by
    rcases hat with h | h
    · intro e; subst e; exact H.og h
    · omega
  have n2 : gb ≠ m := by
    rcases hat with h | h
    · intro e; subst e; exact H.om h
    · omega
  have m2 : Mods (fun i => i = g) w1 (w1.setCell ⟨g, 1, none⟩ (.slice (some ⟨gb, 0, none⟩) (l.length + 1) cb)) := (Mods.refl _ w1).setCell _ _ fun _ => rfl
  refine ⟨heap_setCell_same w1 g 1 _ _ _ hb1, him.mods m2 (fun e => H.gm e.symm), ?_, ?_, n1, n2⟩
  · rw [flatV_append]
    exact m2.owns hown fun k hk e => by simp [Value.ownBlock] at hk; omega
  · exact (m1.weaken fun _ _ h => .inr (.inr h)).seq m2 fun _ _ h => .inl h
theorem add_end {B : Nat} {w wy w2 w3 : World} {g m gb cb : Nat} {lv : Value} {cap : Int} {l : List Vd} {n : Nat} {v : Vd} (H : RegAt B wy g m lv cap l n) (hv : v.ok) (hc : (l.length : Int) ≠ cap) (ho : totS l + v.bal ≤ maxU) (hK : Keeps w wy)
    (hown : w2.ownsRow B 29 7 (.slice (some ⟨gb, 0, none⟩) (l.length + 1) cb) (l.length + 1) (flatV (l ++ [v]))) (hm2 : Mods (RegS g m lv) wy w2) (n1 : gb ≠ g) (n2 : gb ≠ m) (hat : lv.ownBlock = some gb ∨ gb = wy.heap.size + 1)
    (hb3 : w3.heap[g]? = some (regB cap (.slice (some ⟨gb, 0, none⟩) (l.length + 1) cb) (if v.live = true then IntKind.u64.wrap (actS l + v.bal) else actS l) (IntKind.u64.wrap (totS l + v.bal)) m)) (hm3 : IM w3 m (n + 1) (fun y => if y = v.st then wrap64 (cntS l v.st + 1) else cntS l y)) (hm : Mods (Two g m) w2 w3) :
    ∃ lv', RegAt B w3 g m lv' cap (l ++ [v]) (n + 1) ∧ Mods (RegS g m lv) w w3 ∧ (∀ k, lv'.ownBlock = some k → lv.ownBlock = some k ∨ w.heap.size ≤ k) := by
  have hl : (l ++ [v]).length = l.length + 1 := by simp
  have hlen : (l.length : Int) ≤ 4096 := by have := H.len; have := H.cap; omega
  have ha := actS_le H.ok
  have hb0 := hv.b0
  have ht0 := totS_nonneg H.ok
  have e1 : (if v.live = true then IntKind.u64.wrap (actS l + v.bal) else actS l) = actS (l ++ [v]) := by
    rw [actS_append]
    split
    · exact u64_id (by omega) (by omega)
    · omega
  have e2 : IntKind.u64.wrap (totS l + v.bal) = totS (l ++ [v]) := by
    rw [totS_append]
    exact u64_id (by omega) ho
  have e3 : (fun y => if y = v.st then wrap64 (cntS l v.st + 1) else cntS l y) = cntS (l ++ [v]) := by
    funext y
    rw [cntS_append]
    have hr := cntS_range l v.st
    by_cases h : y = v.st
    · subst h
      rw [if_pos rfl, if_pos rfl]
      exact wrap64_id (by omega) (by omega)
    · rw [if_neg h, if_neg (fun e => h e.symm)]
      omega
  rw [e1, e2] at hb3
  rw [e3] at hm3
  refine ⟨.slice (some ⟨gb, 0, none⟩) (l.length + 1) cb, ⟨hb3, ?_, hm3, H.bg, H.bm, H.gm, by simp [Value.ownBlock]; exact n1, by simp [Value.ownBlock]; exact n2, ?_, ?_, ?_, H.cap⟩, ?_, ?_⟩
  · rw [hl]
    exact hm.owns hown fun k hk e => by simp [Value.ownBlock] at hk; subst hk; rcases e with e | e <;> omega
  · intro x hx
    rcases List.mem_append.1 hx with h | h
    · exact H.ok x h
    · simp at h; subst h; exact hv
  · rw [totS_append]; exact ho
  · rw [hl]; have := H.len; push_cast; omega
  · exact ((hK.weaken (T := RegS g m lv) fun _ _ h => h.elim).trans hm2).seq hm fun _ _ h => by
      rcases h with h | h
      · exact .inl h
      · exact .inr (.inl h)
  · intro k hk
    simp [Value.ownBlock] at hk
    subst hk
    rcases hat with h | h
    · exact .inl h
    · exact .inr (by have := hK.size; omega)
set_option maxHeartbeats 400000 in
theorem regAdd_any {B : Nat} {w : World} {g m : Nat} {lv : Value} {cap : Int} {l : List Vd} {n : Nat} (h : RegAt B w g m lv cap l n) (v : Vd) (hv : v.ok) (hc : (l.length : Int) ≠ cap) (ho : totS l + v.bal ≤ maxU) (hn : n < 4294967296) :
    Calls Try.prog 15 #[.pointer (some ⟨g, 0, none⟩), v.val] w fun r w' => r = .returned (.tuple #[.int .i64 l.length, .int .i64 0]) ∧ ∃ lv', RegAt B w' g m lv' cap (l ++ [v]) (n + 1) ∧ Mods (RegS g m lv) w w' ∧ (∀ k, lv'.ownBlock = some k → lv.ownBlock = some k ∨ w.heap.size ≤ k) := by
  obtain ⟨a, c, rfl⟩ := owns_slice' h.row
  obtain ⟨c0, c1, c2, c3, c4⟩ := reg_cells h.blk
  have AO := Lib.hid (show addOk (fun j => if j = 0 then totS l else v.bal) 2 = true from by unfold addOk; rw [sum2]; exact decide_eq_true ho)
  have AV := Lib.hid (show addV (fun j => if j = 0 then totS l else v.bal) 2 = totS l + v.bal from by unfold addV; rw [sum2]; exact if_pos ho)
  have A0 := Lib.hid (show 0 ≤ totS l ∧ totS l ≤ maxU from ⟨totS_nonneg h.ok, h.tot⟩)
  have A1 := Lib.hid (show 0 ≤ v.bal ∧ v.bal ≤ maxU from ⟨hv.b0, hv.b1⟩)
  have hlt := cell_lt c0
  have hcb : ((l.length : Int) == cap) = false := by simpa using hc
  have H := Lib.hid h
  have HV := Lib.hid hv
  have HO := Lib.hid ho
  have HC := Lib.hid hc
  have HN := Lib.hid hn
  clear h c2 c4 ho hc hv hn
  obtain ⟨bal, st, sl, rq, ex, wd, dl⟩ := v
  generalize hT : totS l = T at AO AV A0 HO c3
  have HT := Lib.hid hT
  clear hT
  go_enter_defers Try.func15, Try.ntmps15
  go_wp2
  go_quiet (fail)
  go_wp2_with fail
  obtain ⟨wx, hwx⟩ : ∃ wx, wx = (w.alloc (.cells (Vd.cells ⟨bal, st, sl, rq, ex, wd, dl⟩) 29)).drewN nq := ⟨_, rfl⟩
  have HX := Lib.hid (show Keeps w wx from hwx ▸ ((Mods.refl _ w).alloc _).drewN _)
  have t1 : wx.cell? ⟨g, 3, none⟩ = some (.int .u64 T) := HX.out.cell c3 fun h => h
  have hvb := (((Mods.refl (fun _ => False) (w.alloc (.cells (Vd.cells ⟨bal, st, sl, rq, ex, wd, dl⟩) 29))).drewN nq)).at (heap_alloc_last w (.cells (Vd.cells ⟨bal, st, sl, rq, ex, wd, dl⟩) 29)) (fun h => h)
  rw [← hwx] at hvb ⊢
  have t2 : wx.cell? ⟨w.heap.size, 0, none⟩ = some (.int .u64 bal) := block_cell hvb 0 rfl
  have HVB := Lib.hid hvb
  clear hwx c0 c1 c3 hvb
  go_region_held3 (fun w' => w'.cell? ⟨g, 3, none⟩ = some (.int .u64 T) ∧ w'.cell? ⟨w.heap.size, 0, none⟩ = some (.int .u64 bal))
    (first
      | (simp [t1, t2]; done)
      | (refine cells2_keep t1 t2 ?_; exact ((Mods.refl _ wx).drew).alloc _))
    (first
      | (go_at_call 26; refine (gweiAdd_any _ 2 (fun j => if j = 0 then T else bal) _ ?_ (by omega)).mono ?_; (exact amts2 _ _ _ _ A0.out A1.out); rw [AO.out, AV.out]; rintro e w' ⟨rfl, rfl⟩))
  obtain ⟨wy, hwy⟩ : ∃ wy, wy = (wx.alloc (Obj.cells #[Value.int IntKind.u64 T, Value.int IntKind.u64 bal] 27)).drew := ⟨_, rfl⟩
  have hY : Keeps wx wy := hwy ▸ ((Mods.refl _ wx).alloc _).drew
  rw [← hwy]
  clear hwy t1 t2
  have HK := Lib.hid (HX.out.keep hY)
  have hvy := hY.at HVB.out (fun h => h)
  have u0 : wy.cell? ⟨w.heap.size, 0, none⟩ = some (.int .u64 bal) := block_cell hvy 0 rfl
  have u1 : wy.cell? ⟨w.heap.size, 1, none⟩ = some (.int .i64 st) := block_cell hvy 1 rfl
  have u2 : wy.cell? ⟨w.heap.size, 2, none⟩ = some (.bool sl) := block_cell hvy 2 rfl
  have u3 : wy.cell? ⟨w.heap.size, 3, none⟩ = some (.int .i64 rq) := block_cell hvy 3 rfl
  have u4 : wy.cell? ⟨w.heap.size, 4, none⟩ = some (.int .i64 ex) := block_cell hvy 4 rfl
  have u5 : wy.cell? ⟨w.heap.size, 5, none⟩ = some (.int .i64 wd) := block_cell hvy 5 rfl
  have u6 : wy.cell? ⟨w.heap.size, 6, none⟩ = some (.int .i64 dl) := block_cell hvy 6 rfl
  have HY := Lib.hid (H.out.keeps HK.out)
  obtain ⟨_, y1, _, _, _⟩ := reg_cells HY.out.blk
  have f1 := reg_free HY.out.blk 1
  clear hY hvy HVB HX
  go_wp2
  obtain ⟨i0, hi, hz0, hz1, hz2⟩ := info_parts infoV
  have hlen : l.length ≤ 4096 := by have := H.out.len; have := H.out.cap; omega
  have hB : B ≤ wy.heap.size := by have := H.out.bg; have := heap_lt HY.out.blk; omega
  have hown := HY.out.row
  have HOW := Lib.hid hown
  have NG := Lib.hid (show ¬ (Value.slice a l.length c).ownBlock = some g from H.out.og)
  have NB := Lib.hid (show ¬ (Value.slice a l.length c).ownBlock = some w.heap.size from fun e => Nat.lt_irrefl _ (H.out.row.lt _ e).2)
  have NB2 := Lib.hid (show ¬ (w.heap.size = g ∨ (Value.slice a l.length c).ownBlock = some w.heap.size) from fun e => by rcases e with e | e; omega; exact NB.out e)
  clear hown
  have hgy : g < wy.heap.size := heap_lt HY.out.blk
  have hby : w.heap.size < wy.heap.size := cell_lt u0
  refine wp_region_noPanic ?_
  go_region_law
    ((refine step_append_lies _ (by rfl) _ _ 26 (by rfl) B 29 i0 _ 7 56 Try.underlying26 hi hz0 hz1 hz2 (by rfl) (by decide) (.slice a l.length c) l.length (flatV l) (by simp [Act.eval]) ((HOW.out.alloc _).drew) ⟨wy.heap.size, 0, none⟩ 1 1 (Vd.cells ⟨bal, st, sl, rq, ex, wd, dl⟩).toList (by simp [Act.eval]) (by rfl) (World.news_of_block (fr := (0, 0)) (t := 29) (by exact heap_alloc_last wy _)) (vd_one _) (by omega) (by unfold maxLen; omega) (by omega) (by show B ≤ (wy.heap.push _).size; rw [Array.size_push]; omega) (wy.heap.size + 1) (by show (wy.heap.push _).size = _; rw [Array.size_push]) ?_; intro gb cb w1 hown1 hgrow1 hat1 hlt1; have ys := (cells8_keep (S := fun i => Value.ownBlock (.slice a l.length c) = some i) y1 u0 u1 u2 u3 u4 u5 u6 ((((Mods.refl _ wy).alloc _).drew).grown hgrow1 (fun _ _ h => h)) NG.out NB.out).1; have yf : w1.frozen? ⟨g, 1, none⟩ = false := (((((Mods.refl (fun i => Value.ownBlock (.slice a l.length c) = some i) wy).alloc _).drew).grown hgrow1 (fun _ _ h => h)).frozen (p := ⟨g, 1, none⟩) (cell_lt y1) NG.out).trans f1))
  all_goals
    refine NoPanic.normal ?_
    go_wp2
    obtain ⟨k1, k2, k3, k4, k5, k6⟩ := add_mid (v := ⟨bal, st, sl, rq, ex, wd, dl⟩) HY.out hown1 hgrow1 hat1
    refine leaves_cons (f := 27) (args := #[.pointer (some ⟨g, 0, none⟩), Vd.val ⟨bal, st, sl, rq, ex, wd, dl⟩, .bool true]) (by simp) (by simp [go_sem]) ?_
    refine (countD_any g m n cap (actS l) (totS l) _ (cntS l) _ _ _ k1 k2 HY.out.gm HN.out HV.out).mono ?_
    rintro e u' w3 ⟨rfl, rfl, hb3, hm3, hmd3⟩
    exact ⟨_, results_tmp2 rfl _ _ _, rfl, add_end HY.out HV.out HC.out (by rw [HT.out]; exact HO.out) HK.out k3 k4 k5 k6 hat1 hb3 hm3 hmd3⟩
end Go.Proofs.Ythngncklmkneoaa
