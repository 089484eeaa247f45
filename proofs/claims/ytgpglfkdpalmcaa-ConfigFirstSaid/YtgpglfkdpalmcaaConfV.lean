/- The walk of ConfigSets. -/
import Derived.Test.YtgpglfkdpalmcaaConfU
import Derived.Test.YtgpglfkdpalmcaaEqArr
namespace Go.Proofs.Ytgpglfkdpalmcaa
open Go.RowKit Go.Eg
theorem size22 : (Try.prog.info? 22).map (·.size) = some 1 := by kernel_rfl
theorem isI_is : ∀ k : Nat, k < 20 → (decide ((k : Int) + 1 ≤ 2) || (decide (11 ≤ (k : Int) + 1) && decide ((k : Int) + 1 ≤ 18))) = isI k := by decide
theorem valsC_all (c u : Nat → Int) : ∀ i, i < 20 → ∃ a, (valsC c u)[i]? = some (.int .u64 a) := by
  intro i hi
  match i, hi with
  | 0, _ | 1, _ | 2, _ | 3, _ | 4, _ | 5, _ | 6, _ | 7, _ | 8, _ | 9, _ | 10, _ | 11, _ | 12, _ | 13, _ | 14, _ | 15, _ | 16, _ | 17, _ | 18, _ | 19, _ => exact ⟨_, rfl⟩
  | i + 20, h => exact absurd h (by omega)
theorem eqv29 (c u : Nat → Int) (w : World) : (binOp .eql 29 (.agg (valsC c u)) (.agg (valsC c u))).run Try.prog w = .ok (.bool true) w := by
  rw [run_eql_struct, run_equalIn_array_self w 9998 Try.underlying29 Try.underlying22 size22 _ (valsC_all c u)]
  rfl
theorem eqvg29 (c u : Nat → Int) (x y : Operand) (w : World) : (eqGuard .eql 29 x y (.agg (valsC c u)) (.agg (valsC c u))).run Try.prog w = .ok () w := by
  kernel_rfl
theorem valsC_set (c u u' : Nat → Int) (v : Int) (k : Nat) (hk : k < 20) (h : ∀ i, i < 20 → isI i = true → u' i = if i = k then v else u i) : (valsC c u).setIfInBounds k (.int .u64 v) = valsC (upd c k v) u' := by
  have a0 := h 0 (by omega) rfl; have a1 := h 1 (by omega) rfl; have a10 := h 10 (by omega) rfl; have a11 := h 11 (by omega) rfl; have a12 := h 12 (by omega) rfl
  have a13 := h 13 (by omega) rfl; have a14 := h 14 (by omega) rfl; have a15 := h 15 (by omega) rfl; have a16 := h 16 (by omega) rfl; have a17 := h 17 (by omega) rfl
  unfold valsC upd
  rw [a0, a1, a10, a11, a12, a13, a14, a15, a16, a17]
  match k, hk with
  | 0, _ | 1, _ | 2, _ | 3, _ | 4, _ | 5, _ | 6, _ | 7, _ | 8, _ | 9, _ | 10, _ | 11, _ | 12, _ | 13, _ | 14, _ | 15, _ | 16, _ | 17, _ | 18, _ | 19, _ => rfl
  | i + 20, h => exact absurd h (by omega)
theorem u64wrap (v : Int) (h0 : 0 ≤ v) (h1 : v ≤ 2147483648) : IntKind.u64.wrap v = v := by rw [IntKind.wrap_u64]; exact Int.emod_eq_of_lt h0 (by omega)
theorem stop_load {P : Program} {ops : Array Oper} {rest : List Oper} {o : Oper} {a : Act} {w : World} {Q : Exit → Act → World → Prop} (t : TypeId) (x : Operand) (_ : o.op = .load t x) (h : Parked (wpList P ops Q (o :: rest) a w)) : wpList P ops Q (o :: rest) a w := h
theorem stop_store {P : Program} {ops : Array Oper} {rest : List Oper} {o : Oper} {a : Act} {w : World} {Q : Exit → Act → World → Prop} (t : TypeId) (x y : Operand) (_ : o.op = .store t x y) (h : Parked (wpList P ops Q (o :: rest) a w)) : wpList P ops Q (o :: rest) a w := h
theorem set_any1 (c : Nat → Int) (v : Int) (k : Nat) (w : World) (hk : k < 20) (hv0 : 0 ≤ v) (hv : isI k = true → v ≤ 2147483648) :
    Calls Try.prog 20 #[cfgV c, .int .i64 (1 + (k : Int)), .int .u64 v] w fun r w' => r = .returned (.tuple #[cfgV (upd c k v), .bool true]) ∧ Below w.heap.size w w' := by
  have h := set_any c v k w hk hv0 hv
  rw [show (k : Int) + 1 = 1 + (k : Int) from by omega] at h
  exact h
theorem isInt_k (k : Nat) (hk : k < 20) (w : World) : Calls Try.prog 21 #[.int .i64 (1 + (k : Int))] w fun r w' => r = .returned (.bool (isI k)) ∧ w = w' := by
  have h := isInt_any ((k : Int) + 1) w
  rw [isI_is k hk, show (k : Int) + 1 = 1 + (k : Int) from by omega] at h
  exact h
set_option maxHeartbeats 1000000 in
theorem configSets_walk (c : Nat → Int) (f v : Int) (w : World) (_w0 : ∀ (i : Nat) (k : IntKind), cfgKinds[i]? = some k → (Lit.int k (c i)).wf = true) (w1 : (Lit.int .u8 f).wf = true) (w2 : (Lit.int .u64 v).wf = true) :
    Calls Try.prog 8 #[cfgV c, .int .u8 f, .int .u64 v] w fun e w' => e = .returned (.bool true) ∧ Below w.heap.size w w' := by
  obtain ⟨hf0, hf1⟩ := bounds_u8 w1
  obtain ⟨hv0, hv1⟩ := bounds_u64 w2
  clear w1 w2 hv1
  obtain ⟨k, hk⟩ : ∃ k : Nat, f % 20 = (k : Int) := ⟨(f % 20).toNat, by omega⟩
  have hk20 : k < 20 := by omega
  go_enter Try.func8, Try.ntmps8
  go_wp2_with fail
  refine (isInt_k k hk20 _).mono ?_
  rintro r w1 ⟨rfl, rfl⟩
  have hbox := Lib.hid (heap_alloc_last w (.cells (cfgC c) 24))
  have hkb := Lib.hid ((Below.refl w.heap.size w).alloc (Nat.le_refl _) (.cells (cfgC c) 24))
  obtain ⟨wb, hwb⟩ : ∃ wb, wb = w.alloc (.cells (cfgC c) 24) := ⟨_, rfl⟩
  rw [← hwb] at hbox hkb ⊢
  clear hwb
  obtain ⟨v', hv'⟩ : ∃ v' : Int, v % 2147483649 = v' := ⟨_, rfl⟩
  obtain ⟨u, hu⟩ : ∃ u : Int, u = if isI k = true then v' else v := ⟨_, rfl⟩
  have hu0 : 0 ≤ u := by rw [hu]; split <;> omega
  have hu1 : isI k = true → u ≤ 2147483648 := fun h => by rw [hu, if_pos h]; omega
  cases hi : isI k with
  | true =>
    have HI := Lib.hid hi
    rw [hi, if_pos rfl] at hu
    clear hi
    subst hu
    go_wp2_with (with_reducible refine stop_load 24 _ rfl ?_)
    refine Parked.mk ?_
    refine wpList_load_big rfl 24 _ rfl w.heap.size rfl 24 (cfgC c) (0, 0) _ Try.underlying24 rfl size24 hbox.out ?_
    go_frame
    go_wp2_with fail
    have HU1 := Lib.hid hu1
    clear hu1
    refine (set_any1 c u k _ hk20 hu0 HU1.out).mono ?_
    rintro r w2 ⟨rfl, hb2⟩
    have hbox2 := Lib.hid (box_next hbox.out hb2)
    go_wp2_with (with_reducible refine stop_store 24 _ _ rfl ?_)
    refine Parked.mk ?_
    refine wpList_store_new (t := 24) (old := zeroCells) (cs := cfgC (upd c k u)) rfl 24 _ _ rfl rfl rfl size24 rfl rfl ?_
    go_frame
    have hd2 := Lib.hid (heap_alloc_last w2 (.cells (cfgC (upd c k u)) 24))
    have hx2 := Lib.hid (heap_keep hbox2.out (.cells (cfgC (upd c k u)) 24))
    have hk2 := Lib.hid ((hkb.out.trans (hb2.mono hkb.out.size)).alloc (by have := hkb.out.size; have := hb2.size; omega) (.cells (cfgC (upd c k u)) 24))
    obtain ⟨w3, hw3⟩ : ∃ w3, w3 = w2.alloc (.cells (cfgC (upd c k u)) 24) := ⟨_, rfl⟩
    rw [← hw3] at hd2 hx2 hk2 ⊢
    clear hw3 hbox2 hb2 hkb hbox
    go_wp2_with (with_reducible refine stop_load 24 _ rfl ?_)
    refine Parked.mk ?_
    refine wpList_load_big rfl 24 _ rfl w.heap.size rfl 24 (cfgC c) (0, 0) _ Try.underlying24 rfl size24 hx2.out ?_
    go_frame
    go_wp2_with fail
    refine (values_any c (fun i => IntKind.u64.wrap (c i)) _ rfl rfl rfl rfl rfl rfl rfl rfl rfl rfl).mono ?_
    rintro r w4 ⟨rfl, hb4⟩
    have hd4 := Lib.hid (box_next hd2.out hb4)
    have hk4 := Lib.hid (hk2.out.trans (hb4.mono hk2.out.size))
    clear hx2 hb4 hd2 hk2
    have huu : ∀ i, i < 20 → isI i = true → IntKind.u64.wrap (upd c k u i) = if i = k then u else IntKind.u64.wrap (c i) := by
      intro i _ hii
      unfold upd
      by_cases e : i = k
      · subst e
        rw [if_pos rfl, if_pos rfl]
        exact u64wrap u hu0 (HU1.out hii)
      · rw [if_neg e, if_neg e]
    have hset := Lib.hid (valsC_set c (fun i => IntKind.u64.wrap (c i)) (fun i => IntKind.u64.wrap (upd c k u i)) u k hk20 huu)
    clear huu
    go_wp2_with (with_reducible refine stop_store 29 _ _ rfl ?_)
    refine Parked.mk ?_
    refine wpList_store_new (t := 29) (old := zero20) (cs := valsC c (fun i => IntKind.u64.wrap (c i))) rfl 29 _ _ rfl rfl rfl size29 rfl rfl ?_
    go_frame
    have hv4 := Lib.hid (heap_alloc_last w4 (.cells (valsC c (fun i => IntKind.u64.wrap (c i))) 29))
    have hd5 := Lib.hid (heap_keep hd4.out (.cells (valsC c (fun i => IntKind.u64.wrap (c i))) 29))
    have hk5 := Lib.hid (hk4.out.alloc hk4.out.size (.cells (valsC c (fun i => IntKind.u64.wrap (c i))) 29))
    have hz5 : w2.heap.size < w4.heap.size := heap_lt hd4.out
    have hz6 := hk4.out.size
    obtain ⟨w5, hw5⟩ : ∃ w5, w5 = w4.alloc (.cells (valsC c (fun i => IntKind.u64.wrap (c i))) 29) := ⟨_, rfl⟩
    rw [← hw5] at hv4 hd5 hk5 ⊢
    clear hw5 hd4 hk4
    obtain ⟨cs, hcs⟩ : ∃ cs, cs = valsC c (fun i => IntKind.u64.wrap (c i)) := ⟨_, rfl⟩
    have hsz : cs.size = 20 := by rw [hcs]; rfl
    rw [← hcs] at hv4 hset ⊢
    clear hcs
    have hx5 : ∃ old, w5.cell? ⟨w4.heap.size, k, none⟩ = some old := ⟨cs[k]'(by omega), by simp [World.cell?, hv4.out, hsz, hk20]⟩
    obtain ⟨old, hx5⟩ := hx5
    have hf5 : w5.frozen? ⟨w4.heap.size, k, none⟩ = false := by simp [World.frozen?, hv4.out]
    clear hsz
    go_wp2_with fail
    have hd6 := Lib.hid ((heap_setCell_other w5 ⟨w4.heap.size, k, none⟩ w2.heap.size (.int .u64 u) (by simp; omega)).trans hd5.out)
    have hv6 := Lib.hid (heap_setCell_same w5 w4.heap.size k _ _ (.int .u64 u) hv4.out)
    rw [hset.out] at hv6
    have hk6 := Lib.hid (hk5.out.setCell (p := ⟨w4.heap.size, k, none⟩) (by simp; omega) (.int .u64 u))
    obtain ⟨w6, hw6⟩ : ∃ w6, w6 = w5.setCell ⟨w4.heap.size, k, none⟩ (.int .u64 u) := ⟨_, rfl⟩
    rw [← hw6] at hd6 hv6 hk6 ⊢
    clear hw6 hx5 hf5 hd5 hv4 hk5 hset
    have hC0 : Alow w6.heap.size w6 w6.drew := ⟨(Below.refl _ _).drew, Nat.le_refl _⟩
    have hl1 := heap_lt hd6.out
    have hl2 := heap_lt hv6.out
    refine wp_region_quiet (by kernel_rfl) (by kernel_rfl) hC0 ?_
    refine wpQuiet_enter rfl (fun wx hC => by first | (go_simp; done) | (go_simp; decide)) (fun wx hC => hC.call (alive_any _)) ?_
    go_frame
    refine wpQuiet_val (v := .bool true) rfl (fun wx hC => by go_simp) ?_
    go_frame
    refine wpQuiet_val (v := .bool true) rfl (fun wx hC => by go_simp) ?_
    go_frame
    refine wpQuiet_val (v := .bool true) rfl (fun wx hC => by go_simp) ?_
    go_frame
    refine wpQuiet_val (v := .bool true) rfl (fun wx hC => by go_simp) ?_
    go_frame
    refine wpQuiet_load_big rfl 24 _ rfl w2.heap.size rfl 24 (cfgC (upd c k u)) (0, 0) _ Try.underlying24 rfl size24 (fun wx hC => (hC.block hl1).trans hd6.out) ?_
    go_frame
    refine wpQuiet_enter rfl (fun wx hC => by first | (go_simp; done) | (go_simp; decide)) (fun wx hC => hC.call (values_any (upd c k u) (fun i => IntKind.u64.wrap (upd c k u i)) _ rfl rfl rfl rfl rfl rfl rfl rfl rfl rfl)) ?_
    go_frame
    refine wpQuiet_load_big rfl 29 _ rfl w4.heap.size rfl 29 (valsC (upd c k u) (fun i => IntKind.u64.wrap (upd c k u i))) (0, 0) _ Try.underlying29 rfl size29 (fun wx hC => (hC.block hl2).trans hv6.out) ?_
    go_frame
    refine wpQuiet_val (v := .bool true) rfl (fun wx hC => by unfold execOp; simp only [Act.eval]; simp [eqv29, eqvg29]) ?_
    go_frame
    refine wpQuiet_val (v := .bool true) rfl (fun wx hC => by go_simp) ?_
    go_frame
    refine wpQuiet_val (v := .bool true) rfl (fun wx hC => by go_simp) ?_
    go_frame
    refine wpQuiet_nil ?_
    intro w7 hC
    have hb := hk6.out.trans (hC.1.mono hk6.out.size)
    clear hC hC0
    try go_frame
    go_wp2
    go_ret
    exact ⟨rfl, hb⟩
  | false =>
    have HI := Lib.hid hi
    rw [hi, if_neg (by simp)] at hu
    clear hi
    subst hu
    go_wp2_with (with_reducible refine stop_load 24 _ rfl ?_)
    refine Parked.mk ?_
    refine wpList_load_big rfl 24 _ rfl w.heap.size rfl 24 (cfgC c) (0, 0) _ Try.underlying24 rfl size24 hbox.out ?_
    go_frame
    go_wp2_with fail
    have HU1 := Lib.hid hu1
    clear hu1
    refine (set_any1 c u k _ hk20 hu0 HU1.out).mono ?_
    rintro r w2 ⟨rfl, hb2⟩
    have hbox2 := Lib.hid (box_next hbox.out hb2)
    go_wp2_with (with_reducible refine stop_store 24 _ _ rfl ?_)
    refine Parked.mk ?_
    refine wpList_store_new (t := 24) (old := zeroCells) (cs := cfgC (upd c k u)) rfl 24 _ _ rfl rfl rfl size24 rfl rfl ?_
    go_frame
    have hd2 := Lib.hid (heap_alloc_last w2 (.cells (cfgC (upd c k u)) 24))
    have hx2 := Lib.hid (heap_keep hbox2.out (.cells (cfgC (upd c k u)) 24))
    have hk2 := Lib.hid ((hkb.out.trans (hb2.mono hkb.out.size)).alloc (by have := hkb.out.size; have := hb2.size; omega) (.cells (cfgC (upd c k u)) 24))
    obtain ⟨w3, hw3⟩ : ∃ w3, w3 = w2.alloc (.cells (cfgC (upd c k u)) 24) := ⟨_, rfl⟩
    rw [← hw3] at hd2 hx2 hk2 ⊢
    clear hw3 hbox2 hb2 hkb hbox
    go_wp2_with (with_reducible refine stop_load 24 _ rfl ?_)
    refine Parked.mk ?_
    refine wpList_load_big rfl 24 _ rfl w.heap.size rfl 24 (cfgC c) (0, 0) _ Try.underlying24 rfl size24 hx2.out ?_
    go_frame
    go_wp2_with fail
    refine (values_any c (fun i => IntKind.u64.wrap (c i)) _ rfl rfl rfl rfl rfl rfl rfl rfl rfl rfl).mono ?_
    rintro r w4 ⟨rfl, hb4⟩
    have hd4 := Lib.hid (box_next hd2.out hb4)
    have hk4 := Lib.hid (hk2.out.trans (hb4.mono hk2.out.size))
    clear hx2 hb4 hd2 hk2
    have huu : ∀ i, i < 20 → isI i = true → IntKind.u64.wrap (upd c k u i) = if i = k then u else IntKind.u64.wrap (c i) := by
      intro i _ hii
      unfold upd
      by_cases e : i = k
      · subst e
        rw [if_pos rfl, if_pos rfl]
        exact u64wrap u hu0 (HU1.out hii)
      · rw [if_neg e, if_neg e]
    have hset := Lib.hid (valsC_set c (fun i => IntKind.u64.wrap (c i)) (fun i => IntKind.u64.wrap (upd c k u i)) u k hk20 huu)
    clear huu
    go_wp2_with (with_reducible refine stop_store 29 _ _ rfl ?_)
    refine Parked.mk ?_
    refine wpList_store_new (t := 29) (old := zero20) (cs := valsC c (fun i => IntKind.u64.wrap (c i))) rfl 29 _ _ rfl rfl rfl size29 rfl rfl ?_
    go_frame
    have hv4 := Lib.hid (heap_alloc_last w4 (.cells (valsC c (fun i => IntKind.u64.wrap (c i))) 29))
    have hd5 := Lib.hid (heap_keep hd4.out (.cells (valsC c (fun i => IntKind.u64.wrap (c i))) 29))
    have hk5 := Lib.hid (hk4.out.alloc hk4.out.size (.cells (valsC c (fun i => IntKind.u64.wrap (c i))) 29))
    have hz5 : w2.heap.size < w4.heap.size := heap_lt hd4.out
    have hz6 := hk4.out.size
    obtain ⟨w5, hw5⟩ : ∃ w5, w5 = w4.alloc (.cells (valsC c (fun i => IntKind.u64.wrap (c i))) 29) := ⟨_, rfl⟩
    rw [← hw5] at hv4 hd5 hk5 ⊢
    clear hw5 hd4 hk4
    obtain ⟨cs, hcs⟩ : ∃ cs, cs = valsC c (fun i => IntKind.u64.wrap (c i)) := ⟨_, rfl⟩
    have hsz : cs.size = 20 := by rw [hcs]; rfl
    rw [← hcs] at hv4 hset ⊢
    clear hcs
    have hx5 : ∃ old, w5.cell? ⟨w4.heap.size, k, none⟩ = some old := ⟨cs[k]'(by omega), by simp [World.cell?, hv4.out, hsz, hk20]⟩
    obtain ⟨old, hx5⟩ := hx5
    have hf5 : w5.frozen? ⟨w4.heap.size, k, none⟩ = false := by simp [World.frozen?, hv4.out]
    clear hsz
    go_wp2_with fail
    have hd6 := Lib.hid ((heap_setCell_other w5 ⟨w4.heap.size, k, none⟩ w2.heap.size (.int .u64 u) (by simp; omega)).trans hd5.out)
    have hv6 := Lib.hid (heap_setCell_same w5 w4.heap.size k _ _ (.int .u64 u) hv4.out)
    rw [hset.out] at hv6
    have hk6 := Lib.hid (hk5.out.setCell (p := ⟨w4.heap.size, k, none⟩) (by simp; omega) (.int .u64 u))
    obtain ⟨w6, hw6⟩ : ∃ w6, w6 = w5.setCell ⟨w4.heap.size, k, none⟩ (.int .u64 u) := ⟨_, rfl⟩
    rw [← hw6] at hd6 hv6 hk6 ⊢
    clear hw6 hx5 hf5 hd5 hv4 hk5 hset
    have hC0 : Alow w6.heap.size w6 w6.drew := ⟨(Below.refl _ _).drew, Nat.le_refl _⟩
    have hl1 := heap_lt hd6.out
    have hl2 := heap_lt hv6.out
    refine wp_region_quiet (by kernel_rfl) (by kernel_rfl) hC0 ?_
    refine wpQuiet_enter rfl (fun wx hC => by first | (go_simp; done) | (go_simp; decide)) (fun wx hC => hC.call (alive_any _)) ?_
    go_frame
    refine wpQuiet_val (v := .bool true) rfl (fun wx hC => by go_simp) ?_
    go_frame
    refine wpQuiet_val (v := .bool true) rfl (fun wx hC => by go_simp) ?_
    go_frame
    refine wpQuiet_val (v := .bool true) rfl (fun wx hC => by go_simp) ?_
    go_frame
    refine wpQuiet_val (v := .bool true) rfl (fun wx hC => by go_simp) ?_
    go_frame
    refine wpQuiet_load_big rfl 24 _ rfl w2.heap.size rfl 24 (cfgC (upd c k u)) (0, 0) _ Try.underlying24 rfl size24 (fun wx hC => (hC.block hl1).trans hd6.out) ?_
    go_frame
    refine wpQuiet_enter rfl (fun wx hC => by first | (go_simp; done) | (go_simp; decide)) (fun wx hC => hC.call (values_any (upd c k u) (fun i => IntKind.u64.wrap (upd c k u i)) _ rfl rfl rfl rfl rfl rfl rfl rfl rfl rfl)) ?_
    go_frame
    refine wpQuiet_load_big rfl 29 _ rfl w4.heap.size rfl 29 (valsC (upd c k u) (fun i => IntKind.u64.wrap (upd c k u i))) (0, 0) _ Try.underlying29 rfl size29 (fun wx hC => (hC.block hl2).trans hv6.out) ?_
    go_frame
    refine wpQuiet_val (v := .bool true) rfl (fun wx hC => by unfold execOp; simp only [Act.eval]; simp [eqv29, eqvg29]) ?_
    go_frame
    refine wpQuiet_val (v := .bool true) rfl (fun wx hC => by go_simp) ?_
    go_frame
    refine wpQuiet_val (v := .bool true) rfl (fun wx hC => by go_simp) ?_
    go_frame
    refine wpQuiet_nil ?_
    intro w7 hC
    have hb := hk6.out.trans (hC.1.mono hk6.out.size)
    clear hC hC0
    try go_frame
    go_wp2
    go_ret
    exact ⟨rfl, hb⟩
end Go.Proofs.Ytgpglfkdpalmcaa
