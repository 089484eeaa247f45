/- The reference's Values and IsInt; config.Set at every field. -/
import Derived.Test.YtgpglfkdpalmcaaConfS
namespace Go.Proofs.Ytgpglfkdpalmcaa
open Go.RowKit Go.Eg
theorem at_list {P : Program} {ops : Array Oper} {l : List Oper} {a : Act} {w : World} {Q : Exit → Act → World → Prop} (h : wpList P ops Q l a w) : wpList P ops Q l a w := h
theorem wpList_store_last {P : Program} {ops : Array Oper} {rest : List Oper} {o : Oper} {a : Act} {w : World} {Q : Exit → Act → World → Prop} {t : TypeId} {old cs : Array Value} (hw : Region.wanted o (yielded ops a.tmps) = true) (ty : TypeId) (x y : Operand) (ho : o.op = .store ty x y)
    (B : Nat) (hx : a.eval x = .pointer (some ⟨B, 0, none⟩)) (hy : a.eval y = .agg cs) (hi : (P.info? ty).map (·.size) = some cs.size) (hold : old.size = cs.size) (h1 : cs.toList.all (·.oneCell') = true) (hB : w.heap.size = B)
    (h : wpList P ops Q rest (a.put o.dst undef) (w.alloc (.cells cs t))) : wpList P ops Q (o :: rest) a (w.alloc (.cells old t)) := by
  subst hB
  exact wpList_store_new hw ty x y ho hx hy hi hold h1 h
theorem size_alloc1 (w : World) (o : Obj) : (w.alloc o).heap.size = w.heap.size + 1 := by simp
@[reducible] def valsC (c u : Nat → Int) : Array Value := #[.int .u64 (u 0), .int .u64 (u 1), .int .u64 (c 2), .int .u64 (c 3), .int .u64 (c 4), .int .u64 (c 5), .int .u64 (c 6), .int .u64 (c 7), .int .u64 (c 8), .int .u64 (c 9), .int .u64 (u 10), .int .u64 (u 11), .int .u64 (u 12), .int .u64 (u 13), .int .u64 (u 14), .int .u64 (u 15), .int .u64 (u 16), .int .u64 (u 17), .int .u64 (c 18), .int .u64 (c 19)]
@[reducible] def zero20 : Array Value := #[.int .u64 0, .int .u64 0, .int .u64 0, .int .u64 0, .int .u64 0, .int .u64 0, .int .u64 0, .int .u64 0, .int .u64 0, .int .u64 0, .int .u64 0, .int .u64 0, .int .u64 0, .int .u64 0, .int .u64 0, .int .u64 0, .int .u64 0, .int .u64 0, .int .u64 0, .int .u64 0]
theorem size29 : (Try.prog.info? 29).map (·.size) = some 20 := by kernel_rfl
theorem stop_build {P : Program} {ops : Array Oper} {rest : List Oper} {o : Oper} {a : Act} {w : World} {Q : Exit → Act → World → Prop} (t : TypeId) (parts : Array (Nat × Operand)) (_ : o.op = .build t parts) (h : Parked (wpList P ops Q (o :: rest) a w)) : wpList P ops Q (o :: rest) a w := h
set_option maxRecDepth 100000 in
set_option maxHeartbeats 400000 in
theorem values_any (c u : Nat → Int) (w : World) (h0 : IntKind.u64.wrap (c 0) = u 0) (h1 : IntKind.u64.wrap (c 1) = u 1) (h10 : IntKind.u64.wrap (c 10) = u 10) (h11 : IntKind.u64.wrap (c 11) = u 11) (h12 : IntKind.u64.wrap (c 12) = u 12) (h13 : IntKind.u64.wrap (c 13) = u 13) (h14 : IntKind.u64.wrap (c 14) = u 14) (h15 : IntKind.u64.wrap (c 15) = u 15) (h16 : IntKind.u64.wrap (c 16) = u 16) (h17 : IntKind.u64.wrap (c 17) = u 17) :
    Calls Try.prog 15 #[cfgV c] w fun r w' => r = .returned (.agg (valsC c u)) ∧ Below w.heap.size w w' := by
  go_enter Try.func15, Try.ntmps15
  go_wp2_with (with_reducible refine stop_build 29 _ rfl ?_)
  refine Parked.mk ?_
  refine wpList_build_big rfl 29 _ (valsC c u) rfl (by kernel_rfl) ?_
  go_frame
  refine wpList_store_last (t := 29) (old := zero20) (cs := valsC c u) rfl 29 _ _ rfl (w.heap.size + 1) rfl rfl size29 rfl rfl (size_alloc1 _ _) ?_
  go_wp2
  exact bodyPost_ret (v := .agg (valsC c u)) (results_cell_row (p := 2) Try.results15 _ _ (w.heap.size + 1) _ _ _ _ rfl (by rw [← size_alloc1 w (.cells (cfgC c) 24)]; exact heap_alloc_last _ _) Try.underlying29 rfl size29) rfl ⟨rfl, ((Below.refl _ _).alloc (Nat.le_refl _) _).alloc (by rw [size_alloc1]; omega) _⟩
theorem isInt_any (f : Int) (w : World) :
    Calls Try.prog 21 #[.int .i64 f] w fun r w' => r = .returned (.bool (decide (f ≤ 2) || (decide (11 ≤ f) && decide (f ≤ 18)))) ∧ w = w' := by
  go_enter Try.func21, Try.ntmps21
  go_wp2
  all_goals
    go_ret
    refine ⟨ret_bool ?_, rfl⟩
    simp_all
    try omega
theorem lookI_at (B : Nat) : ∀ k, k < 20 → isI k = true → lookL (ptrI B) ((k : Int) + 1) = some (.pointer (some ⟨B, k, none⟩)) := by
  intro k hk h
  match k, hk with
  | 0, _ => rfl
  | 1, _ => rfl
  | 10, _ => rfl
  | 11, _ => rfl
  | 12, _ => rfl
  | 13, _ => rfl
  | 14, _ => rfl
  | 15, _ => rfl
  | 16, _ => rfl
  | 17, _ => rfl
  | 2, _ | 3, _ | 4, _ | 5, _ | 6, _ | 7, _ | 8, _ | 9, _ | 18, _ | 19, _ => exact absurd h (by decide)
  | k + 20, hk => exact absurd hk (by omega)
theorem lookA_at (B : Nat) : ∀ k, k < 20 → isI k = false → lookL (ptrI B) ((k : Int) + 1) = none ∧ lookL (ptrA B) ((k : Int) + 1) = some (.pointer (some ⟨B, k, none⟩)) := by
  intro k hk h
  match k, hk with
  | 2, _ => exact ⟨rfl, rfl⟩
  | 3, _ => exact ⟨rfl, rfl⟩
  | 4, _ => exact ⟨rfl, rfl⟩
  | 5, _ => exact ⟨rfl, rfl⟩
  | 6, _ => exact ⟨rfl, rfl⟩
  | 7, _ => exact ⟨rfl, rfl⟩
  | 8, _ => exact ⟨rfl, rfl⟩
  | 9, _ => exact ⟨rfl, rfl⟩
  | 18, _ => exact ⟨rfl, rfl⟩
  | 19, _ => exact ⟨rfl, rfl⟩
  | 0, _ | 1, _ | 10, _ | 11, _ | 12, _ | 13, _ | 14, _ | 15, _ | 16, _ | 17, _ => exact absurd h (by decide)
  | k + 20, hk => exact absurd hk (by omega)
theorem cfgC_set (c : Nat → Int) (v : Int) : ∀ k, k < 20 → (cfgC c).setIfInBounds k (if isI k = true then .int .i64 v else .int .u64 v) = cfgC (upd c k v) := by
  intro k hk
  match k, hk with
  | 0, _ | 1, _ | 2, _ | 3, _ | 4, _ | 5, _ | 6, _ | 7, _ | 8, _ | 9, _ | 10, _ | 11, _ | 12, _ | 13, _ | 14, _ | 15, _ | 16, _ | 17, _ | 18, _ | 19, _ => rfl
  | k + 20, hk => exact absurd hk (by omega)
/-- config.Set at a field -/
theorem set_any (c : Nat → Int) (v : Int) (k : Nat) (w : World) (hk : k < 20) (hv0 : 0 ≤ v) (hv : isI k = true → v ≤ 2147483648) :
    Calls Try.prog 20 #[cfgV c, .int .i64 ((k : Int) + 1), .int .u64 v] w fun r w' => r = .returned (.tuple #[cfgV (upd c k v), .bool true]) ∧ Below w.heap.size w w' := by
  have hs := cfgC_set c v k hk
  cases hi : isI k with
  | true =>
    rw [hi] at hs
    exact set_int c _ v k w hk (lookI_at _ k hk hi) hv0 (hv hi) hs
  | false =>
    rw [hi] at hs
    exact set_amount c _ v k w hk (lookA_at _ k hk hi).1 (lookA_at _ k hk hi).2 hs
end Go.Proofs.Ytgpglfkdpalmcaa
