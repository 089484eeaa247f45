/- config.Set: its contract. -/
import Derived.Test.YtgpglfkdpalmcaaConfE
import Derived.Test.YtgpglfkdpalmcaaMapLit
import Derived.Laws.ResultCell
namespace Go.Proofs.Ytgpglfkdpalmcaa
open Go.RowKit Go.Eg
/-- field k is an int -/
def isI (k : Nat) : Bool := k < 2 || (10 ≤ k && k < 18)
def upd (c : Nat → Int) (k : Nat) (v : Int) : Nat → Int := fun i => if i = k then v else c i
@[reducible] def ptrI (B : Nat) : List (Int × Value) := [(1, .pointer (some ⟨B, 0, none⟩)), (2, .pointer (some ⟨B, 1, none⟩)), (11, .pointer (some ⟨B, 10, none⟩)), (12, .pointer (some ⟨B, 11, none⟩)), (13, .pointer (some ⟨B, 12, none⟩)), (14, .pointer (some ⟨B, 13, none⟩)), (15, .pointer (some ⟨B, 14, none⟩)), (16, .pointer (some ⟨B, 15, none⟩)), (17, .pointer (some ⟨B, 16, none⟩)), (18, .pointer (some ⟨B, 17, none⟩))]
@[reducible] def ptrA (B : Nat) : List (Int × Value) := [(3, .pointer (some ⟨B, 2, none⟩)), (4, .pointer (some ⟨B, 3, none⟩)), (5, .pointer (some ⟨B, 4, none⟩)), (6, .pointer (some ⟨B, 5, none⟩)), (7, .pointer (some ⟨B, 6, none⟩)), (8, .pointer (some ⟨B, 7, none⟩)), (9, .pointer (some ⟨B, 8, none⟩)), (10, .pointer (some ⟨B, 9, none⟩)), (19, .pointer (some ⟨B, 18, none⟩)), (20, .pointer (some ⟨B, 19, none⟩))]
theorem zeroPI (w : World) : (zeroValue 42).run Try.prog w = .ok (.pointer none) w := by kernel_rfl
theorem zeroPA (w : World) : (zeroValue 44).run Try.prog w = .ok (.pointer none) w := by kernel_rfl
theorem makeM {P : Program} (t : TypeId) (w : World) : (Instr.makeMap t none).run P w = .ok (.map (some w.heap.size)) (w.alloc (mapOf [])) := rfl
theorem results_row_tmp {P : Program} {fn : Func} {p u : Tmp} {ty : TypeId} (h : fn.results = #[.cell p ty, .tmp u]) (tmps : Array Value) (w : World) (g : Nat) (t : TypeId) (cs : Array Value) (fr : Nat × Nat) (d : TypeDesc) (z : Value)
    (hp : tmps.getD p undef = .pointer (some ⟨g, 0, none⟩)) (hz : tmps.getD u undef = z) (hg : w.heap[g]? = some (.cells cs t fr))
    (hu : P.underlying ty = some d) (hd : (match d with | .struct _ | .array _ _ => true | _ => false) = true) (hi : (P.info? ty).map (·.size) = some cs.size) :
    (results fn tmps).run P w = .ok (.tuple #[.agg cs, z]) w := by
  rw [results_cell_tmp h, hp, hz]
  simp [asAddr, run_loadVar_row w g t ty cs fr d hg hu hd hi]
theorem below_setRow {B : Nat} {W w : World} (h : Below B W w) {g : Nat} (hg : B ≤ g) (cs : Array Value) : Below B W (w.setRow g cs) :=
  ⟨h.os, h.tape, h.output, by rw [size_setRow]; exact h.size, fun k hk => (setRow_other w g k cs (by omega)).trans (h.block k hk)⟩
/-- the world behind the two literals -/
theorem setW {c : Nat → Int} {w wx : World} (h : ((((w.alloc (.cells (cfgC c) 24)).alloc (.cells zeroCells 24)).alloc (mapOf (ptrI w.heap.size))).alloc (mapOf (ptrA w.heap.size))) = wx) :
    wx.heap[w.heap.size]? = some (.cells (cfgC c) 24 (0, 0)) ∧ wx.heap[w.heap.size + 1]? = some (.cells zeroCells 24 (0, 0)) ∧ wx.heap[w.heap.size + 1 + 1]? = some (mapOf (ptrI w.heap.size)) ∧
      wx.heap[w.heap.size + 1 + 1 + 1]? = some (mapOf (ptrA w.heap.size)) ∧ Below w.heap.size w wx := by
  subst h
  have e1 : ∀ (x : World) (o : Obj), (x.alloc o).heap.size = x.heap.size + 1 := fun x o => by simp
  refine ⟨heap_keep (heap_keep (heap_keep (heap_alloc_last w _) _) _) _, ?_, ?_, ?_, ?_⟩
  · have := heap_alloc_last (w.alloc (.cells (cfgC c) 24)) (.cells zeroCells 24)
    rw [e1] at this
    exact heap_keep (heap_keep this _) _
  · have := heap_alloc_last ((w.alloc (.cells (cfgC c) 24)).alloc (.cells zeroCells 24)) (mapOf (ptrI w.heap.size))
    rw [e1, e1] at this
    exact heap_keep this _
  · have := heap_alloc_last (((w.alloc (.cells (cfgC c) 24)).alloc (.cells zeroCells 24)).alloc (mapOf (ptrI w.heap.size))) (mapOf (ptrA w.heap.size))
    rw [e1, e1, e1] at this
    exact this
  · exact ((((Below.refl _ _).alloc (Nat.le_refl _) _).alloc (by simp) _).alloc (by simp; omega) _).alloc (by simp; omega) _
set_option maxHeartbeats 1000000 in
theorem set_int (c : Nat → Int) (f v : Int) (k : Nat) (w : World) (hk : k < 20) (hr1 : lookL (ptrI w.heap.size) f = some (.pointer (some ⟨w.heap.size, k, none⟩))) (hv0 : 0 ≤ v) (hv : v ≤ 2147483648) (hset : (cfgC c).setIfInBounds k (.int .i64 v) = cfgC (upd c k v)) :
    Calls Try.prog 20 #[cfgV c, .int .i64 f, .int .u64 v] w fun r w' => r = .returned (.tuple #[cfgV (upd c k v), .bool true]) ∧ Below w.heap.size w w' := by
  have H1 := Lib.hid hr1
  have HS := Lib.hid hset
  clear hr1 hset
  have hmm := @makeM Try.prog
  go_enter Try.func20, Try.ntmps20
  go_wp2_with (first | (refine wpList_insert_lit rfl 43 _ _ rfl 3 42 Try.underlying43 Try.underlying3 _ rfl rfl rfl (by simp) ?_) | (refine wpList_insert_lit rfl 45 _ _ rfl 3 44 Try.underlying45 Try.underlying3 _ rfl rfl rfl (by simp) ?_) | (at_lookup; refine Parked.out ?_))
  generalize hwx : ((((w.alloc (.cells (cfgC c) 24)).alloc (.cells zeroCells 24)).alloc (mapOf (ptrI w.heap.size))).alloc (mapOf (ptrA w.heap.size))) = wx
  obtain ⟨hbox, hres, hmI, hmA, hb⟩ := setW hwx
  clear hwx hmm
  refine Parked.mk ?_
  have hcell : ∃ old, wx.cell? ⟨w.heap.size, k, none⟩ = some old := by
    refine ⟨(cfgC c)[k]'(by simpa using hk), ?_⟩
    simp [World.cell?, hbox, hk]
  obtain ⟨old, hcell⟩ := hcell
  have hfr : wx.frozen? ⟨w.heap.size, k, none⟩ = false := by simp [World.frozen?, hbox]
  have HB := Lib.hid hbox
  have HR := Lib.hid hres
  clear hbox hres hmA
  have hnew : (wx.setCell ⟨w.heap.size, k, none⟩ (.int .i64 v)).heap[w.heap.size]? = some (.cells (cfgC (upd c k v)) 24 (0, 0)) := by
    rw [heap_setCell_same wx w.heap.size k (cfgC c) _ _ HB.out, HS.out]
  have hres2 : (wx.setCell ⟨w.heap.size, k, none⟩ (.int .i64 v)).heap[w.heap.size + 1]? = some (.cells zeroCells 24 (0, 0)) := by
    rw [heap_setCell_other wx _ _ _ (by simp)]; exact HR.out
  have HN := Lib.hid hnew
  have HR2 := Lib.hid hres2
  clear hnew hres2
  go_wp2_with (first | (refine wpList_lookup_lit rfl 43 _ _ false rfl 3 42 Try.underlying43 Try.underlying3 _ rfl rfl (zeroPI _) hmI _ H1.out ?_) | (refine wpList_load_big rfl 24 _ rfl w.heap.size rfl 24 (cfgC (upd c k v)) (0, 0) _ Try.underlying24 rfl size24 HN.out ?_) | (refine wpList_store_big rfl 24 _ _ rfl (w.heap.size + 1) (cfgC (upd c k v)) rfl rfl 24 zeroCells size24 rfl rfl HR2.out ?_))
  exact bodyPost_ret (v := .tuple #[.agg (cfgC (upd c k v)), .bool true]) (results_row_tmp (p := 6) (u := 7) Try.results20 _ _ (w.heap.size + 1) 24 _ (0, 0) _ _ rfl rfl (setRow_heap _ _ _ _ _ _ HR2.out) Try.underlying24 rfl size24) rfl ⟨rfl, below_setRow (hb.setCell (Nat.le_refl _) _) (by omega) _⟩
set_option maxHeartbeats 1000000 in
theorem set_amount (c : Nat → Int) (f v : Int) (k : Nat) (w : World) (hk : k < 20) (hr1 : lookL (ptrI w.heap.size) f = none) (hr2 : lookL (ptrA w.heap.size) f = some (.pointer (some ⟨w.heap.size, k, none⟩))) (hset : (cfgC c).setIfInBounds k (.int .u64 v) = cfgC (upd c k v)) :
    Calls Try.prog 20 #[cfgV c, .int .i64 f, .int .u64 v] w fun r w' => r = .returned (.tuple #[cfgV (upd c k v), .bool true]) ∧ Below w.heap.size w w' := by
  have H1 := Lib.hid hr1
  have H2 := Lib.hid hr2
  have HS := Lib.hid hset
  clear hr1 hr2 hset
  have hmm := @makeM Try.prog
  go_enter Try.func20, Try.ntmps20
  go_wp2_with (first | (refine wpList_insert_lit rfl 43 _ _ rfl 3 42 Try.underlying43 Try.underlying3 _ rfl rfl rfl (by simp) ?_) | (refine wpList_insert_lit rfl 45 _ _ rfl 3 44 Try.underlying45 Try.underlying3 _ rfl rfl rfl (by simp) ?_) | (at_lookup; refine Parked.out ?_))
  generalize hwx : ((((w.alloc (.cells (cfgC c) 24)).alloc (.cells zeroCells 24)).alloc (mapOf (ptrI w.heap.size))).alloc (mapOf (ptrA w.heap.size))) = wx
  obtain ⟨hbox, hres, hmI, hmA, hb⟩ := setW hwx
  clear hwx hmm
  refine Parked.mk ?_
  have hcell : ∃ old, wx.cell? ⟨w.heap.size, k, none⟩ = some old := by
    refine ⟨(cfgC c)[k]'(by simpa using hk), ?_⟩
    simp [World.cell?, hbox, hk]
  obtain ⟨old, hcell⟩ := hcell
  have hfr : wx.frozen? ⟨w.heap.size, k, none⟩ = false := by simp [World.frozen?, hbox]
  have HB := Lib.hid hbox
  have HR := Lib.hid hres
  clear hbox hres
  have hnew : (wx.setCell ⟨w.heap.size, k, none⟩ (.int .u64 v)).heap[w.heap.size]? = some (.cells (cfgC (upd c k v)) 24 (0, 0)) := by
    rw [heap_setCell_same wx w.heap.size k (cfgC c) _ _ HB.out, HS.out]
  have hres2 : (wx.setCell ⟨w.heap.size, k, none⟩ (.int .u64 v)).heap[w.heap.size + 1]? = some (.cells zeroCells 24 (0, 0)) := by
    rw [heap_setCell_other wx _ _ _ (by simp)]; exact HR.out
  have HN := Lib.hid hnew
  have HR2 := Lib.hid hres2
  clear hnew hres2
  go_wp2_with (first | (refine wpList_lookup_lit rfl 43 _ _ false rfl 3 42 Try.underlying43 Try.underlying3 _ rfl rfl (zeroPI _) hmI _ H1.out ?_) | (refine wpList_lookup_lit rfl 45 _ _ false rfl 3 44 Try.underlying45 Try.underlying3 _ rfl rfl (zeroPA _) hmA _ H2.out ?_) | (refine wpList_load_big rfl 24 _ rfl w.heap.size rfl 24 (cfgC (upd c k v)) (0, 0) _ Try.underlying24 rfl size24 HN.out ?_) | (refine wpList_store_big rfl 24 _ _ rfl (w.heap.size + 1) (cfgC (upd c k v)) rfl rfl 24 zeroCells size24 rfl rfl HR2.out ?_))
  exact bodyPost_ret (v := .tuple #[.agg (cfgC (upd c k v)), .bool true]) (results_row_tmp (p := 6) (u := 7) Try.results20 _ _ (w.heap.size + 1) 24 _ (0, 0) _ _ rfl rfl (setRow_heap _ _ _ _ _ _ HR2.out) Try.underlying24 rfl size24) rfl ⟨rfl, below_setRow (hb.setCell (Nat.le_refl _) _) (by omega) _⟩
set_option maxHeartbeats 1000000 in
theorem set_none (c : Nat → Int) (f v : Int) (w : World) (hr1 : lookL (ptrI w.heap.size) f = none) (hr2 : lookL (ptrA w.heap.size) f = none) :
    Calls Try.prog 20 #[cfgV c, .int .i64 f, .int .u64 v] w fun r w' => r = .returned (.tuple #[.agg zeroCells, .bool false]) ∧ Below w.heap.size w w' := by
  have H1 := Lib.hid hr1
  have H2 := Lib.hid hr2
  clear hr1 hr2
  have hmm := @makeM Try.prog
  go_enter Try.func20, Try.ntmps20
  go_wp2_with (first | (refine wpList_insert_lit rfl 43 _ _ rfl 3 42 Try.underlying43 Try.underlying3 _ rfl rfl rfl (by simp) ?_) | (refine wpList_insert_lit rfl 45 _ _ rfl 3 44 Try.underlying45 Try.underlying3 _ rfl rfl rfl (by simp) ?_) | (at_lookup; refine Parked.out ?_))
  generalize hwx : ((((w.alloc (.cells (cfgC c) 24)).alloc (.cells zeroCells 24)).alloc (mapOf (ptrI w.heap.size))).alloc (mapOf (ptrA w.heap.size))) = wx
  obtain ⟨hbox, hres, hmI, hmA, hb⟩ := setW hwx
  clear hwx hmm
  refine Parked.mk ?_
  have HR := Lib.hid hres
  clear hbox hres
  go_wp2_with (first | (refine wpList_lookup_lit rfl 43 _ _ false rfl 3 42 Try.underlying43 Try.underlying3 _ rfl rfl (zeroPI _) hmI _ H1.out ?_) | (refine wpList_lookup_lit rfl 45 _ _ false rfl 3 44 Try.underlying45 Try.underlying3 _ rfl rfl (zeroPA _) hmA _ H2.out ?_) | (refine wpList_build_big rfl 24 _ zeroCells rfl (by kernel_rfl) ?_) | (refine wpList_store_big rfl 24 _ _ rfl (w.heap.size + 1) zeroCells rfl rfl 24 zeroCells size24 rfl rfl HR.out ?_))
  exact bodyPost_ret (v := .tuple #[.agg (zeroCells), .bool false]) (results_row_tmp (p := 6) (u := 7) Try.results20 _ _ (w.heap.size + 1) 24 _ (0, 0) _ _ rfl rfl (setRow_heap _ _ _ _ _ _ HR.out) Try.underlying24 rfl size24) rfl ⟨rfl, below_setRow (hb) (by omega) _⟩
set_option maxHeartbeats 1000000 in
theorem set_great (c : Nat → Int) (f v : Int) (w : World) (k : Nat) (hr1 : lookL (ptrI w.heap.size) f = some (.pointer (some ⟨w.heap.size, k, none⟩))) (hv : 2147483648 < v) (hr2 : lookL (ptrA w.heap.size) f = none) :
    Calls Try.prog 20 #[cfgV c, .int .i64 f, .int .u64 v] w fun r w' => r = .returned (.tuple #[.agg zeroCells, .bool false]) ∧ Below w.heap.size w w' := by
  have H1 := Lib.hid hr1
  have H2 := Lib.hid hr2
  clear hr1 hr2
  have hmm := @makeM Try.prog
  go_enter Try.func20, Try.ntmps20
  go_wp2_with (first | (refine wpList_insert_lit rfl 43 _ _ rfl 3 42 Try.underlying43 Try.underlying3 _ rfl rfl rfl (by simp) ?_) | (refine wpList_insert_lit rfl 45 _ _ rfl 3 44 Try.underlying45 Try.underlying3 _ rfl rfl rfl (by simp) ?_) | (at_lookup; refine Parked.out ?_))
  generalize hwx : ((((w.alloc (.cells (cfgC c) 24)).alloc (.cells zeroCells 24)).alloc (mapOf (ptrI w.heap.size))).alloc (mapOf (ptrA w.heap.size))) = wx
  obtain ⟨hbox, hres, hmI, hmA, hb⟩ := setW hwx
  clear hwx hmm
  refine Parked.mk ?_
  have HR := Lib.hid hres
  clear hbox hres
  go_wp2_with (first | (refine wpList_lookup_lit rfl 43 _ _ false rfl 3 42 Try.underlying43 Try.underlying3 _ rfl rfl (zeroPI _) hmI _ H1.out ?_) | (refine wpList_lookup_lit rfl 45 _ _ false rfl 3 44 Try.underlying45 Try.underlying3 _ rfl rfl (zeroPA _) hmA _ H2.out ?_) | (refine wpList_build_big rfl 24 _ zeroCells rfl (by kernel_rfl) ?_) | (refine wpList_store_big rfl 24 _ _ rfl (w.heap.size + 1) zeroCells rfl rfl 24 zeroCells size24 rfl rfl HR.out ?_))
  exact bodyPost_ret (v := .tuple #[.agg (zeroCells), .bool false]) (results_row_tmp (p := 6) (u := 7) Try.results20 _ _ (w.heap.size + 1) 24 _ (0, 0) _ _ rfl rfl (setRow_heap _ _ _ _ _ _ HR.out) Try.underlying24 rfl size24) rfl ⟨rfl, below_setRow (hb) (by omega) _⟩
end Go.Proofs.Ytgpglfkdpalmcaa
