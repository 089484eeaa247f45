/- Operations as data; the operands of a kind. -/
import Derived.Test.YtljcodkcmenpaaaRows
import Derived.Test.YtljcodkcmenpaaaLeaf
import Derived.Test.YtljcodkcmenpaaaMapLit
import Derived.Deep.RegionHeld3
import Derived.Deep.RegionWith
import Derived.Laws.AppendOwn
import Derived.Laws.AppendOwnNone
import Derived.Laws.ResultCell
import Derived.OpenShut
namespace Go.Eg
open Go Go.RowKit
structure Od where
  kd : Int
  ix : Int
  tg : Int
  am : Int
@[reducible] def Od.cells (o : Od) : Array Value := #[.int .i64 o.kd, .int .i64 o.ix, .int .i64 o.tg, .int .u64 o.am]
@[reducible] def Od.val (o : Od) : Value := .agg o.cells
/-- the operands of a kind: 0 the index, 1 the target, 2 the amount -/
def opsOf (k : Int) : Option (List Nat) :=
  if k = 1 then some [2] else if k = 2 then some [0] else if k = 3 then some [0] else if k = 4 then some [0] else if k = 5 then some [0, 1] else if k = 6 then some [0, 2] else if k = 7 then some [] else none
def szO (c : Nat) : Nat := if c = 2 then 8 else 2
def sumZ : List Nat → Nat
  | [] => 0
  | c :: r => szO c + sumZ r
def sizeK (k : Int) : Int := match opsOf k with
  | none => 0
  | some l => ((1 + sumZ l : Nat) : Int)
theorem opsOf_cases (k : Int) : (k = 1 ∧ opsOf k = some [2]) ∨ (k = 2 ∧ opsOf k = some [0]) ∨ (k = 3 ∧ opsOf k = some [0]) ∨ (k = 4 ∧ opsOf k = some [0]) ∨ (k = 5 ∧ opsOf k = some [0, 1]) ∨ (k = 6 ∧ opsOf k = some [0, 2]) ∨ (k = 7 ∧ opsOf k = some []) ∨
    (k ≠ 1 ∧ k ≠ 2 ∧ k ≠ 3 ∧ k ≠ 4 ∧ k ≠ 5 ∧ k ≠ 6 ∧ k ≠ 7 ∧ opsOf k = none) := by
  unfold opsOf
  by_cases h1 : k = 1
  · subst h1; exact .inl ⟨rfl, rfl⟩
  by_cases h2 : k = 2
  · subst h2; exact .inr (.inl ⟨rfl, rfl⟩)
  by_cases h3 : k = 3
  · subst h3; exact .inr (.inr (.inl ⟨rfl, rfl⟩))
  by_cases h4 : k = 4
  · subst h4; exact .inr (.inr (.inr (.inl ⟨rfl, rfl⟩)))
  by_cases h5 : k = 5
  · subst h5; exact .inr (.inr (.inr (.inr (.inl ⟨rfl, rfl⟩))))
  by_cases h6 : k = 6
  · subst h6; exact .inr (.inr (.inr (.inr (.inr (.inl ⟨rfl, rfl⟩)))))
  by_cases h7 : k = 7
  · subst h7; exact .inr (.inr (.inr (.inr (.inr (.inr (.inl ⟨rfl, rfl⟩))))))
  · exact .inr (.inr (.inr (.inr (.inr (.inr (.inr ⟨h1, h2, h3, h4, h5, h6, h7, by rw [if_neg h1, if_neg h2, if_neg h3, if_neg h4, if_neg h5, if_neg h6, if_neg h7]⟩))))))
theorem opsOf_small {k : Int} {l : List Nat} (h : opsOf k = some l) : l.length ≤ 2 ∧ (∀ c ∈ l, c < 3) ∧ 1 ≤ k ∧ k ≤ 7 ∧ sumZ l ≤ 10 := by
  rcases opsOf_cases k with ⟨e, g⟩ | ⟨e, g⟩ | ⟨e, g⟩ | ⟨e, g⟩ | ⟨e, g⟩ | ⟨e, g⟩ | ⟨e, g⟩ | ⟨_, _, _, _, _, _, _, g⟩ <;> rw [g] at h <;> simp at h <;> subst h <;> subst e <;> decide
section
variable {P : Program} {ops : Array Oper} {rest : List Oper} {o : Oper} {a : Act} {w : World} {Q : Exit → Act → World → Prop}
theorem run_insert_at {t k e : TypeId} (ht : P.underlying t = some (.map k e)) (hk : P.underlying k = some (.int .i64)) (w : World) (B : Nat) (l : List (Int × Value)) (x : Int) (v : Value) (hb : w.heap[B]? = some (mapOf l)) (hnew : lookL l x = none) :
    ∃ w', (Instr.mapUpdate t (.map (some B)) (.int .i64 x) v).run P w = .ok () w' ∧ w'.heap[B]? = some (mapOf (l ++ [(x, v)])) ∧ Mods (fun i => i = B) w w' := by
  have hb' : w.heap[B]? = some (.map (entsFrom 0 l).toArray l.length) := hb
  obtain ⟨n, hn⟩ := findNow_lit x l 0 0
  rw [hnew] at hn
  have hlt := heap_lt hb
  refine ⟨{ w with heap := w.heap.setIfInBounds B (mapOf (l ++ [(x, v)])) }, ?_, ?_, ?_⟩
  · simp [Instr.mapUpdate, run_underlying ht, MapKept.run_getObj_map hb', MapKept.run_checkKey hk (show MapKept.IsKey (.int .i64) (.int .i64 x) from rfl), MapKept.run_findKey hk hn, MapKept.run_setObj_map _ hb', Result.andThen]
    simp [mapOf, entsFrom_snoc]
  · simp [hlt]
  · refine ⟨rfl, rfl, rfl, by simp, fun i _ hi => ?_⟩
    simp only [Array.getElem?_setIfInBounds]
    rw [if_neg (fun e => hi e.symm)]
theorem lookL_none {l : List (Int × Value)} {k : Int} (h : lookL l k = none) : ∀ p ∈ l, ¬ p.1 = k := by
  intro p hp e
  unfold lookL at h
  simp only [Option.map_eq_none_iff, List.find?_eq_none, beq_iff_eq] at h
  exact h p hp e.symm
theorem lookL_some {l : List (Int × Value)} {k : Int} {v : Value} (h : lookL l k = some v) : ∃ p ∈ l, p.1 = k ∧ p.2 = v := by
  unfold lookL at h
  obtain ⟨p, hp, e⟩ := Option.map_eq_some_iff.1 h
  refine ⟨p, List.mem_of_find?_eq_some hp, ?_, e⟩
  have := List.find?_some hp
  simp at this
  exact this.symm
theorem wpList_insert_at {l : List (Int × Value)} {x : Int} {v : Value} (hw : Region.wanted o (yielded ops a.tmps) = true) (t : TypeId) (m vx : Operand) (ho : o.op = .insert t m (.const (.int .i64 x)) vx)
    (k e : TypeId) (ht : P.underlying t = some (.map k e)) (hk : P.underlying k = some (.int .i64)) (B : Nat) (hm : a.eval m = .map (some B)) (hv : a.eval vx = v) (hnew : lookL l x = none) (hb : w.heap[B]? = some (mapOf l))
    (h : ∀ w', w'.heap[B]? = some (mapOf (l ++ [(x, v)])) → Mods (fun i => i = B) w w' → wpList P ops Q rest (a.put o.dst undef) w') : wpList P ops Q (o :: rest) a w :=
  wpList_wanted hw fun K hK => by
    obtain ⟨w', hr, hb', hm'⟩ := run_insert_at ht hk w B l x v hb hnew
    have hr : (execOp a.eval o).run P w = .ok .skip w' := by
      unfold execOp
      simp only [ho, hm, hv]
      simp [Act.eval, hr]
    unfold Oper.wp
    rw [hr, Oper.upon_skip]
    exact hK _ _ (h w' hb' hm')
end
end Go.Eg
namespace Go.Proofs.Ytljcodkcmenpaaa
open Go.RowKit Go.Eg
def gF (c : Nat) : Nat := if c = 0 then 38 else if c = 1 then 40 else 36
def sF (c : Nat) : Nat := if c = 0 then 39 else if c = 1 then 41 else 37
@[reducible] def getV (c : Nat) : Value := .func (.func (gF c)) #[] #[]
@[reducible] def setV (c : Nat) : Value := .func (.func (sF c)) #[] #[]
def flatO : List Nat → List Value
  | [] => []
  | c :: r => [.int .i64 ((szO c : Nat) : Int), getV c, setV c] ++ flatO r
/-- the slice v holds the operands cs -/
def OL (w : World) (v : Value) (cs : List Nat) : Prop := ∃ b, v = .slice (some ⟨b, 0, none⟩) cs.length cs.length ∧ w.heap[b]? = some (.cells (flatO cs).toArray 55 (0, 0))
theorem OL.keeps {w w' : World} {v : Value} {cs : List Nat} (h : OL w v cs) (hm : Keeps w w') : OL w' v cs := by
  obtain ⟨b, rfl, hb⟩ := h
  exact ⟨b, rfl, hm.at hb fun h => h⟩
/-- the map of the operands, half made -/
structure MS (w0 w : World) (B : Nat) (l : List (Int × Value)) : Prop where
  blk : w.heap[B]? = some (mapOf l)
  keeps : Keeps w0 w
  own : w0.heap.size ≤ B
  els : ∀ p ∈ l, ∃ cs, opsOf p.1 = some cs ∧ OL w p.2 cs
theorem MS.keep {w0 w w' : World} {B : Nat} {l : List (Int × Value)} (h : MS w0 w B l) (hm : Keeps w w') : MS w0 w' B l :=
  ⟨hm.at h.blk fun h => h, h.keeps.keep hm, h.own, fun p hp => by obtain ⟨cs, h1, h2⟩ := h.els p hp; exact ⟨cs, h1, h2.keeps hm⟩⟩
theorem OL.ins {w w' : World} {B : Nat} {l : List (Int × Value)} (hb : w.heap[B]? = some (mapOf l)) (hm : Mods (fun i => i = B) w w') {v : Value} {cs : List Nat} (h : OL w v cs) : OL w' v cs := by
  obtain ⟨b, rfl, h1⟩ := h
  refine ⟨b, rfl, hm.at h1 fun e => ?_⟩
  subst e
  rw [hb] at h1
  cases h1
theorem MS.ins {w0 w w' : World} {B : Nat} {l : List (Int × Value)} {x : Int} {v : Value} {cs : List Nat} (h : MS w0 w B l) (hx : opsOf x = some cs) (hv : OL w v cs) (hb : w'.heap[B]? = some (mapOf (l ++ [(x, v)]))) (hm : Mods (fun i => i = B) w w') : MS w0 w' B (l ++ [(x, v)]) := by
  refine ⟨hb, h.keeps.seq hm fun i hi e => by have := h.own; omega, h.own, fun p hp => ?_⟩
  rcases List.mem_append.1 hp with h' | h'
  · obtain ⟨cs', h1, h2⟩ := h.els p h'
    exact ⟨cs', h1, h2.ins h.blk hm⟩
  · simp at h'
    subst h'
    exact ⟨cs, hx, hv.ins h.blk hm⟩
theorem index_any (w : World) : Calls Try.prog 33 #[] w fun r w' => r = .returned (.agg #[.int .i64 2, .func (.func 38) #[] #[], .func (.func 39) #[] #[]]) ∧ Keeps w w' := by
  go_enter Try.func33, Try.ntmps33
  go_wp2
  exact bodyPost_ret (results_cell_row Try.results33 _ _ w.heap.size 55 _ (0, 0) _ rfl (heap_alloc_last w _) Try.underlying55 rfl (by kernel_rfl)) rfl ⟨rfl, (Mods.refl _ w).alloc _⟩
theorem target_any (w : World) : Calls Try.prog 34 #[] w fun r w' => r = .returned (.agg #[.int .i64 2, .func (.func 40) #[] #[], .func (.func 41) #[] #[]]) ∧ Keeps w w' := by
  go_enter Try.func34, Try.ntmps34
  go_wp2
  exact bodyPost_ret (results_cell_row Try.results34 _ _ w.heap.size 55 _ (0, 0) _ rfl (heap_alloc_last w _) Try.underlying55 rfl (by kernel_rfl)) rfl ⟨rfl, (Mods.refl _ w).alloc _⟩
theorem amount_any (w : World) : Calls Try.prog 32 #[] w fun r w' => r = .returned (.agg #[.int .i64 8, .func (.func 36) #[] #[], .func (.func 37) #[] #[]]) ∧ Keeps w w' := by
  go_enter Try.func32, Try.ntmps32
  go_wp2
  exact bodyPost_ret (results_cell_row Try.results32 _ _ w.heap.size 55 _ (0, 0) _ rfl (heap_alloc_last w _) Try.underlying55 rfl (by kernel_rfl)) rfl ⟨rfl, (Mods.refl _ w).alloc _⟩
theorem OL.made {w : World} (cs : List Nat) : OL (w.alloc (.cells (flatO cs).toArray 55)) (.slice (some ⟨w.heap.size, 0, none⟩) cs.length cs.length) cs := ⟨_, rfl, heap_alloc_last w _⟩
theorem at_listO {P : Program} {ops rest : _} {Q : Exit → Act → World → Prop} {a : Act} {w : World} (h : wpList P ops Q rest a w) : wpList P ops Q rest a w := h
theorem zeroOL (w : World) : (zeroValue 49).run Try.prog w = .ok (.slice none 0 0) w := by kernel_rfl
set_option maxHeartbeats 1000000 in
theorem operands_any (k : Int) (w : World) :
    Calls Try.prog 28 #[.int .i64 k] w fun r w' => Keeps w w' ∧ ((opsOf k = none ∧ r = .returned (.tuple #[.slice none 0 0, .bool false])) ∨ ∃ cs v, opsOf k = some cs ∧ r = .returned (.tuple #[v, .bool true]) ∧ OL w' v cs) := by
  have hmm := @run_makeMap Try.prog
  go_enter Try.func28, Try.ntmps28
  go_wp2_with fail
  have HS : Hid (MS w (w.alloc (.map #[] 0)) w.heap.size []) := Lib.hid ⟨heap_alloc_last w _, (Mods.refl _ w).alloc _, Nat.le_refl _, fun p hp => by cases hp⟩
  obtain ⟨wa, hwa⟩ : ∃ wa, wa = w.alloc (.map #[] 0) := ⟨_, rfl⟩
  rw [← hwa] at HS ⊢
  clear hwa hmm
  refine (amount_any _).mono ?_
  rintro r wb0a ⟨rfl, hk⟩
  have HS := Lib.hid (HS.out.keep hk)
  clear hk
  go_wp2_with ((with_reducible refine at_listO ?_); refine wpList_insert_at rfl 61 _ _ rfl 3 49 Try.underlying61 Try.underlying3 w.heap.size rfl rfl (by simp [lookL]) (HS.out.keep ((Mods.refl _ _).alloc (.cells (flatO [2]).toArray 55))).blk ?_)
  intro wc0 hb0 hm0
  have HS := Lib.hid ((HS.out.keep ((Mods.refl _ _).alloc (.cells (flatO [2]).toArray 55))).ins (cs := [2]) (by decide) (OL.made [2]) hb0 hm0)
  clear hb0 hm0
  go_wp2_with fail
  refine (index_any _).mono ?_
  rintro r wb1i ⟨rfl, hk⟩
  have HS := Lib.hid (HS.out.keep hk)
  clear hk
  go_wp2_with ((with_reducible refine at_listO ?_); refine wpList_insert_at rfl 61 _ _ rfl 3 49 Try.underlying61 Try.underlying3 w.heap.size rfl rfl (by simp [lookL]) (HS.out.keep ((Mods.refl _ _).alloc (.cells (flatO [0]).toArray 55))).blk ?_)
  intro wc1 hb1 hm1
  have HS := Lib.hid ((HS.out.keep ((Mods.refl _ _).alloc (.cells (flatO [0]).toArray 55))).ins (cs := [0]) (by decide) (OL.made [0]) hb1 hm1)
  clear hb1 hm1
  go_wp2_with fail
  refine (index_any _).mono ?_
  rintro r wb2i ⟨rfl, hk⟩
  have HS := Lib.hid (HS.out.keep hk)
  clear hk
  go_wp2_with ((with_reducible refine at_listO ?_); refine wpList_insert_at rfl 61 _ _ rfl 3 49 Try.underlying61 Try.underlying3 w.heap.size rfl rfl (by simp [lookL]) (HS.out.keep ((Mods.refl _ _).alloc (.cells (flatO [0]).toArray 55))).blk ?_)
  intro wc2 hb2 hm2
  have HS := Lib.hid ((HS.out.keep ((Mods.refl _ _).alloc (.cells (flatO [0]).toArray 55))).ins (cs := [0]) (by decide) (OL.made [0]) hb2 hm2)
  clear hb2 hm2
  go_wp2_with fail
  refine (index_any _).mono ?_
  rintro r wb3i ⟨rfl, hk⟩
  have HS := Lib.hid (HS.out.keep hk)
  clear hk
  go_wp2_with ((with_reducible refine at_listO ?_); refine wpList_insert_at rfl 61 _ _ rfl 3 49 Try.underlying61 Try.underlying3 w.heap.size rfl rfl (by simp [lookL]) (HS.out.keep ((Mods.refl _ _).alloc (.cells (flatO [0]).toArray 55))).blk ?_)
  intro wc3 hb3 hm3
  have HS := Lib.hid ((HS.out.keep ((Mods.refl _ _).alloc (.cells (flatO [0]).toArray 55))).ins (cs := [0]) (by decide) (OL.made [0]) hb3 hm3)
  clear hb3 hm3
  go_wp2_with fail
  refine (index_any _).mono ?_
  rintro r wb4i ⟨rfl, hk⟩
  have HS := Lib.hid (HS.out.keep hk)
  clear hk
  go_wp2_with fail
  refine (target_any _).mono ?_
  rintro r wb4t ⟨rfl, hk⟩
  have HS := Lib.hid (HS.out.keep hk)
  clear hk
  go_wp2_with ((with_reducible refine at_listO ?_); refine wpList_insert_at rfl 61 _ _ rfl 3 49 Try.underlying61 Try.underlying3 w.heap.size rfl rfl (by simp [lookL]) (HS.out.keep ((Mods.refl _ _).alloc (.cells (flatO [0, 1]).toArray 55))).blk ?_)
  intro wc4 hb4 hm4
  have HS := Lib.hid ((HS.out.keep ((Mods.refl _ _).alloc (.cells (flatO [0, 1]).toArray 55))).ins (cs := [0, 1]) (by decide) (OL.made [0, 1]) hb4 hm4)
  clear hb4 hm4
  go_wp2_with fail
  refine (index_any _).mono ?_
  rintro r wb5i ⟨rfl, hk⟩
  have HS := Lib.hid (HS.out.keep hk)
  clear hk
  go_wp2_with fail
  refine (amount_any _).mono ?_
  rintro r wb5a ⟨rfl, hk⟩
  have HS := Lib.hid (HS.out.keep hk)
  clear hk
  go_wp2_with ((with_reducible refine at_listO ?_); refine wpList_insert_at rfl 61 _ _ rfl 3 49 Try.underlying61 Try.underlying3 w.heap.size rfl rfl (by simp [lookL]) (HS.out.keep ((Mods.refl _ _).alloc (.cells (flatO [0, 2]).toArray 55))).blk ?_)
  intro wc5 hb5 hm5
  have HS := Lib.hid ((HS.out.keep ((Mods.refl _ _).alloc (.cells (flatO [0, 2]).toArray 55))).ins (cs := [0, 2]) (by decide) (OL.made [0, 2]) hb5 hm5)
  clear hb5 hm5
  go_wp2_with ((with_reducible refine at_listO ?_); refine wpList_insert_at rfl 61 _ _ rfl 3 49 Try.underlying61 Try.underlying3 w.heap.size rfl rfl (by simp [lookL]) (HS.out.keep ((Mods.refl _ _).alloc (.cells (flatO []).toArray 55))).blk ?_)
  intro wc6 hb6 hm6
  have HS := Lib.hid ((HS.out.keep ((Mods.refl _ _).alloc (.cells (flatO []).toArray 55))).ins (cs := []) (by decide) (OL.made []) hb6 hm6)
  clear hb6 hm6
  obtain ⟨L, hL, hkeys⟩ : ∃ L : List (Int × Value), MS w wc6 w.heap.size L ∧ ((∀ p ∈ L, ¬ p.1 = k) → opsOf k = none) := ⟨_, HS.out, fun h => by
    simp at h
    rcases opsOf_cases k with ⟨e, _⟩ | ⟨e, _⟩ | ⟨e, _⟩ | ⟨e, _⟩ | ⟨e, _⟩ | ⟨e, _⟩ | ⟨e, _⟩ | ⟨_, _, _, _, _, _, _, g⟩
    all_goals first | exact g | (subst e; simp at h)⟩
  clear HS
  have HL := Lib.hid hL
  have HKEYS := Lib.hid hkeys
  clear hL hkeys
  cases hr : lookL L k with
  | none =>
    have HN := Lib.hid (HKEYS.out (lookL_none hr))
    go_wp2_with ((with_reducible refine at_listO ?_); refine wpList_lookup_lit rfl 61 _ _ true rfl 3 49 Try.underlying61 Try.underlying3 _ rfl rfl (zeroOL _) HL.out.blk none hr ?_)
    go_wp2
    go_ret2
    exact ⟨HL.out.keeps, .inl ⟨HN.out, rfl⟩⟩
  | some v =>
    obtain ⟨q, hq, e1, e2⟩ := lookL_some hr
    obtain ⟨cs, h1, h2⟩ := HL.out.els q hq
    have HC : Hid (opsOf k = some cs ∧ OL wc6 v cs) := Lib.hid ⟨by rw [← e1]; exact h1, by rw [← e2]; exact h2⟩
    clear hq e1 e2 h1 h2
    go_wp2_with ((with_reducible refine at_listO ?_); refine wpList_lookup_lit rfl 61 _ _ true rfl 3 49 Try.underlying61 Try.underlying3 _ rfl rfl (zeroOL _) HL.out.blk (some v) hr ?_)
    go_wp2
    go_ret2
    exact ⟨HL.out.keeps, .inr ⟨cs, v, HC.out.1, rfl, HC.out.2⟩⟩
end Go.Proofs.Ytljcodkcmenpaaa
