/- A map literal with integer keys, filled in the order of the text: what it holds, and what is looked up in it. -/
import Derived.Test.YtljcodkcmenpaaaBig
namespace Go.Eg
open Go Go.RowKit Go.MapKept
def entsFrom : Nat → List (Int × Value) → List MapEntry
  | _, [] => []
  | i, p :: r => ⟨.int .i64 p.1, p.2, i⟩ :: entsFrom (i + 1) r
/-- a map's block with these entries, in this order -/
def mapOf (l : List (Int × Value)) : Obj := .map (entsFrom 0 l).toArray l.length
def lookL (l : List (Int × Value)) (x : Int) : Option Value := (l.find? fun p => x == p.1).map (·.2)
theorem entsFrom_snoc (p : Int × Value) : ∀ (l : List (Int × Value)) (i : Nat), entsFrom i (l ++ [p]) = entsFrom i l ++ [⟨.int .i64 p.1, p.2, i + l.length⟩]
  | [], i => rfl
  | q :: r, i => by
    show _ :: entsFrom (i + 1) (r ++ [p]) = _
    rw [entsFrom_snoc p r (i + 1)]
    simp only [entsFrom, List.cons_append, List.length_cons]
    rw [show i + 1 + r.length = i + (r.length + 1) from by omega]
theorem findNow_lit (x : Int) : ∀ (l : List (Int × Value)) (i j : Nat), ∃ n, Instr.findNow (.int .i64) (.int .i64 x) (entsFrom i l) j = some ((lookL l x).map fun v => (n, v))
  | [], i, j => ⟨0, rfl⟩
  | p :: r, i, j => by
    by_cases h : x = p.1
    · refine ⟨j, ?_⟩
      simp [entsFrom, Instr.findNow, Instr.sameNow, lookL, h]
    · obtain ⟨n, hn⟩ := findNow_lit x r (i + 1) (j + 1)
      refine ⟨n, ?_⟩
      have hb : (x == p.1) = false := by simpa using h
      simp only [entsFrom, Instr.findNow, Instr.sameNow, if_true, hb]
      rw [hn]
      simp [lookL, hb]
section
variable {P : Program} {ops : Array Oper} {rest : List Oper} {o : Oper} {a : Act} {w : World} {Q : Exit → Act → World → Prop}
theorem push_set {α : Type} (h : Array α) (a b : α) : (h.push a).setIfInBounds h.size b = h.push b := by
  apply Array.ext_getElem?
  intro i
  rw [Array.getElem?_setIfInBounds]
  by_cases hi : h.size = i
  · subst hi; simp
  · have hi' : ¬ i = h.size := fun e => hi e.symm
    simp [hi, hi', Array.getElem?_push]
theorem run_insert_lit {t k e : TypeId} (ht : P.underlying t = some (.map k e)) (hk : P.underlying k = some (.int .i64)) (w : World) (l : List (Int × Value)) (x : Int) (v : Value) (hnew : lookL l x = none) :
    (Instr.mapUpdate t (.map (some w.heap.size)) (.int .i64 x) v).run P (w.alloc (mapOf l)) = .ok () (w.alloc (mapOf (l ++ [(x, v)]))) := by
  have hb : (w.alloc (mapOf l)).heap[w.heap.size]? = some (.map (entsFrom 0 l).toArray l.length) := heap_alloc_last w _
  obtain ⟨n, hn⟩ := findNow_lit x l 0 0
  rw [hnew] at hn
  simp [Instr.mapUpdate, run_underlying ht, MapKept.run_getObj_map hb, MapKept.run_checkKey hk (show IsKey (.int .i64) (.int .i64 x) from rfl), MapKept.run_findKey hk hn, MapKept.run_setObj_map _ hb, Result.andThen]
  simp only [World.alloc, mapOf, entsFrom_snoc, push_set]
  simp
theorem wpList_insert_lit {l : List (Int × Value)} {x : Int} {v : Value} (hw : Region.wanted o (yielded ops a.tmps) = true) (t : TypeId) (m vx : Operand) (ho : o.op = .insert t m (.const (.int .i64 x)) vx)
    (k e : TypeId) (ht : P.underlying t = some (.map k e)) (hk : P.underlying k = some (.int .i64)) (B : Nat) (hm : a.eval m = .map (some B)) (hv : a.eval vx = v) (hnew : lookL l x = none) (hB : w.heap.size = B)
    (h : wpList P ops Q rest (a.put o.dst undef) (w.alloc (mapOf (l ++ [(x, v)])))) : wpList P ops Q (o :: rest) a (w.alloc (mapOf l)) :=
  wpList_wanted hw fun K hK => by
    subst hB
    have hr : (execOp a.eval o).run P (w.alloc (mapOf l)) = .ok .skip (w.alloc (mapOf (l ++ [(x, v)]))) := by
      unfold execOp
      simp only [ho, hm, hv]
      simp [Act.eval, run_insert_lit ht hk w l x v hnew]
    unfold Oper.wp
    rw [hr, Oper.upon_skip]
    exact hK _ _ h
theorem wpList_lookup_lit {l : List (Int × Value)} {x : Int} {z : Value} (hw : Region.wanted o (yielded ops a.tmps) = true) (t : TypeId) (m kx : Operand) (c : Bool) (ho : o.op = .lookup t m kx c)
    (k e : TypeId) (ht : P.underlying t = some (.map k e)) (hk : P.underlying k = some (.int .i64)) (B : Nat) (hm : a.eval m = .map (some B)) (hx : a.eval kx = .int .i64 x) (hz : (zeroValue e).run P w = .ok z w)
    (hb : w.heap[B]? = some (mapOf l)) (r : Option Value) (hr : lookL l x = r)
    (h : wpList P ops Q rest (a.put o.dst (if c then .tuple #[r.getD z, .bool r.isSome] else r.getD z)) w) : wpList P ops Q (o :: rest) a w :=
  wpList_wanted hw fun K hK => by
    obtain ⟨n, hn⟩ := findNow_lit x l 0 0
    rw [hr] at hn
    have hrun : (execOp a.eval o).run P w = .ok (.value (if c then .tuple #[r.getD z, .bool r.isSome] else r.getD z)) w := by
      unfold execOp
      simp only [ho, hm, hx]
      cases r <;>
        simp [Instr.lookup, run_underlying ht, MapKept.run_getObj_map hb, MapKept.run_checkKey hk (show IsKey (.int .i64) (.int .i64 x) from rfl), MapKept.run_findKey hk hn, hz, Result.andThen]
    unfold Oper.wp
    rw [hrun, Oper.upon_value]
    exact hK _ _ h
end
end Go.Eg
