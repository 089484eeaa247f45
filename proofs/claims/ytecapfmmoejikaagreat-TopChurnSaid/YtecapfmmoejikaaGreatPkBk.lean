/- A part of the proofs of the top laws: Bls. -/
import Derived.Deep.OwnRows
import Derived.Test.YtecapfmmoejikaaGreatPkAf
set_option maxRecDepth 4000
set_option maxHeartbeats 8000000
namespace Go.Proofs.YtecapfmmoejikaaGreat
open Go.RowKit Go.Eg
theorem Zkx:(Tryz.prog.info? 4).map (fun i =>(i.zero,i.size,i.bytes))=some (some (.bool false),1,1) :=by kernel_rfl
abbrev Z5p (f:Nat→Bool) (n:Nat):Obj := .cells ((Array.range n).map fun j =>.bool (f j)) 4 (0,0)
theorem Zec (n:Nat):Obj.cells (madeCells #[.bool false] n) 4=Z5p (fun _ =>false) n :=by
 unfold Z5p madeCells
 congr 1
 apply Array.ext_getElem?
 intro j
 simp [Nat.mod_one]
theorem Z92 {w:World} {g n c:Nat} {f:Nat→Bool} (h:w.heap[g]? = some (Z5p f n)):Z9s w (.slice (some ⟨g,0,none⟩) n c) n f :=
 Za0 h n c f fun j hj =>by simp [hj]
theorem Zgz {w:World} {g n i:Nat} {f:Nat→Bool} (b:Bool) (h:w.heap[g]? = some (Z5p f n)):(w.setCell ⟨g,i,none⟩ (.bool b)).heap[g]? = some (Z5p (fun j =>if j=i then b else f j) n) :=by
 rw [heap_setCell_same w g i _ _ _ h]
 unfold Z5p
 congr 2
 apply Array.ext_getElem?
 intro j
 by_cases hj:j<n
 ·by_cases e:i=j
  ·subst e; simp [hj]
  ·simp [hj,e,Ne.symm e]
 ·simp [hj]
theorem Ze6 {w:World} {g n:Nat} {f:Nat→Bool} (h:w.heap[g]? = some (Z5p f n)) (j:Nat) (hj:j<n):w.cell? ⟨g,j,none⟩=some (.bool (f j)) :=by simp [World.cell?,h,hj]
theorem Zen {w:World} {g n:Nat} {f:Nat→Bool} (h:w.heap[g]? = some (Z5p f n)) (j:Nat):w.frozen? ⟨g,j,none⟩=false :=by simp [World.frozen?,h]
theorem Z6x {w:World} {ops:Array Oper} {rest:List Oper} {o:Oper} {a:Act} {Q:Exit→Act→World→Prop}
 (hg:o.guard=none) (l c:Operand) (hop:o.op=Op.makeSlice 208 l c) (n:Nat) (hl:a.eval l = .int .i64 (n:Int)) (hc:a.eval c = .int .i64 (n:Int)) (hn:n≤4294967296)
 (hK:∀ w',w'.heap[w.heap.size]? = some (Z5p (fun _ =>false) n)→Z00 w w'→wpList Tryz.prog ops Q rest (a.put o.dst (.slice (some ⟨w.heap.size,0,none⟩) n n)) w') :
 wpList Tryz.prog ops Q (o :: rest) a w :=by
 obtain ⟨i0,hi,hz0,hz1,hz2⟩ :=info_parts Zkx
 refine wpList_make_row w hg l c _ hop 4 i0 (.bool false) Tryz.underlying208 hi hz0 hz1 rfl .i64 .i64 n hl hc (by rw [hz2]; omega) (by omega) ?_
 rw [Zec]
 exact hK _ (heap_alloc_last w _) ((Mods.refl _ w).alloc _)
end Go.Proofs.YtecapfmmoejikaaGreat
