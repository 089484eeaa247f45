/- A part of the proofs of the top laws: Big Quiet Mods MapLit EqTwo. -/
import Derived.Laws.Rows
import Derived.Laws.Tables
import Derived.Deep.WholeRow
import Derived.Laws.EntriesVeiled
import Derived.Deep.Quiet
import Derived.OneCell
import Derived.Deep.Draws
import Derived.Deep.QuietTactic
import Derived.Test.YtecapfmmoejikaaGreatPkAa
set_option maxRecDepth 4000
set_option maxHeartbeats 8000000
namespace Go.Eg
open Go Go.RowKit
section
variable {P:Program} {ops:Array Oper} {rest:List Oper} {o:Oper} {a:Act} {w:World} {Q:Exit→Act→World→Prop}
theorem Z1f (hw:Region.wanted o (yielded ops a.tmps)=true) (h:∀ K:Act→World→Prop,(∀ a w,wpList P ops Q rest a w→K a w)→o.wp P a w K Q):wpList P ops Q (o :: rest) a w :=
 wpList_step fun K hK =>by rw [if_pos hw]; exact h K hK
theorem Z03 (hw:Region.wanted o (yielded ops a.tmps)=true) (ty:TypeId) (x:Operand) (ho:o.op = .load ty x)
 (g:Nat) (hx:a.eval x = .pointer (some ⟨g,0,none⟩)) (t:TypeId) (cs:Array Value) (fr:Nat × Nat) (d:TypeDesc)
 (hu:P.underlying ty=some d) (hd:(match d with | .struct _ | .array _ _ =>true | _ =>false)=true) (hi:(P.info? ty).map (·.size)=some cs.size)
 (hg:w.heap[g]? = some (.cells cs t fr))
 (h:wpList P ops Q rest (a.put o.dst (.agg cs)) w):wpList P ops Q (o :: rest) a w :=
 Z1f hw fun _ hK =>wp_load_row ty x ho g hx t cs fr d hg hu hd hi (hK _ _ h)
theorem Z11 (hw:Region.wanted o (yielded ops a.tmps)=true) (ty:TypeId) (x y:Operand) (ho:o.op = .store ty x y)
 (g:Nat) (cs:Array Value) (hx:a.eval x = .pointer (some ⟨g,0,none⟩)) (hy:a.eval y = .agg cs) (t:TypeId) (old:Array Value)
 (hi:(P.info? ty).map (·.size)=some cs.size) (hold:old.size=cs.size) (h1:cs.toList.all (·.oneCell')=true)
 (hg:w.heap[g]? = some (.cells old t (0,0)))
 (h:wpList P ops Q rest (a.put o.dst undef) (w.setRow g cs)):wpList P ops Q (o :: rest) a w :=
 Z1f hw fun _ hK =>wp_store_row ty x y ho g cs hx hy t old hg hi hold (by rw [← Array.all_toList]; exact h1) (hK _ _ h)
theorem Z2c {t:TypeId} {old cs:Array Value} (hw:Region.wanted o (yielded ops a.tmps)=true) (ty:TypeId) (x y:Operand) (ho:o.op = .store ty x y)
 (hx:a.eval x = .pointer (some ⟨w.heap.size,0,none⟩)) (hy:a.eval y = .agg cs) 
 (hi:(P.info? ty).map (·.size)=some cs.size) (hold:old.size=cs.size) (h1:cs.toList.all (·.oneCell')=true)
 (h:wpList P ops Q rest (a.put o.dst undef) (w.alloc (.cells cs t))):wpList P ops Q (o :: rest) a (w.alloc (.cells old t)) :=
 Z11 hw ty x y ho _ cs hx hy t old hi hold h1 (heap_alloc_last w _) (by rw [World.setRow_alloc_new]; exact h)
theorem Z2d (hw:Region.wanted o (yielded ops a.tmps)=true) (t:TypeId) (parts:Array (Nat × Operand)) (cs:Array Value) (ho:o.op = .build t parts)
 (hf:P.built t (parts.map fun (i,x) =>(i,a.eval x)).toList=some cs)
 (h:wpList P ops Q rest (a.put o.dst (.agg cs)) w):wpList P ops Q (o :: rest) a w :=
 Z1f hw fun _ hK =>wp_build t parts ho (by rw [hf]; rfl) (by rw [hf]; exact hK _ _ h)
end
theorem Z02 {w:World} {i:Nat} {o:Obj} (h:w.heap[i]? = some o) (o':Obj):(w.alloc o').heap[i]? = some o :=by
 show (w.heap.push o')[i]? = some o
 rw [Array.getElem?_push,if_neg (Nat.ne_of_lt (Z0a h))]
 exact h
section
variable {P:Program} {ops:Array Oper} {rest:List Oper} {o:Oper} {a:Act} {C:World→Prop} {Q:Act→Prop}
theorem Z20 (hw:Region.wanted o (yielded ops a.tmps)=true) {v:Value} (hrun:∀ w,C w→(execOp a.eval o).run P w = .ok (.value v) w)
 (h:wpQuiet P ops C Q rest (a.put o.dst v)):wpQuiet P ops C Q (o :: rest) a :=
 wpQuiet_step fun K hK =>by
  rw [if_pos hw]
  refine ⟨v,fun w hC =>?_,hK _ h⟩
  unfold Oper.quietAt
  rw [hrun w hC]
  exact ⟨rfl,rfl⟩
theorem Z4o (hw:Region.wanted o (yielded ops a.tmps)=true) {f:FuncId} {args:Array Value} {v:Value} (hrun:∀ w,C w→(execOp a.eval o).run P w = .ok (.enter f args) w)
 (hc:∀ w,C w→Calls P f args w fun e w' =>e = .returned v∧C w') (h:wpQuiet P ops C Q rest (a.put o.dst v)):wpQuiet P ops C Q (o :: rest) a :=
 wpQuiet_step fun K hK =>by
  rw [if_pos hw]
  refine ⟨v,fun w hC =>?_,hK _ h⟩
  unfold Oper.quietAt
  rw [hrun w hC]
  exact ⟨rfl,hc w hC⟩
theorem Z38 (hw:Region.wanted o (yielded ops a.tmps)=true) (ty:TypeId) (x:Operand) (ho:o.op = .load ty x)
 (g:Nat) (hx:a.eval x = .pointer (some ⟨g,0,none⟩)) (t:TypeId) (cs:Array Value) (fr:Nat × Nat) (d:TypeDesc)
 (hu:P.underlying ty=some d) (hd:(match d with | .struct _ | .array _ _ =>true | _ =>false)=true) (hi:(P.info? ty).map (·.size)=some cs.size)
 (hg:∀ w,C w→w.heap[g]? = some (.cells cs t fr))
 (h:wpQuiet P ops C Q rest (a.put o.dst (.agg cs))):wpQuiet P ops C Q (o :: rest) a :=
 Z20 hw (fun w hC =>by
  unfold execOp
  simp only [ho,hx,Instr.loadAt,Instr.sureAddr,Sem.run_bind,Sem.run_pure,Result.andThen_ok,run_loadVar_row w g t ty cs fr d (hg w hC) hu hd hi]) h
end
def Alow (B:Nat) (W w:World):Prop :=Below B W w∧B≤w.heap.size
theorem Alow.call {P:Program} {f:FuncId} {args:Array Value} {B:Nat} {W w:World} {v:Value} (hC:Alow B W w)
 (h:Calls P f args w fun e w' =>e = .returned v∧Below w.heap.size w w'):Calls P f args w fun e w' =>e = .returned v∧Alow B W w' :=
 h.mono fun _ _ ⟨he,hb⟩ =>⟨he,hC.1.trans (hb.mono hC.2),Nat.le_trans hC.2 hb.size⟩
theorem Alow.cell {B:Nat} {W w:World} (h:Alow B W w) {p:Addr} (hp:p.block<B):w.cell? p=W.cell? p :=h.1.cell hp
theorem Alow.block {B:Nat} {W w:World} (h:Alow B W w) {i:Nat} (hp:i<B):w.heap[i]? = W.heap[i]? := h.1.block i hp
structure Mods (S:Nat→Prop) (w w':World):Prop where
 os:w'.os=w.os
 tape:w'.tape=w.tape
 output:w'.output=w.output
 size:w.heap.size≤w'.heap.size
 block:∀ k,k<w.heap.size→¬ S k→w'.heap[k]? = w.heap[k]?
abbrev Z00 (w w':World):Prop :=Mods (fun _ =>False) w w'
theorem Mods.refl (S:Nat→Prop) (w:World):Mods S w w :=⟨rfl,rfl,rfl,Nat.le_refl _,fun _ _ _ =>rfl⟩
theorem Mods.seq {S T:Nat→Prop} {a b c:World} (h:Mods S a b) (k:Mods T b c) (hT:∀ i,i<a.heap.size→T i→S i):Mods S a c :=
 ⟨k.os.trans h.os,k.tape.trans h.tape,k.output.trans h.output,Nat.le_trans h.size k.size,
  fun i hi hs =>(k.block i (Nat.lt_of_lt_of_le hi h.size) fun ht =>hs (hT i hi ht)).trans (h.block i hi hs)⟩
theorem Mods.trans {S:Nat→Prop} {a b c:World} (h:Mods S a b) (k:Mods S b c):Mods S a c :=h.seq k fun _ _ h =>h
theorem Mods.keep {S:Nat→Prop} {a b c:World} (h:Mods S a b) (k:Z00 b c):Mods S a c :=h.seq k fun _ _ h =>h.elim
theorem Mods.weaken {S T:Nat→Prop} {a b:World} (h:Mods S a b) (hT:∀ i,i<a.heap.size→S i→T i):Mods T a b :=
 ⟨h.os,h.tape,h.output,h.size,fun i hi ht =>h.block i hi fun hs =>ht (hT i hi hs)⟩
theorem Mods.of_below {S:Nat→Prop} {a b:World} (h:Below a.heap.size a b):Mods S a b :=⟨h.os,h.tape,h.output,h.size,fun i hi _ =>h.block i hi⟩
theorem Mods.of_eq {S:Nat→Prop} {a b:World} (h:a=b):Mods S a b :=h ▸ Mods.refl S a
theorem Mods.below {S:Nat→Prop} {a b:World} (h:Mods S a b) (hS:∀ i,i<a.heap.size→¬ S i):Below a.heap.size a b :=⟨h.os,h.tape,h.output,h.size,fun i hi =>h.block i hi (hS i hi)⟩
theorem Mods.below' {a b:World} (h:Z00 a b):Below a.heap.size a b :=h.below fun _ _ h =>h
theorem Mods.alloc {S:Nat→Prop} {a b:World} (h:Mods S a b) (o:Obj):Mods S a (b.alloc o) :=h.seq (T :=fun _ =>False) (Mods.of_below ((Below.refl _ _).alloc (Nat.le_refl _) _)) fun _ _ h =>h.elim
theorem Mods.drew {S:Nat→Prop} {a b:World} (h:Mods S a b):Mods S a b.drew :=⟨h.os,h.tape,h.output,h.size,h.block⟩
theorem Mods.drewN {S:Nat→Prop} {a b:World} (h:Mods S a b) (n:Nat):Mods S a (b.drewN n) :=⟨h.os,h.tape,h.output,h.size,h.block⟩
theorem Mods.setCell {S:Nat→Prop} {a b:World} (h:Mods S a b) (p:Addr) (u:Value) (hp:p.block<a.heap.size→S p.block):Mods S a (b.setCell p u) :=
 h.seq (T :=(· = p.block)) ⟨rfl,rfl,rfl,by simp [World.setCell],fun k _ hk =>Below.heap_setCell _ _ _ _ hk⟩ fun _ hi h =>h ▸ hp (h ▸ hi)
theorem Mods.setRow {S:Nat→Prop} {a b:World} (h:Mods S a b) (g:Nat) (cs:Array Value) (hp:g<a.heap.size→S g):Mods S a (b.setRow g cs) :=
 h.seq (T :=(· = g)) ⟨rfl,rfl,rfl,by rw [size_setRow]; exact Nat.le_refl _,fun k _ hk =>setRow_other b g k cs (fun e =>hk e)⟩ fun _ hi h =>h ▸ hp (h ▸ hi)
theorem Mods.grown {S:Nat→Prop} {a b c:World} {row:Option Nat} (h:Mods S a b) (hg:b.grownBy c row) (hr:∀ k,k<a.heap.size→row=some k→S k):Mods S a c :=
 h.seq (T :=fun k =>row=some k) ⟨hg.os,hg.tape,hg.output,hg.size,fun k hk hn =>hg.block k hk (fun e =>hn e.symm)⟩ hr
theorem Mods.at {S:Nat→Prop} {a b:World} (h:Mods S a b) {i:Nat} {o:Obj} (ho:a.heap[i]? = some o) (hS : ¬ S i):b.heap[i]? = some o :=(h.block i (Z0a ho) hS).trans ho
theorem Mods.cell {S:Nat→Prop} {a b:World} (h:Mods S a b) {p:Addr} {v:Value} (hc:a.cell? p=some v) (hS : ¬ S p.block):b.cell? p=some v :=
 (World.cell?_of_block (h.block _ (cell_lt hc) hS)).trans hc
theorem Mods.frozen {S:Nat→Prop} {a b:World} (h:Mods S a b) {p:Addr} (hp:p.block<a.heap.size) (hS : ¬ S p.block):b.frozen? p=a.frozen? p :=World.frozen?_of_block (h.block _ hp hS)
theorem Mods.owns {S:Nat→Prop} {a b:World} {base:Nat} {e:TypeId} {size:Nat} {v:Value} {n:Nat} {xs:List Value} (h:Mods S a b) (ho:a.ownsRow base e size v n xs) (hS:∀ k,v.ownBlock=some k→¬ S k):b.ownsRow base e size v n xs :=by
 have hlt :=ho.lt
 obtain ⟨h1,h2⟩ :=ho
 refine ⟨h1, ?_⟩
 rcases h2 with h2 | ⟨g,cap,cur,hv,hg,hh,r⟩
 ·exact .inl h2
 ·refine .inr ⟨g,cap,cur,hv,hg,h.at hh (hS g (by rw [hv]; rfl)),r⟩
def Z1w (w w':World):Prop := ∃ q,w'=w.drewN q
theorem Z1w.refl (w:World):Z1w w w :=⟨0,rfl⟩
theorem Z1w.mk (w:World) (q:Nat):Z1w w (w.drewN q) :=⟨q,rfl⟩
theorem Z1w.trans {a b c:World} (h:Z1w a b) (k:Z1w b c):Z1w a c :=by
 obtain ⟨q,rfl⟩ :=h
 obtain ⟨r,rfl⟩ :=k
 exact ⟨q+r,by rw [World.drewN_drewN]⟩
theorem Z1w.mods {S:Nat→Prop} {a b:World} (h:Z1w a b):Mods S a b :=by
 obtain ⟨q,rfl⟩ :=h
 exact (Mods.refl S a).drewN q
theorem Z1w.heap {a b:World} (h:Z1w a b):b.heap=a.heap :=by
 obtain ⟨q,rfl⟩ :=h
 rfl
theorem Z6u {P:Program} {f:FuncId} {args:Array Value} {w:World} {n:Nat} {v:Value}
 (h:Calls P f args (w.drewN n) fun e w' =>e = .returned v∧w.drewN n=w'):Calls P f args (w.drewN n) fun e w'' =>e = .returned v∧∃ m,w''=w.drewN m :=
 h.mono fun _ _ ⟨he,hm⟩ =>⟨he,n,hm.symm⟩
theorem Z4j {P:Program} {f:FuncId} {args:Array Value} {w:World} {n:Nat} {v:Value}
 (h:Calls P f args (w.drewN n) fun e w' =>e = .returned v∧Z1w (w.drewN n) w'):Calls P f args (w.drewN n) fun e w'' =>e = .returned v∧∃ m,w''=w.drewN m :=
 h.mono fun _ _ ⟨he,hm⟩ =>⟨he,(Z1w.mk w n).trans hm⟩
def Sl (w:World) (v:Value) (xs:List Value):Prop :=
 (v = .slice none 0 0∧xs = [])∨∃ b off cap,v = .slice (some ⟨b,off,none⟩) xs.length cap∧xs.length≤cap∧∀ j x,xs[j]? = some x→w.cell? ⟨b,off+j,none⟩=some x
theorem Sl.of_owns {w:World} {base:Nat} {e:TypeId} {v:Value} {n:Nat} {xs:List Value} (h:w.ownsRow base e 1 v n xs):Sl w v xs :=by
 obtain ⟨h1,h2⟩ :=h
 rcases h2 with ⟨rfl,rfl⟩ | ⟨g,cap,cur,rfl,hg,hh,r⟩
 ·exact .inl ⟨rfl,List.length_eq_zero_iff.1 (by simpa using h1)⟩
 ·have h1:xs.length=n :=by simpa using h1
  subst h1
  have ho:w.ownsRow base e 1 (.slice (some ⟨g,0,none⟩) xs.length cap) xs.length xs :=⟨by simp, .inr ⟨g,cap,cur,rfl,hg,hh,r⟩⟩
  refine .inr ⟨g,0,cap,rfl,r.1,fun j x hj =>?_⟩
  rw [Nat.zero_add,ho.cellAt j (by have :=(List.getElem?_eq_some_iff.1 hj).1; omega),hj]
open Go Go.RowKit Go.MapKept
def Z2k:Nat→List (Int × Value)→List MapEntry
 | _,[] => []
 | i,p :: r =>⟨.int .i64 p.1,p.2,i⟩ :: Z2k (i+1) r
def mapOf (l:List (Int × Value)):Obj := .map (Z2k 0 l).toArray l.length
def Z3q (l:List (Int × Value)) (x:Int):Option Value :=(l.find? fun p =>x == p.1).map (·.2)
theorem Z4l (p:Int × Value):∀ (l:List (Int × Value)) (i:Nat),Z2k i (l ++ [p])=Z2k i l ++ [⟨.int .i64 p.1,p.2,i+l.length⟩]
 | [],i =>rfl
 | q :: r,i =>by
  show _ :: Z2k (i+1) (r ++ [p])=_
  rw [Z4l p r (i+1)]
  simp only [Z2k,List.cons_append,List.length_cons]
  rw [show i+1+r.length=i+(r.length+1) from by omega]
theorem Z4k (x:Int):∀ (l:List (Int × Value)) (i j:Nat),∃ n,Instr.findNow (.int .i64) (.int .i64 x) (Z2k i l) j=some ((Z3q l x).map fun v =>(n,v))
 | [],i,j =>⟨0,rfl⟩
 | p :: r,i,j =>by
  by_cases h:x=p.1
  ·refine ⟨j, ?_⟩
   simp [Z2k,Instr.findNow,Instr.sameNow,Z3q,h]
  ·obtain ⟨n,hn⟩ :=Z4k x r (i+1) (j+1)
   refine ⟨n, ?_⟩
   have hb:(x == p.1)=false :=by simpa using h
   simp only [Z2k,Instr.findNow,Instr.sameNow,if_true,hb]
   rw [hn]
   simp [Z3q,hb]
section
variable {P:Program} {ops:Array Oper} {rest:List Oper} {o:Oper} {a:Act} {w:World} {Q:Exit→Act→World→Prop}
theorem Zl0 {α:Type} (h:Array α) (a b:α):(h.push a).setIfInBounds h.size b=h.push b :=by
 apply Array.ext_getElem?
 intro i
 rw [Array.getElem?_setIfInBounds]
 by_cases hi:h.size=i
 ·subst hi; simp
 ·have hi' : ¬ i=h.size :=fun e =>hi e.symm
  simp [hi,hi',Array.getElem?_push]
theorem Z9w {t k e:TypeId} (ht:P.underlying t=some (.map k e)) (hk:P.underlying k=some (.int .i64)) (w:World) (l:List (Int × Value)) (x:Int) (v:Value) (hnew:Z3q l x=none) :
 (Instr.mapUpdate t (.map (some w.heap.size)) (.int .i64 x) v).run P (w.alloc (mapOf l)) = .ok () (w.alloc (mapOf (l ++ [(x,v)]))) :=by
 have hb:(w.alloc (mapOf l)).heap[w.heap.size]? = some (.map (Z2k 0 l).toArray l.length) :=heap_alloc_last w _
 obtain ⟨n,hn⟩ :=Z4k x l 0 0
 rw [hnew] at hn
 simp [Instr.mapUpdate,run_underlying ht,MapKept.run_getObj_map hb,MapKept.run_checkKey hk (show IsKey (.int .i64) (.int .i64 x) from rfl),MapKept.run_findKey hk hn,MapKept.run_setObj_map _ hb,Result.andThen]
 simp only [World.alloc,mapOf,Z4l,Zl0]
 simp
theorem Z78 {l:List (Int × Value)} {x:Int} {v:Value} (hw:Region.wanted o (yielded ops a.tmps)=true) (t:TypeId) (m vx:Operand) (ho:o.op = .insert t m (.const (.int .i64 x)) vx)
 (k e:TypeId) (ht:P.underlying t=some (.map k e)) (hk:P.underlying k=some (.int .i64)) (B:Nat) (hm:a.eval m = .map (some B)) (hv:a.eval vx=v) (hnew:Z3q l x=none) (hB:w.heap.size=B)
 (h:wpList P ops Q rest (a.put o.dst undef) (w.alloc (mapOf (l ++ [(x,v)])))):wpList P ops Q (o :: rest) a (w.alloc (mapOf l)) :=
 Z1f hw fun K hK =>by
  subst hB
  have hr:(execOp a.eval o).run P (w.alloc (mapOf l)) = .ok .skip (w.alloc (mapOf (l ++ [(x,v)]))) :=by
   unfold execOp
   simp only [ho,hm,hv]
   simp [Act.eval,Z9w ht hk w l x v hnew]
  unfold Oper.wp
  rw [hr,Oper.upon_skip]
  exact hK _ _ h
theorem Z21 {l:List (Int × Value)} {x:Int} {z:Value} (hw:Region.wanted o (yielded ops a.tmps)=true) (t:TypeId) (m kx:Operand) (c:Bool) (ho:o.op = .lookup t m kx c)
 (k e:TypeId) (ht:P.underlying t=some (.map k e)) (hk:P.underlying k=some (.int .i64)) (B:Nat) (hm:a.eval m = .map (some B)) (hx:a.eval kx = .int .i64 x) (hz:(zeroValue e).run P w = .ok z w)
 (hb:w.heap[B]? = some (mapOf l)) (r:Option Value) (hr:Z3q l x=r)
 (h:wpList P ops Q rest (a.put o.dst (if c then .tuple #[r.getD z, .bool r.isSome] else r.getD z)) w):wpList P ops Q (o :: rest) a w :=
 Z1f hw fun K hK =>by
  obtain ⟨n,hn⟩ :=Z4k x l 0 0
  rw [hr] at hn
  have hrun:(execOp a.eval o).run P w = .ok (.value (if c then .tuple #[r.getD z, .bool r.isSome] else r.getD z)) w :=by
   unfold execOp
   simp only [ho,hm,hx]
   cases r <;>
    simp [Instr.lookup,run_underlying ht,MapKept.run_getObj_map hb,MapKept.run_checkKey hk (show IsKey (.int .i64) (.int .i64 x) from rfl),MapKept.run_findKey hk hn,hz,Result.andThen]
  unfold Oper.wp
  rw [hrun,Oper.upon_value]
  exact hK _ _ h
end
variable {P:Program}
theorem Z3c (w:World) {e:TypeId} {k:IntKind} (he:P.underlying e=some (.int k)) (xs:Array Value) (i:Nat) (v:Value) (hv:xs[i]? = some v):(part e xs i).run P w = .ok v w :=by
 have hn:(isAgg e).run P w = .ok false w :=by
  unfold isAgg
  rw [Sem.run_bind,run_underlying he w]
  simp
 simp [part,Sem.run_bind,hn,hv]
theorem Z8h (w:World) (m:Nat) {t e:TypeId} {k:IntKind} (ht:P.underlying t=some (.array 2 e)) (he:P.underlying e=some (.int k)) (hs:(P.info? e).map (·.size)=some 1) (a b c d:Int) :
 (Op.equalIn (m+2) t (.agg #[.int k a, .int k b]) (.agg #[.int k c, .int k d])).run P w = .ok (a == c && b == d) w :=by
 have hsz:(sizeOf e).run P w = .ok 1 w :=by
  cases hq:P.info? e with
  | none =>simp [hq] at hs
  | some i =>simp [hq] at hs; simp [sizeOf,typeInfo,hq,hs]
 rw [Op.equalIn]
 simp only [Sem.run_bind,run_underlying ht,Result.andThen_ok,hsz,Nat.mul_one]
 rw [Std.Legacy.Range.forIn_eq_forIn_range']
 simp only [Std.Legacy.Range.size]
 have e1:(2 - 0+1 - 1) / 1=2 :=rfl
 rw [e1,show List.range' 0 2 1 = [0,1] from rfl]
 have p0 :=Z3c (P :=P) w he #[.int k a, .int k b] 0 (.int k a) rfl
 have p1 :=Z3c (P :=P) w he #[.int k a, .int k b] 1 (.int k b) rfl
 have q0 :=Z3c (P :=P) w he #[.int k c, .int k d] 0 (.int k c) rfl
 have q1 :=Z3c (P :=P) w he #[.int k c, .int k d] 1 (.int k d) rfl
 rw [List.forIn_cons]
 simp only [Sem.run_bind,p0,q0,Result.andThen_ok,run_equalIn_int w m e k k a c he]
 cases hac:a == c
 ·simp
 ·simp [List.forIn_cons,p1,q1,run_equalIn_int w m e k k b d he]
  cases hbd:b == d <;> simpa using hbd
end Go.Eg
