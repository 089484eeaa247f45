/- A part of the proofs of the top laws: Reg Open. -/
import Derived.WalkKit
import Derived.WalkSpells
import Derived.WalkLawsBesides
import Derived.Handy
import Derived.Outline
import Derived.Orders
import Derived.Lib.Hide
import Derived.Deep.LoopGhost
import Derived.Deep.DeepMust
import Derived.Deep.DeepFit
import Derived.Deep.QuietTactic
import Derived.BigQuiet
import Derived.Maps.OwnSet
import Derived.Maps.RangeWalk
import Derived.ProofKit
set_option maxRecDepth 4000
set_option maxHeartbeats 8000000
namespace Go.Eg
theorem Hd {p:Prop} (h:p):Go.RowKit.Hid p := Lib.hid h
end Go.Eg
namespace Go.Eg
open Go
section
variable {P:Program} {ops:Array Oper} {Q:Exit→Act→World→Prop}
def Zk6 (ops:Array Oper):Bool :=(List.range ops.size).all fun i =>((ops[i]?).map fun o =>o.after.all fun e =>decide (e.on<i)).getD true
theorem Zc0 {md:Region.Mode} {listed:Array Bool} {i:Nat} (h:i∈Region.ready md ops listed) :
 i<ops.size∧listed.getD i true=false∧∃ o,ops[i]? = some o∧∀ e∈o.after,Region.binds md e=true→listed.getD e.on false=true :=by
 unfold Region.ready at h
 rw [List.mem_filter] at h
 obtain ⟨h1,h2⟩ :=h
 rw [List.mem_range] at h1
 simp only [Bool.and_eq_true,Bool.not_eq_true'] at h2
 refine ⟨h1,h2.1,ops[i],by simp [h1], ?_⟩
 have h3 :=h2.2
 simp only [Array.getElem?_eq_getElem h1,Option.map_some,Option.getD_some] at h3
 rw [Array.all_eq_true_iff_forall_mem] at h3
 intro e he hb
 have :=h3 e he
 simpa [hb] using this
theorem Zdc {md:Region.Mode} {listed:Array Bool} (hb:Zk6 ops=true) (hs:listed.size=ops.size) (h:Region.ready md ops listed = []) :
 ∀ i,i<ops.size→listed.getD i false=true :=by
 intro i
 induction i using Nat.strongRecOn with
 | ind i ih =>
  intro hi
  cases hl:listed.getD i false with
  | true =>rfl
  | false =>
   exfalso
   have hil:i<listed.size :=by omega
   have hl':listed[i]=false :=by simpa [hil] using hl
   have hm:i∈Region.ready md ops listed :=by
    unfold Region.ready
    rw [List.mem_filter]
    refine ⟨List.mem_range.2 hi, ?_⟩
    have h1:listed.getD i true=false :=by simp [hil,hl']
    rw [h1]
    simp only [Bool.not_false,Bool.true_and,Array.getElem?_eq_getElem hi,Option.map_some,Option.getD_some]
    rw [Array.all_eq_true_iff_forall_mem]
    intro e he
    unfold Zk6 at hb
    rw [List.all_eq_true] at hb
    have hbi :=hb i (List.mem_range.2 hi)
    simp only [Array.getElem?_eq_getElem hi,Option.map_some,Option.getD_some] at hbi
    rw [Array.all_eq_true_iff_forall_mem] at hbi
    have hlt :=of_decide_eq_true (hbi e he)
    rw [ih e.on hlt (by omega)]
    simp
   rw [h] at hm
   cases hm
def cntF (listed:Array Bool):Nat :=(listed.toList.filter (fun b => !b)).length
theorem Zfe {listed:Array Bool} {i:Nat} (hi:i<listed.size) (h:listed.getD i true=false):cntF (listed.setIfInBounds i true)+1=cntF listed :=by
 have hl:listed[i]=false :=by simpa [hi] using h
 unfold cntF
 rw [Array.toList_setIfInBounds]
 have:∀ (l:List Bool) (i:Nat) (hi:i<l.length),l[i]=false→((l.set i true).filter (fun b => !b)).length+1=(l.filter (fun b => !b)).length :=by
  intro l
  induction l with
  | nil =>intro i hi; simp at hi
  | cons b r ih =>
   intro i hi hb
   cases i with
   | zero =>simp at hb; subst hb; simp
   | succ j =>
    have :=ih j (by simpa using hi) (by simpa using hb)
    cases b <;> simp <;> omega
 exact this listed.toList i (by simpa using hi) (by simpa using hl)
theorem Zkt {listed:Array Bool} {i:Nat} (hi:i<listed.size) (h:listed.getD i true=false):0<cntF listed :=by
 have :=Zfe hi h
 omega
theorem Zd5 (hb:Zk6 ops=true) (I:(Nat→Bool)→Act→World→Prop)
 (hstep:∀ (S:Nat→Bool) a w i o,ops[i]? = some o→S i=false→(∀ e∈o.after,Region.binds .any e=true→S e.on=true)→I S a w →
  wpOp P ops Q i (I fun j =>j == i || S j) a w)
 (hend:∀ (S:Nat→Bool) a w,(∀ i,i<ops.size→S i=true)→I S a w→Q .normal a w) :
 ∀ (fuel:Nat) (listed:Array Bool) (a:Act) (w:World),listed.size=ops.size→cntF listed≤fuel→I (fun j =>listed.getD j false) a w→wpAny P .any ops Q fuel listed a w
 | 0,listed,a,w,hs,hc,hI =>by
  have hr:Region.ready .any ops listed = [] :=by
   cases hr:Region.ready .any ops listed with
   | nil =>rfl
   | cons i r =>
    obtain ⟨h1,h2,_⟩ :=Zc0 (i :=i) (by rw [hr]; simp)
    have :=Zkt (by omega) h2
    omega
  exact ⟨hr,hend _ a w (Zdc hb hs hr) hI⟩
 | fuel+1,listed,a,w,hs,hc,hI =>by
  refine ⟨fun hr =>hend _ a w (Zdc hb hs hr) hI,fun i hi =>?_⟩
  obtain ⟨h1,h2,o,ho,hd⟩ :=Zc0 hi
  have hil:i<listed.size :=by omega
  have hl:listed[i]=false :=by simpa [hil] using h2
  refine wpOp_mono ?_ (hstep (fun j =>listed.getD j false) a w i o ho (by simp [hil,hl]) hd hI)
  intro a' w' hI'
  refine Zd5 hb I hstep hend fuel _ a' w' (by simp [hs]) (by have :=Zfe hil h2; omega) ?_
  have e:(fun j =>(listed.setIfInBounds i true).getD j false)=(fun j =>j == i || listed.getD j false) :=by
   funext j
   simp only [Array.getD_eq_getD_getElem?,Array.getElem?_setIfInBounds]
   by_cases hji:i=j
   ·subst hji; simp [hil]
   ·simp [hji,Ne.symm hji]
  rw [e]
  exact hI'
theorem Zbu {id:Nat} {a:Act} {w:World} (hm:P.follows .mixedOrders=true) (hb:Zk6 ops=true) (I:(Nat→Bool)→Act→World→Prop)
 (h0:I (fun _ =>false) a w.drew)
 (hstep:∀ (S:Nat→Bool) a w i o,ops[i]? = some o→S i=false→(∀ e∈o.after,Region.binds .any e=true→S e.on=true)→I S a w →
  wpOp P ops Q i (I fun j =>j == i || S j) a w)
 (hend:∀ (S:Nat→Bool) a w,(∀ i,i<ops.size→S i=true)→I S a w→Q .normal a w):(Code.region id ops true).wp P Q a w :=by
 refine wp_region_any hm ?_
 refine Zd5 hb I hstep hend ops.size _ a _ (by simp) ?_ ?_
 ·unfold cntF
  rw [Array.toList_replicate]
  exact Nat.le_trans (List.length_filter_le _ _) (by simp)
 ·have e:(fun j =>(Array.replicate ops.size false).getD j false)=(fun _:Nat =>false) :=by
   funext j
   simp only [Array.getD_eq_getD_getElem?,Array.getElem?_replicate]
   split <;> rfl
  rw [e]
  exact h0
theorem Z0p {k:IntKind} {a b:Int} (h:a=b):Ending.returned (.int k a) = .returned (.int k b) :=by rw [h]
theorem Z0k {a b:Bool} (h:a=b):Ending.returned (.bool a) = .returned (.bool b) :=by rw [h]
theorem ret2 {v0 v1 u0 u1:Value} (h0:v0=u0) (h1:v1=u1):Ending.returned (.tuple #[v0,v1]) = .returned (.tuple #[u0,u1]) :=by rw [h0,h1]
theorem addr_add (b off j:Nat):(⟨b,off,none⟩:Addr).add j=⟨b,off+j,none⟩ :=by
 unfold Addr.add
 split
 ·rename_i h; subst h; rfl
 ·rfl
theorem cell_lt {w:World} {a:Addr} {v:Value} (h:w.cell? a=some v):a.block<w.heap.size :=by
 cases hb:w.heap[a.block]? with
 | none =>simp [World.cell?,hb] at h
 | some o =>exact (Array.getElem?_eq_some_iff.1 hb).1
theorem Z0a {w:World} {i:Nat} {o:Obj} (h:w.heap[i]? = some o):i<w.heap.size :=(Array.getElem?_eq_some_iff.1 h).1
def Z0e (p:Prop):Prop :=p
theorem Z0e.out {p:Prop} (h:Z0e p):p :=h
theorem Z0e.mk {p:Prop} (h:p):Z0e p :=h
theorem Z0y {i:Nat} {o:Oper} {K:Act→World→Prop} {a:Act} {w:World} (ho:ops[i]? = some o) (hg:o.guard=none) (h:o.wp P a w K Q):wpOp P ops Q i K a w :=by
 unfold wpOp
 simp only [ho,Region.wanted,hg,if_true]
 exact .inl h
end
open Go Go.RowKit Go.WideShapes
section
variable {H:Type} {enc:TypeId × Value→H} {P:Program} {w:World} {base:Nat} {spare:Nat→Bool} {held:Bool}
def Z5e (P:Program) (fs:Array Field) (kinds:List IntKind):Bool :=
 (fs.size == kinds.length) && (List.range kinds.length).all fun i =>
  match fs[i]?,kinds[i]? with
  | some f,some k =>f.offset == i && P.cellsOf f.type == 1 && (match P.underlying f.type with | some (.int q) =>decide (q=k) | _ =>false)
  | _,_ =>false
theorem Zc3 {fs:Array Field} {kinds:List IntKind} (h:Z5e P fs kinds=true) {i:Nat} {k:IntKind} (hk:kinds[i]? = some k) :
 ∃ f,fs[i]? = some f∧f.offset=i∧P.cellsOf f.type=1∧P.underlying f.type=some (.int k) :=by
 unfold Z5e at h
 simp only [Bool.and_eq_true,List.all_eq_true,List.mem_range] at h
 have hi:i<kinds.length :=(List.getElem?_eq_some_iff.1 hk).1
 have hh :=h.2 i hi
 rw [hk] at hh
 cases hf:fs[i]? with
 | none =>simp [hf] at hh
 | some f =>
  simp only [hf,Bool.and_eq_true,beq_iff_eq] at hh
  obtain ⟨⟨h1,h2⟩,h3⟩ :=hh
  refine ⟨f,rfl,h1,h2, ?_⟩
  cases hu:P.underlying f.type with
  | none =>simp [hu] at h3
  | some d =>
   cases d <;> simp [hu] at h3
   rw [h3]
theorem ints_of_struct {t:TypeId} {fs:Array Field} {kinds:List IntKind} {fuel:Nat} {cs:List Value} {x:DataW H × List MemPlace} (ht:P.underlying t=some (.struct fs)) (hB:Z5e P fs kinds=true) (hc:P.cellsOf t=kinds.length)
 (h:DataW.trod enc P w base spare held fuel t cs=some x):∃ z:Nat→Int,cs=(kinds.zipIdx.map fun p =>Value.int p.1 (z p.2))∧∀ (i:Nat) (k:IntKind),kinds[i]? = some k→(Lit.int k (z i)).wf=true :=by
 obtain ⟨xs,n,_,_,hl,hxl,hf⟩ :=DataW.trod_struct ht h
 have each:∀ (i:Nat) (k:IntKind),kinds[i]? = some k→∃ a:Int,cs[i]? = some (Value.int k a)∧(Lit.int k a).wf=true :=by
  intro i k hk
  obtain ⟨f,h1,h2,h3,h4⟩ :=Zc3 hB hk
  have hi:i<kinds.length :=(List.getElem?_eq_some_iff.1 hk).1
  have hic:i<cs.length :=by omega
  have :=hf i f h1
  rw [h2,h3] at this
  have e:(cs.drop i).take 1 = [cs[i]] :=by rw [List.drop_eq_getElem_cons hic]; rfl
  rw [e] at this
  have hx:i<xs.length :=by
   rw [hxl]
   exact (Array.getElem?_eq_some_iff.1 h1).1
  rw [List.getElem?_eq_getElem hx] at this
  obtain ⟨a,e1,_,wa⟩ :=DataW.trod_int h4 this
  refine ⟨a, ?_,wa⟩
  rw [List.getElem?_eq_getElem hic]
  simp at e1
  rw [e1]
 refine ⟨fun i =>match cs[i]? with | some (.int _ a) =>a | _ =>0, ?_, ?_⟩
 ·apply List.ext_getElem?
  intro i
  by_cases hi:i<kinds.length
  ·obtain ⟨a,e,_⟩ :=each i kinds[i] (List.getElem?_eq_getElem hi)
   rw [e]
   simp [hi,e]
  ·rw [List.getElem?_eq_none (by omega),List.getElem?_eq_none (by simp; omega)]
 ·intro i k hk
  obtain ⟨a,e,wa⟩ :=each i k hk
  simp only [e]
  exact wa
theorem Zkf {r:Reach} {b0:Nat} {t:TypeId} {fs:Array Field} {kinds:List IntKind} {v:Value} {d:DataW H} {p:List MemPlace} (ht:P.underlying t=some (.struct fs)) (hB:Z5e P fs kinds=true) (hc:P.cellsOf t=kinds.length)
 (hv:Value.okWide P w r b0 t v) (h:DataW.Trod enc P w base spare held t v d p):∃ z:Nat→Int,v = .agg (kinds.zipIdx.map fun p =>Value.int p.1 (z p.2)).toArray∧∀ (i:Nat) (k:IntKind),kinds[i]? = some k→(Lit.int k (z i)).wf=true :=by
 obtain ⟨cs,rfl,hsz⟩ :=okWide_struct ht hv
 obtain ⟨fuel,hf⟩ :=h
 obtain ⟨z,h1,h2⟩ :=ints_of_struct ht hB hc hf
 refine ⟨z, ?_,h2⟩
 simp only [Value.cells] at h1
 rw [← h1]
end
end Go.Eg
