/- A part of the proofs of the top laws: Tree New Tk. -/
import Derived.Deep.RegionHeld
import Derived.Deep.DeepCutAuto
import Derived.Maps.RangeWalk
import Derived.Test.YtecapfmmoejikaaGreatPkAb
set_option maxRecDepth 4000
set_option maxHeartbeats 8000000
namespace Go.Eg
open Go Go.RowKit
variable {P:Program} {ops:Array Oper} {Q:Exit→Act→World→Prop} {S:World→Prop}
theorem Z07 {id:Nat} {a:Act} {w:World} (hm:P.follows .mixedOrders=true) (hS:S w.drew)
 (h:∀ wc,Z1w w wc→S wc→wpAnyH P .any ops Q S ops.size (Array.replicate ops.size false) a wc):(Code.region id ops true).wp P Q a w :=
 wp_region_held_drew hm hS fun hs =>h _ ⟨1,rfl⟩ hs
theorem Z14 {K:Act→World→Prop} {a:Act} {w:World} (h:∀ W,W=w→K a W):K a w :=h w rfl
theorem Mods.seq' {S:Nat→Prop} {a b c:World} (k:Mods S b c) (h:Z00 a b):Mods S a c :=(h.weaken fun _ _ h =>h.elim).trans k
theorem Z0f {w wd:World} {o:Obj} (h:wd=w.alloc o):Z00 w wd :=by rw [h]; exact (Mods.refl _ w).alloc o
theorem Z0g {w wd:World} {o:Obj} (h:wd=w.alloc o):wd.heap[w.heap.size]? = some o :=by rw [h]; exact heap_alloc_last w o
theorem Z27 {w:World} {b:Nat} {u v:Value} {t:TypeId} {fr:Nat × Nat} (h:w.heap[b]? = some (.cells #[u,v] t fr)):w.cell? ⟨b,0,none⟩=some u∧w.cell? ⟨b,1,none⟩=some v :=by
 unfold World.cell?
 rw [h]
 exact ⟨rfl,rfl⟩
theorem new1 (w:World) (a:Obj) {n:Nat} (hn:w.heap.size=n):(w.alloc a).heap[n]? = some a∧(w.alloc a).heap.size=n+1 :=⟨hn ▸ heap_alloc_last w a,by rw [World.size_alloc,hn]⟩
theorem Zfm (w:World) (a b c d e:Obj) :
 let W :=((((w.alloc a).alloc b).alloc c).alloc d).alloc e
 W.heap[w.heap.size]? = some a∧W.heap[w.heap.size+1]? = some b∧W.heap[w.heap.size+1+1]? = some c∧W.heap[w.heap.size+1+1+1]? = some d∧W.heap[w.heap.size+1+1+1+1]? = some e∧W.heap.size=w.heap.size+1+1+1+1+1∧Z00 w W :=by
 obtain ⟨h1,s1⟩ :=new1 w a rfl
 obtain ⟨h2,s2⟩ :=new1 (w.alloc a) b s1
 obtain ⟨h3,s3⟩ :=new1 ((w.alloc a).alloc b) c s2
 obtain ⟨h4,s4⟩ :=new1 (((w.alloc a).alloc b).alloc c) d s3
 obtain ⟨h5,s5⟩ :=new1 ((((w.alloc a).alloc b).alloc c).alloc d) e s4
 exact ⟨Z02 (Z02 (Z02 (Z02 h1 _) _) _) _,Z02 (Z02 (Z02 h2 _) _) _,Z02 (Z02 h3 _) _,Z02 h4 _,h5,s5,(((((Mods.refl _ w).alloc _).alloc _).alloc _).alloc _).alloc _⟩
theorem Z2e {w:World} {b:Nat} {u v x y:Value} {t:TypeId} {fr:Nat × Nat} (h:w.heap[b]? = some (.cells #[u,v,x,y] t fr)):w.cell? ⟨b,0,none⟩=some u∧w.cell? ⟨b,1,none⟩=some v∧w.cell? ⟨b,2,none⟩=some x∧w.cell? ⟨b,3,none⟩=some y :=by
 unfold World.cell?
 rw [h]
 exact ⟨rfl,rfl,rfl,rfl⟩
theorem Z5c {S:Nat→Prop} {w0 w':World} {p q r s:Addr} {x y z u:Value} (h:w0.cell? p=some x∧w0.cell? q=some y∧w0.cell? r=some z∧w0.cell? s=some u) (hd:Mods S w0 w') (h1 : ¬ S p.block) (h2 : ¬ S q.block) (h3 : ¬ S r.block) (h4 : ¬ S s.block):w'.cell? p=some x∧w'.cell? q=some y∧w'.cell? r=some z∧w'.cell? s=some u :=⟨hd.cell h.1 h1,hd.cell h.2.1 h2,hd.cell h.2.2.1 h3,hd.cell h.2.2.2 h4⟩
theorem Z3u (w:World) (a b:Obj) :
 let W :=(w.alloc a).alloc b
 W.heap[w.heap.size]? = some a∧W.heap[w.heap.size+1]? = some b∧W.heap.size=w.heap.size+1+1∧Z00 w W :=by
 obtain ⟨h1,s1⟩ :=new1 w a rfl
 obtain ⟨h2,s2⟩ :=new1 (w.alloc a) b s1
 exact ⟨Z02 h1 _,h2,s2,((Mods.refl _ w).alloc _).alloc _⟩
theorem Z48 (w:World) (a b c:Obj) :
 let W :=((w.alloc a).alloc b).alloc c
 W.heap[w.heap.size]? = some a∧W.heap[w.heap.size+1]? = some b∧W.heap[w.heap.size+1+1]? = some c∧W.heap.size=w.heap.size+1+1+1∧Z00 w W :=by
 obtain ⟨h1,s1⟩ :=new1 w a rfl
 obtain ⟨h2,s2⟩ :=new1 (w.alloc a) b s1
 obtain ⟨h3,s3⟩ :=new1 ((w.alloc a).alloc b) c s2
 exact ⟨Z02 (Z02 h1 _) _,Z02 h2 _,h3,s3,(((Mods.refl _ w).alloc _).alloc _).alloc _⟩
def nthO:List Oper→Nat→Option Oper
 | [],_ =>none
 | o :: _,0 =>some o
 | _ :: r,i+1 =>nthO r i
theorem Zi4:∀ (l:List Oper) (i:Nat),nthO l i=l[i]?
 | [],_ =>rfl
 | _ :: _,0 =>rfl
 | _ :: r,i+1 =>by rw [nthO,Zi4 r i,List.getElem?_cons_succ]
theorem Zdn {ops:Array Oper} {i:Nat} {o:Oper} (h:nthO ops.toList i=some o):ops[i]? = some o :=by rw [Zi4,Array.getElem?_toList] at h; exact h
variable {P:Program} {md:Region.Mode} {ops:Array Oper} {Q:Exit→Act→World→Prop} {S:World→Prop}
theorem tk (i:Nat) {oi:Oper} {v:Value} {fuel:Nat} {listed:Array Bool} {a:Act} {w:World} (hi:nthO ops.toList i=some oi) (hS:S w)
 (h:wpAnyH P md ops Q S fuel (listed.setIfInBounds i true) (a.put oi.dst v) w)
 (hs:Region.noSelect ops=true :=by kernel_rfl) (hf:Region.free md ops listed i=true :=by kernel_rfl) (hr:(Region.ready md ops listed).contains i=true :=by kernel_rfl)
 (hQ:∀ c a w,Q (.panic c) (a.put oi.dst v) w→Q (.panic c) a w :=by exact fun _ _ _ h =>h) (hw:Region.wanted oi (yielded ops a.tmps)=true :=by rfl)
 (hy:∀ w,S w→(execOp a.eval oi).run P w = .ok (.value v) w :=by intro wq hq; (try dsimp only at hq); go_simp; (try with_reducible rfl)):wpAnyH P md ops Q S (fuel+1) listed a w :=
 wpAnyH_take (Zdn hi) hs hf hr hQ (.inl ⟨hw,hy⟩) hS h
theorem tkb (i:Nat) {oi:Oper} {v:Value} {fuel:Nat} {listed:Array Bool} {a:Act} {w:World} (hi:nthO ops.toList i=some oi) (hS:S w) (hy:YieldsIf P ops S oi v a)
 (h:wpAnyH P md ops Q S fuel (listed.setIfInBounds i true) (a.put oi.dst v) w)
 (hs:Region.noSelect ops=true :=by kernel_rfl) (hf:Region.free md ops listed i=true :=by kernel_rfl) (hr:(Region.ready md ops listed).contains i=true :=by kernel_rfl)
 (hQ:∀ c a w,Q (.panic c) (a.put oi.dst v) w→Q (.panic c) a w :=by exact fun _ _ _ h =>h):wpAnyH P md ops Q S (fuel+1) listed a w :=
 wpAnyH_take (Zdn hi) hs hf hr hQ hy hS h
theorem Z04 {fuel:Nat} {listed:Array Bool} {a:Act} {w:World} {i:Nat} {o:Oper} {rs:List Nat} (ho:nthO ops.toList i=some o)
 (h:∀ K':Act→World→Prop,Shut (∀ a w,S w→(S w→wpAnyH P md ops Q S fuel (listed.setIfInBounds i true) a w)→K' a w)→if Region.wanted o (yielded ops a.tmps)=true then Oper.wp P o a w K' Q else K' (a.put o.dst undef) w)
 (hs:AllReadyH P md ops Q S fuel listed a w rs):AllReadyH P md ops Q S fuel listed a w (i :: rs) :=AllReadyH.cons (Zdn ho) h hs
theorem rdy (rs:List Nat) {fuel:Nat} {listed:Array Bool} {a:Act} {w:World} (h:AllReadyH P md ops Q S fuel listed a w rs) (hr:Region.ready md ops listed=rs :=by kernel_rfl) (hne:rs≠[] :=by simp) :
 wpAnyH P md ops Q S (fuel+1) listed a w :=wpAnyH_ready hr hne h
end Go.Eg
