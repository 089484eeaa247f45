/- A part of the proofs of the top laws: Leaf. -/
import Derived.Deep.Slices
import Derived.ChangeSame
import Derived.ProofKit
import Derived.Test.YtecapfmmoejikaaGreatPkAb
set_option maxRecDepth 4000
set_option maxHeartbeats 8000000
namespace Go.Eg
open Go Go.RowKit Go.WideShapes Go.ChangeShapes Go.Deep
def Zpi (w:World) (v:Value) (n C:Nat) (F:Nat→Nat→Value):Prop :=
 ∃ a cap,v = .slice a n cap∧(0<n→∃ b off,a=some ⟨b,off,none⟩∧∀ i,i<n→∀ j,j<C→w.cell? ⟨b,off+i * C+j,none⟩=some (F i j))
section
variable {H:Type} {enc:TypeId × Value→H} {P:Program} {w:World} {base:Nat} {spare:Nat→Bool} {held:Bool}
theorem Zgs {t:TypeId} {fs:Array Field} {fuel:Nat} {cs:List Value} {x:DataW H × List MemPlace} (ht:P.underlying t=some (.struct fs)) (h:DataW.trod enc P w base spare held fuel t cs=some x)
 (j:Nat) (f:Field) (hf:fs[j]? = some f):∃ m y,DataW.trod enc P w base spare held m f.type ((cs.drop f.offset).take (P.cellsOf f.type))=some y :=by
 obtain ⟨xs,n,_,_,_,hxl,hg⟩ :=DataW.trod_struct ht h
 have hj:j<xs.length :=by rw [hxl]; exact (Array.getElem?_eq_some_iff.1 hf).1
 exact ⟨n,xs[j],(hg j f hf).trans (List.getElem?_eq_getElem hj)⟩
theorem Zjs {t e:TypeId} {v:Value} {d:DataW H} {p:List MemPlace} (ht:P.underlying t=some (.slice e)) (C:Nat) (hC:P.cellsOf e=C) (h0:0<C)
 (h:DataW.Trod enc P w base spare held t v d p) (hsl:∃ a n cap,v = .slice a n cap):∃ n F,Zpi w v n C F∧n≤9223372036854775807∧∀ i,i<n→∃ m y,DataW.trod enc P w base spare held m e ((List.range C).map (F i))=some y :=by
 obtain ⟨fuel,hf⟩ :=h
 obtain ⟨a0,n0,cap0,rfl⟩ :=hsl
 subst hC
 rcases open_slice ht hf with ⟨h1,_⟩ | ⟨a,len,cap,m,k,D,Pl,hcs,_,hl,hm,hmm,_,hi⟩
 ·simp [Value.cells] at h1
  obtain ⟨rfl,rfl,rfl⟩ :=h1
  exact ⟨0,fun _ _ =>.bool false,⟨none,0,rfl,fun h =>by omega⟩,by omega,fun i hi =>by omega⟩
 ·simp [Value.cells] at hcs
  obtain ⟨rfl,rfl,rfl⟩ :=hcs
  have hle:n0≤m :=by rw [hmm]; split <;> omega
  have key:∀ i,i<n0→∃ G:Nat→Value,(∀ j,j<P.cellsOf e→w.cell? (a.add (i * P.cellsOf e+j))=some (G j))∧DataW.trod enc P w base spare held k e ((List.range (P.cellsOf e)).map G)=some (D i,Pl i) :=by
   intro i hin
   obtain ⟨cs',hc,ht'⟩ :=hi i (by omega)
   obtain ⟨_,hcl,hat⟩ :=World.cells?_some hc
   refine ⟨fun j =>cs'.getD j (.bool false),fun j hj =>?_, ?_⟩
   ·rw [← Go.Deep.add_add,hat j hj]
    show cs'[j]? = some (cs'.getD j (.bool false))
    rw [List.getD_eq_getElem?_getD,List.getElem?_eq_getElem (by omega)]
    rfl
   ·have e1:(List.range (P.cellsOf e)).map (fun j =>cs'.getD j (.bool false))=cs' :=by
     rw [← hcl]
     refine List.ext_getElem (by simp) fun j h1 h2 =>?_
     simp [List.getD_eq_getElem?_getD,List.getElem?_eq_getElem h2]
    rw [e1]
    exact ht'
  haveI:Inhabited (Nat→Value) :=⟨fun _ =>.bool false⟩
  obtain ⟨F,hF⟩ :=choose_lt key
  refine ⟨n0,F,⟨some a,cap0,rfl,fun hn =>?_⟩,by unfold maxLen at hm; omega,fun i hi =>⟨k,_,(hF i hi).2⟩⟩
  obtain ⟨b,off,spot⟩ :=a
  have hs :=(hF 0 hn).1 0 h0
  have hsp:spot=none :=by simpa [Addr.add] using World.cell?_spot hs
  subst hsp
  refine ⟨b,off,rfl,fun i hi j hj =>?_⟩
  have :=(hF i hi).1 j hj
  rw [addr_add] at this
  rw [← this,Nat.add_assoc]
end
def Z9s (w:World) (v:Value) (n:Nat) (rdy:Nat→Bool):Prop :=
 ∃ a cap,v = .slice a n cap∧(0<n→∃ b off,a=some ⟨b,off,none⟩∧∀ j,j<n→w.cell? ⟨b,off+j,none⟩=some (.bool (rdy j)))
theorem Z9s.mods {S:Nat→Prop} {a b:World} {v:Value} {n:Nat} {rdy:Nat→Bool} (h:Z9s a v n rdy) (hm:Mods S a b) (hS:∀ k,v.ownBlock=some k→¬ S k):Z9s b v n rdy :=by
 obtain ⟨p,cap,rfl,hx⟩ :=h
 refine ⟨p,cap,rfl,fun h0 =>?_⟩
 obtain ⟨g,off,rfl,hc⟩ :=hx h0
 exact ⟨g,off,rfl,fun j hj =>hm.cell (hc j hj) (hS g rfl)⟩
theorem Z9s.slice {a:World} {v:Value} {n:Nat} {rdy:Nat→Bool} (h:Z9s a v n rdy):∃ p cap,v = .slice p n cap :=by
 obtain ⟨p,cap,rfl,_⟩ :=h
 exact ⟨p,cap,rfl⟩
theorem Za0 {w:World} {g:Nat} {cs:Array Value} {t:TypeId} {fr:Nat × Nat} (h:w.heap[g]? = some (.cells cs t fr)) (n:Nat) (c:Nat) (rdy:Nat→Bool) (hc:∀ j,j<n→cs[j]? = some (.bool (rdy j))) :
 Z9s w (.slice (some ⟨g,0,none⟩) n c) n rdy :=⟨_,c,rfl,fun _ =>⟨g,0,rfl,fun j hj =>by simp [World.cell?,h,hc j hj]⟩⟩
section
variable {H:Type} {enc:TypeId × Value→H} {P:Program} {w:World} {base:Nat} {spare:Nat→Bool} {held:Bool}
end
end Go.Eg
