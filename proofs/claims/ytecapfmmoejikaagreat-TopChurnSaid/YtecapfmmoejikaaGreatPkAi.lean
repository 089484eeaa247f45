/- A part of the proofs of the top laws: Row1 Row2 Row3. -/
import Derived.Laws.AppendOwnNone
import Derived.Laws.OwnMore
import Derived.Laws.CopyRow
import Derived.Test.YtecapfmmoejikaaGreatPkAd
set_option maxRecDepth 4000
set_option maxHeartbeats 8000000
namespace Go.Eg
open Go Go.RowKit
theorem Z2x {P:Program} {w:World} {ops:Array Oper} {rest:List Oper} {o:Oper} {a:Act} {Q:Exit→Act→World→Prop} (hgd:o.guard=none) (s x:Operand) (t:TypeId)
 (ho:o.op = .call { callee := .builtin .append,args := #[s,x],argTypes := #[t,t] })
 (base:Nat) (e:TypeId) (i:TypeInfo) (z:Value) (size bytes:Nat) (ht:P.underlying t=some (.slice e)) (hi:P.info? e=some i) (hz:i.zero=some z)
 (hsize:i.size=size) (hby:i.bytes=bytes) (hzs:z.cells.size=size) (hsz:0<size)
 (v:Value) (n:Nat) (xs:List Value) (hs:a.eval s=v) (hown:w.ownsRow base e size v n xs)
 (base2:Nat) (v2:Value) (m:Nat) (ys:List Value) (hx:a.eval x=v2) (hown2:w.ownsRow base2 e size v2 m ys) (h1:∀ u∈ys,u.oneCell'=true)
 (h63:n+m≤maxLen) (hbytes:(n+m) * bytes≤140737488355328) (hbase:base≤w.heap.size)
 (h:∀ v' w',w'.ownsRow base e size v' (n+m) (xs ++ ys)→Mods (fun k =>v.ownBlock=some k) w w'→wpList P ops Q rest (a.put o.dst v') w'):wpList P ops Q (o :: rest) a w :=by
 have hl :=hown2.1
 have hc :=hown2
 rcases hown2.2 with ⟨rfl,rfl⟩ | ⟨g,cap,cur,rfl,hg,hh,r⟩
 ·obtain rfl:ys = [] :=List.length_eq_zero_iff.1 (by simpa using hl)
  refine wpList_append_own_none hgd s x t ho base e i size ht hi v n xs hs hown hx (h v w (by simpa using hown) (Mods.refl _ _))
 ·refine wpList_append_own _ hgd s x t ho base e i z size bytes ht hi hz hsize hby hzs hsz v n xs hs hown ⟨g,0,none⟩ m cap ys hx hl (fun j u hj =>?_) h1 h63 hbytes hbase fun v' w' h2 h3 _ =>h v' w' h2 ((Mods.refl _ w).grown h3 fun k _ hk =>hk)
  have hjl:j<m * size :=by have :=(List.getElem?_eq_some_iff.1 hj).1; omega
  rw [addr_add,Nat.zero_add,hc.cellAt j hjl,hj]
theorem Z93 {P:Program} (w:World) (t ty e:TypeId) (z:Value) (k:Nat) (ht:P.underlying t=some (.slice e)) (hz:(zeroValue e).run P w = .ok z w) (hk:z.cells.size=k) (h1:∀ u∈z.cells.toList,u.oneCell'=true)
 (g o n c:Nat) (cur:Array Value) (tb:TypeId) (hg:w.heap[g]? = some (.cells cur tb (0,0))) (hn:0<n) (hfit:o+n * k≤cur.size) :
 ∃ cs:List Value,cs.length=n * k∧(Builtin.clear_ #[t] ty #[.slice (some ⟨g,o,none⟩) n c]).run P w = .ok (.tuple #[]) (w.setRow g (cur.toList.take o ++ cs ++ cur.toList.drop (o+cs.length)).toArray) :=by
 obtain ⟨cs,hcs⟩:∃ cs,cs=(Builtin.zeroCells z.cells n).toList :=⟨_,rfl⟩
 have hlen:cs.length=n * k :=by rw [hcs]; simp [Builtin.zeroCells,hk]
 have hone:∀ v∈cs,v.oneCell'=true :=by
  intro v hv
  rw [hcs] at hv
  simp only [Builtin.zeroCells,Array.toList_map,List.mem_map] at hv
  obtain ⟨i,hi,rfl⟩ :=hv
  have hp:0<z.cells.size :=by
   rcases Nat.eq_zero_or_pos z.cells.size with h0 | h0
   ·rw [h0] at hi
    simp at hi
   ·exact h0
  have hm :=Nat.mod_lt i hp
  rw [getElem!_pos z.cells (i % z.cells.size) hm]
  exact h1 _ (by simp)
 have hst :=run_storeCells_at P g o tb cs 0 cur w hg (by rw [Nat.add_zero,hlen]; exact hfit) hone
 refine ⟨cs,hlen, ?_⟩
 obtain ⟨m,rfl⟩:∃ m,n=m+1 :=⟨n - 1,by omega⟩
 simp only [Nat.add_zero] at hst
 rw [hcs] at hst ⊢
 simp [Builtin.clear_,run_underlying ht,hz,hst]
theorem Zkv {w:World} {B g n c i:Nat} {e:TypeId} {xs:List Value} (h:w.ownsRow B e 2 (.slice (some ⟨g,0,none⟩) n c) n xs) (hi:i<n) (u v:Value) :
 ((w.setCell ⟨g,i * 2,none⟩ u).setCell ⟨g,i * 2+1,none⟩ v).ownsRow B e 2 (.slice (some ⟨g,0,none⟩) n c) n ((xs.set (i * 2) u).set (i * 2+1) v) :=by
 obtain ⟨hl,h2⟩ :=h
 rcases h2 with ⟨h2,rfl⟩ | ⟨g',cap,cur,hv,hg,hh,r1,r2,r3,r4⟩
 ·omega
 simp only [Value.slice.injEq,Option.some.injEq,Addr.mk.injEq] at hv
 obtain ⟨⟨rfl,_⟩,_,rfl⟩ :=hv
 have e1 :=heap_setCell_same w g (i * 2) cur e u hh
 have e2 :=heap_setCell_same _ g (i * 2+1) _ e v e1
 refine ⟨by simp [hl], .inr ⟨g,c,(cur.setIfInBounds (i * 2) u).setIfInBounds (i * 2+1) v,rfl,hg,e2,r1,r2,by simp [r3], ?_⟩⟩
 rw [← r4]
 simp only [Array.toList_setIfInBounds,List.take_set]
theorem Zai {w:World} {B g n c m size:Nat} {e:TypeId} {xs:List Value} (h:w.ownsRow B e size (.slice (some ⟨g,0,none⟩) n c) n xs) (hm:m≤n):w.ownsRow B e size (.slice (some ⟨g,0,none⟩) m c) m (xs.take (m * size)) :=by
 obtain ⟨hl,h2⟩ :=h
 have hms:m * size≤n * size :=Nat.mul_le_mul_right _ hm
 rcases h2 with ⟨h2,_⟩ | ⟨g',cap,cur,hv,hg,hh,r1,r2,r3,r4⟩
 ·cases h2
 simp only [Value.slice.injEq,Option.some.injEq,Addr.mk.injEq] at hv
 obtain ⟨⟨rfl,_⟩,_,rfl⟩ :=hv
 refine ⟨by rw [List.length_take,hl]; omega, .inr ⟨g,c,cur,rfl,hg,hh,by omega,r2,r3, ?_⟩⟩
 rw [← r4,List.take_take]
 congr 1
 omega
theorem Zax {P:Program} {o:Oper} {a:Act} {K:Act→World→Prop} {Q:Exit→Act→World→Prop} (w:World) (s x:Operand) (t:TypeId)
 (ho:o.op = .call { callee := .builtin .append,args := #[s,x],argTypes := #[t,t] })
 (base:Nat) (e:TypeId) (i:TypeInfo) (z:Value) (size bytes:Nat) (ht:P.underlying t=some (.slice e)) (hi:P.info? e=some i) (hz:i.zero=some z)
 (hsize:i.size=size) (hby:i.bytes=bytes) (hzs:z.cells.size=size) (hsz:0<size)
 (v:Value) (n:Nat) (xs:List Value) (hs:a.eval s=v) (hown:w.ownsRow base e size v n xs)
 (base2:Nat) (v2:Value) (m:Nat) (ys:List Value) (hx:a.eval x=v2) (hown2:w.ownsRow base2 e size v2 m ys) (h1:∀ u∈ys,u.oneCell'=true)
 (h63:n+m≤maxLen) (hbytes:(n+m) * bytes≤140737488355328) (hbase:base≤w.heap.size)
 (h:∀ v' w',w'.ownsRow base e size v' (n+m) (xs ++ ys)→Mods (fun k =>v.ownBlock=some k) w w'→K (a.put o.dst v') w'):Oper.wp P o a w K Q :=by
 have hl :=hown2.1
 have hc :=hown2
 rcases hown2.2 with ⟨rfl,rfl⟩ | ⟨g,cap,cur,rfl,hg,hh,r⟩
 ·obtain rfl:ys = [] :=List.length_eq_zero_iff.1 (by simpa using hl)
  have hrun :=run_append_owned_none (P :=P) (w :=w) base t o.type e i size ht hi v n xs hown
  unfold Oper.wp
  simp [execOp,ho,resolve,invoke,builtin,hs,hx,hrun,Result.andThen]
  exact h v w (by simpa using hown) (Mods.refl _ _)
 ·refine wp_append_own w s x t ho base e i z size bytes ht hi hz hsize hby hzs hsz v n xs hs hown ⟨g,0,none⟩ m cap ys hx hl (fun j u hj =>?_) h1 h63 hbytes hbase fun v' w' h2 h3 _ =>h v' w' h2 ((Mods.refl _ w).grown h3 fun k _ hk =>hk)
  have hjl:j<m * size :=by have :=(List.getElem?_eq_some_iff.1 hj).1; omega
  rw [addr_add,Nat.zero_add,hc.cellAt j hjl,hj]
theorem Z99 {P:Program} {ops:Array Oper} {o:Oper} {a:Act} {K:Act→World→Prop} {Q:Exit→Act→World→Prop} {E:Prop} (w:World) (hgd:o.guard=none) (s x:Operand) (t:TypeId)
 (ho:o.op = .call { callee := .builtin .append,args := #[s,x],argTypes := #[t,t] })
 (base:Nat) (e:TypeId) (i:TypeInfo) (z:Value) (size bytes:Nat) (ht:P.underlying t=some (.slice e)) (hi:P.info? e=some i) (hz:i.zero=some z)
 (hsize:i.size=size) (hby:i.bytes=bytes) (hzs:z.cells.size=size) (hsz:0<size)
 (v:Value) (n:Nat) (xs:List Value) (hs:a.eval s=v) (hown:w.ownsRow base e size v n xs)
 (base2:Nat) (v2:Value) (m:Nat) (ys:List Value) (hx:a.eval x=v2) (hown2:w.ownsRow base2 e size v2 m ys) (h1:∀ u∈ys,u.oneCell'=true)
 (h63:n+m≤maxLen) (hbytes:(n+m) * bytes≤140737488355328) (hbase:base≤w.heap.size)
 (h:∀ v' w',w'.ownsRow base e size v' (n+m) (xs ++ ys)→Mods (fun k =>v.ownBlock=some k) w w'→K (a.put o.dst v') w') :
 if Region.wanted o (yielded ops a.tmps)=true then Oper.wp P o a w K Q else E :=by
 have hw:Region.wanted o (yielded ops a.tmps)=true :=by simp [Region.wanted,hgd]
 rw [if_pos hw]
 exact Zax w s x t ho base e i z size bytes ht hi hz hsize hby hzs hsz v n xs hs hown base2 v2 m ys hx hown2 h1 h63 hbytes hbase h
end Go.Eg
