/- A part of the proofs of the top laws: Ring0. -/
import Derived.Deep.OwnRows
import Derived.Laws.CopyOwn
import Derived.Test.YtecapfmmoejikaaGreatPkAc
set_option maxRecDepth 4000
set_option maxHeartbeats 8000000
namespace Go.Eg
open Go Go.RowKit
abbrev rowC (F:Nat→Value) (N:Nat) (t:TypeId):Obj := .cells ((Array.range N).map F) t (0,0)
theorem Z0t {w:World} {g N:Nat} {F:Nat→Value} {t:TypeId} (h:w.heap[g]? = some (rowC F N t)) (j:Nat) (hj:j<N):w.cell? ⟨g,j,none⟩=some (F j) :=by simp [World.cell?,h,hj]
theorem Z28 {w:World} {g N:Nat} {F:Nat→Value} {t:TypeId} (h:w.heap[g]? = some (rowC F N t)) (j:Nat):w.frozen? ⟨g,j,none⟩=false :=by simp [World.frozen?,h]
theorem Z41 {w:World} {g N i:Nat} {F:Nat→Value} {t:TypeId} (v:Value) (h:w.heap[g]? = some (rowC F N t)):(w.setCell ⟨g,i,none⟩ v).heap[g]? = some (rowC (fun j =>if j=i then v else F j) N t) :=by
 rw [heap_setCell_same w g i _ _ _ h]
 unfold rowC
 congr 2
 apply Array.ext_getElem?
 intro j
 by_cases hj:j<N
 ·by_cases e:i=j
  ·subst e; simp [hj]
  ·simp [hj,e,Ne.symm e]
 ·simp [hj]
theorem Z1c {F G:Nat→Value} {N:Nat} {t:TypeId} (h:∀ j,j<N→F j=G j):rowC F N t=rowC G N t :=by
 unfold rowC
 congr 1
 apply Array.ext_getElem?
 intro j
 by_cases hj:j<N
 ·simp [hj,h j hj]
 ·simp [hj]
section
variable {P:Program}
theorem Z0v (w:World) {ops:Array Oper} {rest:List Oper} {o:Oper} {a:Act} {Q:Exit→Act→World→Prop}
 (hg:o.guard=none) (l c:Operand) (t:TypeId) (hop:o.op=Op.makeSlice t l c)
 (e:TypeId) (z:Value) (size bytes:Nat) (ht:P.underlying t=some (.slice e)) (hinfo:(P.info? e).map (fun i =>(i.zero,i.size,i.bytes))=some (some z,size,bytes))
 (n:Nat) (hl:a.eval l = .int .i64 (n:Int)) (hc:a.eval c = .int .i64 (n:Int)) (hb:bytes * n≤281474976710656) (hn:n≤9223372036854775807)
 (hK:∀ w',w'.heap[w.heap.size]? = some (rowC (fun j =>z.cells[j % z.cells.size]!) (n * size) e)→Z00 w w'→w'.heap.size=w.heap.size+1→wpList P ops Q rest (a.put o.dst (.slice (some ⟨w.heap.size,0,none⟩) n n)) w') :
 wpList P ops Q (o :: rest) a w :=by
 obtain ⟨i,hi,hzz⟩ :=Option.map_eq_some_iff.1 hinfo
 simp only [Prod.mk.injEq] at hzz
 obtain ⟨hz,hs,hby⟩ :=hzz
 refine wpList_plain hg fun K hK' =>?_
 have hb':(i.bytes:Int) * (n:Int)≤281474976710656 :=by
  have h:((i.bytes * n:Nat):Int)≤281474976710656 :=by rw [hby]; omega
  rwa [Int.natCast_mul] at h
 have hrun :=run_make (P :=P) w t e i z ht hi hz .i64 .i64 n n (by omega) (Int.le_refl _) hb' (by omega)
 simp only [Int.toNat_natCast,hs] at hrun
 unfold Oper.wp
 simp [execOp,hop,hl,hc,hrun,Result.andThen]
 refine hK' _ _ (hK _ ?_ ((Mods.refl _ w).alloc _) (by simp))
 exact heap_alloc_last w _
theorem Zak (w:World) (dT sT ty elem:TypeId) (k:Nat) (g o dLen dCap:Nat) (a:Addr) (sLen sCap:Nat) (cur:Array Value) (t:TypeId) (cs:List Value)
 (hu:P.underlying dT=some (.slice elem)) (hs:(P.info? elem).map (·.size)=some k)
 (hg:w.heap[g]? = some (.cells cur t (0,0))) (hn:cs.length=Nat.min sLen dLen * k)
 (hsrc:∀ j v,cs[j]? = some v→w.cell? (a.add j)=some v) (hfit:o+cs.length≤cur.size) (h1:∀ v∈cs,v.oneCell'=true) :
 (Builtin.copy_ #[dT,sT] ty #[.slice (some ⟨g,o,none⟩) dLen dCap, .slice (some a) sLen sCap]).run P w =
  .ok (goInt (Nat.min sLen dLen)) (w.setRow g (cur.toList.take o ++ cs ++ cur.toList.drop (o+cs.length)).toArray) :=by
 have hl :=run_loadCells_list (P :=P) w a cs hsrc
 have hst :=run_storeCells_at P g o t cs 0 cur w hg (by simpa using hfit) h1
 cases hq:P.info? elem with
 | none =>simp [hq] at hs
 | some i =>
  have hi:i.size=k :=by simpa [hq] using hs
  simp [Builtin.copy_,run_underlying hu,Builtin.lenOf,Builtin.firstCells,sizeOf,typeInfo,hq,hi,← hn,hl,hst]
theorem Z63 (w:World) (dT sT ty elem:TypeId) (k:Nat) (d a:Option Addr) (dLen dCap sLen sCap:Nat) (hu:P.underlying dT=some (.slice elem)) (hs:(P.info? elem).map (·.size)=some k) (hn:Nat.min sLen dLen=0) :
 (Builtin.copy_ #[dT,sT] ty #[.slice d dLen dCap, .slice a sLen sCap]).run P w = .ok (goInt 0) w :=by
 cases hq:P.info? elem with
 | none =>simp [hq] at hs
 | some i =>
  have hl:∀ (x:Addr),(loadCells x 0).run P w = .ok #[] w :=fun x =>by simpa using run_loadCells_list (P :=P) w x [] (by simp)
  cases d <;> cases a <;> simp [Builtin.copy_,run_underlying hu,Builtin.lenOf,Builtin.firstCells,sizeOf,typeInfo,hq,hn,storeCells,hl]
theorem Z6s {α:Type} (L cs:List α) (off j:Nat) (h:off+cs.length≤L.length):(L.take off ++ cs ++ L.drop (off+cs.length))[j]? = if j<off then L[j]? else if j<off+cs.length then cs[j - off]? else L[j]? := by
 by_cases h1:j<off
 ·rw [if_pos h1,List.append_assoc,List.getElem?_append_left (by simp; omega),List.getElem?_take,if_pos h1]
 ·rw [if_neg h1,List.append_assoc,List.getElem?_append_right (by simp; omega)]
  have e:(L.take off).length=off :=by simp; omega
  rw [e]
  by_cases h2:j<off+cs.length
  ·rw [if_pos h2,List.getElem?_append_left (by omega)]
  ·rw [if_neg h2,List.getElem?_append_right (by omega),List.getElem?_drop]
   congr 1
   omega
theorem Z0h {w:World} {ops:Array Oper} {rest:List Oper} {o:Oper} {a:Act} {Q:Exit→Act→World→Prop} (hgd:o.guard=none) (d s:Operand) (dT sT:TypeId)
 (ho:o.op = .call { callee := .builtin .copy,args := #[d,s],argTypes := #[dT,sT] }) (elem:TypeId) (k:Nat) (hu:P.underlying dT=some (.slice elem)) (hsz:(P.info? elem).map (·.size)=some k)
 (dp sp:Option Addr) (dLen dCap sLen sCap:Nat) (hd:a.eval d = .slice dp dLen dCap) (hs:a.eval s = .slice sp sLen sCap)
 (g off N n:Nat) (F G:Nat→Value) (t:TypeId) (hg:w.heap[g]? = some (rowC F N t)) (hn:n=Nat.min sLen dLen)
 (hpos:0<n→dp=some ⟨g,off,none⟩∧∃ b so,sp=some ⟨b,so,none⟩∧∀ j,j<n * k→w.cell? ⟨b,so+j,none⟩=some (G j))
 (hfit:off+n * k≤N) (h1:∀ j,j<n * k→(G j).oneCell'=true)
 (h:∀ w',w'.heap[g]? = some (rowC (fun j =>if off≤j∧j<off+n * k then G (j - off) else F j) N t)→Mods (· = g) w w'→wpList P ops Q rest (a.put o.dst (.int .i64 (n:Int))) w') :
 wpList P ops Q (o :: rest) a w :=by
 by_cases h0:n=0
 ·refine wpList_plain hgd fun K hK =>?_
  have hrun :=Z63 (P :=P) w dT sT o.type elem k dp sp dLen dCap sLen sCap hu hsz (by omega)
  unfold Oper.wp
  simp [execOp,ho,resolve,invoke,builtin,hd,hs,hrun,Result.andThen]
  subst h0
  refine hK _ _ (h w ?_ (Mods.refl _ _))
  rw [hg]
  congr 1
  exact Z1c fun j _ =>by rw [if_neg (by omega)]
 ·obtain ⟨rfl,b,so,rfl,hsrc⟩ :=hpos (by omega)
  refine wpList_plain hgd fun K hK =>?_
  have hlen:((List.range (n * k)).map G).length=n * k :=by simp
  have hrun :=Zak (P :=P) w dT sT o.type elem k g off dLen dCap ⟨b,so,none⟩ sLen sCap ((Array.range N).map F) t ((List.range (n * k)).map G) hu hsz hg (by rw [hlen,hn]) (fun j v hj =>by
   have hjl:j<n * k :=by have :=(List.getElem?_eq_some_iff.1 hj).1; rwa [hlen] at this
   rw [addr_add]
   simp [hjl] at hj
   rw [← hj]
   exact hsrc j hjl) (by rw [hlen]; simpa using hfit) (fun v hv =>by
   obtain ⟨j,hj,rfl⟩ :=List.mem_map.1 hv
   exact h1 j (List.mem_range.1 hj))
  unfold Oper.wp
  simp [execOp,ho,resolve,invoke,builtin,hd,hs,hrun,Result.andThen]
  have hnn:goInt (Nat.min sLen dLen) = .int .i64 (n:Int) :=by rw [hn]; rfl
  have hm:Mods (· = g) w (w.setRow g (((Array.range N).map F).toList.take off ++ (List.range (n * k)).map G ++ ((Array.range N).map F).toList.drop (off+((List.range (n * k)).map G).length)).toArray) :=(Mods.refl _ w).setRow _ _ fun _ =>rfl
  have hr :=setRow_heap w g ((Array.range N).map F) (((Array.range N).map F).toList.take off ++ (List.range (n * k)).map G ++ ((Array.range N).map F).toList.drop (off+((List.range (n * k)).map G).length)).toArray t _ hg
  have hfin :=h _ (by
   rw [hr]
   congr 2
   apply Array.ext_getElem?
   intro j
   rw [List.getElem?_toArray,Z6s _ _ _ j (by simp only [Array.length_toList,Array.size_map,Array.size_range,hlen]; exact hfit),hlen]
   by_cases hj:j<N
   ·by_cases h1':j<off
    ·rw [if_pos h1']
     simp [hj,show ¬ off≤j by omega]
    ·rw [if_neg h1']
     by_cases h2':j<off+n * k
     ·rw [if_pos h2']
      simp [hj,show off≤j by omega,h2',show j - off<n * k by omega]
     ·rw [if_neg h2']
      simp [hj,h2']
   ·rw [if_neg (by omega),if_neg (by omega)]
    simp [hj]) hm
  rw [hnn]
  exact hK _ _ (by simpa using hfin)
end
structure Rep {E:Type} (sl:Nat→E) (m f:Nat) (l:List E):Prop where
 le:l.length≤m
 pos:f<m∨(m=0∧f=0)
 get:∀ i x,l[i]? = some x→sl ((f+i) % m)=x
theorem Rep.empty {E:Type} (sl:Nat→E):Rep sl 0 0 [] :=⟨Nat.le_refl _, .inr ⟨rfl,rfl⟩,fun i x h =>by cases h⟩
theorem Zf2 {m f i j:Nat} (hi:i<m) (hj:j<m) (h:(f+i) % m=(f+j) % m):i=j :=by
 rw [← Nat.mod_add_mod,← Nat.mod_add_mod f m j] at h
 have hx :=Nat.mod_lt f (show 0<m by omega)
 generalize f % m=y at *
 by_cases h1:y+i<m
 ·rw [Nat.mod_eq_of_lt h1] at h
  by_cases h2:y+j<m
  ·rw [Nat.mod_eq_of_lt h2] at h; omega
  ·rw [Nat.mod_eq_sub_mod (by omega),Nat.mod_eq_of_lt (by omega)] at h; omega
 ·rw [Nat.mod_eq_sub_mod (by omega),Nat.mod_eq_of_lt (by omega)] at h
  by_cases h2:y+j<m
  ·rw [Nat.mod_eq_of_lt h2] at h; omega
  ·rw [Nat.mod_eq_sub_mod (by omega),Nat.mod_eq_of_lt (by omega)] at h; omega
theorem Rep.push {E:Type} {sl:Nat→E} {m f:Nat} {l:List E} (h:Rep sl m f l) (hl:l.length<m) (x:E):Rep (fun j =>if j=(f+l.length) % m then x else sl j) m f (l ++ [x]) :=by
 refine ⟨by simp; omega,h.pos,fun i y hi =>?_⟩
 by_cases e:i<l.length
 ·rw [List.getElem?_append_left e] at hi
  rw [if_neg fun k =>by have :=Zf2 (by omega) hl k; omega]
  exact h.get i y hi
 ·have hil :=(List.getElem?_eq_some_iff.1 hi).1
  simp at hil
  obtain rfl:i=l.length :=by omega
  simp at hi
  rw [if_pos rfl,hi]
theorem Rep.pop {E:Type} {sl:Nat→E} {m f:Nat} {x:E} {l:List E} (h:Rep sl m f (x :: l)) (z:E):Rep (fun j =>if j=f then z else sl j) m ((f+1) % m) l :=by
 have hle :=h.le
 simp at hle
 have hp:f<m :=by rcases h.pos with h | h <;> omega
 refine ⟨by omega, .inl (Nat.mod_lt _ (by omega)),fun i y hi =>?_⟩
 have hil :=(List.getElem?_eq_some_iff.1 hi).1
 have e:((f+1) % m+i) % m=(f+(i+1)) % m :=by rw [Nat.mod_add_mod]; congr 1; omega
 have h0:f=(f+0) % m :=by rw [Nat.add_zero,Nat.mod_eq_of_lt hp]
 simp only [e]
 rw [if_neg fun k =>by
  have :=Zf2 (m :=m) (f :=f) (i :=i+1) (j :=0) (by omega) (by omega) (k.trans h0)
  omega]
 exact h.get (i+1) y (by simpa using hi)
def Zc2 {E:Type} (sl:Nat→E) (z:E) (m f:Nat) (j:Nat):E :=if j<m - f then sl (f+j) else if j<m - f+f then sl (j - (m - f)) else z
theorem Rep.grow {E:Type} {sl:Nat→E} {m f:Nat} {l:List E} (h:Rep sl m f l) (M:Nat) (hM:m<M) (z:E):Rep (Zc2 sl z m f) M 0 l :=by
 refine ⟨by have :=h.le; omega, .inl (by omega),fun i y hi =>?_⟩
 have hil :=(List.getElem?_eq_some_iff.1 hi).1
 have hle :=h.le
 have hp:f<m :=by rcases h.pos with h | h <;> omega
 have e :=h.get i y hi
 rw [Nat.zero_add,Nat.mod_eq_of_lt (by omega)]
 unfold Zc2
 by_cases c:i<m - f
 ·rw [if_pos c]
  rw [Nat.mod_eq_of_lt (by omega)] at e
  exact e
 ·rw [if_neg c,if_pos (by omega)]
  rw [Nat.mod_eq_sub_mod (by omega),Nat.mod_eq_of_lt (by omega)] at e
  rw [← e]
  congr 1
  omega
theorem Z5f {E:Type} (C:Nat) (hC:0<C) (enc:E→Nat→Value) (sl:Nat→E) (z:E) (m f:Nat) (j:Nat) :
 (if (m - f) * C≤j∧j<(m - f) * C+f * C then enc (sl ((j - (m - f) * C) / C)) ((j - (m - f) * C) % C) else if 0≤j∧j<0+(m - f) * C then enc (sl ((f * C+(j - 0)) / C)) ((f * C+(j - 0)) % C) else enc z (j % C)) =
  enc (if j / C<m - f then sl (f+j / C) else if j / C<m - f+f then sl (j / C - (m - f)) else z) (j % C) :=by
 have h1:j / C<m - f↔j<(m - f) * C :=Nat.div_lt_iff_lt_mul hC
 have h2:j / C<m - f+f↔j<(m - f+f) * C :=Nat.div_lt_iff_lt_mul hC
 rw [Nat.add_mul] at h2
 by_cases a:j<(m - f) * C
 ·rw [if_neg (by omega),if_pos (by omega),if_pos (h1.2 a),Nat.sub_zero]
  rw [show f * C+j=j+C * f from by rw [Nat.mul_comm f C,Nat.add_comm],Nat.add_mul_div_left _ _ hC,Nat.add_mul_mod_self_left,Nat.add_comm (j / C) f]
 ·rw [if_neg (fun h =>a (h1.1 h))]
  by_cases b:j<(m - f) * C+f * C
  ·rw [if_pos (by omega),if_pos (h2.2 b)]
   obtain ⟨q,rfl⟩:∃ q,j=q+C * (m - f) :=⟨j - C * (m - f),by rw [Nat.mul_comm C]; omega⟩
   rw [Nat.mul_comm (m - f) C,Nat.add_sub_cancel,Nat.add_mul_div_left _ _ hC,Nat.add_mul_mod_self_left,Nat.add_sub_cancel]
  ·rw [if_neg (by omega),if_neg (by omega),if_neg (fun h =>b (h2.1 h))]
theorem Rep.peek {E:Type} {sl:Nat→E} {m f:Nat} {l:List E} (h:Rep sl m f l) (i:Nat) (hi:i<l.length):sl ((f+i) % m)=l[i] :=h.get i _ (List.getElem?_eq_getElem hi)
theorem Z0c {w:World} {B:Nat} {e:TypeId} {size:Nat} {v:Value} {n:Nat} {xs:List Value} (h:w.ownsRow B e size v n xs):∃ a c,v = .slice a n c :=by
 obtain ⟨h1,h2⟩ :=h
 rcases h2 with ⟨rfl,rfl⟩ | ⟨g,cap,cur,rfl,_⟩
 ·exact ⟨none,0,rfl⟩
 ·exact ⟨_,_,rfl⟩
theorem Z3r {w w2 w3:World} {B:Nat} {e:TypeId} {size n:Nat} {v:Value} {xs:List Value} {o:Obj} (hk:Z00 w w2) (ho:w2.ownsRow B e size v n xs) (hB:w.heap.size≤B) (hg:(w2.alloc o).grownBy w3 v.ownBlock):Z00 w w3 :=
 (hk.alloc o).grown hg fun k hk' e =>absurd (ho.lt k e).1 (by omega)
theorem Z4a (w:World) (u:Value) (t:TypeId):∀ (j:Nat) (v:Value),[u][j]? = some v→(w.alloc (.cells #[u] t)).cell? ((⟨w.heap.size,0,none⟩:Addr).add j)=some v :=by
 intro j v hj
 match j,hj with
 | 0,hj =>
  simp at hj
  subst hj
  rw [addr_add]
  unfold World.cell?
  rw [heap_alloc_last]
  rfl
theorem take_snoc {α β:Type} (f:α→β) {l:List α} {k:Nat} (hk:k<l.length):(l.map f).take k ++ [f l[k]]=(l.map f).take (k+1) :=by
 rw [List.take_add_one,List.getElem?_map,List.getElem?_eq_getElem hk]
 rfl
theorem Z0l {P:Program} {c:Code} {Q:Exit→Act→World→Prop} {a:Act} {w:World} (h:∀ W,W=w→c.wp P Q a W):c.wp P Q a w :=h w rfl
theorem Z1m {x:Int} (h0 : -9223372036854775808≤x) (h1:x≤9223372036854775807):wrap64 x=x :=IntWalk.wrap64_in x ⟨h0,h1⟩
theorem Z30 {f n m p:Nat} (hf:f<m) (hm:m≤4096) (hn:n≤4096) (hp:p=(f+n) % m) :
 p<m∧(p:Int)<(m:Int)∧wrap64 ((f:Int)+n)=(f:Int)+n∧((f:Int)+n).tmod (m:Int)=(p:Int)∧((m:Int) == 0)=false∧wrap64 (p:Int)=(p:Int)∧wrap64 ((n:Int)+1)=(n:Int)+1 :=by
 have hpm:p<m :=hp ▸ Nat.mod_lt _ (by omega)
 refine ⟨hpm,Int.ofNat_lt.2 hpm,Z1m ?_ ?_, ?_, ?_,Z1m ?_ ?_,Z1m ?_ ?_⟩
 ·clear hp; omega
 ·clear hp; omega
 ·rw [hp]
  exact (Int.tmod_eq_emod_of_nonneg (by clear hp; omega)).trans (by push_cast; rfl)
 ·clear hp
  simp
  omega
 all_goals
  clear hp
  omega
end Go.Eg
