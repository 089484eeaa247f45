/- A part of the proofs of the top laws: InvB InvC InvD InvE InvF. -/
import Derived.Test.YtecapfmmoejikaaGreatPkBe
set_option maxRecDepth 4000
set_option maxHeartbeats 8000000
namespace Go.Proofs.YtecapfmmoejikaaGreat
open Go.RowKit Go.Eg
def bkN:Nat→(Nat→List (Int × Int))→Nat
 | 0,_ =>0
 | L+1,bk =>bkN L bk+(bk L).length
theorem Zdt {bk bk':Nat→List (Int × Int)} {a:Nat} (ho:∀ j,j≠a→bk' j=bk j):∀ L,(a<L→bkN L bk'+(bk a).length=bkN L bk+(bk' a).length)∧(L≤a→bkN L bk'=bkN L bk)
 | 0 =>⟨fun h =>by omega,fun _ =>rfl⟩
 | L+1 =>by
  obtain ⟨h1,h2⟩ :=Zdt ho L
  refine ⟨fun h =>?_,fun h =>?_⟩
  ·by_cases e:a=L
   ·subst e
    have :=h2 (Nat.le_refl _)
    simp only [bkN]
    omega
   ·have :=h1 (by omega)
    have e2 :=ho L (Ne.symm e)
    simp only [bkN,e2]
    omega
  ·have :=h2 (by omega)
   have e2 :=ho L (by omega)
   simp only [bkN,e2]
   omega
theorem Zjf (bk:Nat→List (Int × Int)):∀ L j,j<L→(bk j).length≤bkN L bk
 | 0,_,h =>by omega
 | L+1,j,h =>by
  by_cases e:j=L
  ·subst e; simp only [bkN]; omega
  ·have :=Zjf bk L j (by omega)
   simp only [bkN]; omega
structure Bk (L n M:Nat) (bk:Nat→List (Int × Int)):Prop where
 z:∀ j,L≤j→bk j = []
 i:∀ j x,x∈bk j→0≤x.2∧x.2<n
 n:bkN L bk≤M
theorem Bk.mono {L n n' M M':Nat} {bk:Nat→List (Int × Int)} (h:Bk L n M bk) (hn:n≤n') (hM:M≤M'):Bk L n' M' bk :=⟨h.z,fun j x hx =>by have :=h.i j x hx; omega,Nat.le_trans h.n hM⟩
theorem Bk.le {L n M:Nat} {bk:Nat→List (Int × Int)} (h:Bk L n M bk) (j:Nat):(bk j).length≤M :=by
 by_cases hj:j<L
 ·exact Nat.le_trans (Zjf bk L j hj) h.n
 ·rw [h.z j (by omega)]; exact Nat.zero_le _
theorem mod_lt {L:Nat} (hL:1≤L) (ep:Int):(ep % (L:Int)).toNat<L :=by
 have h1 :=Int.emod_nonneg ep (show (L:Int)≠0 by omega)
 have h2 :=Int.emod_lt_of_pos ep (show 0<(L:Int) by omega)
 omega
theorem Bk.put {L n M:Nat} {bk:Nat→List (Int × Int)} (h:Bk L n M bk) (hL:1≤L) (ep:Int) {it:Int} (h0:0≤it) (h1:it<n):Bk L n (M+1) (putB L bk ep it) :=by
 have ha :=mod_lt hL ep
 generalize hA:(ep % (L:Int)).toNat=a at ha
 have hp:∀ j,putB L bk ep it j=if j=a then bk j ++ [(ep,it)] else bk j :=fun j =>by unfold putB; rw [hA]
 refine ⟨fun j hj =>?_,fun j x hx =>?_, ?_⟩
 ·rw [hp,if_neg (by omega)]; exact h.z j hj
 ·rw [hp] at hx
  split at hx
  ·rcases List.mem_append.1 hx with hx | hx
   ·exact h.i j x hx
   ·simp only [List.mem_singleton] at hx
    subst hx
    exact ⟨h0,h1⟩
  ·exact h.i j x hx
 ·have :=(Zdt (bk :=bk) (bk' :=putB L bk ep it) (a :=a) (fun j hj =>by rw [hp,if_neg hj]) L).1 ha
  rw [hp,if_pos rfl] at this
  have :=h.n
  simp only [List.length_append,List.length_cons,List.length_nil] at *
  omega
theorem Zfk (ep:Int):∀ l:List (Int × Int),(Z2s ep l).length+(outE ep l).length=l.length
 | [] =>rfl
 | x :: l =>by
  have :=Zfk ep l
  unfold Z2s outE at *
  by_cases hx:x.1=ep <;> simp [hx] at this ⊢ <;> omega
theorem Bk.due {L n M:Nat} {bk:Nat→List (Int × Int)} (h:Bk L n M bk) (hL:1≤L) (ep:Int):(∀ i∈dueI L bk ep,0≤i∧i<n)∧(dueI L bk ep).length≤M∧Bk L n (M - (dueI L bk ep).length) (dueB L bk ep) :=by
 have ha :=mod_lt hL ep
 unfold dueI
 generalize hA:(ep % (L:Int)).toNat=a at ha ⊢
 have hp:∀ j,dueB L bk ep j=if j=a then Z2s ep (bk j) else bk j :=fun j =>by unfold dueB; rw [hA]
 have hk :=Zfk ep (bk a)
 have hn :=(Zdt (bk :=bk) (bk' :=dueB L bk ep) (a :=a) (fun j hj =>by rw [hp,if_neg hj]) L).1 ha
 rw [hp,if_pos rfl] at hn
 have h3 :=h.n
 have h4 :=Zjf bk L a ha
 refine ⟨fun i hi =>?_,by omega,fun j hj =>?_,fun j x hx =>?_,by omega⟩
 ·unfold outE at hi
  obtain ⟨x,hx,rfl⟩ :=List.mem_map.1 hi
  exact h.i a x (List.mem_filter.1 hx).1
 ·rw [hp,if_neg (by omega)]; exact h.z j hj
 ·rw [hp] at hx
  split at hx
  ·exact h.i j x (List.mem_filter.1 hx).1
  ·exact h.i j x hx
def Z26 (l:List Vd):List Int :=l.map (·.bal)
def livV (v:Vd):Int :=if v.live=true then v.bal else 0
theorem Z4h:∀ l:List Vd,totS l=sumL (Z26 l)
 | [] =>rfl
 | v :: l =>by simp only [totS,Z26,List.map_cons,sumL]; rw [Z4h l]; rfl
theorem Zb6:∀ l:List Vd,actS l=sumL (l.map livV)
 | [] =>rfl
 | v :: l =>by simp only [actS,List.map_cons,sumL,livV]; rw [Zb6 l]
theorem Z7p {α β:Type} (f:α→β) {l:List α} {i:Nat} {v:α} (h:∀ x,l[i]? = some x→f v=f x):(l.set i v).map f=l.map f :=by
 apply List.ext_getElem?
 intro j
 rw [List.map_set,List.getElem?_set]
 by_cases e:i=j
 ·subst e
  simp only [if_true,List.length_map,List.getElem?_map]
  cases hx:l[i]? with
  | none =>simp at hx; simp [hx]
  | some x =>
   have :=(List.getElem?_eq_some_iff.1 hx).1
   simp [h x hx,this]
 ·simp [e]
theorem Zev {l:List Vd} {i:Nat} {x:Vd} (h:l[i]? = some x):vAt l (i:Int)=x :=by simp [vAt,List.getD,h]
theorem Zfg {l:List Vd} {i:Nat} {v:Vd} (h:v.bal=(vAt l i).bal):Z26 (l.set i v)=Z26 l :=Z7p _ fun x hx =>by rw [h,Zev hx]
theorem Zjr (l:List Vd) (i:Nat) (x:Int):Z26 (evL l i x)=Z26 l :=by
 by_cases hi:i<l.length
 ·rw [Zcj hi]; exact Zfg rfl
 ·unfold evL; rw [List.getElem?_eq_none (by omega)]
theorem Z43 (x:Int):∀ (r:List Int) (l:List Vd),Z26 (r.foldl (fun l i =>evL l i.toNat x) l)=Z26 l∧(r.foldl (fun l i =>evL l i.toNat x) l).length=l.length
 | [],_ =>⟨rfl,rfl⟩
 | i :: r,l =>by
  obtain ⟨h1,h2⟩ :=Z43 x r (evL l i.toNat x)
  exact ⟨h1.trans (Zjr _ _ _),h2.trans (Z8f _ _ _)⟩
theorem Zn2 (l:List Vd) (i:Nat):actS (evL l i 4)=actS l :=by
 by_cases hi:i<l.length
 ·rw [Zcj hi,Zb6,Zb6]
  congr 1
  refine Z7p _ fun x hx =>?_
  rw [Zev hx]
  unfold livV Vd.live
  rw [Zmi]
  show (if _ then x.bal else 0)=_
  split
  ·rename_i h
   rw [h]; rfl
  ·rfl
 ·unfold evL; rw [List.getElem?_eq_none (by omega)]
theorem Z53:∀ (l:List Vd) {i:Nat} {v:Vd},i<l.length→totS (l.set i v)=totS l - (vAt l i).bal+v.bal
 | [],_,_,h =>absurd h (Nat.not_lt_zero _)
 | x :: l,0,v,_ =>by simp only [List.set_cons_zero,totS,vAt,Int.toNat_natCast,List.getD_cons_zero]; omega
 | x :: l,i+1,v,h =>by
  have :=Z53 l (i :=i) (v :=v) (by simpa using h)
  simp only [List.set_cons_succ,totS,vAt,Int.toNat_natCast,List.getD_cons_succ] at this ⊢
  omega
section
variable {mb ep lx:Int} {q lv:List Int} {L:Nat}
theorem rips:∀ (r:List Int) {s:List Vd × (Nat→List (Int × Int))} {M:Nat},1≤L→Core mb ep lx s.1 q lv→Bk L s.1.length M s.2→(∀ i∈r,0≤i∧i<s.1.length) →
 Core mb ep lx (r.foldl (rip1 L ep) s).1 q lv∧Bk L s.1.length (M+r.length) (r.foldl (rip1 L ep) s).2∧(r.foldl (rip1 L ep) s).1.length=s.1.length∧Z26 (r.foldl (rip1 L ep) s).1=Z26 s.1∧actS (r.foldl (rip1 L ep) s).1=actS s.1 :=by
 intro r
 induction r with
 | nil =>intro s M _ h b _; exact ⟨h,b,rfl,rfl,rfl⟩
 | cons i r ih =>
  intro s M hL h b hr
  obtain ⟨k,rfl,hk⟩ :=Z47 (l :=s.1) (hr i List.mem_cons_self)
  have hstep:Core mb ep lx (rip1 L ep s k).1 q lv∧Bk L s.1.length (M+1) (rip1 L ep s k).2∧(rip1 L ep s k).1.length=s.1.length∧Z26 (rip1 L ep s k).1=Z26 s.1∧actS (rip1 L ep s k).1=actS s.1 :=by
   unfold rip1
   split
   ·exact ⟨h,b.put hL _ (by omega) (by omega),rfl,rfl,rfl⟩
   ·rw [Int.toNat_natCast]
    exact ⟨h.rip hk (by omega),b.mono (Nat.le_refl _) (by omega),Z8f _ _ _,Zjr _ _ _,Zn2 _ _⟩
  obtain ⟨c1,c2,c3,c4,c5⟩ :=hstep
  obtain ⟨d1,d2,d3,d4,d5⟩ :=ih (s :=rip1 L ep s k) (M :=M+1) hL c1 (by rw [c3]; exact c2) fun j hj =>by rw [c3]; exact hr j (List.mem_cons_of_mem _ hj)
  rw [c3] at d2
  refine ⟨d1, ?_,d3.trans c3,d4.trans c4,d5.trans c5⟩
  rw [List.length_cons,show M+(r.length+1)=M+1+r.length from by omega]
  exact d2
theorem Zgj {vs:List Vd} {bk:Nat→List (Int × Int)} {M:Nat} (hL:1≤L) (h:Core mb ep lx vs q lv) (b:Bk L vs.length M bk) :
 Core mb ep lx (Z8k L ep vs bk).1 q lv∧Bk L vs.length M (Z8k L ep vs bk).2∧(Z8k L ep vs bk).1.length=vs.length∧Z26 (Z8k L ep vs bk).1=Z26 vs∧actS (Z8k L ep vs bk).1=actS vs :=by
 obtain ⟨a1,a2,a3⟩ :=b.due hL ep
 have :=rips (dueI L bk ep) (s :=(vs,dueB L bk ep)) hL h a3 a1
 rwa [Nat.sub_add_cancel a2] at this
theorem Core.assign {vs:List Vd} {i:Int} {r:List Int} (h:Core mb ep lx vs (i :: r) lv) (hx:lx≠-1) {y:Int} (hy:y≤1099511627776):Core mb ep lx (vs.set i.toNat { vAt vs i with ex :=lx,wd :=y }) r (lv ++ [i]) :=by
 obtain ⟨hin,h3,hex⟩ :=h.qs i List.mem_cons_self
 obtain ⟨k,rfl,hk⟩ :=Z47 hin
 rw [Int.toNat_natCast]
 generalize hv:({ vAt vs (k:Int) with ex :=lx,wd :=y }:Vd)=v
 have v1:v.st=3 :=by rw [← hv]; exact h3
 have v2:v.ex=lx :=by rw [← hv]
 have v3:v.wd=y :=by rw [← hv]
 have hr:∀ j,inR (vs.set k v) j↔inR vs j :=Z2t (by simp)
 have ha:∀ j,inR vs j→vAt (vs.set k v) j=if j=k then v else vAt vs j :=fun j hj =>Z46 hk j hj.1
 have hnq :=List.nodup_cons.1 h.qn
 have hnl:(k:Int) ∉ lv :=fun hm =>((h.lvs _).1 hm).2.2 hex
 refine ⟨fun j hj =>?_,hnq.2,fun j =>?_,fun j hj =>?_, ?_,fun j hj =>?_,fun j hj =>?_,fun j hj =>?_⟩
 ·obtain ⟨a,b⟩ :=h.qs j (List.mem_cons_of_mem _ hj)
  refine ⟨(hr j).2 a, ?_⟩
  rw [ha j a,if_neg (fun e:j=(k:Int) =>hnq.1 (e ▸ hj))]
  exact b
 ·rw [hr j,List.mem_append,List.mem_singleton]
  constructor
  ·rintro (hj | rfl)
   ·obtain ⟨a,b,d⟩ :=(h.lvs j).1 hj
    rw [ha j a,if_neg (fun e:j=(k:Int) =>hnl (e ▸ hj))]
    exact ⟨a,b,d⟩
   ·rw [ha _ hin,if_pos rfl,v1,v2]
    exact ⟨hin,rfl,hx⟩
  ·rintro ⟨a,b,d⟩
   rw [ha j a] at b d
   by_cases e:j=k
   ·exact .inr e
   ·rw [if_neg e] at b d
    exact .inl ((h.lvs j).2 ⟨a,b,d⟩)
 ·rcases List.mem_append.1 hj with hj | hj
  ·obtain ⟨a, -, -⟩ :=(h.lvs j).1 hj
   rw [ha j a,if_neg (fun e:j=(k:Int) =>hnl (e ▸ hj))]
   exact h.lve j hj
  ·rw [List.mem_singleton] at hj
   subst hj
   rw [ha _ hin,if_pos rfl,v2]
 ·rw [List.nodup_append]
  refine ⟨h.lvn,by simp,fun x hx y hy =>?_⟩
  rw [List.mem_singleton] at hy
  subst hy
  exact fun e =>hnl (e ▸ hx)
 ·have hj' :=(hr j).1 hj
  rw [ha j hj']
  split
  ·intro hs; rw [v1] at hs; omega
  ·exact h.fr j hj'
 ·have hj' :=(hr j).1 hj
  rw [ha j hj']
  split
  ·intro hs; rw [v1] at hs; omega
  ·exact h.rp j hj'
 ·have hj' :=(hr j).1 hj
  rw [ha j hj']
  split
  ·rw [v3]; exact hy
  ·exact h.wd j hj'
theorem Zpq {a b:Int} (ha:0≤a) (ha1:a≤2000000) (hb:0≤b) (hb1:b≤1048576):Z1z [a,b] 0=some (a+b) :=by
 simp only [Z1z]
 rw [if_neg (by omega),if_neg (by omega)]
 congr 1
 omega
theorem Zhn {v:Vd} (h3:v.st=3) (hx:v.ex = -1) {ex un:Int} (h0:0≤ex) (h1:ex≤2000000) (u0:0≤un) (u1:un≤1048576):Z2m ex un v=(0,{ v with ex :=ex,wd :=max v.wd (ex+un) }) :=by
 unfold Z2m seq2 Z4d
 simp only [h3,hx,and_self,if_true,ne_eq,not_true_eq_false,if_false]
 unfold Z1b
 rw [Zpq h0 h1 u0 u1]
 simp
theorem asgs {un:Int} (hL:1≤L) (he0:0≤ep) (he1:ep≤1000000) (u0:0≤un) (u1:un≤1048576) :
 ∀ (o:List As) (t:List Int) {s:List Vd × (Nat→List (Int × Int)) × List Int} {M:Nat},Core mb ep (ep+1) s.1 (o.map (·.1) ++ t) s.2.2→Bk L s.1.length M s.2.1→(∀ a∈o,a.2.2=ep+1) →
 Core mb ep (ep+1) (o.foldl (asg1 L un) s).1 t (o.foldl (asg1 L un) s).2.2∧Bk L s.1.length (M+o.length) (o.foldl (asg1 L un) s).2.1∧(o.foldl (asg1 L un) s).2.2=s.2.2 ++ o.map (·.1)∧(o.foldl (asg1 L un) s).1.length=s.1.length∧Z26 (o.foldl (asg1 L un) s).1=Z26 s.1 :=by
 intro o
 induction o with
 | nil =>intro t s M h b _; exact ⟨h,b,(List.append_nil _).symm,rfl,rfl⟩
 | cons a o ih =>
  intro t s M h b ho
  have ha :=ho a List.mem_cons_self
  obtain ⟨hin,h3,hex⟩ :=h.qs a.1 List.mem_cons_self
  obtain ⟨k,hk1,hk⟩ :=Z47 hin
  have hf :=Zhn (v :=vAt s.1 a.1) h3 hex (ex :=a.2.2) (un :=un) (by omega) (by omega) u0 u1
  have hw :=h.wd a.1 hin
  have c1:Core mb ep (ep+1) (asg1 L un s a).1 (o.map (·.1) ++ t) (asg1 L un s a).2.2 :=by
   unfold asg1
   rw [hf,ha]
   exact Core.assign h (by omega) (by omega)
  have c2:Bk L s.1.length (M+1) (asg1 L un s a).2.1 :=b.put hL _ hin.1 (by have :=hin.2; exact this)
  have c3:(asg1 L un s a).1.length=s.1.length :=by unfold asg1; simp
  have c4:Z26 (asg1 L un s a).1=Z26 s.1 :=by
   unfold asg1
   rw [hf,hk1,Int.toNat_natCast]
   exact Zfg rfl
  obtain ⟨d1,d2,d3,d4,d5⟩ :=ih t (s :=asg1 L un s a) (M :=M+1) c1 (by rw [c3]; exact c2) fun x hx =>ho x (List.mem_cons_of_mem _ hx)
  rw [c3] at d2
  refine ⟨d1, ?_, ?_,d4.trans c3,d5.trans c4⟩
  ·rw [List.length_cons,show M+(o.length+1)=M+1+o.length from by omega]
   exact d2
  ·rw [List.foldl_cons,d3]
   show (s.2.2 ++ [a.1]) ++ _=_
   rw [List.append_assoc,List.map_cons]
   rfl
theorem Z7d (fo vo:List Int) (ep:Int):∀ k,k≤(fo ++ vo).length→(Z1p fo vo ep k).map (·.1)=(fo ++ vo).take k
 | 0,_ =>rfl
 | k+1,h =>by
  have ih :=Z7d fo vo ep k (by omega)
  unfold Z1p at ih ⊢
  rw [List.range_succ,List.map_append,List.map_append,ih,List.take_succ_eq_append_getElem (by omega)]
  simp only [List.map_cons,List.map_nil]
  congr 1
  rw [List.getD,List.getElem?_eq_getElem (by omega)]
  rfl
theorem Zcb (fo vo:List Int) (ep:Int) (k:Nat):∀ a∈Z1p fo vo ep k,a.2.2=ep+1 :=by
 intro a ha
 unfold Z1p at ha
 obtain ⟨j, -,rfl⟩ :=List.mem_map.1 ha
 rfl
theorem Zkc (fo vo:List Int) (k:Nat):fo.drop k ++ vo.drop (k - fo.length)=(fo ++ vo).drop k :=(List.drop_append).symm
theorem Core.mrgOne {vs:List Vd} {mx:Int} (h:Core mb ep lx vs q lv) (hb:∀ v∈vs,0≤v.bal) (p:Int × Int):Core mb ep lx (mrg1 mx vs p) q lv∧totS (mrg1 mx vs p)=totS vs∧∀ v∈mrg1 mx vs p,0≤v.bal :=by
 unfold mrg1
 split
 ·rename_i h0
  obtain ⟨h1,h2,h3,h4⟩ :=Z8v h0
  obtain ⟨i,hi,hil⟩ :=Z47 h1
  obtain ⟨j,hj,hjl⟩ :=Z47 h2
  rw [hi,hj,Int.toNat_natCast,Int.toNat_natCast]
  rw [hi] at h1 h3 h4
  rw [hj] at h2 h3 h4
  have hij:i≠j :=fun e =>h3 (by rw [e])
  unfold mrgC at h4
  split at h4
  ·omega
  ·rename_i g1
   have g1':(vAt vs i).st=2∧(vAt vs j).st=2 :=by simpa using g1
   obtain ⟨f1,f2⟩ :=h.fr _ h1 (.inr g1'.1)
   obtain ⟨f3,f4⟩ :=h.fr _ h2 (.inr g1'.2)
   have bi:0≤(vAt vs i).bal :=hb _ (List.mem_of_getElem? (Z44 h1))
   have bj:0≤(vAt vs j).bal :=hb _ (List.mem_of_getElem? (Z44 h2))
   have c1:Core mb ep lx (vs.set i (mrgS (vAt vs i))) q lv :=by
    refine h.set hil (fun hq =>?_) ?_ (fun _ _ =>rfl) (fun hs =>?_) (fun hs =>?_) (h.wd _ h1)
    ·have :=(h.qs _ hq).2.1; omega
    ·simp only [mrgS]; omega
    ·simp only [mrgS] at hs; omega
    ·simp only [mrgS] at hs; omega
   have e2:vAt (vs.set i (mrgS (vAt vs i))) j=vAt vs j :=by rw [Z46 hil j (by omega),if_neg (by omega)]
   refine ⟨c1.set (by simpa using hjl) (fun hq =>?_) ?_ (fun _ _ =>?_) (fun hs =>?_) (fun hs =>?_) (h.wd _ h2), ?_, ?_⟩
   ·have :=(c1.qs _ hq).2.1; rw [e2] at this; omega
   ·rw [e2]; simp only [mrgD]
   ·rw [e2]; rfl
   ·simp only [mrgD]; omega
   ·simp only [mrgD] at hs; omega
   ·have s1 :=Z53 (vs.set i (mrgS (vAt vs i))) (i :=j) (v :=mrgD (vAt vs i) (vAt vs j)) (by simpa using hjl)
    have s2 :=Z53 vs (i :=i) (v :=mrgS (vAt vs i)) hil
    rw [e2] at s1
    simp only [mrgS,mrgD] at s1 s2 ⊢
    omega
   ·intro v hv
    rcases List.mem_or_eq_of_mem_set hv with hv | rfl
    ·rcases List.mem_or_eq_of_mem_set hv with hv | rfl
     ·exact hb v hv
     ·simp [mrgS]
    ·simp only [mrgD]; omega
 ·exact ⟨h,rfl,hb⟩
theorem Core.mrgs {mx:Int}:∀ (r:List (Int × Int)) {vs:List Vd},Core mb ep lx vs q lv→(∀ v∈vs,0≤v.bal)→Core mb ep lx (Z1k mx vs r) q lv∧totS (Z1k mx vs r)=totS vs :=by
 intro r
 induction r with
 | nil =>intro vs h _; exact ⟨h,rfl⟩
 | cons p r ih =>
  intro vs h hb
  obtain ⟨a1,a2,a3⟩ :=h.mrgOne (mx :=mx) hb p
  obtain ⟨b1,b2⟩ :=ih a1 a3
  exact ⟨b1,b2.trans a2⟩
end
def pmS:List Pm→Int
 | [] =>0
 | p :: l =>p.2.1+pmS l
theorem Z76:∀ (l r:List Pm),pmS (l ++ r)=pmS l+pmS r
 | [],r =>by simp [pmS]
 | p :: l,r =>by simp only [List.cons_append,pmS,Z76 l r]; omega
theorem Zcd:∀ l:List Pm,pmS (Z2p l)=pmS l
 | [] =>rfl
 | p :: l =>by
  have :=Zcd l
  unfold Z2p at this ⊢
  by_cases hp:p.2.1=0
  ·simp only [hp,decide_true,Bool.not_true,Bool.false_eq_true,not_false_eq_true,List.filter_cons_of_neg,pmS]; omega
  ·simp only [hp,decide_false,Bool.not_false,List.filter_cons_of_pos,pmS]; omega
theorem Zam:∀ (l:List Pm) (s:Led),(∀ p∈l,0≤p.2.1)→pmS l≤s.sup→Z3t s l = { s with p :=s.p+pmS l }
 | [],s,_,_ =>by simp [Z3t,pmS]
 | p :: l,s,h,hs =>by
  have h0 :=h p List.mem_cons_self
  have hl:0≤pmS l :=by
   clear hs h0
   induction l with
   | nil =>exact Int.le_refl _
   | cons x l ih =>have :=h x (by simp); have :=ih fun y hy =>h y (by simp only [List.mem_cons] at hy ⊢; rcases hy with hy | hy <;> simp [hy]); simp only [pmS]; omega
  simp only [pmS] at hs
  have e:s.pay p.2.1 = { s with p :=s.p+p.2.1 } := by
   rcases s.out_cases p.2.1 with ⟨h1,_⟩ | ⟨_,_,h2,_⟩
   ·omega
   ·exact h2
  have :=Zam l (s.pay p.2.1) (fun x hx =>h x (List.mem_cons_of_mem _ hx)) (by rw [e]; simp only [Led.sup] at hs ⊢; omega)
  unfold Z3t at this ⊢
  rw [List.foldl_cons,this,e]
  simp only [pmS]
  congr 1
  omega
theorem vmem {l:List Vd} {i:Int} (h:inR l i):vAt l i∈l :=List.mem_of_getElem? (Z44 h)
section
variable {mb ep lx:Int} {q lv:List Int}
theorem Core.partOne {s:List Vd × List Pm} (h:Core mb ep lx s.1 q lv) (hm:0≤mb) (hb:∀ v∈s.1,0≤v.bal) {r:Int × Int} (hr:0≤r.2) :
 Core mb ep lx (Z1i mb s r).1 q lv∧(∀ v∈(Z1i mb s r).1,0≤v.bal)∧totS (Z1i mb s r).1+pmS (Z1i mb s r).2=totS s.1+pmS s.2∧(Z1i mb s r).1.length=s.1.length∧(Z1i mb s r).2.length≤s.2.length+1 ∧
  ∀ j,((vAt (Z1i mb s r).1 j).st=5↔(vAt s.1 j).st=5) :=by
 unfold Z1i
 split
 ·rename_i hin
  obtain ⟨i,e,hi⟩ :=Z47 hin
  rw [e] at hin ⊢
  rw [Int.toNat_natCast]
  have b0 :=hb _ (vmem hin)
  generalize hv:vAt s.1 (i:Int)=v at b0
  have hav:0≤Z1t v mb∧(Z1t v mb=0∨(v.st=2∧Z1t v mb≤v.bal - mb))∧Z1t v mb≤v.bal :=by
   by_cases h2:v.st=2
   ·have :=(h.fr _ hin (by rw [hv]; exact .inr h2)).2
    rw [hv] at this
    unfold Z1t
    split
    ·split <;> omega
    ·omega
   ·unfold Z1t
    rw [if_neg (by simp [h2])]
    omega
  generalize hA:Z1t v mb=A at hav
  have hp:Z8z v r.2 mb = { v with bal :=v.bal - min r.2 A } := by unfold Z8z; rw [hA]
  rw [hp]
  refine ⟨h.set hi (fun hq =>?_) ?_ (fun _ _ =>by rw [hv]) (fun hs =>?_) (fun hs =>?_) ?_,fun x hx =>?_, ?_,by simp,by simp,fun j =>?_⟩
  ·have :=(h.qs _ hq).2; rw [hv] at this; exact this
  ·rw [hv]
  ·have :=h.fr _ hin (by rw [hv]; exact hs)
   rw [hv] at this
   dsimp only at hs ⊢
   refine ⟨this.1, ?_⟩
   omega
  ·have :=h.rp _ hin (by rw [hv]; exact hs); rw [hv] at this; exact this
  ·have :=h.wd _ hin; rw [hv] at this; exact this
  ·rcases List.mem_or_eq_of_mem_set hx with hx | rfl
   ·exact hb x hx
   ·dsimp only; omega
  ·have :=Z53 s.1 (i :=i) (v := { v with bal :=v.bal - min r.2 A }) hi
   rw [hv] at this
   dsimp only at this ⊢
   rw [Z76,this]
   simp only [pmS]
   omega
  ·by_cases hj:0≤j
   ·rw [Z46 hi j hj]
    split
    ·rename_i e; rw [e,hv]
    ·exact Iff.rfl
   ·have e1:∀ l:List Vd,vAt l j=vAt l 0 :=fun l =>by unfold vAt; rw [show j.toNat=0 from by omega]; rfl
    rw [e1,e1 s.1,Z46 hi 0 (Int.le_refl _)]
    split
    ·rename_i e; rw [e,hv]
    ·exact Iff.rfl
 ·exact ⟨h,hb,rfl,rfl,by omega,fun _ =>Iff.rfl⟩
theorem Core.parts (hm:0≤mb):∀ (r:List (Int × Int)) {s:List Vd × List Pm},Core mb ep lx s.1 q lv→(∀ v∈s.1,0≤v.bal)→(∀ x∈r,0≤x.2) →
 Core mb ep lx (r.foldl (Z1i mb) s).1 q lv∧(∀ v∈(r.foldl (Z1i mb) s).1,0≤v.bal)∧totS (r.foldl (Z1i mb) s).1+pmS (r.foldl (Z1i mb) s).2=totS s.1+pmS s.2∧(r.foldl (Z1i mb) s).1.length=s.1.length∧(r.foldl (Z1i mb) s).2.length≤s.2.length+r.length ∧
  ∀ j,((vAt (r.foldl (Z1i mb) s).1 j).st=5↔(vAt s.1 j).st=5) :=by
 intro r
 induction r with
 | nil =>intro s h hb _; exact ⟨h,hb,rfl,rfl,by simp,fun _ =>Iff.rfl⟩
 | cons x r ih =>
  intro s h hb hr
  obtain ⟨a1,a2,a3,a4,a5,a6⟩ :=h.partOne hm hb (hr x List.mem_cons_self)
  obtain ⟨b1,b2,b3,b4,b5,b6⟩ :=ih a1 a2 fun y hy =>hr y (List.mem_cons_of_mem _ hy)
  rw [List.foldl_cons]
  exact ⟨b1,b2,b3.trans a3,b4.trans a4,by rw [List.length_cons]; omega,fun j =>(b6 j).trans (a6 j)⟩
theorem Zcr (l:List Pm):(Z2p l).length≤l.length :=List.length_filter_le _ _
theorem Zdb {s:List Vd × List Pm} (hb:∀ v∈s.1,0≤v.bal) (hp:∀ p∈s.2,0≤p.2.1) {r:Int × Int} (hr:0≤r.2):∀ p∈(Z1i mb s r).2,0≤p.2.1 :=by
 unfold Z1i
 split
 ·rename_i hin
  intro p hp'
  rcases List.mem_append.1 hp' with h | h
  ·exact hp p h
  ·rw [List.mem_singleton] at h
   subst h
   have :=hb _ (vmem hin)
   dsimp only
   unfold Z1t
   split
   ·split <;> omega
   ·omega
 ·exact hp
theorem Zcg (hm:0≤mb):∀ (r:List (Int × Int)) {s:List Vd × List Pm},Core mb ep lx s.1 q lv→(∀ v∈s.1,0≤v.bal)→(∀ p∈s.2,0≤p.2.1)→(∀ x∈r,0≤x.2)→∀ p∈(r.foldl (Z1i mb) s).2,0≤p.2.1 :=by
 intro r
 induction r with
 | nil =>intro s _ _ hp _; exact hp
 | cons x r ih =>
  intro s h hb hp hr
  obtain ⟨a1,a2, -, -, -, -⟩ :=h.partOne hm hb (hr x List.mem_cons_self)
  exact ih a1 a2 (Zdb hb hp (hr x List.mem_cons_self)) fun y hy =>hr y (List.mem_cons_of_mem _ hy)
theorem Zna {v:Vd} (h5:v.st=5) (hw:v.wd≤ep):payF ep v=(0,{ v with st :=6,bal :=0 }) :=by
 unfold payF seq2 evC
 rw [Zlp,h5]
 have e:dueC ep { v with st :=6 }=(0,{ v with st :=6,bal :=0 }) :=if_neg (by dsimp only; omega)
 simp only [if_true,ne_eq,not_true_eq_false,if_false,Int.reduceEq,e]
theorem Core.pay {vs:List Vd} (h:Core mb ep lx vs q lv) {i:Nat} (hi:i<vs.length) (h5:(vAt vs i).st=5):Core mb ep lx (vs.set i { vAt vs i with st :=6,bal :=0 }) q lv :=by
 refine h.set hi (fun hq =>?_) ?_ (fun _ _ =>rfl) (fun hs =>?_) (fun hs =>?_) (h.wd _ (Z5v.2 hi))
 ·have :=(h.qs _ hq).2.1; omega
 ·dsimp only; omega
 ·dsimp only at hs; omega
 ·dsimp only at hs; omega
theorem pays {l:List Vd}:∀ (r:List Nat) {s:List Vd × List Pm},Core mb ep lx s.1 q lv→(∀ v∈s.1,0≤v.bal)→s.1.length=l.length→r.Nodup→(∀ i∈r,i<l.length∧(vAt l i).st=5)→(∀ i∈r,vAt s.1 i=vAt l i) →
 Core mb ep lx (r.foldl (pay1 ep l) s).1 q lv∧(∀ v∈(r.foldl (pay1 ep l) s).1,0≤v.bal)∧totS (r.foldl (pay1 ep l) s).1+pmS (r.foldl (pay1 ep l) s).2=totS s.1+pmS s.2∧(r.foldl (pay1 ep l) s).1.length=l.length∧(r.foldl (pay1 ep l) s).2.length=s.2.length+r.length ∧
  (∀ j:Nat,(vAt (r.foldl (pay1 ep l) s).1 j).st=5↔(vAt s.1 j).st=5∧j ∉ r)∧((∀ p∈s.2,0≤p.2.1)→∀ p∈(r.foldl (pay1 ep l) s).2,0≤p.2.1) :=by
 intro r
 induction r with
 | nil =>intro s h hb hl _ _ _; exact ⟨h,hb,rfl,hl,by simp,fun j =>by simp,fun h =>h⟩
 | cons i r ih =>
  intro s h hb hl hn hr hs
  obtain ⟨hi,h5⟩ :=hr i List.mem_cons_self
  have e :=hs i List.mem_cons_self
  have hi':i<s.1.length :=by rw [hl]; exact hi
  have hw :=h.rp _ (Z5v.2 hi') (by rw [e]; exact h5)
  have hb0 :=hb _ (vmem (Z5v.2 hi'))
  rw [e] at hw hb0
  have hf :=Zna h5 hw
  have hp1:pay1 ep l s i=(s.1.set i { vAt l i with st :=6,bal :=0 },s.2 ++ [((i:Int),(vAt l i).bal,true)]) :=by
   unfold pay1
   rw [hf]
   rfl
  have c1:Core mb ep lx (pay1 ep l s i).1 q lv :=by
   have :=h.pay hi' (by rw [e]; exact h5)
   rw [e] at this
   rw [hp1]
   exact this
  have hss:∀ j:Nat,vAt (pay1 ep l s i).1 j=if (j:Int)=i then { vAt l i with st :=6,bal :=0 } else vAt s.1 j :=fun j =>by rw [hp1]; exact Z46 hi' j (by omega)
  have hni :=List.nodup_cons.1 hn
  obtain ⟨b1,b2,b3,b4,b5,b6,b7⟩ :=ih (s :=pay1 ep l s i) c1 (fun v hv =>by
   rw [hp1] at hv
   rcases List.mem_or_eq_of_mem_set hv with hv | rfl
   ·exact hb v hv
   ·simp) (by rw [hp1]; simpa using hl) hni.2 (fun j hj =>hr j (List.mem_cons_of_mem _ hj)) (fun j hj =>by
    rw [hss,if_neg (fun e2:(j:Int)=i =>hni.1 (by rw [← Int.ofNat_inj.1 e2]; exact hj))]
    exact hs j (List.mem_cons_of_mem _ hj))
  rw [List.foldl_cons]
  refine ⟨b1,b2, ?_,b4, ?_,fun j =>?_,fun hp =>b7 ?_⟩
  ·rw [b3,hp1]
   have :=Z53 s.1 (i :=i) (v := { vAt l i with st :=6,bal :=0 }) hi'
   rw [e] at this
   dsimp only at this ⊢
   rw [this,Z76]
   simp only [pmS]
   omega
  ·rw [b5,hp1]; simp; omega
  ·rw [b6 j,hss]
   by_cases e2:(j:Int)=i
   ·have e3 :=Int.ofNat_inj.1 e2
    subst e3
    simp
   ·rw [if_neg e2]
    have:j≠i :=fun e3 =>e2 (by rw [e3])
    simp [this]
  ·rw [hp1]
   intro p hp'
   rcases List.mem_append.1 hp' with h' | h'
   ·exact hp p h'
   ·rw [List.mem_singleton] at h'
    subst h'
    exact hb0
end
theorem Zkp {n a i j:Nat} (hi:i<n) (hj:j<n) (h:posN n a i=posN n a j):i=j :=by
 unfold posN at h
 have e1:a+i=n * ((a+i) / n)+(a+i) % n :=(Nat.div_add_mod _ _).symm
 have e2:a+j=n * ((a+j) / n)+(a+j) % n :=(Nat.div_add_mod _ _).symm
 rw [h] at e1
 rcases Nat.lt_trichotomy ((a+i) / n) ((a+j) / n) with h1 | h1 | h1
 ·have:n * ((a+i) / n)+n≤n * ((a+j) / n) :=by
   have :=Nat.mul_le_mul_left n h1
   rwa [Nat.mul_succ] at this
  omega
 ·rw [h1] at e1; omega
 ·have:n * ((a+j) / n)+n≤n * ((a+i) / n) :=by
   have :=Nat.mul_le_mul_left n h1
   rwa [Nat.mul_succ] at this
  omega
theorem Zd9 (rdy:Nat→Bool) (n a:Nat) (v p:Int):(Z34 rdy n a v p).Nodup :=by
 unfold Z34 Z35
 apply List.Pairwise.filter
 have hk :=(Z4c rdy n a v p).1
 generalize Z1o rdy n a v p=k at hk
 clear rdy v p
 induction k with
 | zero =>simp
 | succ k ih =>
  rw [List.range_succ,List.map_append,List.pairwise_append]
  refine ⟨ih (by omega),by simp,fun x hx y hy =>?_⟩
  obtain ⟨i,hi,rfl⟩ :=List.mem_map.1 hx
  simp only [List.map_cons,List.map_nil,List.mem_singleton] at hy
  subst hy
  rw [List.mem_range] at hi
  exact fun e =>by have :=Zkp (by omega) (by omega) e; omega
theorem Zae (rdy:Nat→Bool) (n a:Nat) (v p:Int) (i:Nat):i∈Z34 rdy n a v p↔rdy i=true∧∃ j,j<Z1o rdy n a v p∧posN n a j=i :=by
 unfold Z34 Z35
 rw [List.mem_filter,List.mem_map]
 constructor
 ·rintro ⟨⟨j,hj,e⟩,h⟩; exact ⟨h,j,by simpa using hj,e⟩
 ·rintro ⟨h,j,hj,e⟩; exact ⟨⟨j,by simpa using hj,e⟩,h⟩
structure Inv (c:Nat→Int) (E:En) (n:Nat):Prop where
 b0:0≤E.b
 b1:E.b≤n
 lc:E.led.c=c 4
 lok:E.led.ok
 sum:totS E.vs=E.led.sup
 nn:∀ v∈E.vs,0≤v.bal
 len:(E.vs.length:Int)≤c 0
 core:Core (c 5) (E.b / c 13) (E.b / c 13+1) E.vs (E.fo ++ E.vo) E.lv
 bk:∃ M,Bk (c 12).toNat E.vs.length M E.bk∧M+(E.fo ++ E.vo).length≤n
 car:0≤E.car
 cur:E.cur=0∨E.cur<E.vs.length
 pe:∀ i∈E.pe,inR E.vs i
 pr:∀ r∈E.pr,0≤r.2
 lvn:E.lv.length≤n
theorem Zld {l l':List Vd} (h:l.length≤l'.length) {i:Int} (hi:inR l i):inR l' i :=⟨hi.1,by have :=hi.2; omega⟩
theorem Inv.keep {c:Nat→Int} {E:En} {n:Nat} (h:Inv c E n):Inv c E (n+1) :=by
 obtain ⟨M,h1,h2⟩ :=h.bk
 exact ⟨h.b0,by have :=h.b1; omega,h.lc,h.lok,h.sum,h.nn,h.len,h.core,⟨M,h1,by omega⟩,h.car,h.cur,h.pe,h.pr,by have :=h.lvn; omega⟩
theorem Zjy {l:List Vd} {v:Vd} {i:Int} (hi:0≤i):vAt (l ++ [v]) i=if i=l.length then v else vAt l i :=by
 obtain ⟨k,rfl⟩ :=Int.eq_ofNat_of_zero_le hi
 unfold vAt
 rw [Int.toNat_natCast]
 by_cases e:k=l.length
 ·subst e; simp [List.getD]
 ·rw [if_neg (by omega)]
  rcases Nat.lt_or_gt_of_ne e with h | h
  ·simp only [List.getD,List.getElem?_append_left h]
  ·simp only [List.getD]
   rw [List.getElem?_eq_none (by simp; omega),List.getElem?_eq_none (by omega)]
theorem Core.add {mb ep lx:Int} {vs:List Vd} {q lv:List Int} (h:Core mb ep lx vs q lv) {am:Int} (ha:mb≤am):Core mb ep lx (vs ++ [newV am]) q lv :=by
 have hl:(vs ++ [newV am]).length=vs.length+1 :=by simp
 have hr:∀ j,inR (vs ++ [newV am]) j↔inR vs j∨j=vs.length :=fun j =>by unfold inR; rw [hl]; omega
 have ha1:∀ j,inR vs j→vAt (vs ++ [newV am]) j=vAt vs j :=fun j hj =>by rw [Zjy hj.1,if_neg (by have :=hj.2; omega)]
 have ha2:vAt (vs ++ [newV am]) vs.length=newV am :=by rw [Zjy (by omega),if_pos rfl]
 refine ⟨fun j hj =>?_,h.qn,fun j =>?_,fun j hj =>?_,h.lvn,fun j hj =>?_,fun j hj =>?_,fun j hj =>?_⟩
 ·obtain ⟨a,b⟩ :=h.qs j hj
  exact ⟨(hr j).2 (.inl a),by rw [ha1 j a]; exact b⟩
 ·rw [h.lvs j,hr j]
  constructor
  ·rintro ⟨a,b⟩
   exact ⟨.inl a,by rw [ha1 j a]; exact b⟩
  ·rintro ⟨a | rfl,b⟩
   ·rw [ha1 j a] at b; exact ⟨a,b⟩
   ·rw [ha2] at b; exact absurd b.1 (by simp [newV])
 ·obtain ⟨a, -, -⟩ :=(h.lvs j).1 hj
  rw [ha1 j a]; exact h.lve j hj
 ·rcases (hr j).1 hj with a | rfl
  ·rw [ha1 j a]; exact h.fr j a
  ·rw [ha2]; exact fun _ =>⟨rfl,ha⟩
 ·rcases (hr j).1 hj with a | rfl
  ·rw [ha1 j a]; exact h.rp j a
  ·rw [ha2]; exact fun hs =>absurd hs (by simp [newV])
 ·rcases (hr j).1 hj with a | rfl
  ·rw [ha1 j a]; exact h.wd j a
  ·rw [ha2]; simp [newV]
theorem Zfh:∀ (l r:List Vd),totS (l ++ r)=totS l+totS r
 | [],r =>by simp [totS]
 | v :: l,r =>by simp only [List.cons_append,totS,Zfh l r]; omega
theorem Inv.dep {c:Nat→Int} (hV:Vld c) {E:En} {n:Nat} (h:Inv c E n) {am:Int} (h0:0≤am):Inv c (Z73 c E am) (n+1) :=by
 unfold Z73
 split
 ·rename_i hc
  unfold Z3b at hc
  split at hc
  ·omega
  ·rename_i a1
   split at hc
   ·omega
   ·rename_i a2
    split at hc
    ·omega
    ·have h5 :=hV.c5
     obtain ⟨M,h1,h2⟩ :=h.bk
     have hl:(E.vs ++ [newV am]).length=E.vs.length+1 :=by simp
     have hd:E.led.dep am = { E.led with d :=E.led.d+am } := by unfold Led.dep; rw [if_pos hc]
     have hs :=h.sum
     refine ⟨h.b0,by have :=h.b1; simp only; omega,by rw [hd]; exact h.lc,Led.dep_ok h.lok h0, ?_,fun v hv =>?_,by rw [hl]; omega,h.core.add (by omega),⟨M,h1.mono (by rw [hl]; omega) (Nat.le_refl _),by simp only; omega⟩,h.car, ?_,fun i hi =>?_,h.pr,by have :=h.lvn; simp only; omega⟩
     ·rw [hd,Zfh,hs]
      simp only [totS,newV,Led.sup]
      omega
     ·rcases List.mem_append.1 hv with hv | hv
      ·exact h.nn v hv
      ·rw [List.mem_singleton] at hv; subst hv; exact h0
     ·have :=h.cur; simp only [hl]; omega
     ·rcases List.mem_append.1 hi with hi | hi
      ·exact Zld (by rw [hl]; omega) (h.pe i hi)
      ·rw [List.mem_singleton] at hi; subst hi; exact ⟨by omega,by rw [hl]; omega⟩
 ·exact h.keep
theorem Zhf {v:Vd} {ep:Int} (h:(Z2n ep v).1=0):v.st=2∧(Z2n ep v).2 = { v with rq :=ep,st :=3 } := by
 unfold Z2n seq2 at h ⊢
 split
 ·rename_i h1; rw [if_pos h1] at h; exact absurd h h1
 ·rename_i h1
  rw [if_neg h1] at h
  have hq:(reqC ep v).2 = { v with rq :=ep } := by
   unfold reqC at h1 ⊢
   split
   ·rename_i e; rw [e] at h1; simp at h1
   ·rfl
  rw [hq] at h ⊢
  split
  ·rename_i h2; rw [if_pos h2] at h; exact absurd h h2
  ·rename_i h2
   unfold evC at h2 ⊢
   rw [Zkm] at h2 ⊢
   dsimp only at h2 ⊢
   by_cases e:v.st=2
   ·rw [if_pos e] at h2 ⊢
    exact ⟨e,by simp⟩
   ·rw [if_neg e] at h2
    simp at h2
theorem Zj4 (k i:Int) (fo vo:List Int):((Z74 k fo vo i).1 ++ (Z74 k fo vo i).2).Perm (i :: (fo ++ vo)) :=by
 unfold Z74
 split
 ·rw [List.append_assoc]; exact List.perm_middle
 ·rw [← List.append_assoc]; exact List.perm_append_singleton i (fo ++ vo)
theorem Inv.leave {c:Nat→Int} {E:En} {n:Nat} (h:Inv c E n) (k i:Int):Inv c (Z18 c E k i) (n+1) :=by
 unfold Z18
 cases hv:(Z5k c E k i).2.2 with
 | none =>exact h.keep
 | some v =>
  dsimp only
  have hk:inR E.vs i∧(vAt E.vs i).st=2∧∃ d,v = { vAt E.vs i with rq :=E.b / c 13,st :=3,dl :=d } := by
   unfold Z5k at hv
   generalize (if k=0 then E.fo else E.vo).length=LL at hv
   generalize sumL (wgts (E.vs.map (·.bal)) (if k=0 then E.fo else E.fo ++ E.vo))=SS at hv
   split at hv
   ·cases hv
   ·rename_i h1
    split at hv
    ·cases hv
    ·rename_i h2
     split at hv
     ·cases hv
     ·split at hv
      ·cases hv
      ·obtain ⟨a,b⟩ :=Zhf (Decidable.not_not.1 h2)
       rw [b] at hv
       unfold Zls at hv
       split at hv
       ·cases hv
       ·rename_i d _
        injection hv with hv
        exact ⟨Decidable.not_not.1 h1,a,d,hv.symm⟩
  obtain ⟨hin,h2,d,hv2⟩ :=hk
  obtain ⟨j,e,hj⟩ :=Z47 hin
  have hvx:v.st=3∧v.ex=(vAt E.vs i).ex∧v.bal=(vAt E.vs i).bal∧v.wd=(vAt E.vs i).wd :=by rw [hv2]; exact ⟨rfl,rfl,rfl,rfl⟩
  clear hv hv2
  obtain ⟨hx,hb⟩ :=h.core.fr i hin (.inr h2)
  have hnq:i ∉ E.fo ++ E.vo :=fun hq =>by have :=(h.core.qs i hq).2.1; omega
  obtain ⟨M,hM1,hM2⟩ :=h.bk
  have hp :=Zj4 k i E.fo E.vo
  have hl:(E.vs.set i.toNat v).length=E.vs.length :=by simp
  have hset:Core (c 5) (E.b / c 13) (E.b / c 13+1) (E.vs.set i.toNat v) (E.fo ++ E.vo) E.lv :=by
   rw [e,Int.toNat_natCast]
   rw [e] at hvx h2 hx hnq hin
   exact h.core.set hj (fun hq =>absurd hq hnq) (by omega) (by omega) (by omega) (by omega) (by have :=h.core.wd _ hin; omega)
  have hat:vAt (E.vs.set i.toNat v) i=v :=by rw [e,Int.toNat_natCast,Z46 hj _ (by omega),if_pos rfl]
  have hlen:((Z74 k E.fo E.vo i).1 ++ (Z74 k E.fo E.vo i).2).length=(E.fo ++ E.vo).length+1 :=by rw [hp.length_eq]; rfl
  refine ⟨h.b0,by have :=h.b1; simp only; omega,h.lc,h.lok, ?_,fun x hx' =>?_,by rw [hl]; exact h.len,hset.push (by rw [Z2t hl]; exact hin) (by rw [hat]; omega) (by rw [hat]; omega) hnq hp,⟨M,by rw [hl]; exact hM1,by simp only [hlen]; omega⟩,h.car,by rw [hl]; exact h.cur,fun x hx' =>by rw [Z2t hl]; exact h.pe x hx',h.pr,by have :=h.lvn; simp only; omega⟩
  ·have hs :=h.sum
   have :=Z53 E.vs (i :=j) (v :=v) hj
   show totS (E.vs.set i.toNat v)=E.led.sup
   rw [e,Int.toNat_natCast]
   rw [e] at hvx
   omega
  ·rcases List.mem_or_eq_of_mem_set hx' with hx' | rfl
   ·exact h.nn x hx'
   ·have :=h.nn _ (vmem hin); omega
theorem Zif {v:Vd} {ep:Int} {c:Nat→Int} (h:(Z1y ep c v).1=0):Z0j v.st 7≠0∧∃ x,Z1z [ep,c 11] 0=some x∧(Z1y ep c v).2.st=Z0j v.st 7∧(Z1y ep c v).2.ex=v.ex∧(Z1y ep c v).2.wd=max v.wd x∧(Z1y ep c v).2.bal=v.bal - pnl v.bal (c 18) (c 19) :=by
 unfold Z1y at h ⊢
 simp only [seqN] at h ⊢
 have m1:(Z2a ep v).2.bal=v.bal∧(Z2a ep v).2.st=v.st∧(Z2a ep v).2.wd=v.wd∧(Z2a ep v).2.ex=v.ex :=by
  unfold Z2a
  split <;> exact ⟨rfl,rfl,rfl,rfl⟩
 generalize Z2a ep v=A at h m1 ⊢
 by_cases hA:A.1=0
 ·rw [if_neg (by simp [hA])] at h ⊢
  have m2:(evC 7 A.2).1=0→Z0j v.st 7≠0∧(evC 7 A.2).2.st=Z0j v.st 7∧(evC 7 A.2).2.ex=v.ex∧(evC 7 A.2).2.wd=v.wd∧(evC 7 A.2).2.bal=v.bal :=by
   unfold evC
   rw [m1.2.1]
   split
   ·intro h; cases h
   ·rename_i hn; intro _; exact ⟨hn,rfl,m1.2.2.2,m1.2.2.1,m1.1⟩
  generalize evC 7 A.2=B at h m2 ⊢
  by_cases hB:B.1=0
  ·rw [if_neg (by simp [hB])] at h ⊢
   obtain ⟨n0,n1,n2,n3,n4⟩ :=m2 hB
   have m3:(Z1b ep (c 11) B.2).1=0→∃ x,Z1z [ep,c 11] 0=some x∧(Z1b ep (c 11) B.2).2 = { B.2 with wd :=max B.2.wd x } := by
    unfold Z1b
    split
    ·intro h; cases h
    ·rename_i x hx; intro _; exact ⟨x,hx,rfl⟩
   generalize Z1b ep (c 11) B.2=D at h m3 ⊢
   by_cases hD:D.1=0
   ·rw [if_neg (by simp [hD])] at h ⊢
    obtain ⟨x,hx,e⟩ :=m3 hD
    rw [if_neg (by simp [Z72])]
    refine ⟨n0,x,hx, ?_⟩
    simp only [Z72,e,n1,n2,n3,n4,and_self]
   ·rw [if_pos hD] at h; exact absurd h hD
  ·rw [if_pos hB] at h; exact absurd h hB
 ·rw [if_pos hA] at h; exact absurd h hA
theorem Zks (s:Int):(s=2∧Z0j s 7=3)∨(s=3∧Z0j s 7=3)∨(s=4∧Z0j s 7=4)∨(s=5∧Z0j s 7=4)∨Z0j s 7=0 :=by
 unfold Z0j
 simp only [if_true]
 repeat' split
 all_goals omega
theorem Zhx {a b x:Int} (h:Z1z [a,b] 0=some x):0≤x∧x≤1099511627776 :=by
 simp only [Z1z] at h
 split at h
 ·cases h
 ·split at h
  ·cases h
  ·injection h with h; omega
theorem Inv.slash {c:Nat→Int} (hV:Vld c) (h18:0≤c 18) {E:En} {n:Nat} (h:Inv c E n) (i:Int):Inv c (Z1e c E i) (n+1) :=by
 unfold Z1e
 split
 ·rename_i h0
  have hk:inR E.vs i∧(Z1y (E.b / c 13) c (vAt E.vs i)).1=0 :=by
   unfold Z40 at h0
   split at h0
   ·omega
   ·rename_i h1
    split at h0
    ·omega
    ·split at h0
     ·omega
     ·exact ⟨Decidable.not_not.1 h1,h0⟩
  obtain ⟨hin,hf⟩ :=hk
  obtain ⟨k,rfl,hi⟩ :=Z47 hin
  obtain ⟨s1,x,hx,s2,s3,s4,s5⟩ :=Zif hf
  have hbF:Z9q (E.b / c 13) c (vAt E.vs k)=pnl (vAt E.vs k).bal (c 18) (c 19) :=if_pos hf
  have hb0 :=h.nn _ (vmem hin)
  obtain ⟨p0,p1⟩ :=Z8x hb0 h18 hV.c18 hV.c19.1
  have hxr :=Zhx hx
  generalize hP:pnl (vAt E.vs k).bal (c 18) (c 19)=P at *
  unfold Z3f
  rw [hbF]
  dsimp only
  generalize (Z1y (E.b / c 13) c (vAt E.vs k)).2=v at *
  have hwd :=h.core.wd _ hin
  have hfr :=h.core.fr _ hin
  have hss :=Zks (vAt E.vs k).st
  have hl:(E.vs.set (k:Int).toNat v).length=E.vs.length :=by simp
  have hat:vAt (E.vs.set (k:Int).toNat v) k=v :=by rw [Int.toNat_natCast,Z46 hi _ (by omega),if_pos rfl]
  have hset:Core (c 5) (E.b / c 13) (E.b / c 13+1) (E.vs.set (k:Int).toNat v) (E.fo ++ E.vo) E.lv :=by
   have hqs :=h.core.qs k
   rw [Int.toNat_natCast]
   exact h.core.set hi (fun hq =>by have :=hqs hq; omega) (by omega) (by omega) (by omega) (by omega) (by omega)
  have hsum :=h.sum
  have hle:P≤totS E.vs :=by
   obtain ⟨z,hz⟩:∃ z:Vd,z.bal=0 :=⟨⟨0,0,false,0,0,0,0⟩,rfl⟩
   have h1 :=Z53 E.vs (i :=k) (v :=z) hi
   have h2:0≤totS (E.vs.set k z) :=by
    have:∀ l:List Vd,(∀ v∈l,0≤v.bal)→0≤totS l :=by
     intro l
     induction l with
     | nil =>intro _; exact Int.le_refl _
     | cons y l ih =>intro hl; have :=hl y (by simp); have :=ih fun z hz =>hl z (by simp [hz]); simp only [totS]; omega
    refine this _ fun y hy =>?_
    rcases List.mem_or_eq_of_mem_set hy with hy | rfl
    ·exact h.nn y hy
    ·omega
   omega
  have hbn:E.led.burn P = { E.led with b :=E.led.b+P } := by
   rcases E.led.out_cases P with ⟨h1,_⟩ | ⟨_,_,_,h2⟩
   ·omega
   ·exact h2
  have hlok:(E.led.burn P).ok :=Led.burn_ok h.lok p0
  have hts:totS (E.vs.set (k:Int).toNat v)=(E.led.burn P).sup :=by
   have :=Z53 E.vs (i :=k) (v :=v) hi
   rw [Int.toNat_natCast,hbn]
   simp only [Led.sup] at hsum ⊢
   omega
  have hnn:∀ y∈E.vs.set (k:Int).toNat v,0≤y.bal :=fun y hy =>by
   rcases List.mem_or_eq_of_mem_set hy with hy | rfl
   ·exact h.nn y hy
   ·omega
  have hlc:(E.led.burn P).c=c 4 :=by rw [hbn]; exact h.lc
  obtain ⟨M,hM1,hM2⟩ :=h.bk
  have hlen:((E.vs.set (k:Int).toNat v).length:Int)≤c 0 :=by rw [hl]; exact h.len
  have hcur:E.cur=0∨E.cur<(E.vs.set (k:Int).toNat v).length :=by rw [hl]; exact h.cur
  have hpe:∀ y∈E.pe,inR (E.vs.set (k:Int).toNat v) y :=fun y hy =>by rw [Z2t hl]; exact h.pe y hy
  split
  ·rename_i h2
   have hnq:(k:Int) ∉ E.fo ++ E.vo :=fun hq =>by have :=(h.core.qs _ hq).2.1; omega
   have hp:((E.fo ++ [(k:Int)]) ++ E.vo).Perm ((k:Int) :: (E.fo ++ E.vo)) :=by rw [List.append_assoc]; exact List.perm_middle
   refine ⟨h.b0,by have :=h.b1; simp only; omega,hlc,hlok,hts,hnn,hlen,hset.push (by rw [Z2t hl]; exact hin) (by rw [hat]; omega) (by rw [hat]; omega) hnq hp,⟨M,by simp only [hl]; exact hM1, ?_⟩,h.car,hcur,hpe,h.pr,by have :=h.lvn; simp only; omega⟩
   rw [hp.length_eq,List.length_cons]
   omega
  ·split
   ·have hL:1≤(c 12).toNat :=by have :=hV.c12; omega
    exact ⟨h.b0,by have :=h.b1; simp only; omega,hlc,hlok,hts,hnn,hlen,hset,⟨M+1,by simp only [hl]; exact hM1.put hL _ hin.1 hin.2,by simp only; omega⟩,h.car,hcur,hpe,h.pr,by have :=h.lvn; simp only; omega⟩
   ·exact ⟨h.b0,by have :=h.b1; simp only; omega,hlc,hlok,hts,hnn,hlen,hset,⟨M,by simp only [hl]; exact hM1,by simp only; omega⟩,h.car,hcur,hpe,h.pr,by have :=h.lvn; simp only; omega⟩
 ·exact h.keep
theorem Inv.cons {c:Nat→Int} {E:En} {n:Nat} (h:Inv c E n) (i t:Int):Inv c (Z4p c E i t) (n+1) :=by
 unfold Z4p
 have h :=h.keep
 split
 ·exact ⟨h.b0,h.b1,h.lc,h.lok,h.sum,h.nn,h.len,h.core,h.bk,h.car,h.cur,h.pe,h.pr,h.lvn⟩
 ·exact h
theorem Inv.part {c:Nat→Int} {E:En} {n:Nat} (h:Inv c E n) (i:Int) {a:Int} (ha:0≤a):Inv c (Z4q c E i a) (n+1) :=by
 unfold Z4q
 have h :=h.keep
 split
 ·refine ⟨h.b0,h.b1,h.lc,h.lok,h.sum,h.nn,h.len,h.core,h.bk,h.car,h.cur,h.pe,fun r hr =>?_,h.lvn⟩
  rcases List.mem_append.1 hr with hr | hr
  ·exact h.pr r hr
  ·rw [List.mem_singleton] at hr; subst hr; exact ha
 ·exact h
def actN (lim:Int):Bool→Int→List Int→Nat
 | _,_,[] =>0
 | f,s,x :: r =>if f=false∧lim<s+x then 0 else actN lim false (s+x) r+1
def actW (E:En):List Int :=E.pe.map (wgt (E.vs.map (·.bal)))
def actK (E:En) (lim:Int):Nat :=actN lim true 0 (actW E)
def enLv (E:En):En := { E with vs :=E.lv.foldl (fun l i =>evL l i.toNat 3) E.vs,lv := [] }
def Zq0 (c:Nat→Int) (E:En):En := { E with vs :=(Z8k (c 12).toNat (E.b / c 13) E.vs E.bk).1,bk :=(Z8k (c 12).toNat (E.b / c 13) E.vs E.bk).2 }
def Z2i (c:Nat→Int) (E:En):Int :=max (c 7) (actS E.vs / c 8)
def Zbs (E:En) (lim:Int):En := { E with vs :=(E.pe.take (actK E lim)).foldl (fun l i =>evL l i.toNat 1) E.vs,pe :=E.pe.drop (actK E lim) }
def Zoq (c:Nat→Int) (E:En):En := { E with vs :=Z1k (c 6) E.vs (E.mg.take (c 17).toNat),mg :=E.mg.drop (c 17).toNat }
def Z19 (c:Nat→Int) (E:En):En :=Zq0 c (enLv E)
def Z9r (c:Nat→Int) (E:En):En :=Zoq c (Zbs (Z23 c (Z19 c E) (E.b / c 13) (Z2i c (Z19 c E))) (Z2i c (Z19 c E)))
def Z65 (c:Nat→Int) (E:En):List As :=Z42 (Z19 c E) (E.b / c 13) (Z2i c (Z19 c E))
def enUp (E:En):En := { E with b :=E.b+1 }
def Z4s (c:Nat→Int) (E:En):En :=if (E.b+1) % c 13=0 then Z9r c (enUp E) else enUp E
def Zbw (c:Nat→Int) (E:En):List As :=if (E.b+1) % c 13=0 then Z65 c (enUp E) else []
def Zan (c:Nat→Int) (E:En):En :=Z9v c (Z4s c E)
theorem Zj5 (lim:Int):∀ (l:List Int) (f:Bool) (s:Int),actN lim f s l≤l.length
 | [],_,_ =>Nat.le_refl _
 | x :: r,f,s =>by
  have :=Zj5 lim r false (s+x)
  simp only [actN]
  split
  ·omega
  ·simp; omega
theorem Zm8 {b k:Int} (hk:1≤k):((b+1) % k=0→(b+1) / k=b / k+1)∧((b+1) % k≠0→(b+1) / k=b / k) :=by
 have e1 :=Int.mul_ediv_add_emod b k
 have e2 :=Int.mul_ediv_add_emod (b+1) k
 have m1 :=Int.emod_nonneg b (show k≠0 by omega)
 have m2 :=Int.emod_lt_of_pos b (show 0<k by omega)
 have m3 :=Int.emod_nonneg (b+1) (show k≠0 by omega)
 have m4 :=Int.emod_lt_of_pos (b+1) (show 0<k by omega)
 generalize b / k=x at *
 generalize (b+1) / k=y at *
 have hx:y≤x∨y=x+1∨x+2≤y :=by omega
 have hm:∀ u v:Int,u+1≤v→k * u+k≤k * v :=fun u v h =>by
  have :=Int.mul_le_mul_of_nonneg_left h (show 0≤k by omega)
  rw [Int.mul_add,Int.mul_one] at this
  exact this
 refine ⟨fun h =>?_,fun h =>?_⟩
 ·rcases hx with h1 | h1 | h1
  ·by_cases e:y=x
   ·subst e; omega
   ·have :=hm y x (by omega); omega
  ·exact h1
  ·have :=hm x (y - 1) (by omega); have :=hm (y - 1) y (by omega); omega
 ·rcases hx with h1 | h1 | h1
  ·by_cases e:y=x
   ·exact e
   ·have :=hm y x (by omega); omega
  ·subst h1; have :=hm x (x+1) (by omega); omega
  ·have :=hm x (y - 1) (by omega); have :=hm (y - 1) y (by omega); omega
theorem Z3n:∀ l:List Vd,(∀ v∈l,0≤v.bal)→0≤actS l∧actS l≤totS l
 | [],_ =>⟨Int.le_refl _,Int.le_refl _⟩
 | v :: l,h =>by
  have h0 :=h v List.mem_cons_self
  have :=Z3n l fun x hx =>h x (List.mem_cons_of_mem _ hx)
  simp only [actS,totS]
  split <;> omega
theorem Zap (E:En) (lim:Int):Z29 E lim≤(E.fo ++ E.vo).length :=by
 have:∀ (ws:List Int) (car:Int),asgN ws car≤ws.length :=by
  intro ws
  induction ws with
  | nil =>intro car; exact Nat.le_refl _
  | cons x ws ih =>intro car; simp only [asgN]; split <;> simp [ih]
 have h :=this (asgW (E.vs.map (·.bal)) E.fo E.vo) (min (E.car+lim) maxU)
 unfold Z29
 unfold asgW at h ⊢
 rw [List.length_map] at h
 exact h
theorem Zf5:∀ (ws:List Int) (car:Int),0≤car→(∀ x∈ws,0≤x)→sumT ws (asgN ws car)≤car∧(∀ hk:asgN ws car<ws.length,car - sumT ws (asgN ws car)<ws[asgN ws car])
 | [],car,h,_ =>⟨by simpa [asgN,sumT] using h,fun hk =>by simp at hk⟩
 | x :: ws,car,h,hx =>by
  have hx0 :=hx x List.mem_cons_self
  by_cases e:x≤car
  ·obtain ⟨h1,h2⟩ :=Zf5 ws (car - x) (by omega) fun y hy =>hx y (List.mem_cons_of_mem _ hy)
   have ea:asgN (x :: ws) car=asgN ws (car - x)+1 :=by simp only [asgN,if_pos e]
   have es:sumT (x :: ws) (asgN ws (car - x)+1)=x+sumT ws (asgN ws (car - x)) :=by simp [sumT]
   simp only [ea,es,List.getElem_cons_succ,List.length_cons]
   refine ⟨by omega,fun hk =>?_⟩
   have :=h2 (by omega)
   omega
  ·have ea:asgN (x :: ws) car=0 :=by simp only [asgN,if_neg e]
   simp only [ea]
   refine ⟨by simpa [sumT] using h,fun _ =>?_⟩
   have:sumT (x :: ws) 0=0 :=by simp [sumT]
   simp only [this,List.getElem_cons_zero]
   omega
structure Bnd1 (c:Nat→Int) (E:En) (n:Nat) (E1:En):Prop where
 core:Core (c 5) (E.b / c 13) (E.b / c 13+1) E1.vs (E.fo ++ E.vo) []
 bk:∃ M,Bk (c 12).toNat E.vs.length M E1.bk∧M+(E.fo ++ E.vo).length≤n
 len:E1.vs.length=E.vs.length
 bal:Z26 E1.vs=Z26 E.vs
 act:actS E1.vs=actS (E.lv.foldl (fun l i =>evL l i.toNat 3) E.vs)
theorem Inv.bnd1 {c:Nat→Int} (hV:Vld c) {E:En} {n:Nat} (h:Inv c E n) (hm:(E.b+1) % c 13=0):Bnd1 c (enUp E) n (Z19 c (enUp E)) :=by
 have hL:1≤(c 12).toNat :=by have :=hV.c12; omega
 have he :=(Zm8 hV.c13.1).1 hm
 obtain ⟨M,h1,h2⟩ :=h.bk
 obtain ⟨e1,e2⟩ :=Z43 3 E.lv E.vs
 have hc :=(h.core.leaves.ep' (x :=(E.b+1) / c 13) (by omega)).lx' ((E.b+1) / c 13+1)
 obtain ⟨r1,r2,r3,r4,r5⟩ :=Zgj (L :=(c 12).toNat) (bk :=E.bk) (M :=M) hL hc (by rw [e2]; exact h1)
 rw [e2] at r2
 exact ⟨r1,⟨M,r2,h2⟩,r3.trans e2,r4.trans e1,r5⟩
theorem Zhc {l:List Int} (h:∀ x∈l,0≤x) (i:Int):0≤wgt l i :=by
 unfold wgt
 split
 ·exact Int.le_refl _
 ·rename_i hn
  rw [List.getD,List.getElem?_eq_getElem (show i.toNat<l.length by omega)]
  exact h _ (List.getElem_mem _)
theorem Inv.bnd {c:Nat→Int} (hV:Vld c) {E:En} {n:Nat} (h:Inv c E n) (hm:(E.b+1) % c 13=0) (hn:n≤100000):Inv c (Z9r c (enUp E)) (n+1) :=by
 have hL:1≤(c 12).toNat :=by have :=hV.c12; omega
 have B :=h.bnd1 hV hm
 obtain ⟨M,h1,h2⟩ :=B.bk
 have hep:0≤(E.b+1) / c 13 :=Int.ediv_nonneg (by have :=h.b0; omega) (by have :=hV.c13; omega)
 have hep1:(E.b+1) / c 13≤1000000 :=by
  have :=Int.ediv_le_self (c 13) (a :=E.b+1) (by have :=h.b0; omega)
  have :=h.b1
  omega
 have hb:(enUp E).b=E.b+1 :=rfl
 obtain ⟨S,hS⟩:∃ S,S=Z19 c (enUp E) :=⟨_,rfl⟩
 have hSf:S.fo=E.fo∧S.vo=E.vo∧S.car=E.car∧S.lv = []∧S.pe=E.pe∧S.b=E.b+1∧S.led=E.led∧S.cur=E.cur∧S.pr=E.pr∧S.mg=E.mg :=by rw [hS]; exact ⟨rfl,rfl,rfl,rfl,rfl,rfl,rfl,rfl,rfl,rfl⟩
 obtain ⟨f1,f2,f3,f4,f5,f6,f7,f8,f9,f10⟩ :=hSf
 unfold Z9r
 rw [← hS] at B h1 ⊢
 obtain ⟨bc, -,bl,bb, -⟩ :=B
 rw [hb] at bc ⊢
 have bl:S.vs.length=E.vs.length :=bl
 have bb:Z26 S.vs=Z26 E.vs :=bb
 have h1:Bk (c 12).toNat E.vs.length M S.bk :=h1
 have h2:M+(E.fo ++ E.vo).length≤n :=h2
 have bc:Core (c 5) ((E.b+1) / c 13) ((E.b+1) / c 13+1) S.vs (E.fo ++ E.vo) [] :=bc
 have hnnS:∀ x∈Z26 S.vs,0≤x :=by
  rw [bb]
  intro x hx
  obtain ⟨v,hv,rfl⟩ :=List.mem_map.1 hx
  exact h.nn v hv
 have hact0:0≤actS S.vs :=(Z3n S.vs fun v hv =>hnnS _ (List.mem_map.2 ⟨v,hv,rfl⟩)).1
 generalize hlim:Z2i c S=lim
 have hlim0:0≤lim :=by rw [← hlim]; unfold Z2i; have :=hV.c7; omega
 generalize hepE:(E.b+1) / c 13=ep at *
 have hK :=Zap S lim
 rw [f1,f2] at hK
 generalize hKK:Z29 S lim=K at hK
 have hfst :=Z7d E.fo E.vo ep K hK
 have hlen:(Z1p E.fo E.vo ep K).length=K :=by unfold Z1p; simp
 have hcore0:Core (c 5) ep (ep+1) S.vs ((Z1p E.fo E.vo ep K).map (·.1) ++ (E.fo ++ E.vo).drop K) [] :=by
  rw [hfst,List.take_append_drop]; exact bc
 obtain ⟨a1,a2,a3,a4,a5⟩ :=asgs (L :=(c 12).toNat) (un :=c 10) hL hep hep1 (by have :=hV.c10; omega) (by have :=hV.c10; omega) (Z1p E.fo E.vo ep K) ((E.fo ++ E.vo).drop K) (s :=(S.vs,S.bk,S.lv)) (M :=M) (by rw [f4]; exact hcore0) (by rw [bl]; exact h1) (Zcb _ _ _ _)
 have hA:Z23 c S ep lim = { S with fo :=E.fo.drop K,vo :=E.vo.drop (K - E.fo.length),car :=if K=(E.fo ++ E.vo).length then 0 else min (E.car+lim) maxU - sumT (asgW (S.vs.map (·.bal)) E.fo E.vo) K,vs :=((Z1p E.fo E.vo ep K).foldl (asg1 (c 12).toNat (c 10)) (S.vs,S.bk,S.lv)).1,bk :=((Z1p E.fo E.vo ep K).foldl (asg1 (c 12).toNat (c 10)) (S.vs,S.bk,S.lv)).2.1,lv :=((Z1p E.fo E.vo ep K).foldl (asg1 (c 12).toNat (c 10)) (S.vs,S.bk,S.lv)).2.2 } := by
  unfold Z23 Z42
  rw [hKK,f1,f2,f3]
 have hcar:0≤(if K=(E.fo ++ E.vo).length then 0 else min (E.car+lim) maxU - sumT (asgW (S.vs.map (·.bal)) E.fo E.vo) K) :=by
  split
  ·exact Int.le_refl _
  ·have h0 :=h.car
   have :=(Zf5 (asgW (S.vs.map (·.bal)) E.fo E.vo) (min (E.car+lim) maxU) (by unfold maxU; omega) (fun x hx =>by
    unfold asgW at hx
    obtain ⟨i,_,rfl⟩ :=List.mem_map.1 hx
    exact Zhc hnnS i)).1
   have e:asgN (asgW (S.vs.map (·.bal)) E.fo E.vo) (min (E.car+lim) maxU)=K :=by rw [← hKK]; unfold Z29; rw [f1,f2,f3]
   rw [e] at this
   omega
 rw [hA]
 generalize (Z1p E.fo E.vo ep K).foldl (asg1 (c 12).toNat (c 10)) (S.vs,S.bk,S.lv)=s at *
 have a4:s.1.length=E.vs.length :=a4.trans bl
 have a5:Z26 s.1=Z26 E.vs :=a5.trans bb
 have a2:Bk (c 12).toNat E.vs.length (M+K) s.2.1 :=by rw [hlen] at a2; rw [← bl]; exact a2
 rw [f4,List.nil_append,hfst] at a3
 generalize (if K=(E.fo ++ E.vo).length then 0 else min (E.car+lim) maxU - sumT (asgW (S.vs.map (·.bal)) E.fo E.vo) K)=car at *
 unfold Zbs Zoq
 dsimp only
 rw [f5,f6,f7,f8,f9,f10]
 generalize actK _ lim=K2
 obtain ⟨p1,p2⟩ :=Z43 1 (E.pe.take K2) s.1
 have hpe:∀ i∈E.pe,inR s.1 i :=fun i hi =>(Z2t a4 i).2 (h.pe i hi)
 have c4 :=a1.acts (E.pe.take K2) fun i hi =>hpe i (List.mem_of_mem_take hi)
 generalize (E.pe.take K2).foldl (fun l i =>evL l i.toNat 1) s.1=vs4 at *
 have q1:Z26 vs4=Z26 E.vs :=p1.trans a5
 have q2:vs4.length=E.vs.length :=p2.trans a4
 have hnn4:∀ v∈vs4,0≤v.bal :=fun v hv =>by
  have:v.bal∈Z26 vs4 :=List.mem_map.2 ⟨v,hv,rfl⟩
  rw [q1,← bb] at this
  exact hnnS _ this
 obtain ⟨m1,m2⟩ :=c4.mrgs (mx :=c 6) (E.mg.take (c 17).toNat) hnn4
 have m3 :=Z5s (c 6) (E.mg.take (c 17).toNat) vs4
 have hnn5:∀ (r:List (Int × Int)) (l:List Vd),Core (c 5) ep (ep+1) l ((E.fo ++ E.vo).drop K) s.2.2→(∀ v∈l,0≤v.bal)→∀ v∈Z1k (c 6) l r,0≤v.bal :=by
  intro r
  induction r with
  | nil =>intro l _ hl; exact hl
  | cons p r ih =>intro l hc hl; obtain ⟨x1, -,x3⟩ :=hc.mrgOne (mx :=c 6) hl p; exact ih _ x1 x3
 have hnn5 :=hnn5 (E.mg.take (c 17).toNat) vs4 c4 hnn4
 generalize Z1k (c 6) vs4 (E.mg.take (c 17).toNat)=vs5 at *
 have q3:vs5.length=E.vs.length :=m3.trans q2
 have hdl:(E.fo.drop K ++ E.vo.drop (K - E.fo.length))=(E.fo ++ E.vo).drop K :=Zkc _ _ _
 refine ⟨?_, ?_,h.lc,h.lok, ?_,hnn5, ?_, ?_,⟨M+K, ?_, ?_⟩,hcar, ?_,fun i hi =>?_,h.pr, ?_⟩
 ·show 0≤E.b+1
  have :=h.b0; omega
 ·show E.b+1≤((n+1:Nat):Int)
  have :=h.b1; omega
 ·show totS vs5=E.led.sup
  rw [m2,Z4h,q1,← Z4h]
  exact h.sum
 ·show (vs5.length:Int)≤c 0
  rw [q3]; exact h.len
 ·show Core (c 5) ((E.b+1) / c 13) ((E.b+1) / c 13+1) vs5 (E.fo.drop K ++ E.vo.drop (K - E.fo.length)) s.2.2
  rw [hdl,hepE]
  exact m1
 ·show Bk (c 12).toNat vs5.length (M+K) s.2.1
  rw [q3]; exact a2
 ·show M+K+(E.fo.drop K ++ E.vo.drop (K - E.fo.length)).length≤n+1
  rw [hdl,List.length_drop]
  omega
 ·show E.cur=0∨E.cur<vs5.length
  rw [q3]; exact h.cur
 ·show inR vs5 i
  exact (Z2t q3 i).2 (h.pe i (List.mem_of_mem_drop hi))
 ·show s.2.2.length≤n+1
  rw [a3,List.length_take]
  omega
theorem Zjg {rdy:Nat→Bool} {n a:Nat} {v p:Int} {i:Nat} (hi:i∈Z34 rdy n a v p):i<n∧rdy i=true :=by
 obtain ⟨h1,j,hj,rfl⟩ :=(Zae rdy n a v p i).1 hi
 have :=(Z4c rdy n a v p).1
 exact ⟨Nat.mod_lt _ (by omega),h1⟩
structure PayR (c:Nat→Int) (E:En) (n:Nat):Prop where
 inv:Inv c (Z9v c E) n
 pm:∀ p∈(pyS c E).2,0≤p.2.1
 led:(Z9v c E).led = { E.led with p :=E.led.p+pmS (pyS c E).2 }
 vis:Z6b c E≤c 14
 pl:((pyS c E).2.length:Int)≤c 15
 st:∀ j:Nat,(vAt (Z9v c E).vs j).st=5→(vAt (pyL c E) j).st=5∧j ∉ pyF c E
 len:(Z9v c E).vs.length=E.vs.length
 lenL:(pyL c E).length=E.vs.length
theorem Inv.pay {c:Nat→Int} (hV:Vld c) {E:En} {n:Nat} (h:Inv c E n):PayR c E n :=by
 have h5:0≤c 5 :=by have :=hV.c5; omega
 have h16 :=hV.c16
 have hq0:∀ x∈pyQ c E,0≤x.2 :=fun x hx =>h.pr x (List.mem_of_mem_take hx)
 have hql:((pyQ c E).length:Int)≤c 16 :=by unfold pyQ; rw [List.length_take]; omega
 obtain ⟨a1,a2,a3,a4,a5,a6⟩ :=Core.parts h5 (pyQ c E) (s :=(E.vs,[])) h.core h.nn hq0
 have a7 :=Zcg h5 (pyQ c E) (s :=(E.vs,[])) h.core h.nn (by intro p hp; cases hp) hq0
 have eL:(pyQ c E).foldl (Z1i (c 5)) (E.vs,[])=parStep (c 5) E.vs (pyQ c E) :=rfl
 rw [eL] at a1 a2 a3 a4 a5 a6 a7
 have ePL:(parStep (c 5) E.vs (pyQ c E)).1=pyL c E :=rfl
 have ePP:Z2p (parStep (c 5) E.vs (pyQ c E)).2=pyP c E :=rfl
 rw [ePL] at a1 a2 a3 a4 a6
 have a8:∀ p∈pyP c E,0≤p.2.1 :=fun p hp =>a7 p (List.mem_filter.1 (by rw [← ePP] at hp; exact hp)).1
 have a9:pmS (pyP c E)=pmS (parStep (c 5) E.vs (pyQ c E)).2 :=by rw [← ePP]; exact Zcd _
 have a10:(pyP c E).length≤(pyQ c E).length :=by rw [← ePP]; exact Nat.le_trans (Zcr _) (by simpa using a5)
 rw [← a9] at a3
 clear eL ePL ePP a5 a7 a9
 have a3:totS (pyL c E)+pmS (pyP c E)=totS E.vs :=by simpa [pmS] using a3
 have a4:(pyL c E).length=E.vs.length :=a4
 have hF:∀ i∈pyF c E,i<(pyL c E).length∧(vAt (pyL c E) i).st=5 :=fun i hi =>by
  obtain ⟨u1,u2⟩ :=Zjg hi
  exact ⟨u1,by simpa [pyR] using u2⟩
 obtain ⟨b1,b2,b3,b4,b5,b6,b7⟩ :=pays (l :=pyL c E) (pyF c E) (s :=(pyL c E,pyP c E)) a1 a2 rfl (Zd9 _ _ _ _ _) hF fun i _ =>rfl
 have eS:(pyF c E).foldl (pay1 (E.b / c 13) (pyL c E)) (pyL c E,pyP c E)=pyS c E :=rfl
 rw [eS] at b1 b2 b3 b4 b5 b6 b7
 have b3:totS (pyS c E).1+pmS (pyS c E).2=totS E.vs :=b3.trans a3
 have b7 :=b7 a8
 have hnt:∀ l:List Vd,(∀ v∈l,0≤v.bal)→0≤totS l :=fun l hl =>Int.le_trans (Z3n l hl).1 (Z3n l hl).2
 have hnp:∀ l:List Pm,(∀ p∈l,0≤p.2.1)→0≤pmS l :=by
  intro l
  induction l with
  | nil =>intro _; exact Int.le_refl _
  | cons x l ih =>intro hl; have :=hl x (by simp); have :=ih fun y hy =>hl y (by simp [hy]); simp only [pmS]; omega
 have t0 :=hnt _ b2
 have p0 :=hnp _ b7
 have hs :=h.sum
 have hled:Z3t E.led (pyS c E).2 = { E.led with p :=E.led.p+pmS (pyS c E).2 } := Zam _ _ b7 (by omega)
 have hfl :=Ze0 (pyR c E) (pyL c E).length E.cur (c 14 - (pyQ c E).length) (c 15 - (pyP c E).length)
 have hvl :=(Z4c (pyR c E) (pyL c E).length E.cur (c 14 - (pyQ c E).length) (c 15 - (pyP c E).length)).2
 have hbl:(pyS c E).1.length=E.vs.length :=b4.trans a4
 refine ⟨⟨h.b0,h.b1, ?_, ?_, ?_,b2, ?_,b1, ?_,h.car, ?_,fun i hi =>(Z2t hbl i).2 (h.pe i hi),fun r hr =>h.pr r (List.mem_of_mem_drop hr),h.lvn⟩,b7,hled, ?_, ?_,fun j hj =>?_,hbl,a4⟩
 ·show (Z3t E.led (pyS c E).2).c=c 4
  rw [hled]; exact h.lc
 ·show (Z3t E.led (pyS c E).2).ok
  rw [hled]
  obtain ⟨l1,l2,l3,l4,l5,l6⟩ :=h.lok
  simp only [Led.sup] at hs
  exact ⟨by simp only; omega,l2,by simp only; omega,l4,by simp only; omega,l6⟩
 ·show totS (pyS c E).1=(Z3t E.led (pyS c E).2).sup
  rw [hled]
  simp only [Led.sup] at hs ⊢
  omega
 ·show ((pyS c E).1.length:Int)≤c 0
  rw [hbl]; exact h.len
 ·obtain ⟨M,h1,h2⟩ :=h.bk
  exact ⟨M,by show Bk _ (pyS c E).1.length M E.bk; rw [hbl]; exact h1,h2⟩
 ·show pyA c E=0∨pyA c E<(pyS c E).1.length
  rw [hbl]
  unfold pyA Z6p
  split
  ·exact h.cur
  ·rename_i hn
   right
   rw [a4]
   exact Nat.mod_lt _ (by rw [a4] at hn; omega)
 ·unfold Z6b pyV
  omega
 ·rw [b5]
  simp only
  unfold pyF
  omega
 ·have :=(b6 j).1 hj
  exact this
def dst (cap a i:Nat):Nat :=if a≤i then i - a else cap - a+i
theorem Z9d {n a k:Nat} (hn:0<n):posN n a (k+1)=if posN n a k+1=n then 0 else posN n a k+1 :=by
 unfold posN
 rw [← Nat.add_assoc,Nat.add_mod (a+k) 1 n]
 have :=Nat.mod_lt (a+k) hn
 generalize (a+k) % n=x at this ⊢
 by_cases h1:n=1
 ·subst h1; have:x=0 :=by omega
  subst this; rfl
 ·rw [Nat.mod_eq_of_lt (show 1<n by omega)]
  split
  ·rename_i e; rw [e,Nat.mod_self]
  ·exact Nat.mod_eq_of_lt (by omega)
theorem Zfl {cap n a i:Nat} (hc:n≤cap) (hi:i<n) (ha:a<n):∀ k,(∀ j,j<k→posN n a j≠i)→dst cap (posN n a k) i+k≤dst cap a i
 | 0,_ =>by rw [show posN n a 0=a from by unfold posN; exact Nat.mod_eq_of_lt ha]; exact Nat.le_refl _
 | k+1,h =>by
  have ih :=Zfl hc hi ha k fun j hj =>h j (by omega)
  have hne :=h k (by omega)
  have hp:posN n a k<n :=Nat.mod_lt _ (by omega)
  rw [Z9d (by omega)]
  generalize posN n a k=x at *
  unfold dst at *
  split <;> rename_i e
  ·split at ih
   ·omega
   ·rw [if_pos (by omega)]; omega
  ·split at ih
   ·rw [if_pos (by omega)]; omega
   ·rw [if_neg (by omega)]; omega
theorem Zmp (rdy:Nat→Bool) (n a pays:Nat):∀ f k,vis rdy n a pays f k=k+f∨pays≤vis rdy n a pays f k
 | 0,k =>.inl rfl
 | f+1,k =>by
  rw [vis]
  split
  ·rename_i h; right; have :=Zb7 rdy n a k; omega
  ·rcases Zmp rdy n a pays f (k+1) with h | h
   ·left; omega
   ·exact .inr h
theorem Zir {rdy:Nat→Bool} {n a:Nat} {v p:Int} (hv:1≤v) (hp:1≤p):Z1o rdy n a v p=n∨min v p≤(Z1o rdy n a v p:Nat) :=by
 unfold Z1o
 split
 ·omega
 ·rcases Zmp rdy n a p.toNat (min v.toNat n) 0 with h | h <;> omega
theorem PayR.near {c:Nat→Int} (hV:Vld c) {E:En} {n:Nat} (h:Inv c E n) {i:Nat} (hi:i<E.vs.length) (hs:(vAt (Z9v c E).vs i).st=5):(dst (c 0).toNat (Z9v c E).cur i:Int)+min (c 14 - c 16) (c 15 - c 16)≤dst (c 0).toNat E.cur i :=by
 have R :=h.pay hV
 obtain ⟨h1,h2⟩ :=R.st i hs
 have h16 :=hV.c16
 have hql:((pyQ c E).length:Int)≤c 16 :=by unfold pyQ; rw [List.length_take]; omega
 have hpl:(pyP c E).length≤(pyQ c E).length :=by
  have :=(Core.parts (by have :=hV.c5; omega) (pyQ c E) (s :=(E.vs,[])) h.core h.nn fun x hx =>h.pr x (List.mem_of_mem_take hx)).2.2.2.2.1
  have this:(parStep (c 5) E.vs (pyQ c E)).2.length≤0+(pyQ c E).length :=this
  exact Nat.le_trans (Zcr _) (by omega)
 have hn :=R.lenL
 have hcap :=h.len
 have hcur:E.cur<E.vs.length :=by have :=h.cur; omega
 have hnv:∀ j,j<pyV c E→posN (pyL c E).length E.cur j≠i :=fun j hj e =>h2 ((Zae _ _ _ _ _ i).2 ⟨by simpa [pyR] using h1,j,hj,e⟩)
 have hA:pyA c E=posN (pyL c E).length E.cur (pyV c E) :=by
  unfold pyA Z6p pyV
  rw [if_neg (by omega)]
 have hd:∀ cap,E.vs.length≤cap→dst cap (pyA c E) i+pyV c E≤dst cap E.cur i :=fun cap hc =>by
  rw [hA]
  exact Zfl (by rw [hn]; exact hc) (by rw [hn]; exact hi) (by rw [hn]; exact hcur) _ hnv
 have hge:pyV c E=(pyL c E).length∨min (c 14 - (pyQ c E).length) (c 15 - (pyP c E).length)≤(pyV c E:Nat) :=Zir (by omega) (by omega)
 have hlt:dst E.vs.length E.cur i<E.vs.length :=by unfold dst; split <;> omega
 have hd1 :=hd E.vs.length (Nat.le_refl _)
 have hd2 :=hd (c 0).toNat (by omega)
 have hcA:(Z9v c E).cur=pyA c E :=rfl
 rw [hcA]
 omega
theorem Inv.tk1 {c:Nat→Int} (hV:Vld c) {E:En} {n:Nat} (h:Inv c E n) (hn:n≤100000):Inv c (Z4s c E) (n+1) :=by
 unfold Z4s
 split
 ·rename_i hm; exact h.bnd hV hm hn
 ·rename_i hm
  have he :=(Zm8 hV.c13.1).2 hm
  obtain ⟨M,h1,h2⟩ :=h.bk
  refine ⟨?_, ?_,h.lc,h.lok,h.sum,h.nn,h.len, ?_,⟨M,h1,by show M+(E.fo ++ E.vo).length≤n+1; omega⟩,h.car,h.cur,h.pe,h.pr,by have :=h.lvn; show E.lv.length≤n+1; omega⟩
  ·show 0≤E.b+1; have :=h.b0; omega
  ·show E.b+1≤((n+1:Nat):Int); have :=h.b1; omega
  ·show Core (c 5) ((E.b+1) / c 13) ((E.b+1) / c 13+1) E.vs (E.fo ++ E.vo) E.lv
   rw [he]; exact h.core
theorem Inv.tick {c:Nat→Int} (hV:Vld c) {E:En} {n:Nat} (h:Inv c E n) (hn:n≤100000):Inv c (Zan c E) (n+1) :=((h.tk1 hV hn).pay hV).inv
end Go.Proofs.YtecapfmmoejikaaGreat
