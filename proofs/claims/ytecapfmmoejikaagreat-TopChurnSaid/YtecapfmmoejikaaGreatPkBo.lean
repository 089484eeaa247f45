/- A part of the proofs of the top laws: ScrC AppA AppB RplA Run0 RplB. -/
import Derived.Recover
import Derived.Defers
import Derived.Test.YtecapfmmoejikaaGreatPkBm
set_option maxRecDepth 4000
set_option maxHeartbeats 8000000
namespace Go.Proofs.YtecapfmmoejikaaGreat
open Go.RowKit Go.Eg Go.Shelf
attribute [local go_sem] Oper.semAt_some
theorem Z9n (v:Value) (w:World) (hs:∃ a n c,v = .slice a n c):Calls Tryz.prog 104 #[v] w fun r w' =>r = .returned (.func (.func 147) #[] #[.pointer (some ⟨w.heap.size,0,none⟩)])∧w'.heap[w.heap.size]? = some (siBx v 63)∧Z00 w w'∧w'.heap.size=w.heap.size+1 :=by
 obtain ⟨a,n,c,rfl⟩ :=hs
 go_enter Tryz.func104,Tryz.ntmps104
 go_wp2
 go_ret
 exact ⟨rfl,heap_alloc_last w _,(Mods.refl _ w).alloc _,World.size_alloc _ _⟩
theorem Zg7 (v:Value) (b:List Int) (w:World) (hv:BL w v b) (hb:Bytes b) (hlen:b.length≤4096) (hpos:0<b.length) :
 Calls Tryz.prog 63 #[v] w fun r w' => ∃ v',r = .returned v'∧w'.ownsRow w.heap.size 34 4 v' (decF b b.length 0).length (Z15 (decF b b.length 0))∧Z00 w w' :=by
 have HV :=Hd hv
 have HB :=Hd hb
 have HL :=Hd hlen
 obtain ⟨va,vc,rfl⟩:∃ va vc,v = .slice va b.length vc :=by obtain ⟨a,c,h,_⟩ :=hv; exact ⟨a,c,h⟩
 clear hv hb hlen
 refine (callsIn_wide (n :=10)).1 ?_
 refine callsIn_of_wp_marks Tryz.func63 rfl trivial ?_ rfl
 simp only [Tryz.ntmps63,List.size_toArray,List.length_cons,List.length_nil,Nat.reduceAdd,Nat.reduceSub,Array.replicate_succ,Array.replicate_zero,List.push_toArray,List.append_toArray,List.nil_append,List.cons_append]
 gi_wp2_with fail
 refine ⟨trivial,(callsIn_wide.2 (Z9n (.slice va b.length vc) _ ⟨_,_,_,rfl⟩)).mono ?_⟩
 rintro r w2 ⟨rfl,b1,hk,hsz⟩
 simp only [World.size_alloc] at b1 hsz ⊢
 have b0:w2.heap[w.heap.size]? = some (siBx (.slice none 0 0) 25) :=hk.at (heap_alloc_last w _) fun h =>h
 have hkw:Z00 w w2 :=(((Mods.refl _ w).alloc _).keep hk)
 obtain ⟨z,hz⟩:∃ z,z=w.heap.size :=⟨_,rfl⟩
 rw [← hz] at b0 b1 hsz ⊢
 clear hk
 gi_wp2_with fail
 obtain ⟨D,hD⟩:∃ D,D=w2.heap.size :=⟨_,rfl⟩
 have HD :=Hd hD
 have HZ :=Hd hz
 have hDz:D=z+2 :=by rw [hD,hsz]
 have B0 :=Hd b0
 have B1 :=Hd b1
 have HKW :=Hd hkw
 have HVZ :=Hd (show ∀ k,(Value.slice va b.length vc).ownBlock=some k→k<z from fun k hk =>by
  rw [HZ.out]
  obtain ⟨a',c',e,hc,h0,hx⟩ :=HV.out
  simp only [Value.slice.injEq] at e
  obtain ⟨rfl, -,rfl⟩ :=e
  obtain ⟨g,off,rfl,hx2⟩ :=hx hpos
  have h1 :=cell_lt (hx2 0 hpos)
  injection hk with hk
  rw [← hk]
  exact h1)
 clear b0 b1 hkw hD hz hsz
 refine Z81 (gf :=147) (lb := #[.pointer (some ⟨z+1,0,none⟩)]) rfl (enters_of Tryz.func147 (by kernel_rfl) rfl)
  (encs :=fun x:Od => #[x.val]) (fun _ =>rfl) (fun _ =>False) (fun i =>(i=z∨D+2≤i)∨i=D+1) (X :=fun pre _ =>pre.length<b.length) (S :=fun xs =>xs=decF b b.length 0) (B :=D+2)
  ⟨fun h =>h,fun h =>h⟩ (by rw [← HD.out]; omega) ?iter (fun i =>i=z∨D+2≤i) (fun i hi =>.inl hi) (by rw [← HD.out]; omega)
  (fun pre W =>(∃ ov,W.heap[z]? = some (siBx ov 25)∧W.ownsRow (D+2) 34 4 ov pre.length (Z15 pre))∧Mods (fun i =>i=z) w2 W) ?hI ?h0
  (fun pre x a1 W =>(∃ bo,D+2≤bo∧W.heap[bo]? = some (odB x)∧a1 = { tmps := #[.slice va b.length vc,undef, .slice none 0 0, .pointer (some ⟨z,0,none⟩), .pointer (some ⟨bo,0,none⟩), .slice va b.length vc, .func (Fn.func 147) #[] #[.pointer (some ⟨z+1,0,none⟩)],x.val,undef,undef,undef,undef,undef],defers := [] })∧pre.length<b.length ∧
   (∃ ov,W.heap[z]? = some (siBx ov 25)∧W.ownsRow (D+2) 34 4 ov pre.length (Z15 pre))∧Mods (fun i =>i=z) w2 W) ?hQ ?assign ?body ?done
 case iter =>
  intro l J W hkW hszW hJ hY h0
  refine (Zny (.slice va b.length vc) b (z+1) l J (fun i =>(i=z∨D+2≤i)∨i=D+1) W (HV.out.keeps (HKW.out.keep hkW)) HB.out HL.out (hkW.at B1.out fun h =>h) ⟨(show ¬ ((z+1=z∨D+2≤z+1)∨z+1=D+1) from by omega),fun k hk (h:(k=z∨D+2≤k)∨k=D+1) =>by have :=HVZ.out k hk; omega⟩ (fun s A A' hs hm =>hJ s A A' hs hm) (fun pre x W1 hj hs hx =>hY pre x W1 hj (by rw [hszW,← HD.out] at hs; omega) hx) h0).mono ?_
  rintro r W' ⟨hr,xs,hxs,hj⟩
  exact ⟨hr,xs,hxs,hj⟩
 case hI =>
  rw [← HD.out]
  rintro s A A' ⟨⟨ov,i1,i2⟩,i3⟩ hm
  refine ⟨⟨ov,hm.at i1 (fun h =>h.elim id fun h =>by omega),hm.owns i2 fun k hk h =>h.elim id fun h =>by have :=(i2.lt k hk).1; omega⟩,i3.seq hm fun i hi h =>h.elim False.elim fun h =>?_⟩
  rw [← HD.out] at hi
  omega
 case h0 =>
  intro W hkW _
  exact ⟨⟨_,hkW.at B0.out fun h =>h,World.ownsRow_nil _ _ _ _⟩,hkW.weaken fun _ _ h =>h.elim⟩
 case hQ =>
  rw [← HD.out]
  rintro pre x a1 A A' ⟨⟨bo,q1,q2,q3⟩,q4,⟨ov,i1,i2⟩,i3⟩ hm
  refine ⟨⟨bo,q1,hm.at q2 (by omega),q3⟩,q4,⟨ov,hm.at i1 (by omega),hm.owns i2 fun k hk h =>by have :=(i2.lt k hk).1; omega⟩,i3.seq hm fun i hi h =>?_⟩
  rw [← HD.out] at hi
  omega
 case assign =>
  rintro l pre x W K ⟨⟨ov,i1,i2⟩,i3⟩ hB hx hK
  have hK2 :=hK { tmps := #[.slice va b.length vc,undef, .slice none 0 0, .pointer (some ⟨z,0,none⟩), .pointer (some ⟨W.heap.size,0,none⟩), .slice va b.length vc, .func (Fn.func 147) #[] #[.pointer (some ⟨z+1,0,none⟩)],x.val,undef,undef,undef,undef,undef],defers := [] } (W.alloc (odB x)) ((Mods.refl _ W).alloc _)
   ⟨⟨W.heap.size,hB,heap_alloc_last _ _,rfl⟩,hx,⟨ov,Z02 i1 _,i2.alloc _⟩,i3.seq ((Mods.refl (fun _ =>False) W).alloc _) fun _ _ h =>h.elim⟩
  have HK2 :=Hd hK2
  obtain ⟨kd,ix,tg,am⟩ :=x
  clear i1 i2 i3 hK hK2 hx
  gi_wp2
  exact HK2.out
 case body =>
  rintro l pre x a1 W ⟨⟨bo,q1,q2,rfl⟩,q4,⟨ov,i1,i2⟩,i3⟩ hB
  have hpl:pre.length+1≤4096 :=by have :=HL.out; omega
  obtain ⟨oa,oc,rfl⟩ :=Z0c i2
  have c0:W.cell? ⟨z,0,none⟩=some (.slice oa pre.length oc) :=by simp [World.cell?,i1]
  obtain ⟨d0,d1,d2,d3⟩ :=Z2q q2
  obtain ⟨i0,hi0,hz0,hz1,hz2⟩ :=info_parts Zj0
  have I1 :=Hd i1
  have I2 :=Hd i2
  have I3 :=Hd i3
  have hmx:pre.length+1≤maxLen :=by unfold maxLen; omega
  have hmb:(pre.length+1) * 32≤140737488355328 :=by omega
  have hbs:D+2≤(W.alloc (odB x)).heap.size :=by rw [World.size_alloc]; omega
  have HDZ :=Hd hDz
  obtain ⟨kd,ix,tg,am⟩ :=x
  clear i1 i2 i3 hpl hDz q2
  gi_wp2_with (gi_at_builtin; refine Z0e.out ?_)
  refine Z0e.mk ?_
  refine wpListIn_append_own _ rfl _ _ 25 rfl (D+2) 34 i0 (Od.val ⟨0,0,0,0⟩) 4 32 Tryz.underlying25 hi0 hz0 hz1 hz2 rfl (by decide) _ _ _ rfl (I2.out.alloc _) ⟨W.heap.size,0,none⟩ 1 1 [.int .i64 kd, .int .i64 ix, .int .i64 tg, .int .u64 am] rfl rfl (World.news_of_block (heap_alloc_last W (odB ⟨kd,ix,tg,am⟩))) (by simp [Value.oneCell']) hmx hmb hbs ?_
  intro v' w1 hown' hgrow _
  have hown':w1.ownsRow (D+2) 34 4 v' (pre.length+1) (Z15 (pre ++ [⟨kd,ix,tg,am⟩])) :=by rw [Zbb]; exact hown'
  obtain ⟨g',cap',rfl⟩ :=ownsRow_succ hown'
  have hgl :=hown'.lt g' rfl
  have hm1:Mods (fun i =>D+2≤i) W w1 :=((Mods.refl _ W).alloc _).seq ((Mods.refl (fun i =>D+2≤i) _).grown hgrow fun k _ hk =>(I2.out.lt k hk).1) fun i _ h =>h
  have e1 :=hm1.at I1.out (by have :=HDZ.out; omega)
  have c1:w1.cell? ⟨z,0,none⟩=some (.slice oa pre.length oc) :=by simp [World.cell?,e1]
  have f1:w1.frozen? ⟨z,0,none⟩=false :=by simp [World.frozen?,e1]
  have hms:∀ u,Mods (fun i =>i=z) w1 (w1.setCell ⟨z,0,none⟩ u) :=fun u =>(Mods.refl _ w1).setCell _ _ fun _ =>rfl
  have HE1 :=Hd (fun u =>(heap_setCell_same w1 z 0 _ _ u e1:(w1.setCell ⟨z,0,none⟩ u).heap[z]? = some (siBx u 25)))
  have HROW :=Hd hown'
  have HM1 :=Hd hm1
  have HMS :=Hd hms
  clear hown' hgrow hm1 e1 hms hmx hmb hbs
  gi_wp2_with fail
  have hDz :=HDZ.out
  have hm2 :=HMS.out (.slice (some ⟨g',0,none⟩) (pre.length+1) cap')
  refine ⟨(HM1.out.weaken fun i _ h =>.inr h).trans (hm2.weaken fun i _ h =>.inl h),⟨_,HE1.out _, ?_⟩,I3.out.seq ((HM1.out.weaken (T :=fun i =>i=z∨D+2≤i) fun i _ h =>.inr h).trans (hm2.weaken fun i _ h =>.inl h)) fun i hi h =>?_⟩
  ·have :=hm2.owns HROW.out fun k hk h =>by
    injection hk with hk
    have hk:g'=k :=hk
    omega
   exact this
  ·rw [← HD.out] at hi
   omega
 case done =>
  rintro PT W hPT ⟨⟨ov,i1,i2⟩,i3⟩ hdef
  rw [← HD.out] at hdef ⊢
  obtain ⟨oa,oc,rfl⟩ :=Z0c i2
  have c0:W.cell? ⟨z,0,none⟩=some (.slice oa PT.length oc) :=by simp [World.cell?,i1]
  have hkeep:Z00 w W :=HKW.out.seq i3 fun i hi h =>by rw [← HZ.out] at hi; omega
  have I2 :=Hd i2
  have HK :=Hd hkeep
  have HDEF :=Hd hdef
  have HDZ :=Hd hDz
  clear i1 i2 i3 hdef hkeep hDz
  gi_wp2_with fail
  refine ⟨by simp, .inl ⟨_,_,rfl,run_takeDeferred HDEF.out, ?_⟩⟩
  refine ⟨_,results_tmp rfl _ _ _, ?_⟩
  have hmd:Mods (fun i =>i=D) W (W.putObj D (.deferred none)) :=(Mods.refl _ W).putObj _ _ fun _ =>rfl
  have hDz :=HDZ.out
  have hZ :=HZ.out
  refine ⟨_,rfl, ?_,HK.out.seq hmd fun i hi h =>by omega⟩
  rw [← hPT,← hZ]
  exact own_base (hmd.owns I2.out fun i hi h =>by have :=(I2.out.lt i hi).1; omega) (by omega)
open Go.RowKit Go.Eg
def actR (c:Nat→Int) (E:En) (o:Od):Int × Int × Int :=
 if o.kd=1 then Z4r c E o.am else if o.kd=2 then Z2r c E 1 o.ix else if o.kd=3 then Z2r c E 0 o.ix else if o.kd=4 then Z3h c E o.ix else if o.kd=5 then Z80 c E o.ix o.tg else if o.kd=6 then Z7z c E o.ix o.am else (11,0,0)
def actE (c:Nat→Int) (E:En) (o:Od):En :=
 if o.kd=1 then Z73 c E o.am else if o.kd=2 then Z18 c E 1 o.ix else if o.kd=3 then Z18 c E 0 o.ix else if o.kd=4 then Z1e c E o.ix else if o.kd=5 then Z4p c E o.ix o.tg else if o.kd=6 then Z4q c E o.ix o.am else E
def Z3w (c:Nat→Int) (E:En) (o:Od):En :=if o.kd=7 then Zan c E else actE c E o
def apX (c:Nat→Int) (E:En) (o:Od):Int × Int × Int :=if o.kd=7 then (0, -1, -1) else if (actR c E o).1=0 then actR c E o else ((actR c E o).1, -1, -1)
def apA (c:Nat→Int) (E:En) (o:Od):List As :=if o.kd=7 then Zbw c E else []
def apP (c:Nat→Int) (E:En) (o:Od):List Pm :=if o.kd=7 then (pyS c (Z4s c E)).2 else []
def apN (c:Nat→Int) (E:En) (o:Od):Int :=if o.kd=7 then Z6b c (Z4s c E) else 0
theorem Znu (c:Nat→Int) (E:En):(Z4s c E).b=E.b+1 :=by unfold Z4s; split <;> rfl
theorem Zkg (c:Nat→Int) (E:En):(Zan c E).b=E.b+1 :=Znu c E
theorem Zpf (c:Nat→Int) (E:En) (o:Od):(actE c E o).b=E.b :=by
 unfold actE
 repeat' split
 ·unfold Z73; split <;> rfl
 ·unfold Z18; split <;> rfl
 ·unfold Z18; split <;> rfl
 ·unfold Z1e Z3f; split
  ·split
   ·rfl
   ·split <;> rfl
  ·rfl
 ·unfold Z4p; split <;> rfl
 ·unfold Z4q; split <;> rfl
 ·rfl
theorem Inv.apply {c:Nat→Int} (hV:Vld c) (h18:0≤c 18) {E:En} {n:Nat} (h:Inv c E n) (hn:n≤9000) {o:Od} (ho:o.ok):Inv c (Z3w c E o) (n+1) :=by
 unfold Z3w actE
 repeat' split
 ·exact h.tick hV (by omega)
 ·exact h.dep hV ho.a.1
 ·exact h.leave 1 _
 ·exact h.leave 0 _
 ·exact h.slash hV h18 _
 ·exact h.cons _ _
 ·exact h.part _ ho.a.1
 ·exact h.keep
def actG (k:Int):Nat :=if k=1 then 50 else if k=2 then 51 else if k=3 then 52 else if k=4 then 53 else if k=5 then 54 else 55
theorem Zbh {k:Int} (h1:1≤k) (h6:k≤6):k=1∨k=2∨k=3∨k=4∨k=5∨k=6 :=by omega
theorem Zrc {k:Int} (h1:1≤k) (h6:k≤6) (args:Array Value) (w:World):(callFunc (actG k) args).run Tryz.prog w = .ok (.enter (actG k) args) w :=by
 rcases Zbh h1 h6 with rfl | rfl | rfl | rfl | rfl | rfl <;> rfl
theorem Zqu {own:Nat→Nat} {w:World} {e:Nat} {c:Nat→Int} {E:En} {p:Ep} {N:Nat} (h:Z0i own w e c E p N) (hV:Vld c) (h9:0≤c 9) (h18:0≤c 18) (o:Od) (ho:o.ok) {n0:Nat} (hI:Inv c E n0) (hn:n0≤9000) (h1:1≤o.kd) (h6:o.kd≤6) (hN:N+10<4294967296) :
 Calls Tryz.prog (actG o.kd) #[.pointer (some ⟨e,0,none⟩),o.val] w fun r w' =>r = .returned (resV (actR c E o).1 (actR c E o).2.1 (actR c E o).2.2)∧Goes own w e c p (actE c E o) (N+10) w' :=by
 have hb0 :=hI.b0
 have hb1:E.b≤1000000 :=by have :=hI.b1; omega
 have h13 :=hV.c13.1
 have hmono:∀ {E':En} {w':World},Goes own w e c p E' N w'→Goes own w e c p E' (N+10) w' :=fun hg =>by
  obtain ⟨o,a,b⟩ :=hg
  exact ⟨o,a.mono (by omega),b⟩
 rcases Zbh h1 h6 with hk | hk | hk | hk | hk | hk
 ·have e1:actR c E o=Z4r c E o.am :=by unfold actR; rw [if_pos hk]
  have e2:actE c E o=Z73 c E o.am :=by unfold actE; rw [if_pos hk]
  rw [e1,e2,hk]
  refine Zle h o ho.a.1 (by have :=ho.a.2; unfold maxU; exact this) (fun hd =>⟨Led.dep_ok hI.lok ho.a.1, ?_⟩) hN
  have h4 :=hI.sum
  have h5 :=hI.lc
  have h7 :=hV.c4
  rcases E.led.dep_cases o.am with ⟨_,b,_⟩ | ⟨_,_,b,_⟩ | ⟨b,_,_,_⟩
  ·omega
  ·omega
  ·unfold maxU; omega
 ·have e1:actR c E o=Z2r c E 1 o.ix :=by unfold actR; rw [hk]; rfl
  have e2:actE c E o=Z18 c E 1 o.ix :=by unfold actE; rw [hk]; rfl
  rw [e1,e2,hk]
  exact Zqw h o hV h9 hb0 hb1 h13 hN
 ·have e1:actR c E o=Z2r c E 0 o.ix :=by unfold actR; rw [hk]; rfl
  have e2:actE c E o=Z18 c E 0 o.ix :=by unfold actE; rw [hk]; rfl
  rw [e1,e2,hk]
  exact Zom h o hV h9 hb0 hb1 h13 hN
 ·have e1:actR c E o=Z3h c E o.ix :=by unfold actR; rw [hk]; rfl
  have e2:actE c E o=Z1e c E o.ix :=by unfold actE; rw [hk]; rfl
  rw [e1,e2,hk]
  obtain ⟨M,m1,m2⟩ :=hI.bk
  exact Zpp h o h18 hV.c18 hV.c19.1 hV.c19.2 hb0 hb1 h13 (fun x hx =>by
   obtain ⟨k,hk,rfl⟩ :=List.getElem_of_mem hx
   have :=hI.core.wd k (Z5v.2 hk)
   rwa [Z2g hk] at this) (fun j =>Nat.le_trans (m1.le j) (by omega)) hN
 ·have e1:actR c E o=Z80 c E o.ix o.tg :=by unfold actR; rw [hk]; rfl
  have e2:actE c E o=Z4p c E o.ix o.tg :=by unfold actE; rw [hk]; rfl
  rw [e1,e2,hk]
  refine (Zqj h o).mono ?_
  rintro r w' ⟨hr,hg⟩
  exact ⟨hr,hmono hg⟩
 ·have e1:actR c E o=Z7z c E o.ix o.am :=by unfold actR; rw [hk]; rfl
  have e2:actE c E o=Z4q c E o.ix o.am :=by unfold actE; rw [hk]; rfl
  rw [e1,e2,hk]
  refine (Zqn h o).mono ?_
  rintro r w' ⟨hr,hg⟩
  exact ⟨hr,hmono hg⟩
theorem Zpu {P:Program} (t:TypeId) (w:World):(Instr.makeMap t none).run P w = .ok (.map (some w.heap.size)) (w.alloc (mapOf [])) :=rfl
theorem Zma (w:World):(zeroValue 111).run Tryz.prog w = .ok Value.nilFunc w :=by kernel_rfl
theorem neqF (g e:Nat) (w:World):(binOp BinOp.neq 111 (.func (Fn.func g) #[.pointer (some ⟨e,0,none⟩)] #[]) Value.nilFunc).run Tryz.prog w = .ok (.bool true) w :=by kernel_rfl
theorem neqN (w:World):(binOp BinOp.neq 111 Value.nilFunc Value.nilFunc).run Tryz.prog w = .ok (.bool false) w :=by kernel_rfl
@[reducible] def acts (e:Nat):List (Int × Value) := [(1, .func (.func 50) #[.pointer (some ⟨e,0,none⟩)] #[]),(2, .func (.func 51) #[.pointer (some ⟨e,0,none⟩)] #[]),(3, .func (.func 52) #[.pointer (some ⟨e,0,none⟩)] #[]),(4, .func (.func 53) #[.pointer (some ⟨e,0,none⟩)] #[]),(5, .func (.func 54) #[.pointer (some ⟨e,0,none⟩)] #[]),(6, .func (.func 55) #[.pointer (some ⟨e,0,none⟩)] #[])]
theorem look_in {e:Nat} {k:Int} (h1:1≤k) (h6:k≤6):Z3q (acts e) k=some (.func (.func (actG k)) #[.pointer (some ⟨e,0,none⟩)] #[]) :=by
 rcases Zbh h1 h6 with rfl | rfl | rfl | rfl | rfl | rfl <;> rfl
theorem Zl1 {e:Nat} {k:Int} (h:k<1∨6<k):Z3q (acts e) k=none :=by
 unfold Z3q
 rw [List.find?_eq_none.2 fun x hx =>?_]
 ·rfl
 ·simp [acts] at hx
  rcases hx with rfl | rfl | rfl | rfl | rfl | rfl <;> simp <;> omega
theorem Zpe {own:Nat→Nat} {w:World} {e:Nat} {c:Nat→Int} {E:En} {p:Ep} {N:Nat} (h:Z0i own w e c E p N) (hV:Vld c) (h9:0≤c 9) (h18:0≤c 18) (o:Od) (ho:o.ok) {n0:Nat} (hI:Inv c E n0) (hn:n0≤9000) (hN:N+500000<4294967296) :
 Calls Tryz.prog 13 #[.pointer (some ⟨e,0,none⟩),o.val] w fun r w' => ∃ aa ac pa pc,r = .returned (rcV o.kd (apX c E o).1 (apX c E o).2.1 (Z3w c E o).b ((Z3w c E o).b / c 13) (apX c E o).2.2 (.slice aa (apA c E o).length ac) (.slice pa (apP c E o).length pc) (apN c E o)) ∧
  ∃ own',Z0i own' w' e c (Z3w c E o) p (N+400000)∧Ext own w own' w'∧w'.ownsRow w.heap.size 51 3 (.slice aa (apA c E o).length ac) (apA c E o).length (Z4u (apA c E o)) ∧
  w'.ownsRow w.heap.size 58 3 (.slice pa (apP c E o).length pc) (apP c E o).length (Z1u (apP c E o)) :=by
 have H :=Hd h
 have HI :=Hd hI
 have HO :=Hd ho
 have hS0 :=Z3u w (odB o) (rcB 0 0 0 0 0 0 (.slice none 0 0) (.slice none 0 0) 0)
 obtain ⟨z1,z2,z3,z4⟩ :=hS0
 obtain ⟨z,hz⟩:∃ z,z=w.heap.size :=⟨_,rfl⟩
 have HZ :=Hd hz
 obtain ⟨w0,hw0⟩:∃ x,x=(w.alloc (odB o)).alloc (rcB 0 0 0 0 0 0 (.slice none 0 0) (.slice none 0 0) 0) :=⟨_,rfl⟩
 rw [← hw0,← hz] at z1 z2 z3
 rw [← hw0] at z4
 have Z1 :=Hd z1
 have Z2 :=Hd z2
 have Z3 :=Hd z3
 have Z4 :=Hd z4
 have HW0 :=Hd hw0
 have hz0:own z=0 :=H.out.new z (by omega)
 have hz1:own (z+1)=0 :=H.out.new (z+1) (by omega)
 have HOZ :=Hd (show own z=0∧own (z+1)=0 from ⟨hz0,hz1⟩)
 clear h hI ho z1 z2 z3 z4 hw0 hz hz0 hz1
 obtain ⟨kd,oix,otg,am⟩ :=o
 go_enter Tryz.func13,Tryz.ntmps13
 go_upto_region 1 with (fail)
 refine Z0l ?_
 intro wx hwx
 obtain rfl:w0=wx :=HW0.out.trans hwx.symm
 clear hwx
 rw [← HZ.out]
 have k0 :=(Z2e Z1.out).1
 have k1 :=(Z2e Z1.out).2.1
 have k2 :=(Z2e Z1.out).2.2.1
 have k3 :=(Z2e Z1.out).2.2.2
 by_cases hk7:kd=7
 ·subst hk7
  have HTK :=Hd (Zlr (H.out.keeps Z4.out) hV ⟨7,oix,otg,am⟩ HI.out hn hN)
  obtain ⟨AO,hAO⟩:∃ x,x=Zbw c E :=⟨_,rfl⟩
  obtain ⟨R,hR⟩:∃ x,x=(pyS c (Z4s c E)).2 :=⟨_,rfl⟩
  obtain ⟨VN,hVN⟩:∃ x,x=Z6b c (Z4s c E) :=⟨_,rfl⟩
  rw [← hAO,← hR,← hVN] at HTK
  have HAO :=Hd hAO
  have HR :=Hd hR
  have HVN :=Hd hVN
  clear hAO hR hVN
  go_wp2_with fail
  refine HTK.out.mono ?_
  rintro r w5 ⟨aa,ac,pa,pc,rfl,own5,hE5,hX5,hra,hrp⟩
  have HE5 :=Hd hE5
  have HX5 :=Hd ((Ext.keeps (own :=own) Z4.out).trans hX5)
  have H2 :=Hd (hX5.at Z2.out HOZ.out.2)
  have HRA :=Hd hra
  have HRP :=Hd hrp
  clear hE5 hX5 hra hrp k0 k1 k2 k3
  go_wp2_with ((with_reducible refine Z9g ?_); refine Z0e.out ?_)
  refine Z0e.mk ?_
  refine Z11 rfl 46 _ _ rfl (z+1) (rcC 7 0 (-1) (E.b+1) ((E.b+1) / c 13) (-1) (.slice aa AO.length ac) (.slice pa R.length pc) VN) rfl rfl 46 (rcC 0 0 0 0 0 0 (.slice none 0 0) (.slice none 0 0) 0) Z9u rfl rfl H2.out.1 ?_
  go_wp2
  have hmz:Mods (fun i =>i=z+1) w5 (w5.setRow (z+1) (rcC 7 0 (-1) (E.b+1) ((E.b+1) / c 13) (-1) (.slice aa AO.length ac) (.slice pa R.length pc) VN)) :=(Mods.refl _ w5).setRow _ _ fun _ =>rfl
  refine bodyPost_ret (v := .agg (rcC 7 0 (-1) (E.b+1) ((E.b+1) / c 13) (-1) (.slice aa AO.length ac) (.slice pa R.length pc) VN)) (results_cell_row Tryz.results13 _ _ (z+1) 46 (rcC 7 0 (-1) (E.b+1) ((E.b+1) / c 13) (-1) (.slice aa AO.length ac) (.slice pa R.length pc) VN) (0,0) _ rfl (setRow_heap _ _ _ _ _ _ H2.out.1) Tryz.underlying46 rfl Z9u) rfl ?_
  have q1:apX c E ⟨7,oix,otg,am⟩=(0, -1, -1) :=rfl
  have q2:apA c E ⟨7,oix,otg,am⟩=AO :=HAO.out.symm
  have q3:apP c E ⟨7,oix,otg,am⟩=R :=HR.out.symm
  have q4:apN c E ⟨7,oix,otg,am⟩=VN :=HVN.out.symm
  have q5:Z3w c E ⟨7,oix,otg,am⟩=Zan c E :=rfl
  rw [q1,q2,q3,q4,q5,Zkg]
  refine ⟨aa,ac,pa,pc,rfl,own5,HE5.out.loc hmz (fun i _ h =>by rw [h]; exact H2.out.2),Z1l HX5.out hmz (fun i hi h =>by have :=HZ.out; omega), ?_, ?_⟩
  ·exact own_base (hmz.owns HRA.out fun k hk h =>by have :=(HRA.out.lt k hk).1; have :=Z3.out; omega) (by have :=HZ.out; have :=Z3.out; omega)
  ·exact own_base (hmz.owns HRP.out fun k hk h =>by have :=(HRP.out.lt k hk).1; have :=Z3.out; omega) (by have :=HZ.out; have :=Z3.out; omega)
 ·have hk7':(kd == 7)=false :=by simp [hk7]
  have hmm := @Zpu Tryz.prog
  go_upto_region 6 with (refine Z78 rfl 112 _ _ rfl 3 111 Tryz.underlying112 Tryz.underlying3 _ rfl rfl rfl (by simp) ?_)
  refine Z0l ?_
  intro wm hwm
  have hmp:wm.heap[z+2]? = some (mapOf (acts e)) :=by rw [hwm,← Z3.out]; exact heap_alloc_last w0 _
  have hkm:Z00 w0 wm :=by rw [hwm]; exact (Mods.refl _ w0).alloc _
  have hzm:w0.heap.size=z+2 :=Z3.out
  rw [hzm]
  have HMP :=Hd hmp
  have HKM :=Hd hkm
  obtain ⟨cs,hcs⟩:∃ cs,cs=(Od.cells ⟨kd,oix,otg,am⟩).toList :=⟨_,rfl⟩
  have HS4 :=Hd (show (Tryz.prog.info? 34).map (·.size)=some cs.length from by rw [Zmf,hcs]; rfl)
  have HCS :=Hd hcs
  have HV13 :=Hd hV.c13.1
  obtain ⟨E',hE'⟩:∃ x,x=actE c E ⟨kd,oix,otg,am⟩ :=⟨_,rfl⟩
  have hEb:E'.b=E.b :=by rw [hE']; exact Zpf _ _ _
  obtain ⟨ep,hep⟩:∃ x,x=E'.b / c 13 :=⟨_,rfl⟩
  have HB0 :=Hd (show 0≤E'.b∧E'.b≤1000001 from by have h1 :=HI.out.b0; have h2 :=HI.out.b1; omega)
  have HEPE :=Hd hep
  have q2:apA c E ⟨kd,oix,otg,am⟩ = [] :=if_neg hk7
  have q3:apP c E ⟨kd,oix,otg,am⟩ = [] :=if_neg hk7
  have q4:apN c E ⟨kd,oix,otg,am⟩=0 :=if_neg hk7
  have HAE :=Hd (show Z3w c E ⟨kd,oix,otg,am⟩=E' from by rw [hE']; exact if_neg hk7)
  have HE' :=Hd hE'
  have K7 :=Hd hk7
  have Q2 :=Hd q2
  have Q3 :=Hd q3
  have Q4 :=Hd q4
  have m0 :=hkm.cell k0 fun h =>h
  have m1 :=hkm.cell k1 fun h =>h
  have m2 :=hkm.cell k2 fun h =>h
  have m3 :=hkm.cell k3 fun h =>h
  clear hwm hmp hkm hzm hmm hcs hE' hEb hep q2 q3 q4 hk7 k0 k1 k2 k3
  go_wp2_with fail
  refine (Z0q 11 _).mono ?_
  rintro r wf ⟨rfl,hkf⟩
  obtain ⟨zx,hzx⟩:∃ x,x=wf.heap.size :=⟨_,rfl⟩
  have hszf:z+2<zx :=by rw [hzx]; have :=Z0a (hkf.at HMP.out fun h =>h); omega
  go_upto_region 7 with (fail)
  refine Z0l ?_
  intro wr hwr
  have hwr2:wr=wf.alloc (resB 11 0 0) :=by rw [hwr]
  rw [← hzx]
  have hkr:Z00 w0 wr :=by rw [hwr2]; exact (HKM.out.keep hkf).alloc _
  have hx0:wr.heap[zx]? = some (resB 11 0 0) :=by rw [hwr2,hzx]; exact heap_alloc_last wf _
  have hmr:wr.heap[z+2]? = some (mapOf (acts e)) :=by rw [hwr2]; exact Z02 (hkf.at HMP.out fun h =>h) _
  have HKR :=Hd hkr
  have HX0 :=Hd hx0
  have HMR :=Hd hmr
  have HZX :=Hd hszf
  have HNX :=Hd (show ¬ zx=z+1 from by omega)
  have g0 :=hkr.cell (Z2e Z1.out).1 fun h =>h
  have g1 :=hkr.cell (Z2e Z1.out).2.1 fun h =>h
  have g2 :=hkr.cell (Z2e Z1.out).2.2.1 fun h =>h
  have g3 :=hkr.cell (Z2e Z1.out).2.2.2 fun h =>h
  have hzxo:own zx=0 :=H.out.new zx (by have :=HZ.out; omega)
  have HZXO :=Hd hzxo
  have hEr :=H.out.keeps (Z4.out.keep hkr)
  have HER :=Hd hEr
  clear hkf hwr hwr2 hkr hx0 hmr hzx hszf m0 m1 m2 m3 hzxo hEr
  by_cases hin:1≤kd∧kd≤6
  ·have HCA :=Hd (Zrc (k :=kd) hin.1 hin.2 #[.pointer (some ⟨e,0,none⟩), .agg #[.int .i64 kd, .int .i64 oix, .int .i64 otg, .int .u64 am]] wr)
   have HACT :=Hd (Zqu HER.out hV h9 h18 ⟨kd,oix,otg,am⟩ HO.out HI.out hn hin.1 hin.2 (by omega))
   have hlook :=look_in (e :=e) hin.1 hin.2
   have HLOOK :=Hd hlook
   obtain ⟨gk,hgk⟩:∃ x,x=actG kd :=⟨_,rfl⟩
   have hneq :=neqF gk e
   dsimp only at HACT
   rw [← hgk] at HCA HACT HLOOK
   obtain ⟨X,hX⟩:∃ x,x=actR c E ⟨kd,oix,otg,am⟩ :=⟨_,rfl⟩
   rw [← hX,← HE'.out] at HACT
   obtain ⟨x0,x1,x2⟩ :=X
   dsimp only at HACT
   have HX :=Hd hX
   have HGK :=Hd hgk
   have HIN :=Hd hin
   clear hlook hgk hX hin
   go_wp2_with (at_lookup; refine Z0e.out ?_)
   refine Z0e.mk ?_
   refine Z21 rfl 112 _ _ _ rfl 3 111 Tryz.underlying112 Tryz.underlying3 (z+2) rfl rfl (Zma _) HMR.out _ HLOOK.out ?_
   have hcal :=HCA.out
   go_wp2_with fail
   refine HACT.out.mono ?_
   rintro r ws ⟨rfl,ownt,hEs,hXs⟩
   have hxs :=hXs.at HX0.out HZXO.out
   have t1s :=hXs.at (HKR.out.at Z1.out fun h =>h) HOZ.out.1
   have t2s :=hXs.at (HKR.out.at Z2.out fun h =>h) HOZ.out.2
   have hXT0 :=(Ext.keeps (own :=own) (Z4.out.keep HKR.out)).trans hXs
   have HXS :=Hd hxs
   have T1S :=Hd t1s
   have T2S :=Hd t2s
   have HXT0 :=Hd hXT0
   have HES :=Hd hEs
   clear hEs hXs hxs t1s t2s hXT0 hneq hcal g0 g1 g2 g3
   go_wp2_with ((with_reducible refine Z9g ?_); refine Z0e.out ?_)
   refine Z0e.mk ?_
   refine Z08 (by rfl) _ _ rfl zx x0 x1 x2 11 0 0 rfl rfl HXS.out.1 ?_
   intro wt hxt hmt
   have hET :=HES.out.loc hmt fun i _ h =>by rw [h]; exact HXS.out.2
   have hXT :=Z1l HXT0.out hmt fun i hi h =>by have :=HZ.out; have :=HZX.out; omega
   have t1 :=And.intro (hmt.at T1S.out.1 (by have :=HZX.out; omega)) T1S.out.2
   have t2 :=And.intro (hmt.at T2S.out.1 (by have :=HZX.out; omega)) T2S.out.2
   have tx :=And.intro hxt HXS.out.2
   have x0c :=(Z0b hxt).1
   clear hmt hxt
   by_cases hx0:x0=0
   ·subst hx0
    have HAX :=Hd (show apX c E ⟨kd,oix,otg,am⟩=(0,x1,x2) from by
     unfold apX
     rw [if_neg K7.out,← HX.out]
     rfl)
    have q2 :=Q2.out
    have q3 :=Q3.out
    have q4 :=Q4.out
    have HET :=Hd hET
    have HXT :=Hd hXT
    have T1 :=Hd t1
    have T2 :=Hd t2
    have TX :=Hd tx
    have HEZ :=Hd (show ¬ e=z+1 from fun h =>by have h1 :=hET.oe; rw [h,t2.2] at h1; cases h1)
    have HBL :=Hd (fun (w':World) (hk:Z00 wt w') =>Z2b p.ck E'.b (c 13) w' ((hET.keeps hk).ck (by decide)))
    have HEPO :=Hd (fun (w':World) (hk:Z00 wt w') =>Z12 p.ck E'.b (c 13) w' ((hET.keeps hk).ck (by decide)) HB0.out.1 HB0.out.2 HV13.out)
    rw [← HEPE.out] at HEPO
    clear hET hXT t1 t2 tx
    have HS :=Hd (fun (w':World) (hk:Z00 wt w') =>(⟨Z0n (by rw [HCS.out]; exact Z2l T1.out.1) hk,⟨hk.cell (Z0b TX.out.1).2.1 fun h =>h,hk.cell (Z0b TX.out.1).2.2 fun h =>h⟩,hk.cell (Z09 (HET.out.blk (by decide)).choose_spec.1).2.1 fun h =>h⟩:w'.rangeAt z 0 cs∧(w'.cell? ⟨zx,1,none⟩=some (.int .i64 x1)∧w'.cell? ⟨zx,2,none⟩=some (.int .i64 x2))∧w'.cell? ⟨e,21,none⟩=some (.pointer (some ⟨p.ck,0,none⟩))))
    have HAC :=Hd (fun (w':World) =>Z7o ⟨kd,oix,otg,am⟩ x1 x2 E'.b ep w')
    rw [show (Od.val ⟨kd,oix,otg,am⟩) = .agg cs.toArray from by rw [HCS.out]] at HAC
    have hs4 :=HS4.out
    go_wp2_with fail
    refine Z07 (S :=(fun w' =>w'.rangeAt z 0 cs∧(w'.cell? ⟨zx,1,none⟩=some (.int .i64 x1)∧w'.cell? ⟨zx,2,none⟩=some (.int .i64 x2))∧w'.cell? ⟨e,21,none⟩=some (.pointer (some ⟨p.ck,0,none⟩)))) (by kernel_rfl) (by exact HS.out _ (Mods.refl _ wt).drew) (fun wc hD hH0 =>?_)
    have HK :=Hd (show Z00 wt wc from hD.mods)
    clear hD
    refine tkb 0 rfl hH0 (yieldsIf_load_mid (by rfl) 34 (.tmp 3) rfl z 0 rfl cs _ (fun _ h =>h.1) Tryz.underlying34 rfl hs4) ?_
    try go_frame
    refine tk 1 rfl hH0 ?_
    try go_frame
    refine tk 2 rfl hH0 ?_
    try go_frame
    refine tk 3 rfl hH0 ?_
    try go_frame
    refine tk 4 rfl hH0 ?_
    try go_frame
    refine tk 5 rfl hH0 ?_
    try go_frame
    refine tk 6 rfl hH0 ?_
    try go_frame
    refine tk 7 rfl hH0 ?_
    try go_frame
    refine tk 8 rfl hH0 ?_
    try go_frame
    refine tk 10 rfl hH0 ?_
    try go_frame
    refine tk 11 rfl hH0 ?_
    try go_frame
    refine tk 12 rfl hH0 ?_
    try go_frame
    refine tk 13 rfl hH0 ?_
    try go_frame
    refine rdy [9] (Z04 rfl (fun K hK =>?_) AllReadyH.nil)
    go_simp
    refine (HBL.out _ HK.out).mono ?_
    rintro r wc ⟨rfl,hwe⟩
    have hk :=Mods.of_eq (S :=fun _ =>False) hwe
    go_wp2_with fail
    refine hK.out _ _ (HS.out _ (HK.out.keep hk)) (fun hH1 =>?_)
    clear hK K hH0
    try go_frame
    replace HK :=Hd (HK.out.keep hk)
    clear hk hwe
    refine rdy [14] (Z04 rfl (fun K hK =>?_) AllReadyH.nil)
    go_simp
    refine (HEPO.out _ HK.out).mono ?_
    rintro r wc ⟨rfl,hk⟩
    go_wp2_with fail
    refine hK.out _ _ (HS.out _ (HK.out.keep hk)) (fun hH2 =>?_)
    clear hK K hH1
    try go_frame
    replace HK :=Hd (HK.out.keep hk)
    clear hk
    refine rdy [15] (Z04 rfl (fun K hK =>?_) AllReadyH.nil)
    go_simp
    refine (HAC.out _).mono ?_
    rintro r wc ⟨rfl,hk⟩
    go_wp2_with fail
    refine hK.out _ _ (HS.out _ (HK.out.keep hk)) (fun hH3 =>?_)
    clear hK K hH2
    try go_frame
    replace HK :=Hd (HK.out.keep hk)
    clear hk
    refine rdy [16] (Z04 rfl (fun K hK =>?_) AllReadyH.nil)
    refine Z1s (by rfl) (.tmp 4) (.tmp 74) rfl (z+1) (rcC kd 0 x1 E'.b ep x2 (.slice none 0 0) (.slice none 0 0) 0) (rcC 0 0 0 0 0 0 (.slice none 0 0) (.slice none 0 0) 0) (by rfl) (by rfl) (HK.out.at T2.out.1 fun h =>h) rfl rfl (by rw [← Array.all_toList]; rfl) ?_
    intro wc hz hm
    have hmw:Mods (fun i =>i=z+1) wt wc :=hm.seq' HK.out
    have hkS :=HS.out _ HK.out
    refine hK.out _ _ (⟨Z49 hkS.1 hm (by omega),⟨hm.cell hkS.2.1.1 HNX.out,hm.cell hkS.2.1.2 HNX.out⟩,hm.cell hkS.2.2 HEZ.out⟩) (fun hH4 =>?_)
    clear hK K hH3
    try go_frame
    have HF :=Hd hz
    have HMW :=Hd hmw
    clear hz hm hmw hkS
    refine wpAnyH_done (by kernel_rfl) ?_ _
    have hS :=Hd hH4
    clear hH4
    clear hS
    go_wp2
    refine bodyPost_ret (v := .agg (rcC kd 0 x1 E'.b ep x2 (.slice none 0 0) (.slice none 0 0) 0)) (results_cell_row Tryz.results13 _ _ (z+1) 46 (rcC kd 0 x1 E'.b ep x2 (.slice none 0 0) (.slice none 0 0) 0) (0,0) _ rfl HF.out Tryz.underlying46 rfl Z9u) rfl ?_
    rw [q2,q3,q4,HAX.out,HAE.out]
    refine ⟨none,0,none,0,by rw [HEPE.out]; rfl,ownt,(HET.out.loc HMW.out (fun i _ h =>by rw [h]; exact T2.out.2)).mono (by omega),Z1l HXT.out HMW.out (fun i hi h =>by have :=HZ.out; omega),World.ownsRow_nil _ _ _ _,World.ownsRow_nil _ _ _ _⟩
   ·have hx1:(x0 != 0)=true :=by simp [hx0]
    have HAX :=Hd (show apX c E ⟨kd,oix,otg,am⟩=(x0, -1, -1) from by
     unfold apX
     rw [if_neg K7.out,← HX.out]
     exact if_neg hx0)
    have q2 :=Q2.out
    have q3 :=Q3.out
    have q4 :=Q4.out
    clear hx0
    have HET :=Hd hET
    have HXT :=Hd hXT
    have T1 :=Hd t1
    have T2 :=Hd t2
    have TX :=Hd tx
    have HEZ :=Hd (show ¬ e=z+1 from fun h =>by have h1 :=hET.oe; rw [h,t2.2] at h1; cases h1)
    have HBL :=Hd (fun (w':World) (hk:Z00 wt w') =>Z2b p.ck E'.b (c 13) w' ((hET.keeps hk).ck (by decide)))
    have HEPO :=Hd (fun (w':World) (hk:Z00 wt w') =>Z12 p.ck E'.b (c 13) w' ((hET.keeps hk).ck (by decide)) HB0.out.1 HB0.out.2 HV13.out)
    rw [← HEPE.out] at HEPO
    clear hET hXT t1 t2 tx
    have HS :=Hd (fun (w':World) (hk:Z00 wt w') =>(⟨Z0n (by rw [HCS.out]; exact Z2l T1.out.1) hk,hk.cell (Z0b TX.out.1).1 fun h =>h,hk.cell (Z09 (HET.out.blk (by decide)).choose_spec.1).2.1 fun h =>h⟩:w'.rangeAt z 0 cs∧(w'.cell? ⟨zx,0,none⟩=some (.int .i64 x0))∧w'.cell? ⟨e,21,none⟩=some (.pointer (some ⟨p.ck,0,none⟩))))
    have HAC :=Hd (fun (w':World) =>Z7g ⟨kd,oix,otg,am⟩ x0 E'.b ep w')
    rw [show (Od.val ⟨kd,oix,otg,am⟩) = .agg cs.toArray from by rw [HCS.out]] at HAC
    have hs4 :=HS4.out
    go_wp2_with fail
    refine Z07 (S :=(fun w' =>w'.rangeAt z 0 cs∧(w'.cell? ⟨zx,0,none⟩=some (.int .i64 x0))∧w'.cell? ⟨e,21,none⟩=some (.pointer (some ⟨p.ck,0,none⟩)))) (by kernel_rfl) (by exact HS.out _ (Mods.refl _ wt).drew) (fun wc hD hH0 =>?_)
    have HK :=Hd (show Z00 wt wc from hD.mods)
    clear hD
    refine tkb 0 rfl hH0 (yieldsIf_load_mid (by rfl) 34 (.tmp 3) rfl z 0 rfl cs _ (fun _ h =>h.1) Tryz.underlying34 rfl hs4) ?_
    try go_frame
    refine tk 1 rfl hH0 ?_
    try go_frame
    refine tk 2 rfl hH0 ?_
    try go_frame
    refine tk 3 rfl hH0 ?_
    try go_frame
    refine tk 4 rfl hH0 ?_
    try go_frame
    refine tk 5 rfl hH0 ?_
    try go_frame
    refine tk 6 rfl hH0 ?_
    try go_frame
    refine tk 8 rfl hH0 ?_
    try go_frame
    refine tk 9 rfl hH0 ?_
    try go_frame
    refine tk 10 rfl hH0 ?_
    try go_frame
    refine tk 11 rfl hH0 ?_
    try go_frame
    refine rdy [7] (Z04 rfl (fun K hK =>?_) AllReadyH.nil)
    go_simp
    refine (HBL.out _ HK.out).mono ?_
    rintro r wc ⟨rfl,hwe⟩
    have hk :=Mods.of_eq (S :=fun _ =>False) hwe
    go_wp2_with fail
    refine hK.out _ _ (HS.out _ (HK.out.keep hk)) (fun hH1 =>?_)
    clear hK K hH0
    try go_frame
    replace HK :=Hd (HK.out.keep hk)
    clear hk hwe
    refine rdy [12] (Z04 rfl (fun K hK =>?_) AllReadyH.nil)
    go_simp
    refine (HEPO.out _ HK.out).mono ?_
    rintro r wc ⟨rfl,hk⟩
    go_wp2_with fail
    refine hK.out _ _ (HS.out _ (HK.out.keep hk)) (fun hH2 =>?_)
    clear hK K hH1
    try go_frame
    replace HK :=Hd (HK.out.keep hk)
    clear hk
    refine rdy [13] (Z04 rfl (fun K hK =>?_) AllReadyH.nil)
    go_simp
    refine (HAC.out _).mono ?_
    rintro r wc ⟨rfl,hk⟩
    go_wp2_with fail
    refine hK.out _ _ (HS.out _ (HK.out.keep hk)) (fun hH3 =>?_)
    clear hK K hH2
    try go_frame
    replace HK :=Hd (HK.out.keep hk)
    clear hk
    refine rdy [14] (Z04 rfl (fun K hK =>?_) AllReadyH.nil)
    refine Z1s (by rfl) (.tmp 4) (.tmp 58) rfl (z+1) (rcC kd x0 (-1) E'.b ep (-1) (.slice none 0 0) (.slice none 0 0) 0) (rcC 0 0 0 0 0 0 (.slice none 0 0) (.slice none 0 0) 0) (by rfl) (by rfl) (HK.out.at T2.out.1 fun h =>h) rfl rfl (by rw [← Array.all_toList]; rfl) ?_
    intro wc hz hm
    have hmw:Mods (fun i =>i=z+1) wt wc :=hm.seq' HK.out
    have hkS :=HS.out _ HK.out
    refine hK.out _ _ (⟨Z49 hkS.1 hm (by omega),hm.cell hkS.2.1 HNX.out,hm.cell hkS.2.2 HEZ.out⟩) (fun hH4 =>?_)
    clear hK K hH3
    try go_frame
    have HF :=Hd hz
    have HMW :=Hd hmw
    clear hz hm hmw hkS
    refine wpAnyH_done (by kernel_rfl) ?_ _
    have hS :=Hd hH4
    clear hH4
    clear hS
    go_wp2
    refine bodyPost_ret (v := .agg (rcC kd x0 (-1) E'.b ep (-1) (.slice none 0 0) (.slice none 0 0) 0)) (results_cell_row Tryz.results13 _ _ (z+1) 46 (rcC kd x0 (-1) E'.b ep (-1) (.slice none 0 0) (.slice none 0 0) 0) (0,0) _ rfl HF.out Tryz.underlying46 rfl Z9u) rfl ?_
    rw [q2,q3,q4,HAX.out,HAE.out]
    refine ⟨none,0,none,0,by rw [HEPE.out]; rfl,ownt,(HET.out.loc HMW.out (fun i _ h =>by rw [h]; exact T2.out.2)).mono (by omega),Z1l HXT.out HMW.out (fun i hi h =>by have :=HZ.out; omega),World.ownsRow_nil _ _ _ _,World.ownsRow_nil _ _ _ _⟩
  ·have hlook :=Zl1 (e :=e) (k :=kd) (by omega)
   have HLOOK :=Hd hlook
   have hX:actR c E ⟨kd,oix,otg,am⟩=(11,0,0) :=by
    unfold actR
    repeat' rw [if_neg (by dsimp only; omega)]
   have HX :=Hd hX
   have hEE:E'=E :=by
    rw [HE'.out]
    unfold actE
    repeat' rw [if_neg (by dsimp only; omega)]
   have HAX :=Hd (show apX c E ⟨kd,oix,otg,am⟩=(11, -1, -1) from by
    unfold apX
    rw [if_neg K7.out,HX.out]
    exact if_neg (by decide))
   have HEE :=Hd hEE
   have hneq :=neqN
   clear hlook hX hin hEE
   go_wp2_with (at_lookup; refine Z0e.out ?_)
   refine Z0e.mk ?_
   refine Z21 rfl 112 _ _ _ rfl 3 111 Tryz.underlying112 Tryz.underlying3 (z+2) rfl rfl (Zma _) HMR.out _ HLOOK.out ?_
   have q2 :=Q2.out
   have q3 :=Q3.out
   have q4 :=Q4.out
   have x0c :=(Z0b HX0.out).1
   have hET :=HER.out.mono (show N≤N+10 by omega)
   rw [← HEE.out] at hET
   have hXT :=Ext.keeps (own :=own) (Z4.out.keep HKR.out)
   have t1 :=And.intro (HKR.out.at Z1.out fun h =>h) HOZ.out.1
   have t2 :=And.intro (HKR.out.at Z2.out fun h =>h) HOZ.out.2
   have tx :=And.intro HX0.out HZXO.out
   clear g0 g1 g2 g3
   have HET :=Hd hET
   have HXT :=Hd hXT
   have T1 :=Hd t1
   have T2 :=Hd t2
   have TX :=Hd tx
   have HEZ :=Hd (show ¬ e=z+1 from fun h =>by have h1 :=hET.oe; rw [h,t2.2] at h1; cases h1)
   have HBL :=Hd (fun (w':World) (hk:Z00 wr w') =>Z2b p.ck E'.b (c 13) w' ((hET.keeps hk).ck (by decide)))
   have HEPO :=Hd (fun (w':World) (hk:Z00 wr w') =>Z12 p.ck E'.b (c 13) w' ((hET.keeps hk).ck (by decide)) HB0.out.1 HB0.out.2 HV13.out)
   rw [← HEPE.out] at HEPO
   clear hET hXT t1 t2 tx
   have HS :=Hd (fun (w':World) (hk:Z00 wr w') =>(⟨Z0n (by rw [HCS.out]; exact Z2l T1.out.1) hk,hk.cell (Z0b TX.out.1).1 fun h =>h,hk.cell (Z09 (HET.out.blk (by decide)).choose_spec.1).2.1 fun h =>h⟩:w'.rangeAt z 0 cs∧(w'.cell? ⟨zx,0,none⟩=some (.int .i64 11))∧w'.cell? ⟨e,21,none⟩=some (.pointer (some ⟨p.ck,0,none⟩))))
   have HAC :=Hd (fun (w':World) =>Z7g ⟨kd,oix,otg,am⟩ 11 E'.b ep w')
   rw [show (Od.val ⟨kd,oix,otg,am⟩) = .agg cs.toArray from by rw [HCS.out]] at HAC
   have hs4 :=HS4.out
   go_wp2_with fail
   refine Z07 (S :=(fun w' =>w'.rangeAt z 0 cs∧(w'.cell? ⟨zx,0,none⟩=some (.int .i64 11))∧w'.cell? ⟨e,21,none⟩=some (.pointer (some ⟨p.ck,0,none⟩)))) (by kernel_rfl) (by exact HS.out _ (Mods.refl _ wr).drew) (fun wc hD hH0 =>?_)
   have HK :=Hd (show Z00 wr wc from hD.mods)
   clear hD
   refine tkb 0 rfl hH0 (yieldsIf_load_mid (by rfl) 34 (.tmp 3) rfl z 0 rfl cs _ (fun _ h =>h.1) Tryz.underlying34 rfl hs4) ?_
   try go_frame
   refine tk 1 rfl hH0 ?_
   try go_frame
   refine tk 2 rfl hH0 ?_
   try go_frame
   refine tk 3 rfl hH0 ?_
   try go_frame
   refine tk 4 rfl hH0 ?_
   try go_frame
   refine tk 5 rfl hH0 ?_
   try go_frame
   refine tk 6 rfl hH0 ?_
   try go_frame
   refine tk 8 rfl hH0 ?_
   try go_frame
   refine tk 9 rfl hH0 ?_
   try go_frame
   refine tk 10 rfl hH0 ?_
   try go_frame
   refine tk 11 rfl hH0 ?_
   try go_frame
   refine rdy [7] (Z04 rfl (fun K hK =>?_) AllReadyH.nil)
   go_simp
   refine (HBL.out _ HK.out).mono ?_
   rintro r wc ⟨rfl,hwe⟩
   have hk :=Mods.of_eq (S :=fun _ =>False) hwe
   go_wp2_with fail
   refine hK.out _ _ (HS.out _ (HK.out.keep hk)) (fun hH1 =>?_)
   clear hK K hH0
   try go_frame
   replace HK :=Hd (HK.out.keep hk)
   clear hk hwe
   refine rdy [12] (Z04 rfl (fun K hK =>?_) AllReadyH.nil)
   go_simp
   refine (HEPO.out _ HK.out).mono ?_
   rintro r wc ⟨rfl,hk⟩
   go_wp2_with fail
   refine hK.out _ _ (HS.out _ (HK.out.keep hk)) (fun hH2 =>?_)
   clear hK K hH1
   try go_frame
   replace HK :=Hd (HK.out.keep hk)
   clear hk
   refine rdy [13] (Z04 rfl (fun K hK =>?_) AllReadyH.nil)
   go_simp
   refine (HAC.out _).mono ?_
   rintro r wc ⟨rfl,hk⟩
   go_wp2_with fail
   refine hK.out _ _ (HS.out _ (HK.out.keep hk)) (fun hH3 =>?_)
   clear hK K hH2
   try go_frame
   replace HK :=Hd (HK.out.keep hk)
   clear hk
   refine rdy [14] (Z04 rfl (fun K hK =>?_) AllReadyH.nil)
   refine Z1s (by rfl) (.tmp 4) (.tmp 58) rfl (z+1) (rcC kd 11 (-1) E'.b ep (-1) (.slice none 0 0) (.slice none 0 0) 0) (rcC 0 0 0 0 0 0 (.slice none 0 0) (.slice none 0 0) 0) (by rfl) (by rfl) (HK.out.at T2.out.1 fun h =>h) rfl rfl (by rw [← Array.all_toList]; rfl) ?_
   intro wc hz hm
   have hmw:Mods (fun i =>i=z+1) wr wc :=hm.seq' HK.out
   have hkS :=HS.out _ HK.out
   refine hK.out _ _ (⟨Z49 hkS.1 hm (by omega),hm.cell hkS.2.1 HNX.out,hm.cell hkS.2.2 HEZ.out⟩) (fun hH4 =>?_)
   clear hK K hH3
   try go_frame
   have HF :=Hd hz
   have HMW :=Hd hmw
   clear hz hm hmw hkS
   refine wpAnyH_done (by kernel_rfl) ?_ _
   have hS :=Hd hH4
   clear hH4
   clear hS
   go_wp2
   refine bodyPost_ret (v := .agg (rcC kd 11 (-1) E'.b ep (-1) (.slice none 0 0) (.slice none 0 0) 0)) (results_cell_row Tryz.results13 _ _ (z+1) 46 (rcC kd 11 (-1) E'.b ep (-1) (.slice none 0 0) (.slice none 0 0) 0) (0,0) _ rfl HF.out Tryz.underlying46 rfl Z9u) rfl ?_
   rw [q2,q3,q4,HAX.out,HAE.out]
   refine ⟨none,0,none,0,by rw [HEPE.out]; rfl,own,(HET.out.loc HMW.out (fun i _ h =>by rw [h]; exact T2.out.2)).mono (by omega),Z1l HXT.out HMW.out (fun i hi h =>by have :=HZ.out; omega),World.ownsRow_nil _ _ _ _,World.ownsRow_nil _ _ _ _⟩
theorem Zhw (c:Nat→Int) (w:World) (hV:Vld c) (hk:chk c=0) :
 Calls Tryz.prog 103 #[cfgV c] w fun r w' => ∃ e p own,r = .returned (.pointer (some ⟨e,0,none⟩))∧Z0i own w' e c (en0 c) p 0∧Ext (fun _ =>0) w own w' :=by
 have HN :=Hd (fun w =>eNew c w hV hk)
 have hx :=heap_alloc_last w (.cells (cfgC c) 24)
 clear hV hk
 go_enter Tryz.func103,Tryz.ntmps103
 go_wp2_with (refine Z03 rfl 24 _ rfl w.heap.size rfl 24 (cfgC c) (0,0) _ Tryz.underlying24 rfl Z0m hx ?_)
 refine (HN.out _).mono ?_
 rintro r w1 ⟨e,p,own,rfl,hE,hX⟩
 have HE :=Hd hE
 have HX :=Hd (show Ext (fun _ =>0) w own w1 from (Ext.keeps ((Mods.refl (fun _ =>False) w).alloc _)).trans hX)
 clear hE hX
 go_wp2
 go_ret
 exact ⟨_,_,_,rfl,HE.out,HX.out⟩
theorem Zlf (p q:Addr) (w:World) :
 CallsD Tryz.prog 102 #[.pointer (some p), .pointer (some q)] .returning w fun e u' w' =>e = .returned (.tuple #[])∧u' = .returning∧w'=w :=by
 refine callsD_of_wpS Tryz.func102 rfl fun c₀ cs hu =>?_
 apply wpS_seq
 apply wpS_region
 simp [wpOpsS,go_sem,recoverD,hu,Exit.thenS]
 refine wpS_of_wp ?_
 go_wp2
 cases c₀
 simp_all [bodyPostS,results,Tryz.results102]
theorem Zps:(Tryz.prog.info? 46).map (fun i =>(i.zero,i.size,i.bytes))=some (some (.agg (rcC 0 0 0 0 0 0 (.slice none 0 0) (.slice none 0 0) 0)),9,104) :=by kernel_rfl
theorem Zi1 (e:Value) (kd cd ix bl ep dl:Int) (aa:Option Addr) (an ac:Nat) (pa:Option Addr) (pn pc:Nat) (vs:Int) (ob:Nat) (ov:Value) (B n:Nat) (xs:List Value) (w:World) (hb:w.heap[ob]? = some (siBx ov 66)) (ho:w.ownsRow B 46 9 ov n xs) (hn:n≤10000) (hB:B≤w.heap.size) (hne:ob<B) :
 Calls Tryz.prog 64 #[e, .agg (rcC kd cd ix bl ep dl (.slice aa an ac) (.slice pa pn pc) vs), .pointer (some ⟨ob,0,none⟩)] w fun r w' =>r = .returned (.bool true)∧∃ ov' xs',w'.heap[ob]? = some (siBx ov' 66)∧w'.ownsRow B 46 9 ov' (n+1) xs'∧(∀ k,ov'.ownBlock=some k→ov.ownBlock=some k∨w.heap.size≤k)∧Mods (fun i =>i=ob∨ov.ownBlock=some i) w w' :=by
 have HO :=Hd ho
 have HB :=Hd hb
 have hob :=Z0a hb
 have c0:w.cell? ⟨ob,0,none⟩=some ov :=by simp [World.cell?,hb]
 obtain ⟨oa,oc,rfl⟩ :=Z0c ho
 obtain ⟨i0,hi0,hz0,hz1,hz2⟩ :=info_parts Zps
 have hx :=heap_alloc_last w (rcB kd cd ix bl ep dl (.slice aa an ac) (.slice pa pn pc) vs)
 have hmx:n+1≤maxLen :=by unfold maxLen; omega
 have hmb:(n+1) * 104≤140737488355328 :=by omega
 clear hb ho
 go_enter Tryz.func64,Tryz.ntmps64
 go_wp2_with (first | (refine Z03 rfl 46 _ rfl w.heap.size rfl 46 (rcC kd cd ix bl ep dl (.slice aa an ac) (.slice pa pn pc) vs) (0,0) _ Tryz.underlying46 rfl Z9u hx ?_) | (at_builtin; refine Z0e.out ?_))
 refine Z0e.mk ?_
 refine wpList_append_lies _ rfl _ _ 66 rfl B 46 i0 (.agg (rcC 0 0 0 0 0 0 (.slice none 0 0) (.slice none 0 0) 0)) 9 104 Tryz.underlying66 hi0 hz0 hz1 hz2 rfl (by decide) (.slice oa n oc) n xs rfl ((HO.out.alloc _).alloc _) ⟨w.heap.size+1,0,none⟩ 1 1 (rcC kd cd ix bl ep dl (.slice aa an ac) (.slice pa pn pc) vs).toList rfl rfl (by
  have h :=World.news_of_block (fr :=(0,0)) (heap_alloc_last (w.alloc (rcB kd cd ix bl ep dl (.slice aa an ac) (.slice pa pn pc) vs)) (rcB kd cd ix bl ep dl (.slice aa an ac) (.slice pa pn pc) vs))
  rw [World.size_alloc] at h
  exact h) (by simp [Value.oneCell']) (by omega) hmx hmb (by simp only [World.size_alloc]; omega) (w.heap.size+2) (by simp only [World.size_alloc]) ?_
 intro g c' w1 hown' hgrow hlies hglt
 have HLI :=Hd (show ∀ k,(Value.slice (some ⟨g,0,none⟩) (n+1) c').ownBlock=some k→(Value.slice oa n oc).ownBlock=some k∨w.heap.size≤k from fun k hk =>by
  injection hk with hk
  have hk:g=k :=hk
  subst hk
  rcases hlies with h | h
  ·exact .inl h
  ·exact .inr (by omega))
 have hm1:Mods (fun i =>(Value.slice oa n oc).ownBlock=some i) w w1 :=(((Mods.refl _ w).alloc _).alloc _).grown hgrow fun k _ hk =>hk
 have hnb : ¬ (Value.slice oa n oc).ownBlock=some ob :=fun h =>by have :=(HO.out.lt ob h).1; omega
 have e1 :=hm1.at HB.out hnb
 have f1:w1.frozen? ⟨ob,0,none⟩=false :=by simp [World.frozen?,e1]
 have c1:w1.cell? ⟨ob,0,none⟩=some (.slice oa n oc) :=by simp [World.cell?,e1]
 have hms:Mods (fun i =>i=ob) w1 (w1.setCell ⟨ob,0,none⟩ (.slice (some ⟨g,0,none⟩) (n+1) c')) :=(Mods.refl _ w1).setCell _ _ fun _ =>rfl
 have HE1 :=Hd ((heap_setCell_same w1 ob 0 _ _ (.slice (some ⟨g,0,none⟩) (n+1) c') e1:(w1.setCell ⟨ob,0,none⟩ (.slice (some ⟨g,0,none⟩) (n+1) c')).heap[ob]? = some (siBx (.slice (some ⟨g,0,none⟩) (n+1) c') 66)))
 have hlt :=hown'.lt
 have HROW :=Hd (hms.owns hown' fun k hk h =>by have :=(hlt k hk).1; omega)
 have HM :=Hd ((hm1.weaken (T :=fun i =>i=ob∨(Value.slice oa n oc).ownBlock=some i) fun i _ h =>.inr h).trans (hms.weaken fun i _ h =>.inl h))
 clear hown' hgrow hlies hglt hm1 hnb e1 hms hlt hmx hmb hx c0
 go_wp2
 go_ret
 exact ⟨rfl,_,HE1.out,⟨_,HROW.out⟩,HLI.out,HM.out⟩
def Z05 (c:Nat→Int) (l:List Od):En :=l.foldl (Z3w c) (en0 c)
theorem Zh9 (c:Nat→Int) (l:List Od) (o:Od):Z05 c (l ++ [o])=Z3w c (Z05 c l) o :=by unfold Z05; rw [List.foldl_append]; rfl
theorem Zab (c:Nat→Int) {l:List Od} {k:Nat} (hk:k<l.length):Z05 c (l.take (k+1))=Z3w c (Z05 c (l.take k)) l[k] :=by rw [Zad hk,Zh9]
theorem Zbg {i:Int} : ¬ inR [] i :=fun h =>by have h1 :=h.1; have h2 :=h.2; simp only [List.length_nil] at h2; omega
theorem Zfd:∀ L,bkN L (fun _ => [])=0
 | 0 =>rfl
 | L+1 =>by rw [bkN,Zfd L]; rfl
theorem Inv.zero {c:Nat→Int} (hV:Vld c):Inv c (en0 c) 0 :=by
 have h4:0≤c 4 :=by have :=hV.c4; have :=hV.c3; have :=hV.c2; omega
 have h4':c 4≤maxU :=by have :=hV.c4; unfold maxU; omega
 refine ⟨Int.le_refl _,Int.le_refl _,rfl,⟨Int.le_refl _,Int.le_refl _,Int.le_refl _,by show (0:Int)≤maxU; unfold maxU; omega,h4,h4'⟩,rfl,fun v hv =>(by cases hv), ?_, ?_,⟨0,⟨fun _ _ =>rfl,fun j x hx =>(by cases hx),by rw [show (en0 c).bk=fun _ => [] from rfl,Zfd]; exact Nat.le_refl _⟩,Nat.le_refl _⟩,Int.le_refl _, .inl rfl,fun i hi =>(by cases hi),fun i hi =>(by cases hi),Nat.le_refl _⟩
 ·have :=hV.c0; show ((0:Nat):Int)≤c 0; omega
 ·refine ⟨fun i hi =>(by cases hi),List.nodup_nil,fun i =>⟨fun hi =>(by cases hi),fun h =>absurd h.1 Zbg⟩,fun i hi =>(by cases hi),List.nodup_nil,fun i hi =>absurd hi Zbg,fun i hi =>absurd hi Zbg,fun i hi =>absurd hi Zbg⟩
theorem Inv.run {c:Nat→Int} (hV:Vld c) (h18:0≤c 18) (l:List Od) (hn:l.length≤9000) (hok:∀ o∈l,o.ok):∀ k,k≤l.length→Inv c (Z05 c (l.take k)) k
 | 0,_ =>by rw [List.take_zero]; exact Inv.zero hV
 | k+1,hk =>by
  rw [Zab c (show k<l.length by omega)]
  exact Inv.apply hV h18 (Inv.run hV h18 l hn hok k (by omega)) (by omega) (hok _ (List.getElem_mem _))
abbrev snZ:Array Value :=snC 0 0 (.slice none 0 0) 0 0 0 0 (.slice none 0 0) (.slice none 0 0) (.slice none 0 0) (.slice none 0 0) (.slice none 0 0) 0 0 0
theorem Z84 {P:Program} {fn:Func} {p q:Tmp} {ty ty2:TypeId} (h:fn.results=#[.cell p ty, .cell q ty2]) (tmps:Array Value) (w:World) (g:Nat) (t:TypeId) (cs:Array Value) (fr:Nat × Nat) (d:TypeDesc) (g2:Nat) (x:Value)
 (hp:tmps.getD p undef = .pointer (some ⟨g,0,none⟩)) (hq:tmps.getD q undef = .pointer (some ⟨g2,0,none⟩)) (hg:w.heap[g]? = some (.cells cs t fr))
 (hu:P.underlying ty=some d) (hd:(match d with | .struct _ | .array _ _ =>true | _ =>false)=true) (hi:(P.info? ty).map (·.size)=some cs.size)
 (hx:(loadVar ty2 ⟨g2,0,none⟩).run P w = .ok x w) :
 (results fn tmps).run P w = .ok (.tuple #[.agg cs,x]) w :=by
 have hp':tmps[p]?.getD undef = .pointer (some ⟨g,0,none⟩) :=by simpa using hp
 have hq':tmps[q]?.getD undef = .pointer (some ⟨g2,0,none⟩) :=by simpa using hq
 simp [results,h,hp',hq',asAddr,run_loadVar_row w g t ty cs fr d hg hu hd hi,hx]
theorem Z8p {ops:Array Oper} {rest:List Oper} {o:Oper} {a:Act} {w:World} {Q:Exit→Act→World→Prop} (hw:Region.wanted o (yielded ops a.tmps)=true) (x y:Operand) (ho:o.op = .store 41 x y)
 (g:Nat) (cs cs':Array Value) (hx:a.eval x = .pointer (some ⟨g,0,none⟩)) (hy:a.eval y = .agg cs) (hg:w.heap[g]? = some (.cells cs' 41 (0,0))) (hs:cs'.size=cs.size) (h9:cs.size=15) (h1:cs.all (fun x =>x.oneCell')=true)
 (h:∀ w',w'.heap[g]? = some (.cells cs 41 (0,0))→Mods (fun i =>i=g) w w'→wpList Tryz.prog ops Q rest (a.put o.dst undef) w'):wpList Tryz.prog ops Q (o :: rest) a w :=
 Z1f hw fun _ hK =>wp_store_row 41 x y ho g cs hx hy _ cs' hg (by rw [Z96,h9]) hs h1 (hK _ _ (h _ (setRow_heap w g _ _ _ _ hg) ((Mods.refl _ w).setRow g _ fun _ =>rfl)))
theorem Ze7 (c:Nat→Int) (v:Value) (l:List Od) (w:World) (hV:Vld c) (hk:chk c=0) (h9:0≤c 9) (h18:0≤c 18) (hv:OdL w v l) (hok:∀ o∈l,o.ok) (hn:l.length≤400) (ob:Nat) (hvo:v.ownBlock≠some ob) (hb:w.heap[ob]? = some (siBx (.slice none 0 0) 66)) :
 Calls Tryz.prog 62 #[cfgV c,v, .func (.func 64) #[] #[.pointer (some ⟨ob,0,none⟩)]] w fun r w' =>(∃ vv ac vp vf vo vm vq un,r = .returned (.tuple #[.agg (snC (Z05 c l).b ((Z05 c l).b / c 13) vv (Z05 c l).led.d (Z05 c l).led.p (Z05 c l).led.b ac vp vf vo vm vq (Z05 c l).cur (Z05 c l).car un), .int .i64 0])∧(snC (Z05 c l).b ((Z05 c l).b / c 13) vv (Z05 c l).led.d (Z05 c l).led.p (Z05 c l).led.b ac vp vf vo vm vq (Z05 c l).cur (Z05 c l).car un).all (fun x =>x.oneCell')=true) ∧
  (∃ ov xs,w'.heap[ob]? = some (siBx ov 66)∧w'.ownsRow w.heap.size 46 9 ov l.length xs)∧Mods (fun i =>i=ob) w w' :=by
 have hmf:∀ (fn:Fn) (first cap:Array Value) (w:World),(Instr.makeFunc fn first cap).run Tryz.prog w = .ok (.func fn first cap) w :=fun _ _ _ _ =>rfl
 have HBG :=Hd (fun w =>Zhw c w hV hk)
 have HI :=Hd (Inv.run hV h18 l (by omega) hok)
 have HL :=Hd hv
 have HOB :=Hd hb
 have HV :=Hd hV
 have HOK :=Hd hok
 obtain ⟨la,lc,rfl⟩ :=hv.slice
 clear hv hb hV hk hok
 go_enter_defers Tryz.func62,Tryz.ntmps62
 have hB3 :=Hd (Z48 w (.cells (cfgC c) 24) (.cells snZ 41) (.cells #[.int .i64 0] 29))
 obtain ⟨w3,hw3⟩:∃ x,x=(((w.alloc (.cells (cfgC c) 24)).alloc (.cells snZ 41)).alloc (.cells #[.int .i64 0] 29)) :=⟨_,rfl⟩
 rw [← hw3] at hB3
 go_wp2_with (refine Z03 rfl 24 _ rfl w.heap.size rfl 24 (cfgC c) (0,0) _ Tryz.underlying24 rfl Z0m (Z48 w _ _ _).1 ?_)
 refine (HBG.out _).mono ?_
 rintro r w1 ⟨e,p,own,rfl,hE,hX⟩
 have hX:Ext (fun _ =>0) w3 own w1 :=by rw [hw3]; exact hX
 obtain ⟨z,hz⟩:∃ z,z=w.heap.size :=⟨_,rfl⟩
 rw [← hz] at hB3 ⊢
 have hob:ob<z :=by rw [hz]; exact Z0a HOB.out
 have HZ :=Hd hz
 have ST :=Hd (show (w1.heap[z+1]? = some (.cells snZ 41 (0,0))∧own (z+1)=0)∧(w1.heap[z+1+1]? = some (.cells #[.int .i64 0] 29 (0,0))∧own (z+1+1)=0)∧(w1.heap[ob]? = some (siBx (.slice none 0 0) 66)∧own ob=0)∧Z00 w w1∧z+3≤w1.heap.size∧∀ i,i<z→own i=0 from by
  obtain ⟨b0,b1,b2,b3,b4⟩ :=hB3.out
  refine ⟨hX.at b1 rfl,hX.at b2 rfl,hX.at (b4.at HOB.out fun h =>h) rfl, ?_,by have :=hX.mods.size; omega,fun i hi =>hX.old i (by omega)⟩
  exact b4.seq hX.mods fun i _ h =>absurd rfl h)
 have HE :=Hd hE
 clear hE hX hw3 hB3 hz
 go_wp2
 go_loopw [16] (fun i wr => ∃ (k:Nat) (own:Nat→Nat),i = .int .i64 (k:Int)∧k≤l.length∧Z0i own wr e c (Z05 c (l.take k)) p (400000 * k)∧(wr.heap[z+1]? = some (.cells snZ 41 (0,0))∧own (z+1)=0)∧(wr.heap[z+1+1]? = some (.cells #[.int .i64 0] 29 (0,0))∧own (z+1+1)=0) ∧
  (∃ ov xs,wr.heap[ob]? = some (siBx ov 66)∧own ob=0∧wr.ownsRow z 46 9 ov k xs∧∀ j,ov.ownBlock=some j→own j=0∧z+3≤j)∧Mods (fun i =>i=ob) w wr∧z+3≤wr.heap.size∧∀ i,i<z→own i=0) (fun i _ =>l.length - (intOf i).toNat)
 case atStart =>
  obtain ⟨s1,s2,s3,s4,s5⟩ :=ST.out
  exact ⟨0,own,rfl,Nat.zero_le _,HE.out,s1,s2,⟨.slice none 0 0,[],s3.1,s3.2,World.ownsRow_nil _ _ _ _,fun j hj =>by cases hj⟩,s4.weaken fun _ _ h =>h.elim,s5.1,s5.2⟩
 case round =>
  obtain ⟨k,ow,rfl,hkl,hE,s1,s2,⟨ov,xs,o1,o2,o3,o4⟩,hM,hS,hZ0⟩ :=hrel
  have HM :=Hd hM
  have S1 :=Hd s1
  have S2 :=Hd s2
  have O1 :=Hd o1
  have O2 :=Hd o2
  have O3 :=Hd o3
  have O4 :=Hd o4
  by_cases hlt:k<l.length
  ·have hki:(k:Int)<l.length :=by omega
   obtain ⟨b,off,rfl,c0,c1,c2,c3⟩ :=(OdL.mods HL.out hM fun j hj h =>hvo (h ▸ hj)).at k hlt
   have hoo :=HOK.out l[k] (List.getElem_mem hlt)
   have hII :=HI.out k hkl
   have HST :=Hd (Zab c hlt)
   generalize l[k]=o at *
   generalize hER:Z05 c (l.take k)=ER at *
   have HAP :=Hd (Zpe (hE.keeps ((Mods.refl (fun _ =>False) wr).alloc (odB o))) HV.out h9 h18 o hoo hII (by omega) (by omega))
   obtain ⟨kd,ix,tg,am⟩ :=o
   clear hE s1 s2 o1 o2 o3 o4 hM hER hoo hII
   go_wp2_with fail
   refine HAP.out.mono ?_
   rintro r w4 ⟨aa,ac,pa,pc,rfl,own2,hE2,hX2, -, -⟩
   obtain ⟨hs2,hz2⟩ :=hX2.at (Z02 S1.out.1 _) S1.out.2
   obtain ⟨hs3,hz3⟩ :=hX2.at (Z02 S2.out.1 _) S2.out.2
   obtain ⟨ho1,ho2⟩ :=hX2.at (Z02 O1.out _) O2.out
   have ho3 :=hX2.owns (O3.out.alloc _) fun j hj =>(O4.out j hj).1
   have hm4:Mods (fun i =>i=ob) w w4 :=(HM.out.trans ((Mods.refl _ wr).alloc _)).seq hX2.mods fun i hi h =>absurd (hZ0 i (by rw [HZ.out]; exact hi)) h
   have hsz4:z+3≤w4.heap.size :=Nat.le_trans hS (by have :=hX2.mods.size; rw [World.size_alloc] at this; omega)
   have ho4:∀ j,ov.ownBlock=some j→own2 j=0∧z+3≤j :=fun j hj =>⟨(hX2.old j (by have :=(O3.out.lt j hj).2; rw [World.size_alloc]; omega)).trans (O4.out j hj).1,(O4.out j hj).2⟩
   have HKR :=Hd (fun kd cd ix bl ep dl an pn vs =>Zi1 (.pointer (some ⟨e,0,none⟩)) kd cd ix bl ep dl aa an ac pa pn pc vs ob ov z k xs w4 ho1 ho3 (by omega) (by omega) hob)
   have hzz:∀ i,i<z→own2 i=0 :=fun i hi =>(hX2.old i (by rw [World.size_alloc]; omega)).trans (hZ0 i hi)
   have hex:∃ EN,EN=Z05 c (l.take (k+1))∧Z3w c ER ⟨kd,ix,tg,am⟩=EN :=⟨_,rfl,HST.out.symm⟩
   obtain ⟨EN,hEN,hEq⟩ :=hex
   rw [hEq] at hE2 ⊢
   have HEN :=Hd hEN
   have HE2 :=Hd hE2
   have HS2 :=Hd hs2
   have HS3 :=Hd hs3
   have HM4 :=Hd hm4
   have HO4 :=Hd ho4
   have HZZ :=Hd hzz
   generalize (apX c ER ⟨kd,ix,tg,am⟩)=AX at *
   generalize (apA c ER ⟨kd,ix,tg,am⟩).length=AN at *
   generalize (apP c ER ⟨kd,ix,tg,am⟩).length=PN at *
   generalize (apN c ER ⟨kd,ix,tg,am⟩)=VN at *
   obtain ⟨x1,x2,x3⟩ :=AX
   clear hE2 hs2 hs3 ho1 ho3 hm4 ho4 hzz hX2 hEN hEq HST
   go_wp2_with fail
   refine (HKR.out _ _ _ _ _ _ _ _ _).mono ?_
   rintro r w5 ⟨rfl,ov',xs',q1,q2,q3,q4⟩
   have hE5:Z0i own2 w5 e c (Z05 c (l.take (k+1))) p (400000 * (k+1)) :=by
    rw [← HEN.out,Nat.mul_succ]
    exact EngBut.loc HE2.out q4 fun i _ h =>by
     rcases h with h | h
     ·rw [h]; exact ho2
     ·exact (HO4.out i h).1
   have hnz:∀ i,z≤i→i<z+3→¬ (i=ob∨ov.ownBlock=some i) :=fun i h1 h2 h =>by
    rcases h with h | h
    ·omega
    ·have :=(HO4.out i h).2; omega
   have T1 :=Hd (show w5.heap[z+1]? = some (.cells snZ 41 (0,0))∧own2 (z+1)=0 from ⟨q4.at HS2.out (hnz _ (by omega) (by omega)),hz2⟩)
   have T2 :=Hd (show w5.heap[z+1+1]? = some (.cells #[.int .i64 0] 29 (0,0))∧own2 (z+1+1)=0 from ⟨q4.at HS3.out (hnz _ (by omega) (by omega)),hz3⟩)
   have T3 :=Hd (show ∃ ov xs,w5.heap[ob]? = some (siBx ov 66)∧own2 ob=0∧w5.ownsRow z 46 9 ov (k+1) xs∧∀ j,ov.ownBlock=some j→own2 j=0∧z+3≤j from
    ⟨ov',xs',q1,ho2,q2,fun j hj =>by
     rcases q3 j hj with h | h
     ·exact HO4.out j h
     ·exact ⟨HE2.out.new j h,by omega⟩⟩)
   have T4 :=Hd (show Mods (fun i =>i=ob) w w5 from HM4.out.seq q4 fun i hi h =>by
    rcases h with h | h
    ·exact h
    ·have :=(HO4.out i h).2; have :=HZ.out; omega)
   have T5 :=Hd (show z+3≤w5.heap.size from by have :=q4.size; omega)
   have HE5 :=Hd hE5
   clear q1 q2 q3 q4 hE5 hnz ho2 hz2 hz3
   go_wp2_with fail
   go_round
   case rel =>exact ⟨k+1,own2,by go_num,by omega,HE5.out,T1.out,T2.out,T3.out,T4.out,T5.out,HZZ.out⟩
   case measure =>simp only [intOf]; omega
  ·obtain rfl:k=l.length :=by omega
   have hki : ¬ ((l.length:Int)<l.length) :=by omega
   rw [List.take_length] at hE
   have hII :=HI.out l.length (Nat.le_refl _)
   rw [List.take_length] at hII
   have HSN :=Hd (Zrg hE hII.b0 (by have :=hII.b1; omega) HV.out.c13.1)
   obtain ⟨EN,hEN⟩:∃ EN,EN=Z05 c l :=⟨_,rfl⟩
   rw [← hEN] at HSN
   have HEN :=Hd hEN
   clear hEN hE hII s1 s2 o1 o2 o3 o4 hM
   go_wp2_with fail
   refine HSN.out.mono ?_
   rintro r w5 ⟨a1,c1,a2,c2,a3,c3,a4,c4,a5,n5,c5,a6,n6,c6,un,rfl, -, -, -,hk5⟩
   have HK5 :=Hd hk5
   have b5 :=hk5.at S1.out.1 fun h =>h
   clear hk5
   obtain ⟨CS,hCS⟩:∃ CS,CS=snC EN.b (EN.b / c 13) (.slice a1 EN.vs.length c1) EN.led.d EN.led.p EN.led.b (actS EN.vs) (.slice a2 EN.pe.length c2) (.slice a3 EN.fo.length c3) (.slice a4 EN.vo.length c4) (.slice a5 n5 c5) (.slice a6 n6 c6) EN.cur EN.car un :=⟨_,rfl⟩
   have h15:CS.size=15 :=by rw [hCS]; rfl
   have hone:CS.all (fun x =>x.oneCell')=true :=by rw [hCS]; simp [Value.oneCell']
   rw [← hCS]
   have HCS :=Hd hCS
   clear hCS
   go_wp2_with ((with_reducible refine Z1a ?_); refine Z8p rfl _ _ rfl (z+1) CS snZ rfl rfl b5 (by rw [h15]; rfl) h15 hone ?_; refine Z0e.out ?_)
   refine Z0e.mk ?_
   intro w6 b6 hm6
   have d6 :=hm6.at (HK5.out.at S2.out.1 fun h =>h) (show ¬ (z+1+1=z+1) by omega)
   have e6:w6.cell? ⟨z+1+1,0,none⟩=some (.int .i64 0) :=by simp [World.cell?,d6]
   have f6:w6.frozen? ⟨z+1+1,0,none⟩=false :=by simp [World.frozen?,d6]
   have B6 :=Hd b6
   have D6 :=Hd d6
   have HM6 :=Hd hm6
   clear b6 d6 hm6 b5
   go_wp2
   refine leaves_cons (f :=102) (args := #[.pointer (some ⟨z+1,0,none⟩), .pointer (some ⟨z+1+1,0,none⟩)]) (by simp) (by simp [go_sem]) ?_
   refine (Zlf ⟨z+1,0,none⟩ ⟨z+1+1,0,none⟩ _).mono ?_
   rintro e' u' w7 ⟨rfl,rfl,rfl⟩
   have hm8:Mods (fun i =>i=z+1+1) w6 (w6.setCell ⟨z+1+1,0,none⟩ (.int .i64 0)) :=(Mods.refl _ w6).setCell _ _ fun _ =>rfl
   have b8 :=hm8.at B6.out (show ¬ z+1=z+1+1 by omega)
   have d8 :=heap_setCell_same w6 (z+1+1) 0 _ _ (.int .i64 0) D6.out
   have c8:(w6.setCell ⟨z+1+1,0,none⟩ (.int .i64 0)).cell? ⟨z+1+1,0,none⟩=some (.int .i64 0) :=by simp [World.cell?,d8]
   have hmz:Mods (fun i =>i=z+1∨i=z+1+1) wr (w6.setCell ⟨z+1+1,0,none⟩ (.int .i64 0)) :=((HM6.out.seq' HK5.out).weaken fun i _ h =>.inl h).trans (hm8.weaken fun i _ h =>.inr h)
   generalize w6.setCell ⟨z+1+1,0,none⟩ (.int .i64 0)=w8 at *
   refine ⟨.tuple #[.agg CS, .int .i64 0],Z84 rfl _ _ (z+1) 41 CS (0,0) _ (z+1+1) (.int .i64 0) rfl rfl b8 Tryz.underlying41 rfl (by rw [Z96,h15]) ?_, ?_⟩
   ·go_simp
   ·have h :=HEN.out
    subst h
    refine ⟨⟨_,_,_,_,_,_,_,_,by rw [HCS.out],by have h :=hone; rw [HCS.out] at h; exact h⟩,⟨ov,xs,hmz.at O1.out (by omega), ?_⟩,HM.out.seq hmz fun i hi h =>by have :=HZ.out; omega⟩
    rw [← HZ.out]
    exact hmz.owns O3.out fun j hj h =>by have :=(O4.out j hj).2; omega
end Go.Proofs.YtecapfmmoejikaaGreat
