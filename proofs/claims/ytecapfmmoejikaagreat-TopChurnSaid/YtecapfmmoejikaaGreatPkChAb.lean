/- A part of the proof of TopChurn: Chu Twp Tch. -/
import Derived.Test.YtecapfmmoejikaaGreatPkChAa
import Derived.Test.YtecapfmmoejikaaGreatPkBq
import Derived.Test.YtecapfmmoejikaaGreatPkChAc
set_option maxRecDepth 4000
set_option maxHeartbeats 8000000
namespace Go.Proofs.YtecapfmmoejikaaGreat
open Go.RowKit Go.Eg
theorem leaveS_append (ep:Int):∀ a b:List Vd,leaveS ep (a ++ b)=leaveS ep a+leaveS ep b
 | [],b =>by simp [leaveS]
 | v :: a,b =>by simp only [List.cons_append,leaveS,leaveS_append ep a b]; omega
theorem leaveS_step (ep:Int) {l:List Vd} {j:Nat} (hj:j<l.length):leaveS ep (l.take (j+1))=leaveS ep (l.take j)+(if l[j].st=3∧l[j].ex=ep then l[j].bal else 0) :=by
 rw [List.take_succ_eq_append_getElem hj,leaveS_append]
 simp [leaveS]
theorem leaveS_nn (ep:Int):∀ l:List Vd,(∀ v∈l,0≤v.bal)→0≤leaveS ep l
 | [],_ =>Int.le_refl _
 | v :: l,h =>by
  have :=leaveS_nn ep l fun x hx =>h x (List.mem_cons_of_mem _ hx)
  have h0 :=h v List.mem_cons_self
  simp only [leaveS]
  split <;> omega
theorem leaveS_take (ep:Int) (l:List Vd) (j:Nat) (h:∀ v∈l,0≤v.bal):0≤leaveS ep (l.take j)∧leaveS ep (l.take j)≤leaveS ep l :=by
 have h1 :=leaveS_nn ep (l.take j) fun v hv =>h v (List.mem_of_mem_take hv)
 have h2 :=leaveS_nn ep (l.drop j) fun v hv =>h v (List.mem_of_mem_drop hv)
 have h3 :=leaveS_append ep (l.take j) (l.drop j)
 rw [List.take_append_drop] at h3
 omega
theorem sumT_mono {ws:List Int} (hw:∀ x∈ws,0≤x) (j:Nat):∀ d:Nat,sumT ws j≤sumT ws (j+d)
 | 0 =>Int.le_refl _
 | d+1 =>by
  have ih :=sumT_mono hw j d
  by_cases h:j+d<ws.length
  ·have :=Zco ws (j+d) h
   have :=hw _ (List.getElem_mem h)
   rw [← Nat.add_assoc]
   omega
  ·have e:sumT ws (j+(d+1))=sumT ws (j+d) :=by
    unfold sumT
    rw [List.take_of_length_le (by omega),List.take_of_length_le (by omega)]
   omega
theorem actE_car (c:Nat→Int) (E:En) (o:Od):(actE c E o).car=E.car :=by
 unfold actE
 repeat' split
 ·unfold Z73; split <;> rfl
 ·unfold Z18; split <;> rfl
 ·unfold Z18; split <;> rfl
 ·unfold Z1e Z3f; split
  ·split
   ·rfl
   ·split <;> rfl
  ·rfl
 ·unfold Z4p; split <;> rfl
 ·unfold Z4q; split <;> rfl
 ·rfl
structure ChF (c:Nat→Int) (E E':En) (O:List As) (S:Nat→Int):Prop where
 s0:S 0=0
 st:∀ j (hj:j<O.length),inR E.vs O[j].1∧S (j+1)=S j+(vAt E.vs O[j].1).bal
 nn:∀ j,j≤O.length→0≤S j
 le:∀ j,j≤O.length→S j≤chMost c E
 mx:chMost c E≤maxU
 e0:E'.fo ++ E'.vo = []→E'.car=0
 e1:∀ h:0<(E'.fo ++ E'.vo).length,E'.car=chMost c E - S O.length∧inR E.vs (E'.fo ++ E'.vo)[0]∧E'.car<(vAt E.vs (E'.fo ++ E'.vo)[0]).bal
theorem Inv.chf {c:Nat→Int} (hV:Vld c) {E:En} {n:Nat} (h:Inv c E n) (hm:(E.b+1) % c 13=0) :
 ChF c E (Zan c E) (Zbw c E) (sumT (asgW (Z26 E.vs) E.fo E.vo)) :=by
 obtain ⟨hO,hfo,hvo,hcar, -⟩ :=h.churn hV hm
 obtain ⟨hK,hs0,hs1,hmx,hat,hnx⟩ :=h.churnS hV
 have hnn:∀ x∈Z26 E.vs,0≤x :=fun x hx =>by
  obtain ⟨v,hv,rfl⟩ :=List.mem_map.1 hx
  exact h.nn v hv
 have hw0:∀ x∈asgW (Z26 E.vs) E.fo E.vo,0≤x :=fun x hx =>by
  unfold asgW at hx
  obtain ⟨i,_,rfl⟩ :=List.mem_map.1 hx
  exact Zhc hnn i
 have hlen:(asgW (Z26 E.vs) E.fo E.vo).length=(E.fo ++ E.vo).length :=by unfold asgW; rw [List.length_map]
 have hol:(Zbw c E).length=chK c E :=by rw [hO,Za6]
 have hat1:∀ j (hj:j<(Zbw c E).length),(Zbw c E)[j].1=(E.fo ++ E.vo).getD j 0 :=fun j hj =>by
  simp only [hO,Z1p,List.getElem_map,List.getElem_range]
 have hq:(Zan c E).fo ++ (Zan c E).vo=(E.fo ++ E.vo).drop (chK c E) :=by rw [hfo,hvo,Zkc]
 refine ⟨Z6n _,fun j hj =>?_,fun j hj =>?_,fun j hj =>?_,hmx,fun he =>?_,fun hp =>?_⟩
 ·rw [hat1 j hj]
  have hj2:j<(E.fo ++ E.vo).length :=by omega
  obtain ⟨a,b⟩ :=hat j hj2
  refine ⟨a, ?_⟩
  rw [Zco _ j (by omega)]
  rw [List.getElem?_eq_getElem (show j<(asgW (Z26 E.vs) E.fo E.vo).length by omega)] at b
  injection b with b
  rw [b]
 ·have :=sumT_mono hw0 0 j
  rw [Z6n,Nat.zero_add] at this
  exact this
 ·have :=sumT_mono hw0 j (chK c E - j)
  rw [show j+(chK c E - j)=chK c E by omega] at this
  omega
 ·rw [hcar]
  rw [hq] at he
  have:((E.fo ++ E.vo).drop (chK c E)).length=0 :=by rw [he]; rfl
  rw [List.length_drop] at this
  rw [if_pos (by omega)]
 ·have hp2:chK c E<(E.fo ++ E.vo).length :=by
   rw [hq,List.length_drop] at hp
   omega
  have e:((Zan c E).fo ++ (Zan c E).vo)[0]=(E.fo ++ E.vo).getD (chK c E) 0 :=by
   simp only [hq,List.getElem_drop,Nat.add_zero]
   rw [List.getD,List.getElem?_eq_getElem hp2]
   rfl
  rw [e,hcar,if_neg (by omega),hol]
  exact ⟨rfl,(hat _ hp2).1,hnx hp2⟩
theorem tick_ep {c:Nat→Int} (hV:Vld c) (E:En):(Zan c E).b / c 13=E.b / c 13↔(E.b+1) % c 13≠0 :=by
 rw [Zkg]
 obtain ⟨h1,h2⟩ :=Zm8 (b :=E.b) hV.c13.1
 refine ⟨fun h e =>?_,fun h =>h2 h⟩
 have :=h1 e
 omega
theorem churn_still {c:Nat→Int} (hV:Vld c) (E:En) (o:Od) (h : ¬ (o.kd=7∧(E.b+1) % c 13=0)):apA c E o = []∧(Z3w c E o).car=E.car∧(o.kd≠7∨(Z3w c E o).b / c 13=E.b / c 13) :=by
 unfold apA Z3w
 by_cases e:o.kd=7
 ·have hm:(E.b+1) % c 13≠0 :=fun h2 =>h ⟨e,h2⟩
  obtain ⟨h1, -, -,h4, -⟩ :=churn_no hm
  rw [if_pos e,if_pos e]
  exact ⟨h1,h4, .inr ((tick_ep hV E).2 hm)⟩
 ·rw [if_neg e,if_neg e]
  exact ⟨rfl,actE_car c E o, .inl e⟩
theorem act_rng {c:Nat→Int} {E:En} {n:Nat} (hI:Inv c E n) (ep:Int) (j:Nat):0≤actS E.vs - leaveS ep (E.vs.take j)∧actS E.vs - leaveS ep (E.vs.take j)≤maxU :=by
 obtain ⟨a1,a2⟩ :=leaveS_take ep E.vs j hI.nn
 have a3 :=(leave_nonneg ep E.vs hI.nn).2
 have a4 :=(Z3n E.vs hI.nn).2
 have a5 :=hI.sum
 have a6 :=hI.lok
 have b1 :=a6.p0; have b2 :=a6.b0; have b3 :=a6.d1
 simp only [Led.sup] at a5
 omega
theorem churn_len {c:Nat→Int} (hV:Vld c) {E:En} {n:Nat} (hI:Inv c E n) (hn:n≤9000) (o:Od):(apA c E o).length≤10000 :=by
 unfold apA
 split
 ·by_cases hm:(E.b+1) % c 13=0
  ·have h1 :=(hI.churnS hV).1
   obtain ⟨M, -,h2⟩ :=hI.bk
   rw [(hI.churn hV hm).1,Za6]
   omega
  ·rw [(churn_no hm).1]
   exact Nat.zero_le _
 ·exact Nat.zero_le _
theorem churn_go {c:Nat→Int} (hV:Vld c) {E:En} {n:Nat} (hI:Inv c E n) (o:Od) (h7:o.kd=7) (hm:(E.b+1) % c 13=0):(Z3w c E o).b / c 13=E.b / c 13+1∧ChF c E (Z3w c E o) (apA c E o) (sumT (asgW (Z26 E.vs) E.fo E.vo)) :=by
 have e1:Z3w c E o=Zan c E :=if_pos h7
 have e2:apA c E o=Zbw c E :=if_pos h7
 rw [e1,e2,Zkg]
 exact ⟨(Zm8 hV.c13.1).1 hm,hI.chf hV hm⟩
theorem ticks_ok {l:List Od} {n:Nat} (h:∀ x∈l,x.ok):∀ x∈l ++ List.replicate n ⟨7,0,0,0⟩,x.ok :=by
 intro x hx
 rcases List.mem_append.1 hx with hx | hx
 ·exact h x hx
 ·rw [List.eq_of_mem_replicate hx]
  exact ⟨by decide,by decide,by decide,by decide⟩
theorem owns_some {w:World} {B:Nat} {e:TypeId} {s n:Nat} {v:Value} {xs:List Value} (h:w.ownsRow B e s v n xs) (hn:0<n):∃ g cap,v = .slice (some ⟨g,0,none⟩) n cap∧B≤g∧g<w.heap.size :=by
 have hl :=h.lt
 rcases h.2 with ⟨rfl,h0⟩ | ⟨g,cap,cur,rfl,hg,hh,r⟩
 ·omega
 ·exact ⟨g,cap,rfl,(hl g rfl).1,(hl g rfl).2⟩
theorem topChurn_walk (c:Nat→Int) (v:Value) (w:World) (w0:∀ (i:Nat) (k:IntKind),Zlu[i]? = some k→(Lit.int k (c i)).wf=true) (w1:∃ l,OdL w v l∧l.length≤9223372036854775807∧∀ x∈l,x.ok) :
 Calls Tryz.prog 3 #[cfgV c,v] w fun r w' =>r = .returned (.bool true)∧Below w.heap.size w w' :=by
 obtain ⟨h9,h18⟩ :=Zpz w0
 obtain ⟨l,hl,hll,hok⟩ :=w1
 have HL :=Hd hl
 have HOK :=Hd hok
 obtain ⟨va,vc,rfl⟩ :=hl.slice
 have HF :=Hd (fun w =>Zod c va l.length vc w hll)
 have HR :=Hd (fun w =>Zqh w)
 have hx :=heap_alloc_last w (.cells (cfgC c) 24)
 clear hl hok w0
 go_enter Tryz.func3,Tryz.ntmps3
 go_wp2_with ((with_reducible refine Z1a ?_); (refine Z03 rfl 24 _ rfl w.heap.size rfl 24 (cfgC c) (0,0) _ Tryz.underlying24 rfl Z0m hx ?_))
 refine (HF.out _).mono ?_
 rintro r w1 ⟨hr,hk1⟩
 have hk:Z00 w w1 :=((Mods.refl _ w).alloc _).keep hk1
 have hz1 :=hk1.at hx fun h =>h
 obtain ⟨z,hz⟩:∃ z,z=w.heap.size :=⟨_,rfl⟩
 rw [← hz] at hz1 ⊢
 have HZ :=Hd hz
 have HK :=Hd hk
 have HZ1 :=Hd hz1
 rcases hr with rfl | ⟨rfl,hfit⟩
 ·clear hk1 hx hk hz1 hz
  go_wp2_with fail
  refine (HR.out _).mono ?_
  rintro r w2 ⟨rfl,hk2⟩
  have HKK :=Hd (HK.out.keep hk2)
  clear hk2
  go_wp2
  go_ret
  exact ⟨rfl,HKK.out.below'⟩
 ·have hV :=Zog hfit.chk
  have HV :=Hd hV
  have HN :=Hd (fun w =>eNew c w hV hfit.chk)
  have hn4 :=hfit.n
  have HCL :=Hd (fun w' (hk:Z00 w w') =>Zn5 (.slice va l.length vc) l w' (HL.out.keeps hk) (by omega))
  have HTK :=Hd (fun w =>Zhz 20 w (by omega) (by omega))
  clear hk1 hx hk hz1 hz hV hfit
  have hz1 :=HZ1.out
  go_wp2_with ((with_reducible refine Z1a ?_); (refine Z03 rfl 24 _ rfl z rfl 24 (cfgC c) (0,0) _ Tryz.underlying24 rfl Z0m hz1 ?_))
  refine (HN.out _).mono ?_
  rintro r w2 ⟨e,p,own,rfl,hE,hX⟩
  have HE :=Hd hE
  have ST :=Hd (show (w2.heap[z]? = some (.cells (cfgC c) 24 (0,0))∧own z=0)∧Z00 w w2∧∀ i,i<z→own i=0 from
   ⟨hX.at HZ1.out rfl,HK.out.seq hX.mods fun i _ h =>absurd rfl h,fun i hi =>hX.old i (Nat.lt_trans hi (Z0a HZ1.out))⟩)
  clear hE hX hz1
  go_wp2_with fail
  refine (HCL.out _ ST.out.2.1).mono ?_
  rintro r w4 ⟨v4,rfl,ho4,hk4⟩
  obtain ⟨a4,c4,rfl⟩ :=Z0c ho4
  have HO4 :=Hd ho4
  have HK4 :=Hd hk4
  clear ho4 hk4
  go_wp2_with fail
  refine (HTK.out _).mono ?_
  rintro r w5 ⟨v5,rfl,ho5,hk5⟩
  obtain ⟨a5,c5,rfl⟩ :=Z0c ho5
  have hv5 :=OdL.of_owns (l :=List.replicate 20 ⟨7,0,0,0⟩) ho5
  obtain ⟨T,hT⟩:∃ T,T=List.replicate 20 (⟨7,0,0,0⟩:Od) :=⟨_,rfl⟩
  rw [← hT] at hv5
  have HV5 :=Hd hv5
  have hTl:T.length=20 :=by rw [hT]; exact List.length_replicate
  have HT :=Hd hT
  have HO5 :=Hd (hk5.owns HO4.out fun _ _ h =>h)
  have HK5 :=Hd (HK4.out.keep hk5)
  clear ho5 hk5 hv5 hT
  go_wp2_with (at_builtin; refine Zah _ rfl (.tmp 34) (.tmp 35) rfl w2.heap.size (.slice a4 l.length c4) l T rfl HO5.out _ rfl HV5.out (by omega) HK5.out.size ?_; refine Z0e.out ?_)
  refine Z0e.mk ?_
  intro v6 w6 ho6 hg6
  have hk6:Z00 w2 w6 :=HK5.out.grown hg6 fun j hj e =>by have :=(HO4.out.lt j e).1; omega
  obtain ⟨L,hL⟩:∃ L,L=l ++ T :=⟨_,rfl⟩
  have ho6:w6.ownsRow w2.heap.size 34 4 v6 L.length (Z15 L) :=by rw [hL,List.length_append,hTl]; exact ho6
  have hLn:L.length=l.length+20 :=by rw [hL,List.length_append,hTl]
  have HLK :=Hd (show ∀ x∈L,x.ok by rw [hL,HT.out]; exact ticks_ok HOK.out)
  obtain ⟨gl,cl,rfl,hgl1,hgl2⟩ :=owns_some ho6 (by omega)
  have HOL :=Hd (show OdL w6 (.slice (some ⟨gl,0,none⟩) L.length cl) L∧own gl=0∧gl<w6.heap.size from ⟨OdL.of_owns ho6,HE.out.new gl hgl1,hgl2⟩)
  have HI :=Hd (Inv.run HV.out h18 L (by omega) HLK.out)
  have HE6 :=Hd (HE.out.keeps hk6)
  have HZ6 :=Hd (hk6.at ST.out.1.1 fun h =>h)
  have HM6 :=Hd (ST.out.2.1.keep hk6)
  have hLm:L.length≤420 :=by omega
  clear ho6 hg6 hk6 hL hTl hgl1 hgl2 hLn HO4 HV5 HO5 HK5
  go_wp2
  go_loopw [38] (fun i wr => ∃ (k:Nat) (own:Nat→Nat),i = .int .i64 (k:Int)∧k≤L.length∧Z0i own wr e c (Z05 c (L.take k)) p (400000 * k)∧(wr.heap[z]? = some (.cells (cfgC c) 24 (0,0))∧own z=0)∧(OdL wr (.slice (some ⟨gl,0,none⟩) L.length cl) L∧own gl=0∧gl<wr.heap.size)∧Z00 w wr∧∀ i,i<z→own i=0) (fun i _ =>L.length - (intOf i).toNat)
  case atStart =>exact ⟨0,own,rfl,Nat.zero_le _,HE6.out,⟨HZ6.out,ST.out.1.2⟩,HOL.out,HM6.out,ST.out.2.2⟩
  case round =>
   obtain ⟨k,ow,rfl,hkl,hE,hZB,hO,hM,hZ0⟩ :=hrel
   have HZB :=Hd hZB
   have HO :=Hd hO
   have HM :=Hd hM
   have HZ0 :=Hd hZ0
   by_cases hlt:k<L.length
   ·have hki:(k:Int)<L.length :=by omega
    obtain ⟨b,off,hab,c0,c1,c2,c3⟩ :=hO.1.at k hlt
    simp only [Option.some.injEq,Addr.mk.injEq,and_true] at hab
    obtain ⟨rfl,rfl⟩ :=hab
    simp only [Nat.zero_add] at c0 c1 c2 c3
    have hoo :=HLK.out L[k] (List.getElem_mem hlt)
    have HST :=Hd (Zab c hlt)
    generalize L[k]=o at *
    have HI0 :=Hd (HI.out k hkl)
    have HI1 :=Hd (HI.out (k+1) hlt)
    obtain ⟨EN,hEN⟩:∃ EN,EN=Z05 c (L.take (k+1)) :=⟨_,rfl⟩
    rw [← hEN] at HI1
    have HEN :=Hd hEN
    obtain ⟨E0,hE0⟩:∃ E0,E0=Z05 c (L.take k) :=⟨_,rfl⟩
    rw [← hE0] at HI0 hE
    have HST0 :=Hd (show EN=Z3w c E0 o by rw [hEN,hE0]; exact HST.out)
    have HEW :=Hd hE
    have HOO :=Hd hoo
    have HSN :=Hd (Zrg (hE.keeps ((Mods.refl (fun _ =>False) wr).alloc (odB o))) HI0.out.b0 (by have :=HI0.out.b1; omega) HV.out.c13.1)
    obtain ⟨kd,ix,tg,am⟩ :=o
    have hN:400000 * k+500000<4294967296 :=by omega
    have hk9:k≤9000 :=by omega
    have HN1 :=Hd (And.intro hN hk9)
    have HLT :=Hd hlt
    clear hE hM hZ0 hoo HST hEN hE0 hZB hO hN hk9
    go_wp2_with fail
    refine HSN.out.mono ?_
    rintro r w3 ⟨a1,c1',a2,c2',a3,c3',a4,c4',a5,n5,c5',a6,n6,c6',un0,rfl,hvl, -, -,hk3⟩
    obtain ⟨AC,hAC⟩:∃ x,x=actS E0.vs :=⟨_,rfl⟩
    rw [← hAC]
    have HAC :=Hd hAC
    have HVL :=Hd (VL.of_owns hvl)
    have HVB :=Hd (fun k hk =>(hvl.lt k hk).1)
    have HK3 :=Hd (((Mods.refl (fun _ =>False) wr).alloc (odB ⟨kd,ix,tg,am⟩)).keep hk3)
    have HOB :=Hd (hk3.at (heap_alloc_last wr (odB ⟨kd,ix,tg,am⟩)) fun h =>h)
    clear hvl hk3 hAC c0 c1 c2 c3
    go_upto_region 10 with ((with_reducible refine Z1a ?_); (refine Z2c (t :=41) (old :=snZ) (cs :=snC E0.b (E0.b / c 13) (.slice a1 E0.vs.length c1') E0.led.d E0.led.p E0.led.b AC (.slice a2 E0.pe.length c2') (.slice a3 E0.fo.length c3') (.slice a4 E0.vo.length c4') (.slice a5 n5 c5') (.slice a6 n6 c6') E0.cur E0.car un0) rfl 41 _ _ rfl rfl rfl Z96 rfl rfl ?_))
    try go_frame
    refine Z0l ?_
    intro WA hWA
    have HS1 :=Hd (show WA.heap[w3.heap.size]? = some (.cells (snC E0.b (E0.b / c 13) (.slice a1 E0.vs.length c1') E0.led.d E0.led.p E0.led.b AC (.slice a2 E0.pe.length c2') (.slice a3 E0.fo.length c3') (.slice a4 E0.vo.length c4') (.slice a5 n5 c5') (.slice a6 n6 c6') E0.cur E0.car un0) 41 (0,0)) from Z0g hWA)
    have hkA :=Z0f hWA
    obtain ⟨s1,hs1⟩:∃ x,x=w3.heap.size :=⟨_,rfl⟩
    rw [← hs1] at HS1 ⊢
    obtain ⟨ob,hob⟩:∃ x,x=wr.heap.size :=⟨_,rfl⟩
    rw [← hob] at HOB ⊢
    have HKA :=Hd (HK3.out.keep hkA)
    have HVA :=Hd (HVL.out.keeps hkA)
    have hoA :=hkA.at HOB.out fun h =>h
    obtain ⟨d0,d1,d2,d3⟩ :=Z2q hoA
    have hobs :=Z0a hoA
    have HOA :=Hd hoA
    have HSZ :=Hd (show wr.heap.size=ob∧ob<s1∧s1<WA.heap.size from ⟨hob.symm,by rw [hs1]; exact Z0a HOB.out,Z0a HS1.out⟩)
    have HAP :=Hd (Zpe (HEW.out.keeps HKA.out) HV.out h9 h18 ⟨kd,ix,tg,am⟩ HOO.out HI0.out HN1.out.2 HN1.out.1)
    rw [← HST0.out] at HAP
    clear hWA hkA hs1 hob hoA
    go_wp2_with fail
    refine HAP.out.mono ?_
    rintro r w4 ⟨aa,ac,pa,pc,rfl,own2,hE2,hX2,hra, -⟩
    have hnew:∀ i,ob≤i→ow i=0 :=fun i hi =>HEW.out.new i (by have :=HSZ.out.1; omega)
    have HOB4 :=Hd (hX2.at HOA.out (hnew ob (Nat.le_refl _)))
    have HS14 :=Hd (hX2.at HS1.out (hnew s1 (by have :=HSZ.out.2.1; omega)))
    have HZ4 :=Hd (hX2.at (HKA.out.at HZB.out.1 fun h =>h) HZB.out.2)
    have HVL4 :=Hd (HVA.out.mods hX2.mods fun k hk e =>e (hnew k (by have h1 :=HVB.out k hk; have :=HSZ.out.1; rw [World.size_alloc] at h1; omega)))
    have hgls:gl<WA.heap.size :=Nat.lt_of_lt_of_le HO.out.2.2 HKA.out.size
    have HO4 :=Hd (show OdL w4 (.slice (some ⟨gl,0,none⟩) L.length cl) L∧own2 gl=0∧gl<w4.heap.size from
     ⟨(HO.out.1.keeps HKA.out).mods hX2.mods fun k hk e =>by cases hk; exact e HO.out.2.1,(hX2.old gl hgls).trans HO.out.2.1,Nat.lt_of_lt_of_le hgls hX2.mods.size⟩)
    have HM4 :=Hd (show Z00 w w4 from (HM.out.keep HKA.out).seq hX2.mods fun i hi h =>absurd (HZ0.out i (by rw [HZ.out]; exact hi)) h)
    have HZZ :=Hd (show ∀ i,i<z→own2 i=0 from fun i hi =>(hX2.old i (by have :=HM.out.size; have :=HZ.out; have :=HSZ.out; omega)).trans (HZ0.out i hi))
    have HRA :=Hd hra
    have HE2 :=Hd hE2
    obtain ⟨AO,hAO⟩:∃ x,x=apA c E0 ⟨kd,ix,tg,am⟩ :=⟨_,rfl⟩
    rw [← hAO] at HRA ⊢
    have HAO :=Hd hAO
    obtain ⟨AN,hAN⟩:∃ x,x=AO.length :=⟨_,rfl⟩
    rw [← hAN] at HRA ⊢
    have HAN :=Hd hAN
    generalize (apX c E0 ⟨kd,ix,tg,am⟩)=AX at *
    generalize (apP c E0 ⟨kd,ix,tg,am⟩).length=PN at *
    generalize (apN c E0 ⟨kd,ix,tg,am⟩)=VN at *
    obtain ⟨x1,x2,x3⟩ :=AX
    have HSN2 :=Hd (fun (w':World) (hk:Z00 w4 w') =>Zrg (HE2.out.keeps hk) HI1.out.b0 (by have :=HI1.out.b1; have :=HN1.out; omega) HV.out.c13.1)
    clear hE2 hX2 hra hAO hAN hnew hgls d0 d1 d2 d3 hobs
    go_upto_region 11 with ((with_reducible refine Z1a ?_); (refine Z2c (t :=46) (old :=rcC 0 0 0 0 0 0 (.slice none 0 0) (.slice none 0 0) 0) (cs :=rcC kd x1 x2 EN.b (EN.b / c 13) x3 (.slice aa AN ac) (.slice pa PN pc) VN) rfl 46 _ _ rfl rfl rfl Z9u rfl rfl ?_))
    try go_frame
    refine Z0l ?_
    intro WB hWB
    have HR1 :=Hd (show WB.heap[w4.heap.size]? = some (.cells (rcC kd x1 x2 EN.b (EN.b / c 13) x3 (.slice aa AN ac) (.slice pa PN pc) VN) 46 (0,0)) from Z0g hWB)
    have HKB :=Hd (Z0f hWB)
    obtain ⟨r1,hr1⟩:∃ x,x=w4.heap.size :=⟨_,rfl⟩
    rw [← hr1] at HR1 ⊢
    clear hWB hr1
    go_wp2_with fail
    refine (HSN2.out _ HKB.out).mono ?_
    rintro r w5 ⟨b1,e1',b2,e2',b3,e3',b4,e4',b5,m5,e5',b6,m6,e6',un1,rfl, -,hfo,hvo,hk5⟩
    have HFO :=Hd hfo
    have HVO :=Hd hvo
    have HK5 :=Hd (HKB.out.keep hk5)
    have HR5 :=Hd (hk5.at HR1.out fun h =>h)
    clear hfo hvo hk5
    go_upto_region 12 with ((with_reducible refine Z1a ?_); (refine Z2c (t :=41) (old :=snZ) (cs :=snC EN.b (EN.b / c 13) (.slice b1 EN.vs.length e1') EN.led.d EN.led.p EN.led.b (actS EN.vs) (.slice b2 EN.pe.length e2') (.slice b3 EN.fo.length e3') (.slice b4 EN.vo.length e4') (.slice b5 m5 e5') (.slice b6 m6 e6') EN.cur EN.car un1) rfl 41 _ _ rfl rfl rfl Z96 rfl rfl ?_))
    try go_frame
    refine Z0l ?_
    intro WC hWC
    have HS2 :=Hd (show WC.heap[w5.heap.size]? = some (.cells (snC EN.b (EN.b / c 13) (.slice b1 EN.vs.length e1') EN.led.d EN.led.p EN.led.b (actS EN.vs) (.slice b2 EN.pe.length e2') (.slice b3 EN.fo.length e3') (.slice b4 EN.vo.length e4') (.slice b5 m5 e5') (.slice b6 m6 e6') EN.cur EN.car un1) 41 (0,0)) from Z0g hWC)
    have hkC :=Z0f hWC
    obtain ⟨s2,hs2⟩:∃ x,x=w5.heap.size :=⟨_,rfl⟩
    rw [← hs2] at HS2 ⊢
    have HKC :=Hd (HK5.out.keep hkC)
    have HRC :=Hd (hkC.at HR5.out fun h =>h)
    have HFC :=Hd (hkC.owns HFO.out fun _ _ h =>h)
    have HVC :=Hd (hkC.owns HVO.out fun _ _ h =>h)
    clear hWC hkC hs2 HFO HVO HR5 HR1 HSN2
    have HRAC :=Hd (HKC.out.owns HRA.out fun _ _ h =>h)
    have HVLC :=Hd (HVL4.out.keeps HKC.out)
    have HSC :=Hd (HKC.out.at HS14.out.1 fun h =>h)
    have HOC :=Hd (HKC.out.at HOB4.out.1 fun h =>h)
    have HZC :=Hd (HKC.out.at HZ4.out.1 fun h =>h)
    obtain ⟨EP0,hEP0⟩:∃ x,x=E0.b / c 13 :=⟨_,rfl⟩
    obtain ⟨EP1,hEP1⟩:∃ x,x=EN.b / c 13 :=⟨_,rfl⟩
    rw [← hEP0] at HSC
    rw [← hEP1] at HRC HS2
    -- what lies in the blocks,in any world behind
    have HS :=Hd (fun (w':World) (hk:Z00 WC w') =>(⟨(Z2q (hk.at HOC.out fun h =>h)).1,by rw [cell_of_row _ _ _ _ _ _ (hk.at HSC.out fun h =>h)]; rfl,by rw [cell_of_row _ _ _ _ _ _ (hk.at HSC.out fun h =>h)]; rfl,by rw [cell_of_row _ _ _ _ _ _ (hk.at HSC.out fun h =>h)]; rfl,by rw [cell_of_row _ _ _ _ _ _ (hk.at HSC.out fun h =>h)]; rfl,by rw [cell_of_row _ _ _ _ _ _ (hk.at HRC.out fun h =>h)]; rfl,by rw [cell_of_row _ _ _ _ _ _ (hk.at HRC.out fun h =>h)]; rfl,by rw [cell_of_row _ _ _ _ _ _ (hk.at HS2.out fun h =>h)]; rfl⟩ :
     w'.cell? ⟨ob,0,none⟩=some (.int .i64 kd)∧w'.cell? ⟨s1,1,none⟩=some (.int .i64 EP0)∧w'.cell? ⟨s1,2,none⟩=some (.slice a1 E0.vs.length c1')∧w'.cell? ⟨s1,6,none⟩=some (.int .u64 AC)∧w'.cell? ⟨s1,13,none⟩=some (.int .u64 E0.car)∧w'.cell? ⟨r1,4,none⟩=some (.int .i64 EP1)∧w'.cell? ⟨r1,6,none⟩=some (.slice aa AN ac)∧w'.cell? ⟨s2,13,none⟩=some (.int .u64 EN.car)))
    have HT :=Hd (fun (w':World) (hk:Z00 WC w') =>(⟨by rw [cell_of_row _ _ _ _ _ _ (hk.at HS2.out fun h =>h)]; rfl,by rw [cell_of_row _ _ _ _ _ _ (hk.at HS2.out fun h =>h)]; rfl,by rw [cell_of_row _ _ _ _ _ _ (hk.at HZC.out fun h =>h)]; rfl,by rw [cell_of_row _ _ _ _ _ _ (hk.at HZC.out fun h =>h)]; rfl⟩ :
     w'.cell? ⟨s2,8,none⟩=some (.slice b3 EN.fo.length e3')∧w'.cell? ⟨s2,9,none⟩=some (.slice b4 EN.vo.length e4')∧w'.cell? ⟨z,7,none⟩=some (.int .u64 (c 7))∧w'.cell? ⟨z,8,none⟩=some (.int .u64 (c 8))))
    -- the round's end
    have HEND :=Hd (fun (w':World) (hk:Z00 WC w') =>(⟨HLT.out,by rw [Nat.mul_succ,← HEN.out]; exact HE2.out.keeps (HKC.out.keep hk),⟨hk.at HZC.out fun h =>h,HZ4.out.2⟩,⟨HO4.out.1.keeps (HKC.out.keep hk),HO4.out.2.1,Nat.lt_of_lt_of_le HO4.out.2.2 (HKC.out.keep hk).size⟩,HM4.out.keep (HKC.out.keep hk),HZZ.out⟩ :
     k+1≤L.length∧Z0i own2 w' e c (Z05 c (L.take (k+1))) p (400000 * (k+1))∧(w'.heap[z]? = some (.cells (cfgC c) 24 (0,0))∧own2 z=0)∧(OdL w' (.slice (some ⟨gl,0,none⟩) L.length cl) L∧own2 gl=0∧gl<w'.heap.size)∧Z00 w w'∧∀ i,i<z→own2 i=0))
    by_cases hgo:kd=7∧(E0.b+1) % c 13=0
    ·obtain ⟨rfl,hm⟩ :=hgo
     obtain ⟨hep,hch⟩ :=churn_go HV.out HI0.out ⟨7,ix,tg,am⟩ rfl hm
     rw [← HST0.out,← hEP0,← hEP1] at hep
     rw [← HST0.out,← HAO.out] at hch
     have HCH :=Hd hch
     have HEP :=Hd hep
     have hne:(EP1 == EP0)=false :=by simp; omega
     have HEPE :=Hd hEP0
     clear hm hep hch
     obtain rfl:AN=AO.length :=HAN.out
     generalize sumT (asgW (Z26 E0.vs) E0.fo E0.vo)=SF at HCH
     have HA2 :=Hd (fun j =>act_rng HI0.out EP1 j)
     rw [← HAC.out] at HA2
     obtain ⟨g0,g1,g2,g3, -,g4, -, -⟩ :=HS.out WC (Mods.refl _ _)
     have hln:E0.vs.length≤4096 :=by have :=HI0.out.len; have :=HV.out.c0; omega
     have hal:AO.length≤10000 :=by rw [HAO.out]; exact churn_len HV.out HI0.out HN1.out.2 _
     clear hEP0 hEP1
     go_wp2_with fail
     go_loopw [12,75] (fun a i wi => ∃ j:Nat,i = .int .i64 (j:Int)∧j≤E0.vs.length∧a = .int .u64 (AC - leaveS EP1 (E0.vs.take j))∧Z00 WC wi) (fun _ i _ =>E0.vs.length - (intOf i).toNat)
     case atStart =>exact ⟨0,rfl,Nat.zero_le _,by rw [List.take_zero]; exact congrArg (Value.int .u64) (Int.sub_zero _).symm,Mods.refl _ _⟩
     case round =>
      obtain ⟨j,rfl,hj,rfl,hkj⟩ :=hrel
      have HKJ :=Hd hkj
      clear g0 g1 g2 g3 g4
      by_cases hjl:j<E0.vs.length
      ·have hji:(j:Int)<E0.vs.length :=by omega
       obtain ⟨bv,ov,rfl,q0,q1,q2,q3,q4,q5,q6⟩ :=(HVLC.out.keeps hkj).at j hjl
       have hst :=leaveS_step EP1 hjl
       have e0 :=HA2.out j
       have e1 :=HA2.out (j+1)
       obtain ⟨-, -, -, -, -,f4, -, -⟩ :=HS.out wr hkj
       generalize E0.vs[j]=x at *
       obtain ⟨bal,st,sl,rq,ex,wd,dl⟩ :=x
       simp only at q0 q1 q2 q3 q4 q5 q6 hst
       obtain ⟨A,hA⟩:∃ A,A=AC - leaveS EP1 (E0.vs.take j) :=⟨_,rfl⟩
       obtain ⟨A2,hA2⟩:∃ A,A=AC - leaveS EP1 (E0.vs.take (j+1)) :=⟨_,rfl⟩
       rw [← hA] at e0 ⊢
       rw [← hA2] at e1
       have HA2' :=Hd hA2
       have HJL :=Hd hjl
       have HKA :=Hd (fun o =>hkj.alloc o)
       have hbl :=cell_lt q0
       have hrl :=cell_lt f4
       by_cases hs:st=3∧ex=EP1
       ·rw [if_pos hs] at hst
        obtain ⟨rfl,rfl⟩ :=hs
        have hw:IntKind.u64.wrap (A - bal)=A2 :=by rw [IntKind.wrap_u64]; unfold maxU at e0 e1; omega
        have HWW :=Hd hw
        clear hst e0 e1 hA hA2 hkj hw hne
        go_wp2
        go_round
        case rel =>exact ⟨j+1,by go_num,HJL.out,congrArg (Value.int .u64) (HWW.out.trans HA2'.out),HKA.out _⟩
        case measure =>have :=HJL.out; simp only [intOf]; omega
       ·rw [if_neg hs] at hst
        have HAA :=Hd (show A=AC - leaveS EP1 (E0.vs.take (j+1)) by omega)
        by_cases h3:st=3
        ·subst h3
         have hx:(ex == EP1)=false :=by
          have h : ¬ ex=EP1 :=fun h =>hs ⟨rfl,h⟩
          simpa using h
         clear hst e0 e1 hA hA2 hkj hs hne
         go_wp2
         go_round
         case rel =>exact ⟨j+1,by go_num,HJL.out,congrArg (Value.int .u64) HAA.out,HKA.out _⟩
         case measure =>have :=HJL.out; simp only [intOf]; omega
        ·have h3b:(st == 3)=false :=by simpa using h3
         clear hst e0 e1 hA hA2 hkj hs h3 hne
         go_wp2
         go_round
         case rel =>exact ⟨j+1,by go_num,HJL.out,congrArg (Value.int .u64) HAA.out,HKA.out _⟩
         case measure =>have :=HJL.out; simp only [intOf]; omega
      ·obtain rfl:j=E0.vs.length :=by omega
       have hji : ¬ ((E0.vs.length:Int)<E0.vs.length) :=by omega
       have hat :=HA2.out E0.vs.length
       rw [List.take_length] at hat ⊢
       obtain ⟨AT,hAT⟩:∃ x,x=AC - leaveS EP1 E0.vs :=⟨_,rfl⟩
       rw [← hAT] at hat ⊢
       have HAT :=Hd hAT
       have HATR :=Hd hat
       obtain ⟨-, -, -, -, -, -,f6, -⟩ :=HS.out wr hkj
       clear hat hAT hne
       go_wp2_with fail
       go_loopw [13,97] (fun s i wi => ∃ j:Nat,i = .int .i64 (j:Int)∧j≤AO.length∧s = .int .u64 (SF j)∧Z00 WC wi) (fun _ i _ =>AO.length - (intOf i).toNat)
       case atStart =>exact ⟨0,rfl,Nat.zero_le _,congrArg (Value.int .u64) HCH.out.s0.symm,HKJ.out⟩
       case round =>
        obtain ⟨i,rfl,hi,rfl,hki⟩ :=hrel
        have HKI :=Hd hki
        clear f6 hkj hji
        by_cases hil:i<AO.length
        ·have hii:(i:Int)<AO.length :=by omega
         have hown :=hki.owns HRAC.out fun _ _ h =>h
         obtain ⟨g,gcap,hpe, -, -⟩ :=hown.form (by omega)
         simp only [Value.slice.injEq] at hpe
         obtain ⟨rfl, -,rfl⟩ :=hpe
         obtain ⟨m0,m1,m2⟩ :=Zke AO i hil
         have k0 :=(hown.cellAt (i * 3) (by omega)).trans m0
         have k1 :=(hown.cellAt (i * 3+1) (by omega)).trans m1
         have k2 :=(hown.cellAt (i * 3+2) (by omega)).trans m2
         obtain ⟨hin,hss⟩ :=HCH.out.st i hil
         have n0 :=HCH.out.nn (i+1) hil
         have n1 :=HCH.out.le (i+1) hil
         have n2 :=HCH.out.mx
         obtain ⟨m,hm,hml⟩ :=Z47 hin
         rw [hm,Zrk hml] at hss
         rw [hm] at k0
         obtain ⟨bv,ov,rfl,q0, -, -, -, -, -, -⟩ :=(HVLC.out.keeps hki).at m hml
         obtain ⟨-, -,f2, -, -, -, -, -⟩ :=HS.out wr hki
         generalize E0.vs[m].bal=bal at *
         generalize AO[i]=y at *
         obtain ⟨y0,y1,y2⟩ :=y
         simp only at k1 k2
         have hw:IntKind.u64.wrap (SF i+bal)=SF (i+1) :=by rw [IntKind.wrap_u64]; unfold maxU at n2; omega
         have hmi:(m:Int)<E0.vs.length :=by omega
         have hm0 : ¬ ((m:Int)<0) :=by omega
         have hm1 : ¬ ((E0.vs.length:Int)≤m) :=by omega
         have HIL :=Hd hil
         have HWW :=Hd hw
         have HKA :=Hd (fun o =>hki.alloc o)
         have hgl :=cell_lt k0
         have hbl :=cell_lt q0
         have hsl :=cell_lt f2
         clear hown m0 m1 m2 hin hss n0 n1 n2 hm hml hw hki
         go_wp2
         go_round
         case rel =>exact ⟨i+1,by go_num,HIL.out,congrArg (Value.int .u64) HWW.out,HKA.out _⟩
         case measure =>have :=HIL.out; simp only [intOf]; omega
        ·obtain rfl:i=AO.length :=by omega
         have hii : ¬ ((AO.length:Int)<AO.length) :=by omega
         obtain ⟨SK,hSK⟩:∃ x,x=SF AO.length :=⟨_,rfl⟩
         obtain ⟨MO,hMO⟩:∃ x,x=chMost c E0 :=⟨_,rfl⟩
         obtain ⟨CL,hCL⟩:∃ x,x=max (c 7) (AT / c 8) :=⟨_,rfl⟩
         have hmo:MO=min (E0.car+CL) maxU :=by
          rw [hMO,hCL,HAT.out,HAC.out,HEP.out,HEPE.out]
          rfl
         have HX :=Hd (show 0≤SK∧SK≤MO∧MO≤maxU from ⟨by rw [hSK]; exact HCH.out.nn _ (Nat.le_refl _),by rw [hSK,hMO]; exact HCH.out.le _ (Nat.le_refl _),by rw [hMO]; exact HCH.out.mx⟩)
         have HE0 :=Hd HCH.out.e0
         have HE1 :=Hd HCH.out.e1
         rw [← hSK,← hMO] at HE1
         rw [← hSK]
         have HCHU :=Hd (fun w =>Zii AT (c 7) (c 8) w HATR.out.1 HATR.out.2 (by have :=HV.out.c8; omega))
         rw [← hCL] at HCHU
         have hcl0:0≤CL∧CL≤maxU :=by
          have h1 :=HV.out.c7
          have h2 :=HATR.out
          have h3 :=Int.ediv_le_self (c 8) h2.1
          have h4 :=Int.ediv_nonneg h2.1 (show 0≤c 8 by have :=HV.out.c8; omega)
          rw [hCL]
          unfold maxU at *
          omega
         have hcar :=HI0.out.car
         have hcar1:E0.car≤maxU :=(HEW.out.me (by decide)).range.2
         have HMOE :=Hd hmo
         have HCC :=Hd (And.intro hcl0 (And.intro hcar hcar1))
         clear hSK hMO hCL hmo hcl0 hcar hcar1
         go_wp2_with fail
         have H29 :=Hd (fun (w':World) (hk:Z00 WC w') =>(And.intro (HS.out w' hk).2.2.2.2.1 (And.intro (HT.out w' hk).2.2.1 (HT.out w' hk).2.2.2)))
         refine wp_region_held_drew (S :=(fun w' =>w'.cell? ⟨s1,13,none⟩=some (.int .u64 E0.car)∧w'.cell? ⟨z,7,none⟩=some (.int .u64 (c 7))∧w'.cell? ⟨z,8,none⟩=some (.int .u64 (c 8)))) (by kernel_rfl) (by exact H29.out _ HKI.out.drew) (fun hH0 =>?_)
         refine tk 0 rfl hH0 ?_
         try go_frame
         refine tk 1 (v := .int .u64 E0.car) rfl hH0 ?_
         try go_frame
         refine tk 2 rfl hH0 ?_
         try go_frame
         refine tk 3 rfl hH0 ?_
         try go_frame
         refine tk 4 (v := .int .u64 (c 7)) rfl hH0 ?_
         try go_frame
         refine tk 5 rfl hH0 ?_
         try go_frame
         refine tk 6 (v := .int .u64 (c 8)) rfl hH0 ?_
         try go_frame
         refine rdy [7] (Z04 rfl (fun K hK =>?_) AllReadyH.nil)
         go_simp
         refine (HCHU.out _).mono ?_
         rintro r w6 ⟨rfl,rfl⟩
         go_wp2_with fail
         refine hK.out _ _ (H29.out _ HKI.out.drew) (fun hH1 =>?_)
         clear hK K hH0
         try go_frame
         refine rdy [8] (Z04 rfl (fun K hK =>?_) AllReadyH.nil)
         go_simp
         refine hK.out _ _ (H29.out _ (HKI.out.drew.alloc _)) (fun hH2 =>?_)
         clear hK K hH1
         try go_frame
         refine rdy [9] (Z04 rfl (fun K hK =>?_) AllReadyH.nil)
         have HKL :=Hd (HKI.out.drew.alloc (.cells #[.int .u64 E0.car, .int .u64 CL] 22))
         have HSA :=Hd (Z7f _ 2 _ _ (Zk8 wr.drew E0.car CL 22 HCC.out.2 HCC.out.1) (by omega))
         rw [sum2,show (if E0.car+CL≤maxU then E0.car+CL else maxU)=MO by rw [HMOE.out]; split <;> omega] at HSA
         obtain ⟨bo,hbo⟩:∃ x,x=(!Z3p (fun j =>if j=0 then E0.car else CL) 2) :=⟨_,rfl⟩
         rw [← hbo] at HSA
         clear hbo
         go_simp
         refine HSA.out.mono ?_
         rintro r w7 ⟨rfl,rfl⟩
         go_wp2_with fail
         refine hK.out _ _ (H29.out _ HKL.out) (fun hH3 =>?_)
         clear hK K hH2
         try go_frame
         refine tk 10 rfl hH3 ?_
         try go_frame
         refine tk 11 rfl hH3 ?_
         try go_frame
         refine tk 12 rfl hH3 ?_
         try go_frame
         refine tk 13 rfl hH3 ?_
         try go_frame
         refine tk 14 rfl hH3 ?_
         try go_frame
         refine wpAnyH_done (by kernel_rfl) ?_ _
         clear hH3
         replace HKL :=Hd (show Z00 WC (wr.alloc (.cells #[.int .u64 E0.car, .int .u64 CL] 22)).drew from (HKI.out.alloc _).drew)
         obtain ⟨WX,hWX⟩:∃ x,x=(wr.alloc (.cells #[.int .u64 E0.car, .int .u64 CL] 22)).drew :=⟨_,rfl⟩
         rw [← hWX] at HKL ⊢
         clear hWX
         have H30 :=Hd (fun (w':World) (hk:Z00 WC w') =>(And.intro (HT.out w' hk).1 (HT.out w' hk).2.1))
         have hfl:EN.fo.length+EN.vo.length≤8192 :=by
          obtain ⟨M, -,hM2⟩ :=HI1.out.bk
          rw [List.length_append] at hM2
          omega
         have HFL :=Hd hfl
         have HCI :=Hd (fun w' (hk:Z00 WC w') =>cloneI_any _ EN.fo _ w' (hk.owns HFC.out fun _ _ h =>h) (by omega))
         obtain ⟨i0,hi0,hi1,hi2,hi3⟩ :=info_parts Zn9
         clear hfl
         go_wp2_with fail
         refine wp_region_held_drew (S :=(fun w' =>w'.cell? ⟨s2,8,none⟩=some (.slice b3 EN.fo.length e3')∧w'.cell? ⟨s2,9,none⟩=some (.slice b4 EN.vo.length e4'))) (by kernel_rfl) (by exact H30.out _ HKL.out.drew) (fun hH0 =>?_)
         refine tk 0 rfl hH0 ?_
         try go_frame
         refine tk 1 (v := .slice b3 EN.fo.length e3') rfl hH0 ?_
         try go_frame
         refine tk 3 rfl hH0 ?_
         try go_frame
         refine tk 4 (v := .slice b4 EN.vo.length e4') rfl hH0 ?_
         try go_frame
         refine rdy [2] (Z04 rfl (fun K hK =>?_) AllReadyH.nil)
         go_simp
         refine (HCI.out _ HKL.out.drew).mono ?_
         rintro r w8 ⟨v8,rfl,ho8,hk8⟩
         go_wp2_with fail
         refine hK.out _ _ (H30.out _ (HKL.out.drew.keep hk8)) (fun hH1 =>?_)
         clear hK K hH0
         try go_frame
         refine rdy [5] (Z04 rfl (fun K hK =>?_) AllReadyH.nil)
         have HK8 :=Hd (HKL.out.drew.keep hk8)
         have HO8 :=Hd ho8
         have HVO8 :=Hd (HK8.out.owns HVC.out fun _ _ h =>h)
         have HS8 :=Hd hk8.size
         clear ho8 hk8
         refine Z99 _ rfl _ _ 37 rfl WX.drew.heap.size 3 i0 (.int .i64 0) 1 8 Tryz.underlying37 hi0 hi1 hi2 hi3 rfl (by decide) v8 EN.fo.length (EN.fo.map fun x =>.int .i64 x) rfl HO8.out _ (.slice b4 EN.vo.length e4') EN.vo.length (EN.vo.map fun x =>.int .i64 x) rfl HVO8.out (fun u hu =>by obtain ⟨y,_,rfl⟩ :=List.mem_map.1 hu; rfl) (by have :=HFL.out; unfold maxLen; omega) (by have :=HFL.out; omega) HS8.out ?_
         intro v9 w9 ho9 hm9
         have hk9:Z00 WC w9 :=HK8.out.seq hm9 fun i hi e =>by have :=(HO8.out.lt i e).1; have h2 :=HKL.out.size; simp at this; omega
         refine hK.out _ _ (H30.out _ hk9) (fun hH2 =>?_)
         clear hK K hH1
         try go_frame
         refine tk 6 rfl hH2 ?_
         try go_frame
         refine wpAnyH_done (by kernel_rfl) ?_ _
         clear hH2
         obtain ⟨Q,hQ⟩:∃ x,x=EN.fo ++ EN.vo :=⟨_,rfl⟩
         have ho:w9.ownsRow WX.drew.heap.size 3 1 v9 Q.length (Q.map fun x =>.int .i64 x) :=by rw [hQ,List.length_append,List.map_append]; exact ho9
         rw [← hQ] at HE0
         have HQ :=Hd hQ
         obtain ⟨qn,hqn⟩:∃ x,x=Q.length :=⟨_,rfl⟩
         rw [← hqn] at ho
         have HQN :=Hd hqn
         have HO9 :=Hd ho
         have HK9 :=Hd hk9
         obtain ⟨qa,qc,rfl⟩ :=Z0c ho
         clear ho9 hm9 hk9 ho hQ hqn hi0 hi1 hi2 hi3
         go_wp2_with fail
         obtain ⟨-, -,g2, -, -, -, -,g13⟩ :=HS.out w9 HK9.out
         have hgt:decide (MO<SK)=false :=by have :=HX.out.2.1; simpa using this
         by_cases hq0:qn=0
         ·have hcar:EN.car=0 :=HE0.out (List.length_eq_zero_iff.1 (by have :=HQN.out; omega))
          rw [hcar] at g13
          rw [hq0]
          clear hq0 hcar
          go_quiet (fail)
          go_wp2_with fail
          go_quiet (fail)
          go_wp2
          go_round
          case rel =>exact ⟨k+1,own2,by go_num,HEND.out _ (HK9.out.drewN _)⟩
          case measure =>have :=HLT.out; simp only [intOf]; omega
         ·have hpos:0<(EN.fo ++ EN.vo).length :=by have :=HQN.out; rw [← HQ.out]; omega
          obtain ⟨y1,y2,y3⟩ :=HE1.out hpos
          obtain ⟨m,hm,hml⟩ :=Z47 y2
          rw [hm,Zrk hml] at y3
          have hq:Q[0]? = some (m:Int) :=by rw [HQ.out,List.getElem?_eq_getElem hpos,hm]
          obtain ⟨g,gcap,hpe, -, -⟩ :=HO9.out.form (by omega)
          simp only [Value.slice.injEq] at hpe
          obtain ⟨rfl, -,rfl⟩ :=hpe
          have k0:w9.cell? ⟨g,0,none⟩=some (.int .i64 m) :=(HO9.out.cellAt 0 (by omega)).trans (by rw [List.getElem?_map,hq]; rfl)
          obtain ⟨bv,ov,rfl,q0, -, -, -, -, -, -⟩ :=(HVLC.out.keeps HK9.out).at m hml
          generalize E0.vs[m].bal=bal at *
          have hcc :=HI1.out.car
          have hw:IntKind.u64.wrap (MO - SK)=EN.car :=by have h :=HX.out; rw [IntKind.wrap_u64]; unfold maxU at h; omega
          have hd1:decide ((0:Int)<(qn:Int))=true :=decide_eq_true (by omega)
          have hd0:decide (0<qn)=true :=decide_eq_true (by omega)
          have hqp:0<qn :=by omega
          have hd2:((qn:Int) == 0)=false :=beq_eq_false_iff_ne.2 (by omega)
          have hd3:decide ((m:Int)<0)=false :=by simp
          have hd4:decide ((E0.vs.length:Int)≤(m:Int))=false :=by simp; omega
          have hd5:decide (bal≤EN.car)=false :=by simp; omega
          have hmi:(m:Int)<E0.vs.length :=by omega
          have hqi:(0:Int)<qn :=by omega
          have HWW :=Hd hw
          clear hq0 hpos y1 y2 y3 hm hml hq hcc
          go_quiet (fail)
          go_wp2_with fail
          go_quiet (fail)
          go_wp2
          go_round
          case rel =>exact ⟨k+1,own2,by go_num,HEND.out _ (HK9.out.drewN _)⟩
          case measure =>have :=HLT.out; simp only [intOf]; omega
    ·obtain ⟨h1,h2,h3⟩ :=churn_still HV.out E0 ⟨kd,ix,tg,am⟩ hgo
     rw [← HAO.out] at h1
     rw [← HST0.out] at h2
     rw [← HST0.out,← hEP0,← hEP1] at h3
     have hn0:AN=0 :=by rw [HAN.out,h1]; rfl
     obtain ⟨g0,g1, -, -,g2,g3,g4,g5⟩ :=HS.out WC (Mods.refl _ _)
     rw [hn0] at g4
     rw [h2] at g5
     clear hgo hEP0 hEP1 h1 h2 hn0
     by_cases hk7:kd=7
     ·subst hk7
      obtain rfl:EP1=EP0 :=h3.resolve_left (fun h =>h rfl)
      clear h3
      go_wp2
      go_round
      case rel =>exact ⟨k+1,own2,by go_num,HEND.out _ (Mods.refl _ _)⟩
      case measure =>have :=HLT.out; simp only [intOf]; omega
     ·have hkb:(kd == 7)=false :=by simpa using hk7
      clear h3
      go_wp2
      go_round
      case rel =>exact ⟨k+1,own2,by go_num,HEND.out _ (Mods.refl _ _)⟩
      case measure =>have :=HLT.out; simp only [intOf]; omega
   ·obtain rfl:k=L.length :=by omega
    have hki : ¬ ((L.length:Int)<L.length) :=by omega
    clear hE hM hZ0 hZB hO
    go_wp2_with fail
    refine (HR.out _).mono ?_
    rintro r w5 ⟨rfl,hk5⟩
    have HKK :=Hd (HM.out.keep hk5)
    clear hk5
    go_wp2
    go_ret
    exact ⟨rfl,HKK.out.below'⟩
end Go.Proofs.YtecapfmmoejikaaGreat
