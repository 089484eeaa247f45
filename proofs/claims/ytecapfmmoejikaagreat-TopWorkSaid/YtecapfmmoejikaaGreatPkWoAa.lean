/- A part of the proof of TopWork: Wrk Twp Twk. -/
import Derived.Test.YtecapfmmoejikaaGreatPkBq
set_option maxRecDepth 4000
set_option maxHeartbeats 8000000
namespace Go.Proofs.YtecapfmmoejikaaGreat
open Go.RowKit Go.Eg
theorem asgs_len (L:Nat) (un:Int):∀ (q:List As) (s:List Vd × (Nat→List (Int × Int)) × List Int),(q.foldl (asg1 L un) s).1.length=s.1.length
 | [],s =>rfl
 | a :: q,s =>by
  rw [List.foldl_cons,asgs_len L un q]
  simp only [asg1,List.length_set]
theorem enTk1_len {c:Nat→Int} (hV:Vld c) {E:En} {n:Nat} (h:Inv c E n):(Z4s c E).vs.length=E.vs.length :=by
 unfold Z4s
 split
 ·rename_i hm
  have B :=(h.bnd1 hV hm).len
  unfold Z9r Zoq Zbs Z23
  dsimp only
  rw [Z5s,(Z43 1 _ _).2,asgs_len]
  exact B
 ·rfl
theorem enTk1_cur (c:Nat→Int) (E:En):(Z4s c E).cur=E.cur :=by unfold Z4s; split <;> rfl
theorem actE_cur (c:Nat→Int) (E:En) (o:Od):(actE c E o).cur=E.cur :=by
 unfold actE
 repeat' split
 ·unfold Z73; split <;> rfl
 ·unfold Z18; split <;> rfl
 ·unfold Z18; split <;> rfl
 ·unfold Z1e Z3f; split
  ·split
   ·rfl
   ·split <;> rfl
  ·rfl
 ·unfold Z4p; split <;> rfl
 ·unfold Z4q; split <;> rfl
 ·rfl
theorem actE_len (c:Nat→Int) (E:En) (o:Od):E.vs.length≤(actE c E o).vs.length :=by
 unfold actE
 repeat' split
 ·unfold Z73; split
  ·simp
  ·exact Nat.le_refl _
 ·unfold Z18; split
  ·exact Nat.le_refl _
  ·simp
 ·unfold Z18; split
  ·exact Nat.le_refl _
  ·simp
 ·unfold Z1e Z3f; split
  ·split
   ·simp
   ·split <;> simp
  ·exact Nat.le_refl _
 ·unfold Z4p; split <;> exact Nat.le_refl _
 ·unfold Z4q; split <;> exact Nat.le_refl _
 ·exact Nat.le_refl _
def WaitOk (c:Nat→Int) (E:En) (F:Nat→Int):Prop :=
 ∀ i:Nat,0≤F i∧(E.vs.length≤i→F i=0)∧(i<E.vs.length→F i * minI (c 14 - c 16) (c 15 - c 16)+dst (c 0).toNat E.cur i≤c 0 - 1)
theorem dst_lt {c:Nat→Int} {E:En} {n:Nat} (h:Inv c E n) {i:Nat} (hi:i<E.vs.length):(dst (c 0).toNat E.cur i:Int)≤c 0 - 1 :=by
 have h1 :=h.len
 have h2 :=h.cur
 unfold dst
 split <;> omega
theorem WaitOk.zero (c:Nat→Int):WaitOk c (en0 c) fun _ =>0 :=fun i =>⟨Int.le_refl _,fun _ =>rfl,fun h =>by
 have h:i<0 :=h
 omega⟩
theorem WaitOk.act {c:Nat→Int} {E:En} {F:Nat→Int} (h:WaitOk c E F) (o:Od) {n:Nat} (hI:Inv c (actE c E o) n):WaitOk c (actE c E o) F :=fun i =>by
 obtain ⟨h1,h2,h3⟩ :=h i
 have hl :=actE_len c E o
 refine ⟨h1,fun hi =>h2 (by omega),fun hi =>?_⟩
 rw [actE_cur]
 by_cases e:i<E.vs.length
 ·exact h3 e
 ·rw [h2 (by omega),Int.zero_mul,Int.zero_add]
  have :=dst_lt hI hi
  rwa [actE_cur] at this
theorem WaitOk.tick {c:Nat→Int} (hV:Vld c) {E:En} {F G:Nat→Int} (h:WaitOk c E F) {n:Nat} (hI:Inv c E n) (hn:n≤9000) (hG:∀ i,i<E.vs.length→G i=if (vAt (Zan c E).vs i).st=5 then F i+1 else 0) (hG2:∀ i,E.vs.length≤i→G i=F i) :
 WaitOk c (Zan c E) G∧∀ i:Nat,i<E.vs.length→(vAt (Zan c E).vs i).st=5→F i+1<(c 0 - 1) / minI (c 14 - c 16) (c 15 - c 16)+1 :=by
 have hT :=hI.tk1 hV (by omega)
 have R :=hT.pay hV
 have hl:(Zan c E).vs.length=E.vs.length :=R.len.trans (enTk1_len hV hI)
 have hm:1≤minI (c 14 - c 16) (c 15 - c 16)∧minI (c 14 - c 16) (c 15 - c 16)=min (c 14 - c 16) (c 15 - c 16) :=by
  have :=hV.c16
  unfold minI
  split <;> omega
 have near:∀ i:Nat,i<E.vs.length→(vAt (Zan c E).vs i).st=5→(F i+1) * minI (c 14 - c 16) (c 15 - c 16)+dst (c 0).toNat (Zan c E).cur i≤c 0 - 1 :=fun i hi hs =>by
  have h1 :=PayR.near hV hT (i :=i) (by rw [enTk1_len hV hI]; exact hi) hs
  have h3 :=(h i).2.2 hi
  rw [enTk1_cur] at h1
  have h1:(dst (c 0).toNat (Zan c E).cur i:Int)+min (c 14 - c 16) (c 15 - c 16)≤dst (c 0).toNat E.cur i :=h1
  rw [Int.add_mul,Int.one_mul]
  generalize F i * _=x at *
  omega
 refine ⟨fun i =>?_,fun i hi hs =>?_⟩
 ·rw [hl]
  obtain ⟨h1,h2,h3⟩ :=h i
  by_cases hi:i<E.vs.length
  ·rw [hG i hi]
   refine ⟨by split <;> omega,fun h =>by omega,fun _ =>?_⟩
   split
   ·rename_i hs
    exact near i hi hs
   ·rw [Int.zero_mul,Int.zero_add]
    exact dst_lt R.inv (show i<(Z9v c (Z4s c E)).vs.length from by rw [show (Z9v c (Z4s c E)).vs.length=E.vs.length from hl]; exact hi)
  ·rw [hG2 i (by omega)]
   exact ⟨h1,fun _ =>h2 (by omega),fun h =>absurd h hi⟩
 ·have h1 :=near i hi hs
  have h2:(F i+1) * minI (c 14 - c 16) (c 15 - c 16)≤c 0 - 1 :=by omega
  have :=(Int.le_ediv_iff_mul_le (show 0<minI (c 14 - c 16) (c 15 - c 16) by omega)).2 h2
  omega
def wtF (vs:List Vd) (F:Nat→Int) (j x:Nat):Int :=if x<j then (if (vAt vs x).st=5 then F x+1 else 0) else F x
theorem wtF_zero (vs:List Vd) (F:Nat→Int):wtF vs F 0=F :=by
 funext x
 unfold wtF
 rw [if_neg (by omega)]
theorem wtF_at (vs:List Vd) (F:Nat→Int) (j:Nat):wtF vs F j j=F j :=by
 unfold wtF
 rw [if_neg (by omega)]
theorem wtF_done {vs:List Vd} {j:Nat} {v:Vd} (F:Nat→Int) (h5:v.st=5) (h:vAt vs j=v):wtF vs F (j+1) j=F j+1 :=by
 unfold wtF
 rw [if_pos (by omega),h,if_pos h5]
theorem wt_put {w:World} {gw j N:Nat} {t:TypeId} {vs:List Vd} {F:Nat→Int} (h:w.heap[gw]? = some (rowC (fun x =>.int .i64 (wtF vs F j x)) N t)) {v:Int} (hv:v=if (vAt vs j).st=5 then F j+1 else 0) :
 (w.setCell ⟨gw,j,none⟩ (.int .i64 v)).heap[gw]? = some (rowC (fun x =>.int .i64 (wtF vs F (j+1) x)) N t) :=by
 rw [Z41 _ h]
 refine congrArg some (Z1c fun x _ =>?_)
 unfold wtF
 by_cases e:x=j
 ·subst e
  rw [if_pos rfl,if_pos (by omega),hv]
 ·rw [if_neg e]
  by_cases h1:x<j
  ·have h2:x<j+1 :=by omega
   simp only [h1,h2,if_true]
  ·have h2 : ¬ x<j+1 :=by omega
   simp only [h1,h2,if_false]
theorem WaitOk.tick2 {c:Nat→Int} (hV:Vld c) {E:En} {F:Nat→Int} (h:WaitOk c E F) {n:Nat} (hI:Inv c E n) (hn:n≤9000) :
 WaitOk c (Zan c E) (wtF (Zan c E).vs F (Zan c E).vs.length)∧∀ i:Nat,i<(Zan c E).vs.length→(vAt (Zan c E).vs i).st=5→F i+1<(c 0 - 1) / minI (c 14 - c 16) (c 15 - c 16)+1∧0≤F i∧F i+1≤c 0 :=by
 have hl:(Zan c E).vs.length=E.vs.length :=((hI.tk1 hV (by omega)).pay hV).len.trans (enTk1_len hV hI)
 obtain ⟨h1,h2⟩ :=h.tick hV (G :=wtF (Zan c E).vs F (Zan c E).vs.length) hI hn (fun i hi =>by unfold wtF; rw [if_pos (by omega)]) (fun i hi =>by unfold wtF; rw [if_neg (by omega)])
 refine ⟨h1,fun i hi hs =>?_⟩
 have h3 :=h2 i (by omega) hs
 have h4 :=(h i).1
 refine ⟨h3,h4, ?_⟩
 have h5 :=hV.c0
 have :=Int.ediv_le_self (minI (c 14 - c 16) (c 15 - c 16)) (a :=c 0 - 1) (by omega)
 omega
theorem work_apply {c:Nat→Int} (hV:Vld c) {E:En} {n:Nat} (h:Inv c E n) (hn:n≤9000) (o:Od):apN c E o≤c 14∧((apP c E o).length:Int)≤c 15 :=by
 have h14 :=hV.c14
 have h15 :=hV.c15
 unfold apN apP
 by_cases e:o.kd=7
 ·have R :=(h.tk1 hV (by omega)).pay hV
  rw [if_pos e,if_pos e]
  exact ⟨R.vis,R.pl⟩
 ·rw [if_neg e,if_neg e]
  refine ⟨by omega, ?_⟩
  show ((0:Nat):Int)≤c 15
  omega
theorem ticks_ok {l:List Od} {n:Nat} (h:∀ x∈l,x.ok):∀ x∈l ++ List.replicate n ⟨7,0,0,0⟩,x.ok :=by
 intro x hx
 rcases List.mem_append.1 hx with hx | hx
 ·exact h x hx
 ·rw [List.eq_of_mem_replicate hx]
  exact ⟨by decide,by decide,by decide,by decide⟩
theorem owns_some {w:World} {B:Nat} {e:TypeId} {s n:Nat} {v:Value} {xs:List Value} (h:w.ownsRow B e s v n xs) (hn:0<n):∃ g cap,v = .slice (some ⟨g,0,none⟩) n cap∧B≤g∧g<w.heap.size :=by
 have hl :=h.lt
 rcases h.2 with ⟨rfl,h0⟩ | ⟨g,cap,cur,rfl,hg,hh,r⟩
 ·omega
 ·exact ⟨g,cap,rfl,(hl g rfl).1,(hl g rfl).2⟩
theorem topWork_walk (c:Nat→Int) (v:Value) (w:World) (w0:∀ (i:Nat) (k:IntKind),Zlu[i]? = some k→(Lit.int k (c i)).wf=true) (w1:∃ l,OdL w v l∧l.length≤9223372036854775807∧∀ x∈l,x.ok) :
 Calls Tryz.prog 6 #[cfgV c,v] w fun r w' =>r = .returned (.bool true)∧Below w.heap.size w w' :=by
 obtain ⟨h9,h18⟩ :=Zpz w0
 obtain ⟨l,hl,hll,hok⟩ :=w1
 have HL :=Hd hl
 have HOK :=Hd hok
 obtain ⟨va,vc,rfl⟩ :=hl.slice
 have HF :=Hd (fun w =>Zod c va l.length vc w hll)
 have HR :=Hd (fun w =>Zqh w)
 have hx :=heap_alloc_last w (.cells (cfgC c) 24)
 clear hl hok w0
 go_enter Tryz.func6,Tryz.ntmps6
 go_wp2_with ((with_reducible refine Z1a ?_); (refine Z03 rfl 24 _ rfl w.heap.size rfl 24 (cfgC c) (0,0) _ Tryz.underlying24 rfl Z0m hx ?_))
 refine (HF.out _).mono ?_
 rintro r w1 ⟨hr,hk1⟩
 have hk:Z00 w w1 :=((Mods.refl _ w).alloc _).keep hk1
 have hz1 :=hk1.at hx fun h =>h
 obtain ⟨z,hz⟩:∃ z,z=w.heap.size :=⟨_,rfl⟩
 rw [← hz] at hz1 ⊢
 have HZ :=Hd hz
 have HK :=Hd hk
 have HZ1 :=Hd hz1
 rcases hr with rfl | ⟨rfl,hfit⟩
 ·clear hk1 hx hk hz1 hz
  go_wp2_with fail
  refine (HR.out _).mono ?_
  rintro r w2 ⟨rfl,hk2⟩
  have HKK :=Hd (HK.out.keep hk2)
  clear hk2
  go_wp2
  go_ret
  exact ⟨rfl,HKK.out.below'⟩
 ·have hV :=Zog hfit.chk
  have HV :=Hd hV
  have HN :=Hd (fun w =>eNew c w hV hfit.chk)
  have hn4 :=hfit.n
  have H100 :=Hd hfit.c0
  have HCL :=Hd (fun w' (hk:Z00 w w') =>Zn5 (.slice va l.length vc) l w' (HL.out.keeps hk) (by omega))
  have HTK :=Hd (fun w =>Zhz 30 w (by omega) (by omega))
  have HSB :=Hd (fun w =>Zgh c w hV)
  obtain ⟨sb,hsb⟩:∃ x,x=(c 0 - 1) / minI (c 14 - c 16) (c 15 - c 16)+1 :=⟨_,rfl⟩
  rw [← hsb] at HSB
  have HSBE :=Hd hsb
  clear hk1 hx hk hz1 hz hV hfit hsb
  have hz1 :=HZ1.out
  go_wp2_with ((with_reducible refine Z1a ?_); (refine Z03 rfl 24 _ rfl z rfl 24 (cfgC c) (0,0) _ Tryz.underlying24 rfl Z0m hz1 ?_))
  refine (HN.out _).mono ?_
  rintro r w2 ⟨e,p,own,rfl,hE,hX⟩
  have HE :=Hd hE
  have ST :=Hd (show (w2.heap[z]? = some (.cells (cfgC c) 24 (0,0))∧own z=0)∧Z00 w w2∧∀ i,i<z→own i=0 from
   ⟨hX.at HZ1.out rfl,HK.out.seq hX.mods fun i _ h =>absurd rfl h,fun i hi =>hX.old i (Nat.lt_trans hi (Z0a HZ1.out))⟩)
  clear hE hX hz1
  have hif :=Zn9
  go_wp2_with (at_make; refine Z0v _ rfl _ _ _ rfl 3 (.int .i64 0) 1 8 Tryz.underlying37 hif 200 rfl rfl (by omega) (by omega) ?_)
  intro w3 hb3 hk3 hs3
  obtain ⟨gw,hgw⟩:∃ x,x=w2.heap.size :=⟨_,rfl⟩
  rw [← hgw] at hb3 hs3 ⊢
  rw [Z1c (G :=fun _ =>.int .i64 0) (fun j _ =>by simp [Nat.mod_one])] at hb3
  have HGW :=Hd (show w3.heap[gw]? = some (rowC (fun _ =>.int .i64 0) 200 3)∧own gw=0 from ⟨hb3,HE.out.new gw (by omega)⟩)
  have HK3 :=Hd hk3
  have HS3 :=Hd (show w2.heap.size≤gw∧gw<w3.heap.size∧z<gw from ⟨by omega,by omega,by rw [hgw]; exact Z0a ST.out.1.1⟩)
  clear hb3 hk3 hs3 hgw hif
  go_wp2_with fail
  refine (HCL.out _ (ST.out.2.1.keep HK3.out)).mono ?_
  rintro r w4 ⟨v4,rfl,ho4,hk4⟩
  obtain ⟨a4,c4,rfl⟩ :=Z0c ho4
  have HO4 :=Hd ho4
  have HK4 :=Hd hk4
  clear ho4 hk4
  go_wp2_with fail
  refine (HTK.out _).mono ?_
  rintro r w5 ⟨v5,rfl,ho5,hk5⟩
  obtain ⟨a5,c5,rfl⟩ :=Z0c ho5
  have hv5 :=OdL.of_owns (l :=List.replicate 30 ⟨7,0,0,0⟩) ho5
  obtain ⟨T,hT⟩:∃ T,T=List.replicate 30 (⟨7,0,0,0⟩:Od) :=⟨_,rfl⟩
  rw [← hT] at hv5
  have HV5 :=Hd hv5
  have hTl:T.length=30 :=by rw [hT]; exact List.length_replicate
  have HT :=Hd hT
  have HO5 :=Hd (hk5.owns HO4.out fun _ _ h =>h)
  have HK5 :=Hd (HK4.out.keep hk5)
  clear ho5 hk5 hv5 hT
  go_wp2_with (at_builtin; refine Zah _ rfl (.tmp 27) (.tmp 28) rfl w3.heap.size (.slice a4 l.length c4) l T rfl HO5.out _ rfl HV5.out (by omega) HK5.out.size ?_; refine Z0e.out ?_)
  refine Z0e.mk ?_
  intro v6 w6 ho6 hg6
  have hk6:Z00 w3 w6 :=HK5.out.grown hg6 fun j hj e =>by have :=(HO4.out.lt j e).1; omega
  obtain ⟨L,hL⟩:∃ L,L=l ++ T :=⟨_,rfl⟩
  have ho6:w6.ownsRow w3.heap.size 34 4 v6 L.length (Z15 L) :=by rw [hL,List.length_append,hTl]; exact ho6
  have hLn:L.length=l.length+30 :=by rw [hL,List.length_append,hTl]
  have HLK :=Hd (show ∀ x∈L,x.ok by rw [hL,HT.out]; exact ticks_ok HOK.out)
  obtain ⟨gl,c6,rfl,hgl1,hgl2⟩ :=owns_some ho6 (by omega)
  have HOL :=Hd (show OdL w6 (.slice (some ⟨gl,0,none⟩) L.length c6) L∧own gl=0∧gw<gl∧gl<w6.heap.size from ⟨OdL.of_owns ho6,HE.out.new gl (by have :=HS3.out; omega),by have :=HS3.out; omega,hgl2⟩)
  have HI :=Hd (Inv.run HV.out h18 L (by omega) HLK.out)
  have HE6 :=Hd (HE.out.keeps (HK3.out.keep hk6))
  have HG6 :=Hd (hk6.at HGW.out.1 fun h =>h)
  have HZ6 :=Hd ((HK3.out.keep hk6).at ST.out.1.1 fun h =>h)
  have HM6 :=Hd (ST.out.2.1.keep (HK3.out.keep hk6))
  have hLm:L.length≤430 :=by omega
  clear ho6 hg6 hk6 hL hTl hgl1 hgl2 hLn HO4 HV5 HO5 HK5
  go_wp2
  go_loopw [31] (fun i wr => ∃ (k:Nat) (own:Nat→Nat) (F:Nat→Int),i = .int .i64 (k:Int)∧k≤L.length∧WaitOk c (Z05 c (L.take k)) F∧Z0i own wr e c (Z05 c (L.take k)) p (400000 * k)∧(wr.heap[gw]? = some (rowC (fun j =>.int .i64 (F j)) 200 3)∧own gw=0)∧(wr.heap[z]? = some (.cells (cfgC c) 24 (0,0))∧own z=0)∧(OdL wr (.slice (some ⟨gl,0,none⟩) L.length c6) L∧own gl=0∧gw<gl∧gl<wr.heap.size)∧Z00 w wr∧∀ i,i<z→own i=0) (fun i _ =>L.length - (intOf i).toNat)
  case atStart =>exact ⟨0,own,fun _ =>0,rfl,Nat.zero_le _,WaitOk.zero c,HE6.out,⟨HG6.out,HGW.out.2⟩,⟨HZ6.out,ST.out.1.2⟩,HOL.out,HM6.out,ST.out.2.2⟩
  case round =>
   obtain ⟨k,ow,F,rfl,hkl,hW,hE,hG,hZB,hO,hM,hZ0⟩ :=hrel
   have HW :=Hd hW
   have HG :=Hd hG
   have HZB :=Hd hZB
   have HO :=Hd hO
   have HM :=Hd hM
   have HZ0 :=Hd hZ0
   by_cases hlt:k<L.length
   ·have hki:(k:Int)<L.length :=by omega
    obtain ⟨b,off,hab,c0,c1,c2,c3⟩ :=hO.1.at k hlt
    simp only [Option.some.injEq,Addr.mk.injEq,and_true] at hab
    obtain ⟨rfl,rfl⟩ :=hab
    simp only [Nat.zero_add] at c0 c1 c2 c3
    have hoo :=HLK.out L[k] (List.getElem_mem hlt)
    have HST :=Hd (Zab c hlt)
    generalize L[k]=o at *
    have HAP :=Hd (Zpe (hE.keeps ((Mods.refl (fun _ =>False) wr).alloc (odB o))) HV.out h9 h18 o hoo (HI.out k hkl) (by omega) (by omega))
    have HI0 :=Hd (HI.out k hkl)
    have HI1 :=Hd (HI.out (k+1) hlt)
    have hob0:ow wr.heap.size=0 :=hE.new _ (Nat.le_refl _)
    obtain ⟨hwn,hwp⟩ :=work_apply HV.out (HI.out k hkl) (by omega) o
    rw [← HST.out] at HAP
    obtain ⟨EN,hEN⟩:∃ EN,EN=Z05 c (L.take (k+1)) :=⟨_,rfl⟩
    rw [← hEN] at HAP HI1
    have HEN :=Hd hEN
    obtain ⟨E0,hE0⟩:∃ E0,E0=Z05 c (L.take k) :=⟨_,rfl⟩
    rw [← hE0] at HAP HI0 hwn hwp HW
    have HST0 :=Hd (show EN=Z3w c E0 o by rw [hEN,hE0]; exact HST.out)
    obtain ⟨kd,ix,tg,am⟩ :=o
    clear hE hM hZ0 hoo HST hEN hE0 hW hG hZB hO
    go_wp2_with fail
    refine HAP.out.mono ?_
    rintro r w4 ⟨aa,ac,pa,pc,rfl,own2,hE2,hX2, -, -⟩
    obtain ⟨hbo,hbz⟩ :=hX2.at (heap_alloc_last wr (odB ⟨kd,ix,tg,am⟩)) hob0
    obtain ⟨d0, -, -, -⟩ :=Z2q hbo
    have HG2 :=Hd (hX2.at (Z02 HG.out.1 _) HG.out.2)
    have HZ2 :=Hd (hX2.at (Z02 HZB.out.1 _) HZB.out.2)
    have hgls:gl<(wr.alloc (odB ⟨kd,ix,tg,am⟩)).heap.size :=by have :=HO.out.2.2.2; rw [World.size_alloc]; omega
    have HO2 :=Hd (show OdL w4 (.slice (some ⟨gl,0,none⟩) L.length c6) L∧own2 gl=0∧gw<gl∧gl<w4.heap.size from
     ⟨(HO.out.1.keeps ((Mods.refl _ wr).alloc _)).mods hX2.mods fun k hk e =>by cases hk; exact e HO.out.2.1,(hX2.old gl hgls).trans HO.out.2.1,HO.out.2.2.1,Nat.lt_of_lt_of_le hgls hX2.mods.size⟩)
    have hm4:Z00 w w4 :=(HM.out.alloc (odB ⟨kd,ix,tg,am⟩)).seq hX2.mods fun i hi h =>absurd (HZ0.out i (by rw [HZ.out]; exact hi)) h
    have hzz:∀ i,i<z→own2 i=0 :=fun i hi =>(hX2.old i (by have :=hm4.size; have :=HM.out.size; have :=HZ.out; rw [World.size_alloc]; omega)).trans (HZ0.out i hi)
    generalize (apX c E0 ⟨kd,ix,tg,am⟩)=AX at *
    generalize (apA c E0 ⟨kd,ix,tg,am⟩).length=AN at *
    generalize (apP c E0 ⟨kd,ix,tg,am⟩).length=PN at *
    generalize (apN c E0 ⟨kd,ix,tg,am⟩)=VN at *
    obtain ⟨x1,x2,x3⟩ :=AX
    have HE2 :=Hd hE2
    have HM4 :=Hd hm4
    have HZZ :=Hd hzz
    have hbr :=heap_alloc_last w4 (.cells (rcC kd x1 x2 EN.b (EN.b / c 13) x3 (.slice aa AN ac) (.slice pa PN pc) VN) 46)
    have f8:(w4.alloc (.cells (rcC kd x1 x2 EN.b (EN.b / c 13) x3 (.slice aa AN ac) (.slice pa PN pc) VN) 46)).cell? ⟨w4.heap.size,8,none⟩=some (.int .i64 VN) :=by rw [cell_of_row _ _ _ _ _ _ hbr]; rfl
    have f7:(w4.alloc (.cells (rcC kd x1 x2 EN.b (EN.b / c 13) x3 (.slice aa AN ac) (.slice pa PN pc) VN) 46)).cell? ⟨w4.heap.size,7,none⟩=some (.slice pa PN pc) :=by rw [cell_of_row _ _ _ _ _ _ hbr]; rfl
    have hbl :=Z0a hbo
    clear hE2 hm4 hzz hX2 hbo hbr c0 c1 c2 c3 hgls hbz hob0
    go_upto_region 11 with ((with_reducible refine Z1a ?_); (refine Z2c (t :=46) (old :=rcC 0 0 0 0 0 0 (.slice none 0 0) (.slice none 0 0) 0) (cs :=rcC kd x1 x2 EN.b (EN.b / c 13) x3 (.slice aa AN ac) (.slice pa PN pc) VN) rfl 46 _ _ rfl rfl rfl Z9u rfl rfl ?_))
    obtain ⟨WB,hWB⟩:∃ x,x=w4.alloc (.cells (rcC kd x1 x2 EN.b (EN.b / c 13) x3 (.slice aa AN ac) (.slice pa PN pc) VN) 46) :=⟨_,rfl⟩
    rw [← hWB] at f8 f7 ⊢
    have hkB:Z00 w4 WB :=Z0f hWB
    have hg0 :=hkB.cell d0 fun h =>h
    have HKB :=Hd hkB
    have hzB :=hkB.at HZ2.out.1 fun h =>h
    have z14:WB.cell? ⟨z,14,none⟩=some (.int .i64 (c 14)) :=by rw [cell_of_row _ _ _ _ _ _ hzB]; rfl
    have z15:WB.cell? ⟨z,15,none⟩=some (.int .i64 (c 15)) :=by rw [cell_of_row _ _ _ _ _ _ hzB]; rfl
    have HZ3 :=Hd hzB
    have v1 : ¬ c 14<VN :=by omega
    have v2 : ¬ c 15<(PN:Int) :=by omega
    clear hkB hWB d0 hzB hwn hwp
    try go_frame
    by_cases hk7:kd=7
    ·subst hk7
     have hEN:EN=Zan c E0 :=HST0.out
     obtain ⟨hw1,hw2⟩ :=HW.out.tick2 HV.out HI0.out (by omega)
     rw [← hEN,← HSBE.out] at hw2
     rw [← hEN] at hw1
     have HW1 :=Hd hw1
     have HW2 :=Hd hw2
     have HSN :=Hd (Zrg (HE2.out.keeps HKB.out) HI1.out.b0 (by have :=HI1.out.b1; omega) HV.out.c13.1)
     have HLN :=Hd (show EN.vs.length≤100 from by have :=HI1.out.len; have :=H100.out; omega)
     clear hEN hw1 hw2
     go_wp2_with fail
     refine HSN.out.mono ?_
     rintro r w5 ⟨a1,c1',a2,c2',a3,c3',a4,c4',a5,n5,c5',a6,n6,c6',un,rfl,hvl, -, -,hk5⟩
     have HVL :=Hd (show VL w5 (.slice a1 EN.vs.length c1') EN.vs∧∀ k,(Value.slice a1 EN.vs.length c1').ownBlock=some k→gw≠k from ⟨VL.of_owns hvl,fun k hk =>by have :=(hvl.lt k hk).1; have :=HKB.out.size; have :=HO2.out; omega⟩)
     have hkk :=HKB.out.keep hk5
     have HE5 :=Hd (HE2.out.keeps hkk)
     have HZ5 :=Hd (hkk.at HZ2.out.1 fun h =>h)
     have HM5 :=Hd (HM4.out.keep hkk)
     have HG5 :=Hd (hkk.at HG2.out.1 fun h =>h)
     have HO5 :=Hd (show OdL w5 (.slice (some ⟨gl,0,none⟩) L.length c6) L∧gl<w5.heap.size from ⟨HO2.out.1.keeps hkk,Nat.lt_of_lt_of_le HO2.out.2.2.2 hkk.size⟩)
     have hfl :=Zok EN.b (EN.b / c 13) (.slice a1 EN.vs.length c1') EN.led.d EN.led.p EN.led.b (actS EN.vs) (.slice a2 EN.pe.length c2') (.slice a3 EN.fo.length c3') (.slice a4 EN.vo.length c4') (.slice a5 n5 c5') (.slice a6 n6 c6') EN.cur EN.car un w5 rfl
     clear hvl hk5 hkk f7 f8 z14 z15 hg0 v1 v2
     go_wp2_with fail
     go_loopw [58] (fun i wi => ∃ j:Nat,i = .int .i64 (j:Int)∧j≤EN.vs.length∧wi.heap[gw]? = some (rowC (fun x =>.int .i64 (wtF EN.vs F j x)) 200 3)∧Mods (fun i =>i=gw) w5 wi) (fun i _ =>EN.vs.length - (intOf i).toNat)
     case atStart =>exact ⟨0,rfl,Nat.zero_le _,by rw [wtF_zero]; exact HG5.out,Mods.refl _ _⟩
     case round =>
      obtain ⟨j,rfl,hj,hgj,hmj⟩ :=hrel
      have HLT :=Hd hlt
      have HGJ :=Hd hgj
      have HMJ :=Hd hmj
      by_cases hjl:j<EN.vs.length
      ·have hji:(j:Int)<EN.vs.length :=by omega
       obtain ⟨bv,ov,rfl,q0,q1,q2,q3,q4,q5,q6⟩ :=(HVL.out.1.mods hmj fun k hk e =>HVL.out.2 k hk e.symm).at j hjl
       have hva:vAt EN.vs j=EN.vs[j] :=Zrk hjl
       have hst5 :=HW2.out j hjl
       rw [hva] at hst5
       have HPUT :=Hd (fun (w':World) (hg:w'.heap[gw]? = some (rowC (fun x =>.int .i64 (wtF EN.vs F j x)) 200 3)) (u:Int) (hu:u=if EN.vs[j].st=5 then F j+1 else 0) =>wt_put (v :=u) hg (by rw [hva]; exact hu))
       generalize EN.vs[j]=x at *
       obtain ⟨bal,st,sl,rq,ex,wd,dl⟩ :=x
       simp only at q0 q1 q2 q3 q4 q5 q6 hst5 HPUT
       have hln :=HLN.out
       have g0:wr.cell? ⟨gw,j,none⟩=some (.int .i64 (F j)) :=by have :=Z0t hgj j (by omega); rwa [wtF_at] at this
       have gf :=Z28 hgj j
       have hgl :=Z0a hgj
       have hbl2 :=cell_lt q0
       have h200 : ¬ (200:Int)≤j :=by omega
       have hj200:(j:Int)<200 :=by omega
       have HJL :=Hd hjl
       clear hgj hmj hfl hln
       by_cases hs:st=5
       ·subst hs
        obtain ⟨t1,t2,t3⟩ :=hst5 rfl
        have HT3 :=Hd (show 0≤F j∧F j+1≤100 from ⟨t2,by have :=H100.out; omega⟩)
        obtain ⟨f1,hf1⟩:∃ f,f=F j+1 :=⟨_,rfl⟩
        have hwr:IntKind.i64.wrap (F j+1)=f1 :=by have h :=HT3.out; rw [IntKind.wrap_i64]; omega
        rw [← hf1] at HPUT t1
        have hsb : ¬ sb≤f1 :=by omega
        clear hst5 t1 t2 t3
        go_upto_region 22 with (fail)
        refine Z0l ?_
        intro wd hwd
        have hgd:wd.heap[gw]? = some (rowC (fun x =>.int .i64 (wtF EN.vs F (j+1) x)) 200 3) :=by rw [hwd]; exact Z02 (HPUT.out _ HGJ.out _ (by rw [if_pos rfl]; exact hf1.symm)) _
        have hmd:Mods (fun i =>i=gw) w5 wd :=by rw [hwd]; exact (HMJ.out.setCell _ _ fun _ =>rfl).alloc _
        have g1:wd.cell? ⟨gw,j,none⟩=some (.int .i64 f1) :=by
         have h :=Z0t hgd j (by have :=HLN.out; omega)
         rwa [wtF_done F rfl hva,← hf1] at h
        have HGD :=Hd hgd
        have HMD :=Hd hmd
        have hzd :=hmd.at HZ5.out (fun h =>by have :=HS3.out.2.2; omega)
        rw [show cfgV c = .agg (cfgC c) from rfl] at HSB
        obtain ⟨cs,hcs⟩:∃ cs,cs=cfgC c :=⟨_,rfl⟩
        rw [← hcs] at HSB hzd
        have hs20:(Tryz.prog.info? 24).map (·.size)=some cs.toList.length :=by rw [Z0m,hcs]; rfl
        have HCS :=Hd hcs
        have HS :=Hd (fun (w':World) (hk:Z00 wd w') =>(⟨Z50 (hk.at hzd fun h =>h),hk.cell g1 fun h =>h⟩:w'.rangeAt z 0 cs.toList∧w'.cell? ⟨gw,j,none⟩=some (.int .i64 f1)))
        clear hwd hgd hmd g1 g0 gf hzd hcs hwr hva hf1 q0 q1 q2 q3 q4 q5 q6
        refine wp_region_held_drew (S :=(fun w' =>w'.rangeAt z 0 cs.toList∧w'.cell? ⟨gw,j,none⟩=some (.int .i64 f1))) (by kernel_rfl) (by exact HS.out _ (Mods.refl _ wd).drew) (fun hH0 =>?_)
        refine tk 0 rfl hH0 ?_
        try go_frame
        refine tk 1 rfl hH0 ?_
        try go_frame
        refine tk 2 rfl hH0 ?_
        try go_frame
        refine tk 3 (v := .int .i64 f1) rfl hH0 ?_
        try go_frame
        refine tkb 4 rfl hH0 (yieldsIf_load_mid (by rfl) 24 (.tmp 2) rfl z 0 rfl cs.toList _ (fun _ h =>h.1) Tryz.underlying24 rfl hs20) ?_
        try go_frame
        refine rdy [5] (Z04 rfl (fun K hK =>?_) AllReadyH.nil)
        go_simp
        refine (HSB.out _).mono ?_
        rintro r w8 ⟨rfl,hb8⟩
        go_wp2_with fail
        refine hK.out _ _ (HS.out _ ((Mods.refl _ wd).drew.keep (Mods.of_below hb8))) (fun hH1 =>?_)
        clear hK K hH0
        try go_frame
        refine tk 6 rfl hH1 ?_
        try go_frame
        refine wpAnyH_done (by kernel_rfl) ?_ _
        clear hH1
        have HK8 :=Hd (show Z00 wd w8 from (Mods.refl _ wd).drew.keep (Mods.of_below hb8))
        clear hb8
        go_wp2
        go_round
        case rel =>exact ⟨j+1,by go_num,HJL.out,HK8.out.at HGD.out fun h =>h,HMD.out.keep HK8.out⟩
        case measure =>have :=HJL.out; simp only [intOf]; omega
       ·rw [if_neg hs] at HPUT
        clear hst5 hva
        go_wp2
        go_round
        case rel =>exact ⟨j+1,by go_num,HJL.out,Z02 (HPUT.out _ HGJ.out _ rfl) _,(HMJ.out.setCell _ _ fun _ =>rfl).alloc _⟩
        case measure =>have :=HJL.out; simp only [intOf]; omega
      ·obtain rfl:j=EN.vs.length :=by omega
       have hji : ¬ ((EN.vs.length:Int)<EN.vs.length) :=by omega
       have hne:gl≠gw :=by have :=HO2.out.2.2.1; omega
       have hzg:z<gw :=HS3.out.2.2
       have HF1 :=Hd (HE5.out.loc hmj fun i _ h =>by rw [h]; exact HG2.out.2)
       have HF3 :=Hd (hmj.at HZ5.out fun h =>by omega)
       have HF4 :=Hd (HM5.out.seq hmj fun i hi h =>by have :=HZ.out; omega)
       have HF5 :=Hd (show OdL wr (.slice (some ⟨gl,0,none⟩) L.length c6) L∧gl<wr.heap.size from ⟨HO5.out.1.mods hmj fun k hk e =>by cases hk; exact hne e,Nat.lt_of_lt_of_le HO5.out.2 hmj.size⟩)
       clear hgj hmj hfl hne hzg
       go_wp2
       go_round
       case rel =>exact ⟨k+1,own2,wtF EN.vs F EN.vs.length,by go_num,HLT.out,by rw [← HEN.out]; exact HW1.out,(by rw [Nat.mul_succ,← HEN.out]; exact HF1.out),⟨HGJ.out,HG2.out.2⟩,⟨HF3.out,HZ2.out.2⟩,⟨HF5.out.1,HO2.out.2.1,HO2.out.2.2.1,HF5.out.2⟩,HF4.out,HZZ.out⟩
       case measure =>have :=HLT.out; simp only [intOf]; omega
    ·have hkb:(kd == 7)=false :=by simpa using hk7
     have hEN:EN=actE c E0 ⟨kd,ix,tg,am⟩ :=HST0.out.trans (if_neg hk7)
     have HW1 :=Hd (show WaitOk c EN F by rw [hEN]; exact HW.out.act _ (by rw [← hEN]; exact HI1.out))
     have HF1 :=Hd (HE2.out.keeps HKB.out)
     have HF2 :=Hd (HKB.out.at HG2.out.1 fun h =>h)
     have HF4 :=Hd (HM4.out.keep HKB.out)
     have HF5 :=Hd (show OdL WB (.slice (some ⟨gl,0,none⟩) L.length c6) L∧gl<WB.heap.size from ⟨HO2.out.1.keeps HKB.out,Nat.lt_of_lt_of_le HO2.out.2.2.2 HKB.out.size⟩)
     have HLT :=Hd hlt
     clear hEN
     go_wp2
     go_round
     case rel =>exact ⟨k+1,own2,F,by go_num,HLT.out,by rw [← HEN.out]; exact HW1.out,(by rw [Nat.mul_succ,← HEN.out]; exact HF1.out),⟨HF2.out,HG2.out.2⟩,⟨HZ3.out,HZ2.out.2⟩,⟨HF5.out.1,HO2.out.2.1,HO2.out.2.2.1,HF5.out.2⟩,HF4.out,HZZ.out⟩
     case measure =>have :=HLT.out; simp only [intOf]; omega
   ·obtain rfl:k=L.length :=by omega
    have hki : ¬ ((L.length:Int)<L.length) :=by omega
    clear hE hM hZ0 hW hG hZB hO
    go_wp2_with fail
    refine (HR.out _).mono ?_
    rintro r w5 ⟨rfl,hk5⟩
    have HKK :=Hd (HM.out.keep hk5)
    clear hk5
    go_wp2
    go_ret
    exact ⟨rfl,HKK.out.below'⟩
end Go.Proofs.YtecapfmmoejikaaGreat
