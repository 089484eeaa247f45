/- A part of the proofs of the top laws: AsgD ParC. -/
import Derived.Test.YtecapfmmoejikaaGreatPkBa
set_option maxRecDepth 4000
set_option maxHeartbeats 8000000
namespace Go.Proofs.YtecapfmmoejikaaGreat
open Go.RowKit Go.Eg
theorem Z09 {w:World} {e:Nat} {c:Nat→Int} {p:Ep} {lv:Value} (h:w.heap[e]? = some (engB c p lv)):w.cell? ⟨e,0,none⟩=some (.pointer (some ⟨p.rg,0,none⟩))∧w.cell? ⟨e,21,none⟩=some (.pointer (some ⟨p.ck,0,none⟩))∧w.cell? ⟨e,22,none⟩=some (.pointer (some ⟨p.ld,0,none⟩))∧w.cell? ⟨e,23,none⟩=some (.pointer (some ⟨p.bo,0,none⟩))∧w.cell? ⟨e,24,none⟩=some lv∧w.cell? ⟨e,25,none⟩=some (.pointer (some ⟨p.cu,0,none⟩))∧w.cell? ⟨e,26,none⟩=some (.pointer (some ⟨p.me,0,none⟩))∧w.cell? ⟨e,27,none⟩=some (.pointer (some ⟨p.la,0,none⟩))∧w.cell? ⟨e,28,none⟩=some (.pointer (some ⟨p.pe,0,none⟩))∧w.cell? ⟨e,29,none⟩=some (.pointer (some ⟨p.mg,0,none⟩))∧w.cell? ⟨e,30,none⟩=some (.pointer (some ⟨p.pr,0,none⟩)) :=by
 unfold World.cell?
 rw [h]
 exact ⟨rfl,rfl,rfl,rfl,rfl,rfl,rfl,rfl,rfl,rfl,rfl⟩
theorem Z55 {w:World} {e:Nat} {c:Nat→Int} {p:Ep} {lv:Value} (h:w.heap[e]? = some (engB c p lv)):w.rangeAt e 1 (cfgC c).toList :=by
 intro j v hj
 rw [cell_of_row _ _ _ _ _ _ h]
 have hlt:j<20 :=by have :=(List.getElem?_eq_some_iff.1 hj).1; simpa using this
 match j,hlt,hj with
 | 0,_,hj =>exact hj
 | 1,_,hj =>exact hj
 | 2,_,hj =>exact hj
 | 3,_,hj =>exact hj
 | 4,_,hj =>exact hj
 | 5,_,hj =>exact hj
 | 6,_,hj =>exact hj
 | 7,_,hj =>exact hj
 | 8,_,hj =>exact hj
 | 9,_,hj =>exact hj
 | 10,_,hj =>exact hj
 | 11,_,hj =>exact hj
 | 12,_,hj =>exact hj
 | 13,_,hj =>exact hj
 | 14,_,hj =>exact hj
 | 15,_,hj =>exact hj
 | 16,_,hj =>exact hj
 | 17,_,hj =>exact hj
 | 18,_,hj =>exact hj
 | 19,_,hj =>exact hj
theorem Zcm (E:En) (lim:Int):Z29 E lim≤(E.fo ++ E.vo).length :=by
 have h :=Ziu (asgW (E.vs.map (·.bal)) E.fo E.vo) (min (E.car+lim) maxU)
 have e:(asgW (E.vs.map (·.bal)) E.fo E.vo).length=(E.fo ++ E.vo).length :=by rw [asgW,List.length_map]
 rw [e] at h
 exact h
theorem Z0b {w:World} {b:Nat} {u v x:Value} {t:TypeId} {fr:Nat × Nat} (h:w.heap[b]? = some (.cells #[u,v,x] t fr)):w.cell? ⟨b,0,none⟩=some u∧w.cell? ⟨b,1,none⟩=some v∧w.cell? ⟨b,2,none⟩=some x :=by
 unfold World.cell?
 rw [h]
 exact ⟨rfl,rfl,rfl⟩
theorem Zb3:(Tryz.prog.info? 3).map (fun i =>(i.zero,i.size,i.bytes))=some (some (.int .i64 0),1,8) :=by kernel_rfl
theorem Znt {own:Nat→Nat} {w:World} {e:Nat} {c:Nat→Int} {E:En} {p:Ep} {N:Nat} (h:Z0i own w e c E p N) (ep lim:Int) (h0:0≤ep) (h1:ep≤1000000) (hl0:0≤lim) (hl1:lim≤maxU) (hc0:0≤E.car)
 (hin:∀ i∈E.fo ++ E.vo,inR E.vs i) (hwd:∀ x∈E.vs,x.wd≤1099511627776) (hbk:∀ j,(E.bk j).length≤180000) (hlv:E.lv.length≤10000) (hN:N+30000<4294967296) :
 Calls Tryz.prog 112 #[.pointer (some ⟨e,0,none⟩), .int .i64 ep, .int .u64 lim] w fun r w' => ∃ v',r = .returned v'∧∃ own',Z0i own' w' e c (Z23 c E ep lim) p (N+20000)∧Ext own w own' w' ∧
  w'.ownsRow w.heap.size 51 3 v' (Z29 E lim) (Z4u (Z42 E ep lim))∧∀ k,v'.ownBlock=some k→own' k=0 :=by
 obtain ⟨hvok,htot,hvl,hc4⟩ :=h.vsok
 have hW:∀ x∈E.vs.map (·.bal),0≤x∧x≤maxU :=fun x hx =>by
  obtain ⟨v,hv,rfl⟩ :=List.mem_map.1 hx
  exact ⟨(hvok v hv).b0,(hvok v hv).b1⟩
 have HB :=Hd (fun w' (hk:Z00 w w') =>Zms (h.keeps hk))
 have HAS :=Hd (fun (w1:World) (hk:Z00 w w1) (v:Value) (B:Nat) (hv:w1.ownsRow B 22 1 v E.vs.length (E.vs.map fun x =>.int .u64 x.bal)) (hv0:∀ k,v.ownBlock=some k→own k=0) =>Zkk (h.keeps hk) ep lim v (E.vs.map (·.bal)) B (by rw [List.length_map,List.map_map]; exact hv) hv0 hW h0 (by omega) hl0 hl1 hc0)
 have HNEW :=Hd h.new
 obtain ⟨OUT,hOUT⟩:∃ x,x=Z42 E ep lim :=⟨_,rfl⟩
 have hOl:OUT.length=Z29 E lim :=by rw [hOUT]; exact Za6 _ _ _ _
 rw [← hOUT,← hOl]
 have HOUT :=Hd hOUT
 have HOL :=Hd hOl
 clear hOUT hOl
 obtain ⟨lv,hblk, -, -⟩ :=h.blk (by decide)
 obtain ⟨c0, -, -, -, -, -,c26,c27, -, -, -⟩ :=Z09 hblk
 have HCC :=Hd (fun w' (hk:Z00 w w') =>(⟨hk.cell c0 fun h =>h,hk.cell c26 fun h =>h,hk.cell c27 fun h =>h⟩:w'.cell? ⟨e,0,none⟩=some (.pointer (some ⟨p.rg,0,none⟩))∧w'.cell? ⟨e,26,none⟩=some (.pointer (some ⟨p.me,0,none⟩))∧w'.cell? ⟨e,27,none⟩=some (.pointer (some ⟨p.la,0,none⟩))))
 have HIN :=Hd hin
 have HVOK :=Hd hvok
 have HWD :=Hd hwd
 have HBK :=Hd hbk
 have HLV :=Hd hlv
 have HTOT :=Hd htot
 have HQ8 :=Hd (show (E.fo ++ E.vo).length≤8192 from by
  obtain ⟨-, -,S0,S1,p0,q0, -,r0,r1, -⟩ :=h.la (by decide)
  have :=r0.2.2.2.1
  have :=r0.2.2.1
  have :=r1.2.2.2.1
  have :=r1.2.2.1
  rw [List.length_append]
  omega)
 clear hblk c0 c26 c27 h hin hwd hbk hlv hvok htot hvl hc4 hW
 go_enter Tryz.func112,Tryz.ntmps112
 go_wp2_with fail
 refine wp_region_held_drew (S :=(fun w' =>w'.cell? ⟨e,0,none⟩=some (.pointer (some ⟨p.rg,0,none⟩))∧w'.cell? ⟨e,26,none⟩=some (.pointer (some ⟨p.me,0,none⟩))∧w'.cell? ⟨e,27,none⟩=some (.pointer (some ⟨p.la,0,none⟩)))) (by kernel_rfl) (by exact HCC.out _ (Mods.refl _ w).drew) (fun hH0 =>?_)
 refine tk 0 rfl hH0 ?_
 try go_frame
 refine tk 1 rfl hH0 ?_
 try go_frame
 refine tk 2 rfl hH0 ?_
 try go_frame
 refine tk 3 rfl hH0 ?_
 try go_frame
 refine tk 4 rfl hH0 ?_
 try go_frame
 refine tk 5 rfl hH0 ?_
 try go_frame
 refine tk 6 rfl hH0 ?_
 try go_frame
 refine tk 7 rfl hH0 ?_
 try go_frame
 refine tk 8 rfl hH0 ?_
 try go_frame
 refine tk 9 rfl hH0 ?_
 try go_frame
 refine tk 10 rfl hH0 ?_
 try go_frame
 refine tk 11 rfl hH0 ?_
 try go_frame
 refine tk 12 rfl hH0 ?_
 try go_frame
 refine tk 13 (v :=tabV p.rg) rfl hH0 ?_
 try go_frame
 refine rdy [14] (Z04 rfl (fun K hK =>?_) AllReadyH.nil)
 go_simp
 refine (HB.out _ (Mods.refl _ w).drew).mono ?_
 rintro r w1 ⟨v,rfl,hv,hk1⟩
 have hk :=((Mods.refl (fun _ =>False) w).drew).keep hk1
 go_wp2_with fail
 refine hK.out _ _ (HCC.out _ hk) (fun hH1 =>?_)
 clear hK K hH0
 try go_frame
 refine rdy [15] (Z04 rfl (fun K hK =>?_) AllReadyH.nil)
 have HK1 :=Hd hk
 have HV :=Hd hv
 clear hk hv hk1
 go_simp
 refine (HAS.out _ HK1.out v _ HV.out fun k hk =>HNEW.out k (HV.out.lt k hk).1).mono ?_
 rintro r w2 ⟨v',rfl,own2,KA,hKA,hE2,hX2,ho2,hz2⟩
 rw [show KA=Z29 E lim from hKA] at hE2 ho2
 have hOUT :=HOUT.out
 have hOl :=HOL.out
 rw [show Z1p E.fo E.vo ep (Z29 E lim)=OUT from hOUT.symm] at ho2
 rw [← hOl] at ho2
 have hK8:OUT.length≤8192 :=by
  have h5 :=Zcm E lim
  have h6 :=HQ8.out
  omega
 have hIN:∀ a∈OUT,inR E.vs a.1 :=fun a ha =>by
  rw [hOUT] at ha
  unfold Z42 Z1p at ha
  obtain ⟨j,hj,rfl⟩ :=List.mem_map.1 ha
  have hj2:j<(E.fo ++ E.vo).length :=by
   have h6:j<Z29 E lim :=by simpa using hj
   have h7 :=Zcm E lim
   omega
  dsimp only
  rw [show (E.fo ++ E.vo).getD j 0=(E.fo ++ E.vo)[j] from by simp [List.getD,List.getElem?_eq_getElem hj2]]
  exact HIN.out _ (List.getElem_mem _)
 obtain ⟨E0,hE0⟩:∃ x:En,x = { E with fo :=E.fo.drop (Z29 E lim),vo :=E.vo.drop (Z29 E lim - E.fo.length),car :=if Z29 E lim=(E.fo ++ E.vo).length then 0 else min (E.car+lim) maxU - sumT (asgW (E.vs.map (·.bal)) E.fo E.vo) (Z29 E lim) } := ⟨_,rfl⟩
 rw [← hE0] at hE2
 obtain ⟨T,hT⟩:∃ T:Nat→List Vd × (Nat→List (Int × Int)) × List Int,T=fun k =>(OUT.take k).foldl (asg1 (c 12).toNat (c 10)) (E.vs,E.bk,E.lv) :=⟨_,rfl⟩
 have HT0 :=Hd (show E0 = { E0 with vs :=(T 0).1,bk :=(T 0).2.1,lv :=(T 0).2.2 } from by rw [hT,hE0]; rfl)
 have HTS :=Hd (show ∀ k (hk:k<OUT.length),T (k+1)=asg1 (c 12).toNat (c 10) (T k) OUT[k] from fun k hk =>by
  rw [hT]
  dsimp only
  rw [List.take_succ_eq_append_getElem hk,List.foldl_append]
  rfl)
 have HTE :=Hd (show { E0 with vs :=(T OUT.length).1,bk :=(T OUT.length).2.1,lv :=(T OUT.length).2.2 }=Z23 c E ep lim from by
  rw [hT,hE0]
  dsimp only
  rw [List.take_length,hOUT]
  rfl)
 have HAI :=Hd (show ∀ k,AsgI E.vs (totS E.vs) 190000 20000 (T k) from fun k =>by
  have h8 :=AsgI.fold (L :=(c 12).toNat) (un :=c 10) (OUT.take k) (s :=(E.vs,E.bk,E.lv)) (vs :=E.vs) (T :=totS E.vs) (M :=180000) (M2 :=10000) ⟨rfl,HVOK.out,Int.le_refl _,HWD.out,HBK.out,HLV.out⟩ fun a ha =>hIN a (List.mem_of_mem_take ha)
  rw [hT]
  have h9:(OUT.take k).length≤8192 :=by rw [List.length_take]; omega
  exact ⟨h8.len,h8.ok,h8.tot,h8.wd,fun j =>by have :=h8.bkl j; dsimp only at this ⊢; omega,by have :=h8.lvl; dsimp only at this ⊢; omega⟩)
 have HINO :=Hd hIN
 obtain ⟨lv2,hb2, -, -⟩ :=hE2.blk (by decide)
 obtain ⟨d0, -, -, -, -, -,d26,d27, -, -, -⟩ :=Z09 hb2
 go_wp2_with fail
 refine hK.out _ _ (⟨d0,d26,d27⟩) (fun hH2 =>?_)
 clear hK K hH1
 try go_frame
 refine tk 16 rfl hH2 ?_
 try go_frame
 refine wpAnyH_done (by kernel_rfl) ?_ _
 clear hH2
 have HE2 :=Hd hE2
 have HX2 :=Hd ((Ext.keeps (own :=own) HK1.out).trans hX2)
 have HO2 :=Hd (own_base ho2 HK1.out.size)
 have HZ2 :=Hd hz2
 rw [HT0.out] at hE2
 have HE2' :=Hd hE2
 obtain ⟨oa,oc,rfl⟩ :=Z0c ho2
 clear hE2 hX2 ho2 hz2 hKA hOUT hOl hIN hE0 hT hb2 d0 d26 d27
 go_wp2_with fail
 go_loopw [30] (fun i wr => ∃ k:Nat,k≤OUT.length∧i = .int .i64 k∧∃ own',Z0i own' wr e c { E0 with vs :=(T k).1,bk :=(T k).2.1,lv :=(T k).2.2 } p (N+2 * k)∧Ext own w own' wr∧Ext own2 w2 own' wr) (fun i _ =>OUT.length - (intOf i).toNat)
 case atStart =>exact ⟨0,Nat.zero_le _,rfl,own2,HE2'.out,HX2.out,Ext.refl _ _⟩
 case round =>
  obtain ⟨k,hk,rfl,own3,hE,hX,hX3⟩ :=hrel
  by_cases hlt:k<OUT.length
  ·have hki:(k:Int)<(OUT.length:Int) :=Int.ofNat_lt.2 hlt
   obtain ⟨g,gc,hvv,q0,q1,q2⟩ :=Zr6 (hX3.owns HO2.out HZ2.out) k hlt
   simp only [Value.slice.injEq] at hvv
   obtain ⟨rfl,_,rfl⟩ :=hvv
   have hst :=HTS.out k hlt
   have hai :=HAI.out k
   have hai1 :=HAI.out (k+1)
   have hin :=HINO.out OUT[k] (List.getElem_mem hlt)
   generalize OUT[k]=a at *
   obtain ⟨ix,cl,ee⟩ :=a
   dsimp only at q0 q1 q2 hin
   have hi0 :=hin.1
   obtain ⟨i,rfl⟩ :=Int.eq_ofNat_of_zero_le hi0
   have hil:i<(T k).1.length :=by have :=hin.2; rw [hai.len]; omega
   have hvk :=Z2g hil
   have hvok :=hai.ok _ (List.getElem_mem hil)
   obtain ⟨z1,z2,z3,z4⟩ :=Z7l hvok (hai.wd _ (List.getElem_mem hil)) ee (c 10)
   have HGET :=Hd (fun w' (hk:Z00 wr w') =>eGet (hE.keeps hk) i hil)
   obtain ⟨v0,hv0⟩:∃ x,x=(T k).1[i] :=⟨_,rfl⟩
   rw [← hv0] at HGET hvk hvok z1 z2 z3 z4
   have HPA :=Hd (fun w =>Zbo v0 hvok ee c w)
   obtain ⟨NV,hNV⟩:∃ x,x=Z2m ee (c 10) v0 :=⟨_,rfl⟩
   rw [← hNV] at HPA z1 z2 z3 z4
   have HST :=Hd (show T (k+1)=((T k).1.set i NV.2,putB (c 12).toNat (T k).2.1 NV.2.wd i,(T k).2.2 ++ [(i:Int)]) from hst.trans (by unfold asg1; dsimp only; rw [Int.toNat_natCast,hvk,← hNV]))
   have hsum:totS ((T k).1.set i NV.2)≤maxU :=by
    have :=hai1.tot
    rw [HST.out] at this
    exact Int.le_trans this HTOT.out
   have HCH :=Hd (fun (w':World) (hk:Z00 wr w') =>Z4z (hE.keeps hk) NV.2 z1 i hil hsum (by omega))
   have HWD3 :=Hd z3
   have HWD4 :=Hd z4
   have HAIK :=Hd hai
   obtain ⟨lv,hblk, -, -⟩ :=hE.blk (by decide)
   have HBLK :=Hd hblk
   obtain ⟨c0, -, -,c23, -, -, -, -, -, -, -⟩ :=Z09 hblk
   have hcfg :=Z55 hblk
   have HE :=Hd hE
   have HX :=Hd hX
   have HX3 :=Hd hX3
   rw [show cfgV c = .agg (cfgC c) from rfl] at HPA
   have hcz:(cfgC c).toList.length=20 :=rfl
   generalize cfgC c=cs at *
   have hs20:(Tryz.prog.info? 24).map (·.size)=some cs.toList.length :=by rw [Z0m,hcz]
   have HCE :=Hd (fun w' (hk:Z00 wr w') =>(⟨hk.cell c0 fun h =>h,hk.cell c23 fun h =>h,Z0n hcfg hk⟩:w'.cell? ⟨e,0,none⟩=some (.pointer (some ⟨p.rg,0,none⟩))∧w'.cell? ⟨e,23,none⟩=some (.pointer (some ⟨p.bo,0,none⟩))∧w'.rangeAt e 1 cs.toList))
   clear hst hai hai1 hin hi0 hvk hvok z1 z2 z3 z4 hv0 hNV hsum hblk c0 c23 hcfg hE hX hX3
   go_wp2_with fail
   refine Z0l ?_
   intro w3 hw3
   have hb9 :=Z0g hw3
   have hk3 :=Z0f hw3
   obtain ⟨y0,y1,y2⟩ :=Z0b hb9
   have HT9 :=Hd (fun (wx:World) (hm:Mods (fun i =>w3.heap.size≤i) w3 wx) =>(⟨hm.cell y0 fun h =>absurd (Z0a hb9) (Nat.not_lt.2 h),hm.cell y2 fun h =>absurd (Z0a hb9) (Nat.not_lt.2 h)⟩:wx.cell? ⟨wr.heap.size,0,none⟩=some (.int .i64 (i:Int))∧wx.cell? ⟨wr.heap.size,2,none⟩=some (.int .i64 ee)))
   have HK3 :=Hd hk3
   have HB9 :=Hd hb9
   have hw3s:w3.heap.size=wr.heap.size+1 :=by rw [hw3,World.size_alloc]
   clear hw3 hb9 hk3 y0 y1 y2 q0 q1 q2
   refine Z07 (S :=(fun w' =>w'.cell? ⟨e,0,none⟩=some (.pointer (some ⟨p.rg,0,none⟩))∧w'.cell? ⟨wr.heap.size,0,none⟩=some (.int .i64 (i:Int)))) (by kernel_rfl) (by exact ⟨(HCE.out _ HK3.out.drew).1,(HT9.out _ (Mods.refl _ w3).drew).1⟩) (fun wc hD hH0 =>?_)
   have HM :=Hd (show Mods (fun i =>w3.heap.size≤i) w3 wc from hD.mods)
   clear hD
   refine tk 0 rfl hH0 ?_
   try go_frame
   refine tk 1 rfl hH0 ?_
   try go_frame
   refine tk 2 rfl hH0 ?_
   try go_frame
   refine tk 3 rfl hH0 ?_
   try go_frame
   refine tk 4 rfl hH0 ?_
   try go_frame
   refine tk 5 rfl hH0 ?_
   try go_frame
   refine tk 6 rfl hH0 ?_
   try go_frame
   refine rdy [7,11] (Z04 rfl (fun K hK =>?_) (Z04 rfl (fun K hK =>?_) AllReadyH.nil))
   ·go_simp
    refine (HGET.out _ (HK3.out.seq HM.out fun i hi h =>by omega)).mono ?_
    rintro r wc ⟨rfl,hk⟩
    go_wp2_with fail
    refine hK.out _ _ (⟨(HCE.out _ (HK3.out.seq (HM.out.keep hk) fun i hi h =>by omega)).1,(HT9.out _ (HM.out.keep hk)).1⟩) (fun hH1 =>?_)
    clear hK K hH0
    try go_frame
    replace HM :=Hd (HM.out.keep hk)
    try replace HZ :=Hd (hk.at HZ.out fun h =>h)
    clear hk
    refine tk 8 rfl hH1 ?_
    try go_frame
    refine tk 9 rfl hH1 ?_
    try go_frame
    refine tk 10 rfl hH1 ?_
    try go_frame
    refine rdy [11] (Z04 rfl (fun K hK =>?_) AllReadyH.nil)
    go_simp
    have hsbn:w3.heap.size≤wc.heap.size :=HM.out.size
    generalize hsz5:wc.heap.size=z at *
    refine Z14 ?_
    intro wc hwd
    have hk :=Z0f hwd
    have hn :=Z0g hwd
    rw [hsz5] at hn
    refine hK.out _ _ (⟨(HCE.out _ (HK3.out.seq (HM.out.keep hk) fun i hi h =>by omega)).1,(HT9.out _ (HM.out.keep hk)).1⟩) (fun hH2 =>?_)
    clear hK K hH1
    try go_frame
    replace HM :=Hd (HM.out.keep hk)
    have HZ :=Hd (show wc.heap[z]? = some (vdB vd0) from hn)
    have HZN :=Hd hsbn
    clear hwd hk hn hsz5 hsbn
    refine rdy [12] (Z04 rfl (fun K hK =>?_) AllReadyH.nil)
    refine Z0d (by rfl) (.tmp 10) (.tmp 43) rfl z v0 vd0 (by rfl) (by rfl) HZ.out ?_
    intro wc hz hm
    have hmm :=HM.out.trans (hm.weaken (T :=fun i =>w3.heap.size≤i) fun i _ h =>by rw [h]; exact HZN.out)
    refine hK.out _ _ (⟨(HCE.out _ (HK3.out.seq hmm fun i hi h =>by omega)).1,(HT9.out _ hmm).1⟩) (fun hH3 =>?_)
    clear hK K hH2
    try go_frame
    replace HM :=Hd hmm
    replace HZ :=Hd hz
    clear hz hm hmm
    refine tk 13 rfl hH3 ?_
    try go_frame
    refine wpAnyH_done (by kernel_rfl) ?_ _
    have hS :=Hd hH3
    clear hH3
    clear hS
    have hzn :=HZN.out
    go_wp2_with fail
    have HM0 :=Hd HM.out
    refine Z07 (S :=(fun w' =>w'.cell? ⟨wr.heap.size,2,none⟩=some (.int .i64 ee)∧w'.rangeAt e 1 cs.toList)) (by kernel_rfl) (by exact ⟨(HT9.out _ HM.out.drew).2,(HCE.out _ (HK3.out.seq HM.out.drew fun i hi h =>by omega)).2.2⟩) (fun wc hD hH0 =>?_)
    replace HZ :=Hd (show wc.heap[z]? = some (vdB v0) from by rw [hD.heap]; exact HZ.out)
    replace HM :=Hd (HM0.out.trans hD.mods)
    clear hD
    refine tk 1 rfl hH0 ?_
    try go_frame
    refine tk 2 rfl hH0 ?_
    try go_frame
    refine tk 3 rfl hH0 ?_
    try go_frame
    refine tk 4 rfl hH0 ?_
    try go_frame
    refine tk 5 rfl hH0 ?_
    try go_frame
    refine tkb 6 rfl hH0 (yieldsIf_load_mid (by rfl) 24 (.tmp 51) rfl e 1 rfl cs.toList _ (fun _ h =>h.2) Tryz.underlying24 rfl hs20) ?_
    try go_frame
    refine rdy [0] (Z04 rfl (fun K hK =>?_) AllReadyH.nil)
    refine Z22 (by rfl) 49 (.tmp 10) rfl z 0 rfl v0.cells.toList _ (Z2l HZ.out) Tryz.underlying49 rfl Z4n ?_
    refine hK.out _ _ (⟨(HT9.out _ HM.out).2,(HCE.out _ (HK3.out.seq HM.out fun i hi h =>by omega)).2.2⟩) (fun hH1 =>?_)
    clear hK K hH0
    try go_frame
    refine rdy [7] (Z04 rfl (fun K hK =>?_) AllReadyH.nil)
    go_simp
    refine (HPA.out _).mono ?_
    rintro r wc ⟨rfl,hk⟩
    go_wp2_with fail
    refine hK.out _ _ (⟨(HT9.out _ (HM.out.keep hk)).2,(HCE.out _ (HK3.out.seq (HM.out.keep hk) fun i hi h =>by omega)).2.2⟩) (fun hH2 =>?_)
    clear hK K hH1
    try go_frame
    replace HM :=Hd (HM.out.keep hk)
    replace HZ :=Hd (hk.at HZ.out fun h =>h)
    clear hk
    refine tk 8 rfl hH2 ?_
    try go_frame
    refine tk 9 rfl hH2 ?_
    try go_frame
    refine tk 10 rfl hH2 ?_
    try go_frame
    refine rdy [11] (Z04 rfl (fun K hK =>?_) AllReadyH.nil)
    refine Z0d (by rfl) (.tmp 10) (.tmp 54) rfl z NV.2 v0 (by rfl) (by rfl) HZ.out ?_
    intro wc hz hm
    have hmm :=HM.out.trans (hm.weaken (T :=fun i =>w3.heap.size≤i) fun i _ h =>by rw [h]; exact HZN.out)
    refine hK.out _ _ (⟨(HT9.out _ hmm).2,(HCE.out _ (HK3.out.seq hmm fun i hi h =>by omega)).2.2⟩) (fun hH3 =>?_)
    clear hK K hH2
    try go_frame
    replace HM :=Hd hmm
    replace HZ :=Hd hz
    clear hz hm hmm
    refine wpAnyH_done (by kernel_rfl) ?_ _
    have hS :=Hd hH3
    clear hH3
    clear hS
    go_wp2_with fail
    refine wp_region_held_drew (S :=(fun w' =>w'.cell? ⟨e,0,none⟩=some (.pointer (some ⟨p.rg,0,none⟩))∧w'.cell? ⟨wr.heap.size,0,none⟩=some (.int .i64 (i:Int))∧w'.heap[z]? = some (vdB NV.2))) (by kernel_rfl) (by exact ⟨(HCE.out _ (HK3.out.seq HM.out.drew fun i hi h =>by omega)).1,(HT9.out _ HM.out.drew).1,HZ.out⟩) (fun hH0 =>?_)
    refine tk 0 rfl hH0 ?_
    try go_frame
    refine tk 1 rfl hH0 ?_
    try go_frame
    refine tk 2 rfl hH0 ?_
    try go_frame
    refine tk 3 (v :=tabV p.rg) rfl hH0 ?_
    try go_frame
    refine tk 4 rfl hH0 ?_
    try go_frame
    refine tk 5 rfl hH0 ?_
    try go_frame
    refine tkb 6 rfl hH0 (Z13 (by rfl) (.tmp 10) rfl z rfl NV.2 (fun _ h =>h.2.2)) ?_
    try go_frame
    refine rdy [7] (Z04 rfl (fun K hK =>?_) AllReadyH.nil)
    have hkc :=HK3.out.seq HM.out.drew fun i hi h =>by omega
    go_simp
    refine (HCH.out _ hkc).mono ?_
    rintro r w6 ⟨rfl,own4,hE4,hX4⟩
    go_wp2_with fail
    have hz0:own3 z=0 :=HE.out.new z (by omega)
    have ht0:own3 wr.heap.size=0 :=HE.out.new _ (Nat.le_refl _)
    have HZ6 :=Hd (hX4.at (b :=z) HZ.out hz0)
    have HT6 :=Hd (hX4.at (b :=wr.heap.size) ((HM.out.drew).at HB9.out fun h =>by omega) ht0)
    obtain ⟨lv4,hb4, -, -⟩ :=hE4.blk (by decide)
    obtain ⟨f0, -, -,f23, -, -, -, -, -, -, -⟩ :=Z09 hb4
    refine hK.out _ _ (⟨f0,(Z0b HT6.out.1).1,HZ6.out.1⟩) (fun hH1 =>?_)
    clear hK K hH0
    try go_frame
    refine wpAnyH_done (by kernel_rfl) ?_ _
    clear hH1
    have HE4 :=Hd hE4
    have HX4 :=Hd ((Ext.keeps (own :=own3) hkc).trans hX4)
    have HPUT :=Hd (fun (w':World) (hk:Z00 w6 w') =>ePut (hE4.keeps hk) NV.2.wd (i:Int) HWD3.out HWD4.out (fun j =>by have :=HAIK.out.bkl j; dsimp only; omega))
    have HC6 :=Hd (fun (wx:World) (hk:Z00 w6 wx) =>(⟨hk.cell f23 fun h =>h,hk.cell (Z0o HZ6.out.1).2.2.2.2.2.1 fun h =>h,hk.cell (Z0b HT6.out.1).1 fun h =>h⟩:wx.cell? ⟨e,23,none⟩=some (.pointer (some ⟨p.bo,0,none⟩))∧wx.cell? ⟨z,5,none⟩=some (.int .i64 NV.2.wd)∧wx.cell? ⟨wr.heap.size,0,none⟩=some (.int .i64 (i:Int))))
    clear hE4 hX4 hb4 f0 f23 hkc hz0 ht0
    go_wp2_with fail
    refine wp_region_held_drew (S :=(fun w' =>w'.cell? ⟨e,23,none⟩=some (.pointer (some ⟨p.bo,0,none⟩))∧w'.cell? ⟨z,5,none⟩=some (.int .i64 NV.2.wd)∧w'.cell? ⟨wr.heap.size,0,none⟩=some (.int .i64 (i:Int)))) (by kernel_rfl) (by exact HC6.out _ (Mods.refl _ w6).drew) (fun hH0 =>?_)
    refine tk 0 rfl hH0 ?_
    try go_frame
    refine tk 1 rfl hH0 ?_
    try go_frame
    refine tk 2 rfl hH0 ?_
    try go_frame
    refine tk 3 rfl hH0 ?_
    try go_frame
    refine tk 4 rfl hH0 ?_
    try go_frame
    refine tk 5 rfl hH0 ?_
    try go_frame
    refine tk 6 rfl hH0 ?_
    try go_frame
    refine tk 7 rfl hH0 ?_
    try go_frame
    refine rdy [8] (Z04 rfl (fun K hK =>?_) AllReadyH.nil)
    go_simp
    refine (HPUT.out _ (Mods.refl _ w6).drew).mono ?_
    rintro r w7 ⟨rfl,own5,hE5,hX5⟩
    go_wp2_with fail
    have hX45 :=(Ext.keeps (own :=own4) (Mods.refl (fun _ =>False) w6).drew).trans hX5
    have HZ7 :=Hd (hX45.at HZ6.out.1 HZ6.out.2)
    have HT7 :=Hd (hX45.at HT6.out.1 HT6.out.2)
    obtain ⟨lv5,hb5,hr5,ho5⟩ :=hE5.blk (by decide)
    refine hK.out _ _ (⟨(Z09 hb5).2.2.2.1,(Z0o HZ7.out.1).2.2.2.2.2.1,(Z0b HT7.out.1).1⟩) (fun hH1 =>?_)
    clear hK K hH0
    try go_frame
    refine wpAnyH_done (by kernel_rfl) ?_ _
    clear hH1
    dsimp only at hr5
    obtain ⟨la,lc,rfl⟩ :=Z0c hr5
    have HE5 :=Hd hE5
    have HX5 :=Hd (HX4.out.trans hX45)
    have HB5 :=Hd hb5
    have HR5 :=Hd hr5
    have HO5 :=Hd ho5
    obtain ⟨i1,hi1,hiz0,hiz1,hiz2⟩ :=info_parts Zb3
    have hne:wr.heap.size≠e :=fun h =>by have h1 :=HT7.out.2; rw [h,HE5.out.oe] at h1; cases h1
    have hlvl :=HAIK.out.lvl
    clear hE5 hX5 hX45 hb5 hr5 ho5
    go_wp2_with fail
    refine Z07 (S :=(fun w' =>w'.cell? ⟨wr.heap.size,0,none⟩=some (.int .i64 (i:Int)))) (by kernel_rfl) (by exact ((Mods.refl (fun _ =>False) w7).drew).cell (Z0b HT7.out.1).1 fun h =>h) (fun wc hD hH0 =>?_)
    have HKR :=Hd (show Z00 w7 wc from hD.mods)
    have HBC :=Hd (show wc.heap[e]? = some (engB c p (.slice la (T k).2.2.length lc)) from by rw [hD.heap]; exact HB5.out)
    clear hD
    refine tk 0 rfl hH0 ?_
    try go_frame
    refine tk 1 rfl hH0 ?_
    try go_frame
    refine tk 2 rfl hH0 ?_
    try go_frame
    refine tk 3 rfl hH0 ?_
    try go_frame
    refine tk 5 rfl hH0 ?_
    try go_frame
    refine tk 6 rfl hH0 ?_
    try go_frame
    refine rdy [4,7] (Z04 rfl (fun K hK =>?_) (Z04 rfl (fun K hK =>?_) AllReadyH.nil))
    ·have c24 :=(Z09 HBC.out).2.2.2.2.1
     go_simp
     clear c24
     refine hK.out _ _ (HKR.out.cell (Z0b HT7.out.1).1 fun h =>h) (fun hH1 =>?_)
     clear hK K hH0
     try go_frame
     refine rdy [7] (Z04 rfl (fun K hK =>?_) AllReadyH.nil)
     go_simp
     generalize hsz9:wc.heap.size=sb at *
     have hsbn:w7.heap.size≤sb :=by rw [← hsz9]; exact HKR.out.size
     refine Z14 ?_
     intro wc hwd
     have hk :=Z0f hwd
     have hn :=Z0g hwd
     rw [hsz9] at hn
     refine hK.out _ _ ((HKR.out.keep hk).cell (Z0b HT7.out.1).1 fun h =>h) (fun hH2 =>?_)
     clear hK K hH1
     try go_frame
     replace HKR :=Hd (HKR.out.keep hk)
     replace HBC :=Hd (hk.at HBC.out fun h =>h)
     have HN :=Hd hn
     have HSB :=Hd hsbn
     clear hwd hk hn hsz9 hsbn
     refine rdy [8] (Z04 rfl (fun K hK =>?_) AllReadyH.nil)
     have hs7 :=HKR.out.size
     refine step_append_lies _ (by rfl) (.tmp 77) (.tmp 80) 37 (by rfl) 0 3 i1 (.int .i64 0) 1 8 Tryz.underlying37 hi1 hiz0 hiz1 hiz2 rfl (by decide) (.slice la (T k).2.2.length lc) (T k).2.2.length _ (by simp [Act.eval]) (HKR.out.owns HR5.out fun _ _ h =>h) ⟨sb,0,none⟩ 1 1 [.int .i64 (i:Int)] (by simp [Act.eval]) rfl (fun j u hj =>by rw [addr_add,Nat.zero_add,cell_of_row _ _ _ _ _ _ HN.out]; simpa using hj) (fun u hu =>by simp at hu; subst hu; rfl) (by decide) (by unfold maxLen; omega) (by omega) (Nat.zero_le _) _ rfl ?_
     intro ng nc wd hown6 hgrow hng hngl
     have hm6:Mods (fun i =>(Value.slice la (T k).2.2.length lc).ownBlock=some i) wc wd :=(Mods.refl _ wc).grown hgrow fun k _ h =>h
     have hcx :=hm6.cell (HKR.out.cell (Z0b HT7.out.1).1 fun h =>h) (fun h =>by have h1 :=(HO5.out _ h).1; rw [HT7.out.2] at h1; cases h1)
     refine hK.out _ _ (hcx) (fun hH3 =>?_)
     clear hK K hH2
     try go_frame
     have HBD :=Hd (hm6.at HBC.out fun h =>(HO5.out _ h).2 rfl)
     have HM6 :=Hd (show Mods (fun i =>(Value.slice la (T k).2.2.length lc).ownBlock=some i) w7 wd from Mods.seq' hm6 HKR.out)
     have HR6 :=Hd hown6
     have HG6 :=Hd (show ∀ j,(Value.slice (some ⟨ng,0,none⟩) ((T k).2.2.length+1) nc).ownBlock=some j→(Value.slice la (T k).2.2.length lc).ownBlock=some j∨w7.heap.size≤j from fun j hj =>by
      injection hj with hj
      rcases hng with h | h
      ·exact .inl (hj ▸ h)
      ·exact .inr (by rw [← hj,h]; exact hs7))
     have HNE :=Hd (show ng≠e from fun h =>by
      rcases hng with h2 | h2
      ·exact (HO5.out _ h2).2 h
      ·have :=HE5.out.lt (i :=e) (by rw [HE5.out.oe]; decide)
       omega)
     have HCX :=Hd hcx
     clear hown6 hgrow hng hngl hm6 hcx hs7
     refine tk 9 rfl hH3 ?_
     try go_frame
     refine tk 10 rfl hH3 ?_
     try go_frame
     refine rdy [11] (Z04 rfl (fun K hK =>?_) AllReadyH.nil)
     have c24 :=(Z09 HBD.out).2.2.2.2.1
     have fr24:wd.frozen? ⟨e,24,none⟩=false :=by simp [World.frozen?,HBD.out]
     go_simp
     clear c24 fr24
     refine Z14 ?_
     intro we hwe
     have hme:Mods (fun i =>i=e) wd we :=by rw [hwe]; exact (Mods.refl _ wd).setCell _ _ fun _ =>rfl
     have hbe:we.heap[e]? = some (engB c p (.slice (some ⟨ng,0,none⟩) ((T k).2.2.length+1) nc)) :=by rw [hwe]; exact heap_setCell_same wd e 24 _ _ _ HBD.out
     refine hK.out _ _ (hme.cell HCX.out hne) (fun hH4 =>?_)
     clear hK K hH3
     try go_frame
     have hgo :=Z98 HE5.out HO5.out (l :=(T k).2.2 ++ [(i:Int)]) hbe (by
      rw [List.length_append,List.map_append]
      exact hme.owns HR6.out fun j hj h =>by injection hj with hj; exact HNE.out (hj.trans h)) HG6.out ((HM6.out.weaken fun i _ h =>.inr h).seq hme fun i _ h =>.inl h)
     obtain ⟨own6,hE6,hX6⟩ :=hgo
     have HE6 :=Hd hE6
     have HX6 :=Hd (HX5.out.trans hX6)
     clear hE6 hX6 hme hbe hwe
     refine wpAnyH_done (by kernel_rfl) ?_ _
     have hS :=Hd hH4
     clear hH4
     clear hS
     go_wp2
     go_roundw
     case rel =>exact ⟨k+1,by omega,by go_num,own6,by rw [HST.out]; exact HE6.out.mono (by omega),HX.out.trans HX6.out,HX3.out.trans HX6.out⟩
     case measure =>simp [intOf]; omega
    ·go_simp
     generalize hsz9:wc.heap.size=sb at *
     have hsbn:w7.heap.size≤sb :=by rw [← hsz9]; exact HKR.out.size
     refine Z14 ?_
     intro wc hwd
     have hk :=Z0f hwd
     have hn :=Z0g hwd
     rw [hsz9] at hn
     refine hK.out _ _ ((HKR.out.keep hk).cell (Z0b HT7.out.1).1 fun h =>h) (fun hH1 =>?_)
     clear hK K hH0
     try go_frame
     replace HKR :=Hd (HKR.out.keep hk)
     replace HBC :=Hd (hk.at HBC.out fun h =>h)
     have HN :=Hd hn
     have HSB :=Hd hsbn
     clear hwd hk hn hsz9 hsbn
     refine rdy [4] (Z04 rfl (fun K hK =>?_) AllReadyH.nil)
     have c24 :=(Z09 HBC.out).2.2.2.2.1
     go_simp
     clear c24
     refine hK.out _ _ (HKR.out.cell (Z0b HT7.out.1).1 fun h =>h) (fun hH2 =>?_)
     clear hK K hH1
     try go_frame
     refine rdy [8] (Z04 rfl (fun K hK =>?_) AllReadyH.nil)
     have hs7 :=HKR.out.size
     refine step_append_lies _ (by rfl) (.tmp 77) (.tmp 80) 37 (by rfl) 0 3 i1 (.int .i64 0) 1 8 Tryz.underlying37 hi1 hiz0 hiz1 hiz2 rfl (by decide) (.slice la (T k).2.2.length lc) (T k).2.2.length _ (by simp [Act.eval]) (HKR.out.owns HR5.out fun _ _ h =>h) ⟨sb,0,none⟩ 1 1 [.int .i64 (i:Int)] (by simp [Act.eval]) rfl (fun j u hj =>by rw [addr_add,Nat.zero_add,cell_of_row _ _ _ _ _ _ HN.out]; simpa using hj) (fun u hu =>by simp at hu; subst hu; rfl) (by decide) (by unfold maxLen; omega) (by omega) (Nat.zero_le _) _ rfl ?_
     intro ng nc wd hown6 hgrow hng hngl
     have hm6:Mods (fun i =>(Value.slice la (T k).2.2.length lc).ownBlock=some i) wc wd :=(Mods.refl _ wc).grown hgrow fun k _ h =>h
     have hcx :=hm6.cell (HKR.out.cell (Z0b HT7.out.1).1 fun h =>h) (fun h =>by have h1 :=(HO5.out _ h).1; rw [HT7.out.2] at h1; cases h1)
     refine hK.out _ _ (hcx) (fun hH3 =>?_)
     clear hK K hH2
     try go_frame
     have HBD :=Hd (hm6.at HBC.out fun h =>(HO5.out _ h).2 rfl)
     have HM6 :=Hd (show Mods (fun i =>(Value.slice la (T k).2.2.length lc).ownBlock=some i) w7 wd from Mods.seq' hm6 HKR.out)
     have HR6 :=Hd hown6
     have HG6 :=Hd (show ∀ j,(Value.slice (some ⟨ng,0,none⟩) ((T k).2.2.length+1) nc).ownBlock=some j→(Value.slice la (T k).2.2.length lc).ownBlock=some j∨w7.heap.size≤j from fun j hj =>by
      injection hj with hj
      rcases hng with h | h
      ·exact .inl (hj ▸ h)
      ·exact .inr (by rw [← hj,h]; exact hs7))
     have HNE :=Hd (show ng≠e from fun h =>by
      rcases hng with h2 | h2
      ·exact (HO5.out _ h2).2 h
      ·have :=HE5.out.lt (i :=e) (by rw [HE5.out.oe]; decide)
       omega)
     have HCX :=Hd hcx
     clear hown6 hgrow hng hngl hm6 hcx hs7
     refine tk 9 rfl hH3 ?_
     try go_frame
     refine tk 10 rfl hH3 ?_
     try go_frame
     refine rdy [11] (Z04 rfl (fun K hK =>?_) AllReadyH.nil)
     have c24 :=(Z09 HBD.out).2.2.2.2.1
     have fr24:wd.frozen? ⟨e,24,none⟩=false :=by simp [World.frozen?,HBD.out]
     go_simp
     clear c24 fr24
     refine Z14 ?_
     intro we hwe
     have hme:Mods (fun i =>i=e) wd we :=by rw [hwe]; exact (Mods.refl _ wd).setCell _ _ fun _ =>rfl
     have hbe:we.heap[e]? = some (engB c p (.slice (some ⟨ng,0,none⟩) ((T k).2.2.length+1) nc)) :=by rw [hwe]; exact heap_setCell_same wd e 24 _ _ _ HBD.out
     refine hK.out _ _ (hme.cell HCX.out hne) (fun hH4 =>?_)
     clear hK K hH3
     try go_frame
     have hgo :=Z98 HE5.out HO5.out (l :=(T k).2.2 ++ [(i:Int)]) hbe (by
      rw [List.length_append,List.map_append]
      exact hme.owns HR6.out fun j hj h =>by injection hj with hj; exact HNE.out (hj.trans h)) HG6.out ((HM6.out.weaken fun i _ h =>.inr h).seq hme fun i _ h =>.inl h)
     obtain ⟨own6,hE6,hX6⟩ :=hgo
     have HE6 :=Hd hE6
     have HX6 :=Hd (HX5.out.trans hX6)
     clear hE6 hX6 hme hbe hwe
     refine wpAnyH_done (by kernel_rfl) ?_ _
     have hS :=Hd hH4
     clear hH4
     clear hS
     go_wp2
     go_roundw
     case rel =>exact ⟨k+1,by omega,by go_num,own6,by rw [HST.out]; exact HE6.out.mono (by omega),HX.out.trans HX6.out,HX3.out.trans HX6.out⟩
     case measure =>simp [intOf]; omega
   ·go_simp
    have hsbn:w3.heap.size≤wc.heap.size :=HM.out.size
    generalize hsz5:wc.heap.size=z at *
    refine Z14 ?_
    intro wc hwd
    have hk :=Z0f hwd
    have hn :=Z0g hwd
    rw [hsz5] at hn
    refine hK.out _ _ (⟨(HCE.out _ (HK3.out.seq (HM.out.keep hk) fun i hi h =>by omega)).1,(HT9.out _ (HM.out.keep hk)).1⟩) (fun hH1 =>?_)
    clear hK K hH0
    try go_frame
    replace HM :=Hd (HM.out.keep hk)
    have HZ :=Hd (show wc.heap[z]? = some (vdB vd0) from hn)
    have HZN :=Hd hsbn
    clear hwd hk hn hsz5 hsbn
    refine rdy [7] (Z04 rfl (fun K hK =>?_) AllReadyH.nil)
    go_simp
    refine (HGET.out _ (HK3.out.seq HM.out fun i hi h =>by omega)).mono ?_
    rintro r wc ⟨rfl,hk⟩
    go_wp2_with fail
    refine hK.out _ _ (⟨(HCE.out _ (HK3.out.seq (HM.out.keep hk) fun i hi h =>by omega)).1,(HT9.out _ (HM.out.keep hk)).1⟩) (fun hH2 =>?_)
    clear hK K hH1
    try go_frame
    replace HM :=Hd (HM.out.keep hk)
    try replace HZ :=Hd (hk.at HZ.out fun h =>h)
    clear hk
    refine tk 8 rfl hH2 ?_
    try go_frame
    refine tk 9 rfl hH2 ?_
    try go_frame
    refine tk 10 rfl hH2 ?_
    try go_frame
    refine rdy [12] (Z04 rfl (fun K hK =>?_) AllReadyH.nil)
    refine Z0d (by rfl) (.tmp 10) (.tmp 43) rfl z v0 vd0 (by rfl) (by rfl) HZ.out ?_
    intro wc hz hm
    have hmm :=HM.out.trans (hm.weaken (T :=fun i =>w3.heap.size≤i) fun i _ h =>by rw [h]; exact HZN.out)
    refine hK.out _ _ (⟨(HCE.out _ (HK3.out.seq hmm fun i hi h =>by omega)).1,(HT9.out _ hmm).1⟩) (fun hH3 =>?_)
    clear hK K hH2
    try go_frame
    replace HM :=Hd hmm
    replace HZ :=Hd hz
    clear hz hm hmm
    refine tk 13 rfl hH3 ?_
    try go_frame
    refine wpAnyH_done (by kernel_rfl) ?_ _
    have hS :=Hd hH3
    clear hH3
    clear hS
    have hzn :=HZN.out
    go_wp2_with fail
    have HM0 :=Hd HM.out
    refine Z07 (S :=(fun w' =>w'.cell? ⟨wr.heap.size,2,none⟩=some (.int .i64 ee)∧w'.rangeAt e 1 cs.toList)) (by kernel_rfl) (by exact ⟨(HT9.out _ HM.out.drew).2,(HCE.out _ (HK3.out.seq HM.out.drew fun i hi h =>by omega)).2.2⟩) (fun wc hD hH0 =>?_)
    replace HZ :=Hd (show wc.heap[z]? = some (vdB v0) from by rw [hD.heap]; exact HZ.out)
    replace HM :=Hd (HM0.out.trans hD.mods)
    clear hD
    refine tk 1 rfl hH0 ?_
    try go_frame
    refine tk 2 rfl hH0 ?_
    try go_frame
    refine tk 3 rfl hH0 ?_
    try go_frame
    refine tk 4 rfl hH0 ?_
    try go_frame
    refine tk 5 rfl hH0 ?_
    try go_frame
    refine tkb 6 rfl hH0 (yieldsIf_load_mid (by rfl) 24 (.tmp 51) rfl e 1 rfl cs.toList _ (fun _ h =>h.2) Tryz.underlying24 rfl hs20) ?_
    try go_frame
    refine rdy [0] (Z04 rfl (fun K hK =>?_) AllReadyH.nil)
    refine Z22 (by rfl) 49 (.tmp 10) rfl z 0 rfl v0.cells.toList _ (Z2l HZ.out) Tryz.underlying49 rfl Z4n ?_
    refine hK.out _ _ (⟨(HT9.out _ HM.out).2,(HCE.out _ (HK3.out.seq HM.out fun i hi h =>by omega)).2.2⟩) (fun hH1 =>?_)
    clear hK K hH0
    try go_frame
    refine rdy [7] (Z04 rfl (fun K hK =>?_) AllReadyH.nil)
    go_simp
    refine (HPA.out _).mono ?_
    rintro r wc ⟨rfl,hk⟩
    go_wp2_with fail
    refine hK.out _ _ (⟨(HT9.out _ (HM.out.keep hk)).2,(HCE.out _ (HK3.out.seq (HM.out.keep hk) fun i hi h =>by omega)).2.2⟩) (fun hH2 =>?_)
    clear hK K hH1
    try go_frame
    replace HM :=Hd (HM.out.keep hk)
    replace HZ :=Hd (hk.at HZ.out fun h =>h)
    clear hk
    refine tk 8 rfl hH2 ?_
    try go_frame
    refine tk 9 rfl hH2 ?_
    try go_frame
    refine tk 10 rfl hH2 ?_
    try go_frame
    refine rdy [11] (Z04 rfl (fun K hK =>?_) AllReadyH.nil)
    refine Z0d (by rfl) (.tmp 10) (.tmp 54) rfl z NV.2 v0 (by rfl) (by rfl) HZ.out ?_
    intro wc hz hm
    have hmm :=HM.out.trans (hm.weaken (T :=fun i =>w3.heap.size≤i) fun i _ h =>by rw [h]; exact HZN.out)
    refine hK.out _ _ (⟨(HT9.out _ hmm).2,(HCE.out _ (HK3.out.seq hmm fun i hi h =>by omega)).2.2⟩) (fun hH3 =>?_)
    clear hK K hH2
    try go_frame
    replace HM :=Hd hmm
    replace HZ :=Hd hz
    clear hz hm hmm
    refine wpAnyH_done (by kernel_rfl) ?_ _
    have hS :=Hd hH3
    clear hH3
    clear hS
    go_wp2_with fail
    refine wp_region_held_drew (S :=(fun w' =>w'.cell? ⟨e,0,none⟩=some (.pointer (some ⟨p.rg,0,none⟩))∧w'.cell? ⟨wr.heap.size,0,none⟩=some (.int .i64 (i:Int))∧w'.heap[z]? = some (vdB NV.2))) (by kernel_rfl) (by exact ⟨(HCE.out _ (HK3.out.seq HM.out.drew fun i hi h =>by omega)).1,(HT9.out _ HM.out.drew).1,HZ.out⟩) (fun hH0 =>?_)
    refine tk 0 rfl hH0 ?_
    try go_frame
    refine tk 1 rfl hH0 ?_
    try go_frame
    refine tk 2 rfl hH0 ?_
    try go_frame
    refine tk 3 (v :=tabV p.rg) rfl hH0 ?_
    try go_frame
    refine tk 4 rfl hH0 ?_
    try go_frame
    refine tk 5 rfl hH0 ?_
    try go_frame
    refine tkb 6 rfl hH0 (Z13 (by rfl) (.tmp 10) rfl z rfl NV.2 (fun _ h =>h.2.2)) ?_
    try go_frame
    refine rdy [7] (Z04 rfl (fun K hK =>?_) AllReadyH.nil)
    have hkc :=HK3.out.seq HM.out.drew fun i hi h =>by omega
    go_simp
    refine (HCH.out _ hkc).mono ?_
    rintro r w6 ⟨rfl,own4,hE4,hX4⟩
    go_wp2_with fail
    have hz0:own3 z=0 :=HE.out.new z (by omega)
    have ht0:own3 wr.heap.size=0 :=HE.out.new _ (Nat.le_refl _)
    have HZ6 :=Hd (hX4.at (b :=z) HZ.out hz0)
    have HT6 :=Hd (hX4.at (b :=wr.heap.size) ((HM.out.drew).at HB9.out fun h =>by omega) ht0)
    obtain ⟨lv4,hb4, -, -⟩ :=hE4.blk (by decide)
    obtain ⟨f0, -, -,f23, -, -, -, -, -, -, -⟩ :=Z09 hb4
    refine hK.out _ _ (⟨f0,(Z0b HT6.out.1).1,HZ6.out.1⟩) (fun hH1 =>?_)
    clear hK K hH0
    try go_frame
    refine wpAnyH_done (by kernel_rfl) ?_ _
    clear hH1
    have HE4 :=Hd hE4
    have HX4 :=Hd ((Ext.keeps (own :=own3) hkc).trans hX4)
    have HPUT :=Hd (fun (w':World) (hk:Z00 w6 w') =>ePut (hE4.keeps hk) NV.2.wd (i:Int) HWD3.out HWD4.out (fun j =>by have :=HAIK.out.bkl j; dsimp only; omega))
    have HC6 :=Hd (fun (wx:World) (hk:Z00 w6 wx) =>(⟨hk.cell f23 fun h =>h,hk.cell (Z0o HZ6.out.1).2.2.2.2.2.1 fun h =>h,hk.cell (Z0b HT6.out.1).1 fun h =>h⟩:wx.cell? ⟨e,23,none⟩=some (.pointer (some ⟨p.bo,0,none⟩))∧wx.cell? ⟨z,5,none⟩=some (.int .i64 NV.2.wd)∧wx.cell? ⟨wr.heap.size,0,none⟩=some (.int .i64 (i:Int))))
    clear hE4 hX4 hb4 f0 f23 hkc hz0 ht0
    go_wp2_with fail
    refine wp_region_held_drew (S :=(fun w' =>w'.cell? ⟨e,23,none⟩=some (.pointer (some ⟨p.bo,0,none⟩))∧w'.cell? ⟨z,5,none⟩=some (.int .i64 NV.2.wd)∧w'.cell? ⟨wr.heap.size,0,none⟩=some (.int .i64 (i:Int)))) (by kernel_rfl) (by exact HC6.out _ (Mods.refl _ w6).drew) (fun hH0 =>?_)
    refine tk 0 rfl hH0 ?_
    try go_frame
    refine tk 1 rfl hH0 ?_
    try go_frame
    refine tk 2 rfl hH0 ?_
    try go_frame
    refine tk 3 rfl hH0 ?_
    try go_frame
    refine tk 4 rfl hH0 ?_
    try go_frame
    refine tk 5 rfl hH0 ?_
    try go_frame
    refine tk 6 rfl hH0 ?_
    try go_frame
    refine tk 7 rfl hH0 ?_
    try go_frame
    refine rdy [8] (Z04 rfl (fun K hK =>?_) AllReadyH.nil)
    go_simp
    refine (HPUT.out _ (Mods.refl _ w6).drew).mono ?_
    rintro r w7 ⟨rfl,own5,hE5,hX5⟩
    go_wp2_with fail
    have hX45 :=(Ext.keeps (own :=own4) (Mods.refl (fun _ =>False) w6).drew).trans hX5
    have HZ7 :=Hd (hX45.at HZ6.out.1 HZ6.out.2)
    have HT7 :=Hd (hX45.at HT6.out.1 HT6.out.2)
    obtain ⟨lv5,hb5,hr5,ho5⟩ :=hE5.blk (by decide)
    refine hK.out _ _ (⟨(Z09 hb5).2.2.2.1,(Z0o HZ7.out.1).2.2.2.2.2.1,(Z0b HT7.out.1).1⟩) (fun hH1 =>?_)
    clear hK K hH0
    try go_frame
    refine wpAnyH_done (by kernel_rfl) ?_ _
    clear hH1
    dsimp only at hr5
    obtain ⟨la,lc,rfl⟩ :=Z0c hr5
    have HE5 :=Hd hE5
    have HX5 :=Hd (HX4.out.trans hX45)
    have HB5 :=Hd hb5
    have HR5 :=Hd hr5
    have HO5 :=Hd ho5
    obtain ⟨i1,hi1,hiz0,hiz1,hiz2⟩ :=info_parts Zb3
    have hne:wr.heap.size≠e :=fun h =>by have h1 :=HT7.out.2; rw [h,HE5.out.oe] at h1; cases h1
    have hlvl :=HAIK.out.lvl
    clear hE5 hX5 hX45 hb5 hr5 ho5
    go_wp2_with fail
    refine Z07 (S :=(fun w' =>w'.cell? ⟨wr.heap.size,0,none⟩=some (.int .i64 (i:Int)))) (by kernel_rfl) (by exact ((Mods.refl (fun _ =>False) w7).drew).cell (Z0b HT7.out.1).1 fun h =>h) (fun wc hD hH0 =>?_)
    have HKR :=Hd (show Z00 w7 wc from hD.mods)
    have HBC :=Hd (show wc.heap[e]? = some (engB c p (.slice la (T k).2.2.length lc)) from by rw [hD.heap]; exact HB5.out)
    clear hD
    refine tk 0 rfl hH0 ?_
    try go_frame
    refine tk 1 rfl hH0 ?_
    try go_frame
    refine tk 2 rfl hH0 ?_
    try go_frame
    refine tk 3 rfl hH0 ?_
    try go_frame
    refine tk 5 rfl hH0 ?_
    try go_frame
    refine tk 6 rfl hH0 ?_
    try go_frame
    refine rdy [4,7] (Z04 rfl (fun K hK =>?_) (Z04 rfl (fun K hK =>?_) AllReadyH.nil))
    ·have c24 :=(Z09 HBC.out).2.2.2.2.1
     go_simp
     clear c24
     refine hK.out _ _ (HKR.out.cell (Z0b HT7.out.1).1 fun h =>h) (fun hH1 =>?_)
     clear hK K hH0
     try go_frame
     refine rdy [7] (Z04 rfl (fun K hK =>?_) AllReadyH.nil)
     go_simp
     generalize hsz9:wc.heap.size=sb at *
     have hsbn:w7.heap.size≤sb :=by rw [← hsz9]; exact HKR.out.size
     refine Z14 ?_
     intro wc hwd
     have hk :=Z0f hwd
     have hn :=Z0g hwd
     rw [hsz9] at hn
     refine hK.out _ _ ((HKR.out.keep hk).cell (Z0b HT7.out.1).1 fun h =>h) (fun hH2 =>?_)
     clear hK K hH1
     try go_frame
     replace HKR :=Hd (HKR.out.keep hk)
     replace HBC :=Hd (hk.at HBC.out fun h =>h)
     have HN :=Hd hn
     have HSB :=Hd hsbn
     clear hwd hk hn hsz9 hsbn
     refine rdy [8] (Z04 rfl (fun K hK =>?_) AllReadyH.nil)
     have hs7 :=HKR.out.size
     refine step_append_lies _ (by rfl) (.tmp 77) (.tmp 80) 37 (by rfl) 0 3 i1 (.int .i64 0) 1 8 Tryz.underlying37 hi1 hiz0 hiz1 hiz2 rfl (by decide) (.slice la (T k).2.2.length lc) (T k).2.2.length _ (by simp [Act.eval]) (HKR.out.owns HR5.out fun _ _ h =>h) ⟨sb,0,none⟩ 1 1 [.int .i64 (i:Int)] (by simp [Act.eval]) rfl (fun j u hj =>by rw [addr_add,Nat.zero_add,cell_of_row _ _ _ _ _ _ HN.out]; simpa using hj) (fun u hu =>by simp at hu; subst hu; rfl) (by decide) (by unfold maxLen; omega) (by omega) (Nat.zero_le _) _ rfl ?_
     intro ng nc wd hown6 hgrow hng hngl
     have hm6:Mods (fun i =>(Value.slice la (T k).2.2.length lc).ownBlock=some i) wc wd :=(Mods.refl _ wc).grown hgrow fun k _ h =>h
     have hcx :=hm6.cell (HKR.out.cell (Z0b HT7.out.1).1 fun h =>h) (fun h =>by have h1 :=(HO5.out _ h).1; rw [HT7.out.2] at h1; cases h1)
     refine hK.out _ _ (hcx) (fun hH3 =>?_)
     clear hK K hH2
     try go_frame
     have HBD :=Hd (hm6.at HBC.out fun h =>(HO5.out _ h).2 rfl)
     have HM6 :=Hd (show Mods (fun i =>(Value.slice la (T k).2.2.length lc).ownBlock=some i) w7 wd from Mods.seq' hm6 HKR.out)
     have HR6 :=Hd hown6
     have HG6 :=Hd (show ∀ j,(Value.slice (some ⟨ng,0,none⟩) ((T k).2.2.length+1) nc).ownBlock=some j→(Value.slice la (T k).2.2.length lc).ownBlock=some j∨w7.heap.size≤j from fun j hj =>by
      injection hj with hj
      rcases hng with h | h
      ·exact .inl (hj ▸ h)
      ·exact .inr (by rw [← hj,h]; exact hs7))
     have HNE :=Hd (show ng≠e from fun h =>by
      rcases hng with h2 | h2
      ·exact (HO5.out _ h2).2 h
      ·have :=HE5.out.lt (i :=e) (by rw [HE5.out.oe]; decide)
       omega)
     have HCX :=Hd hcx
     clear hown6 hgrow hng hngl hm6 hcx hs7
     refine tk 9 rfl hH3 ?_
     try go_frame
     refine tk 10 rfl hH3 ?_
     try go_frame
     refine rdy [11] (Z04 rfl (fun K hK =>?_) AllReadyH.nil)
     have c24 :=(Z09 HBD.out).2.2.2.2.1
     have fr24:wd.frozen? ⟨e,24,none⟩=false :=by simp [World.frozen?,HBD.out]
     go_simp
     clear c24 fr24
     refine Z14 ?_
     intro we hwe
     have hme:Mods (fun i =>i=e) wd we :=by rw [hwe]; exact (Mods.refl _ wd).setCell _ _ fun _ =>rfl
     have hbe:we.heap[e]? = some (engB c p (.slice (some ⟨ng,0,none⟩) ((T k).2.2.length+1) nc)) :=by rw [hwe]; exact heap_setCell_same wd e 24 _ _ _ HBD.out
     refine hK.out _ _ (hme.cell HCX.out hne) (fun hH4 =>?_)
     clear hK K hH3
     try go_frame
     have hgo :=Z98 HE5.out HO5.out (l :=(T k).2.2 ++ [(i:Int)]) hbe (by
      rw [List.length_append,List.map_append]
      exact hme.owns HR6.out fun j hj h =>by injection hj with hj; exact HNE.out (hj.trans h)) HG6.out ((HM6.out.weaken fun i _ h =>.inr h).seq hme fun i _ h =>.inl h)
     obtain ⟨own6,hE6,hX6⟩ :=hgo
     have HE6 :=Hd hE6
     have HX6 :=Hd (HX5.out.trans hX6)
     clear hE6 hX6 hme hbe hwe
     refine wpAnyH_done (by kernel_rfl) ?_ _
     have hS :=Hd hH4
     clear hH4
     clear hS
     go_wp2
     go_roundw
     case rel =>exact ⟨k+1,by omega,by go_num,own6,by rw [HST.out]; exact HE6.out.mono (by omega),HX.out.trans HX6.out,HX3.out.trans HX6.out⟩
     case measure =>simp [intOf]; omega
    ·go_simp
     generalize hsz9:wc.heap.size=sb at *
     have hsbn:w7.heap.size≤sb :=by rw [← hsz9]; exact HKR.out.size
     refine Z14 ?_
     intro wc hwd
     have hk :=Z0f hwd
     have hn :=Z0g hwd
     rw [hsz9] at hn
     refine hK.out _ _ ((HKR.out.keep hk).cell (Z0b HT7.out.1).1 fun h =>h) (fun hH1 =>?_)
     clear hK K hH0
     try go_frame
     replace HKR :=Hd (HKR.out.keep hk)
     replace HBC :=Hd (hk.at HBC.out fun h =>h)
     have HN :=Hd hn
     have HSB :=Hd hsbn
     clear hwd hk hn hsz9 hsbn
     refine rdy [4] (Z04 rfl (fun K hK =>?_) AllReadyH.nil)
     have c24 :=(Z09 HBC.out).2.2.2.2.1
     go_simp
     clear c24
     refine hK.out _ _ (HKR.out.cell (Z0b HT7.out.1).1 fun h =>h) (fun hH2 =>?_)
     clear hK K hH1
     try go_frame
     refine rdy [8] (Z04 rfl (fun K hK =>?_) AllReadyH.nil)
     have hs7 :=HKR.out.size
     refine step_append_lies _ (by rfl) (.tmp 77) (.tmp 80) 37 (by rfl) 0 3 i1 (.int .i64 0) 1 8 Tryz.underlying37 hi1 hiz0 hiz1 hiz2 rfl (by decide) (.slice la (T k).2.2.length lc) (T k).2.2.length _ (by simp [Act.eval]) (HKR.out.owns HR5.out fun _ _ h =>h) ⟨sb,0,none⟩ 1 1 [.int .i64 (i:Int)] (by simp [Act.eval]) rfl (fun j u hj =>by rw [addr_add,Nat.zero_add,cell_of_row _ _ _ _ _ _ HN.out]; simpa using hj) (fun u hu =>by simp at hu; subst hu; rfl) (by decide) (by unfold maxLen; omega) (by omega) (Nat.zero_le _) _ rfl ?_
     intro ng nc wd hown6 hgrow hng hngl
     have hm6:Mods (fun i =>(Value.slice la (T k).2.2.length lc).ownBlock=some i) wc wd :=(Mods.refl _ wc).grown hgrow fun k _ h =>h
     have hcx :=hm6.cell (HKR.out.cell (Z0b HT7.out.1).1 fun h =>h) (fun h =>by have h1 :=(HO5.out _ h).1; rw [HT7.out.2] at h1; cases h1)
     refine hK.out _ _ (hcx) (fun hH3 =>?_)
     clear hK K hH2
     try go_frame
     have HBD :=Hd (hm6.at HBC.out fun h =>(HO5.out _ h).2 rfl)
     have HM6 :=Hd (show Mods (fun i =>(Value.slice la (T k).2.2.length lc).ownBlock=some i) w7 wd from Mods.seq' hm6 HKR.out)
     have HR6 :=Hd hown6
     have HG6 :=Hd (show ∀ j,(Value.slice (some ⟨ng,0,none⟩) ((T k).2.2.length+1) nc).ownBlock=some j→(Value.slice la (T k).2.2.length lc).ownBlock=some j∨w7.heap.size≤j from fun j hj =>by
      injection hj with hj
      rcases hng with h | h
      ·exact .inl (hj ▸ h)
      ·exact .inr (by rw [← hj,h]; exact hs7))
     have HNE :=Hd (show ng≠e from fun h =>by
      rcases hng with h2 | h2
      ·exact (HO5.out _ h2).2 h
      ·have :=HE5.out.lt (i :=e) (by rw [HE5.out.oe]; decide)
       omega)
     have HCX :=Hd hcx
     clear hown6 hgrow hng hngl hm6 hcx hs7
     refine tk 9 rfl hH3 ?_
     try go_frame
     refine tk 10 rfl hH3 ?_
     try go_frame
     refine rdy [11] (Z04 rfl (fun K hK =>?_) AllReadyH.nil)
     have c24 :=(Z09 HBD.out).2.2.2.2.1
     have fr24:wd.frozen? ⟨e,24,none⟩=false :=by simp [World.frozen?,HBD.out]
     go_simp
     clear c24 fr24
     refine Z14 ?_
     intro we hwe
     have hme:Mods (fun i =>i=e) wd we :=by rw [hwe]; exact (Mods.refl _ wd).setCell _ _ fun _ =>rfl
     have hbe:we.heap[e]? = some (engB c p (.slice (some ⟨ng,0,none⟩) ((T k).2.2.length+1) nc)) :=by rw [hwe]; exact heap_setCell_same wd e 24 _ _ _ HBD.out
     refine hK.out _ _ (hme.cell HCX.out hne) (fun hH4 =>?_)
     clear hK K hH3
     try go_frame
     have hgo :=Z98 HE5.out HO5.out (l :=(T k).2.2 ++ [(i:Int)]) hbe (by
      rw [List.length_append,List.map_append]
      exact hme.owns HR6.out fun j hj h =>by injection hj with hj; exact HNE.out (hj.trans h)) HG6.out ((HM6.out.weaken fun i _ h =>.inr h).seq hme fun i _ h =>.inl h)
     obtain ⟨own6,hE6,hX6⟩ :=hgo
     have HE6 :=Hd hE6
     have HX6 :=Hd (HX5.out.trans hX6)
     clear hE6 hX6 hme hbe hwe
     refine wpAnyH_done (by kernel_rfl) ?_ _
     have hS :=Hd hH4
     clear hH4
     clear hS
     go_wp2
     go_roundw
     case rel =>exact ⟨k+1,by omega,by go_num,own6,by rw [HST.out]; exact HE6.out.mono (by omega),HX.out.trans HX6.out,HX3.out.trans HX6.out⟩
     case measure =>simp [intOf]; omega
  ·obtain rfl:k=OUT.length :=by omega
   rw [HTE.out] at hE
   have HE :=Hd hE
   have HX :=Hd hX
   have HX3 :=Hd hX3
   clear hE hX hX3
   go_wp2
   go_ret
   exact ⟨_,rfl,own3,HE.out.mono (by omega),HX.out,HX3.out.owns HO2.out HZ2.out,fun j hj =>(HX3.out.old j (HO2.out.lt j hj).2).trans (HZ2.out j hj)⟩
def parStep (mn:Int) (l:List Vd) (q:List (Int × Int)):List Vd × List Pm :=q.foldl (Z1i mn) (l,[])
theorem Zlb {v:Vd} (h:v.ok) {am mn:Int} (ha:0≤am) (hm:0≤mn):(Z8z v am mn).ok :=by
 have h0 :=h.b0
 have h1 :=h.b1
 have:0≤Z1t v mn∧Z1t v mn≤v.bal :=by
  unfold Z1t
  split
  ·split <;> omega
  ·omega
 exact ⟨by simp only [Z8z]; omega,by simp only [Z8z]; omega,h.st⟩
theorem Ziy (mn:Int) (s:List Vd × List Pm) (r:Int × Int):(Z1i mn s r).1.length=s.1.length∧(Z1i mn s r).2.length≤s.2.length+1 :=by
 unfold Z1i
 split <;> simp
theorem Zau {mn:Int} {s:List Vd × List Pm} {r:Int × Int} (h:∀ x∈s.1,x.ok) (hr:0≤r.2) (hm:0≤mn):∀ x∈(Z1i mn s r).1,x.ok :=by
 unfold Z1i
 split
 ·rename_i hin
  intro x hx
  rcases List.mem_or_eq_of_mem_set hx with hx | rfl
  ·exact h x hx
  ·exact Zlb (Z5o h hin) hr hm
 ·exact h
theorem Zcp (mn:Int) (l:List Vd) (q:List (Int × Int)) (k:Nat) (hk:k<q.length):parStep mn l (q.take (k+1))=Z1i mn (parStep mn l (q.take k)) q[k] :=by
 unfold parStep
 rw [List.take_succ_eq_append_getElem hk,List.foldl_append]
 rfl
theorem Zd4 {mn:Int} (hm:0≤mn):∀ (q:List (Int × Int)) (s:List Vd × List Pm),(∀ r∈q,0≤r.2)→(∀ x∈s.1,x.ok) →
 (∀ x∈(q.foldl (Z1i mn) s).1,x.ok)∧(q.foldl (Z1i mn) s).1.length=s.1.length∧(q.foldl (Z1i mn) s).2.length≤s.2.length+q.length :=by
 intro q
 induction q with
 | nil =>intro s _ h; exact ⟨h,rfl,Nat.le_refl _⟩
 | cons r q ih =>
  intro s hq h
  obtain ⟨i1,i2,i3⟩ :=ih (Z1i mn s r) (fun x hx =>hq x (List.mem_cons_of_mem _ hx)) (Zau h (hq r List.mem_cons_self) hm)
  obtain ⟨j1,j2⟩ :=Ziy mn s r
  exact ⟨i1,i2.trans j1,by simp only [List.foldl_cons,List.length_cons]; omega⟩
theorem Z7s {mn:Int} (hm:0≤mn) {l:List Vd} {q:List (Int × Int)} (hq:∀ r∈q,0≤r.2) (h:∀ x∈l,x.ok) (k:Nat) :
 (∀ x∈(parStep mn l (q.take k)).1,x.ok)∧(parStep mn l (q.take k)).1.length=l.length∧(parStep mn l (q.take k)).2.length≤q.length :=by
 obtain ⟨h1,h2,h3⟩ :=Zd4 hm (q.take k) (l,[]) (fun r hr =>hq r (List.mem_of_mem_take hr)) h
 exact ⟨h1,h2,by rw [List.length_take] at h3; simp only [List.length_nil] at h3; unfold parStep; omega⟩
theorem Zhe {w:World} {B B' s n:Nat} {e:TypeId} {v:Value} {xs:List Value} (h:w.ownsRow B e s v n xs) (hb:∀ k,v.ownBlock=some k→B'≤k):w.ownsRow B' e s v n xs :=by
 refine ⟨h.1, ?_⟩
 rcases h.2 with h2 | ⟨g,cap,cur,rfl,hg,r⟩
 ·exact .inl h2
 ·exact .inr ⟨g,cap,cur,rfl,hb g rfl,r⟩
theorem Zl4 {w:World} {B:Nat} {e:TypeId} {a:Option Addr} {n c:Nat} {l:List (Int × Int)} (h:w.ownsRow B e 2 (.slice a n c) l.length (Z3y l)) (k:Nat) (hk:k<l.length):∃ g,a=some ⟨g,0,none⟩∧n=l.length∧w.cell? ⟨g,k * 2,none⟩=some (.int .i64 l[k].1)∧w.cell? ⟨g,k * 2+1,none⟩=some (.int .u64 l[k].2) :=by
 have e0:∀ (l:List (Int × Int)) (k:Nat) (hk:k<l.length),(Z3y l)[k * 2]? = some (.int .i64 l[k].1)∧(Z3y l)[k * 2+1]? = some (.int .u64 l[k].2) :=by
  intro l
  induction l with
  | nil =>intro k hk; simp at hk
  | cons x r ih =>
   intro k hk
   cases k with
   | zero =>simp [Z3y]
   | succ k =>
    have :=ih k (by simpa using hk)
    rw [show (k+1) * 2=k * 2+2 from by omega]
    simpa [Z3y] using this
 have e1 :=e0 l k hk
 rcases h.2 with ⟨_,h0⟩ | ⟨g,cap,cur,hv,hg,hh,r⟩
 ·omega
 ·injection hv with hv1 hv2 hv3
  subst hv1 hv2 hv3
  exact ⟨g,rfl,rfl,by rw [h.cellAt (k * 2) (by omega),e1.1],by rw [h.cellAt (k * 2+1) (by omega),e1.2]⟩
theorem Zeo (v:Value) (l:List Vd) (hok:∀ x∈l,x.ok) (hn:l.length≤8192) (vq:Value) (q:List (Int × Int)) (B:Nat) (c:Nat→Int) (w:World) (hl:VL w v l) (hq:w.ownsRow B 96 2 vq q.length (Z3y q)) (hql:q.length≤8192) (hqc:(q.length:Int)≤c 16) (hq0:∀ r∈q,0≤r.2) (h5:0≤c 5) :
 Calls Tryz.prog 118 #[v,vq,cfgV c] w fun r w' => ∃ v1 v2,r = .returned (.tuple #[v1,v2, .int .i64 q.length])∧w'.ownsRow w.heap.size 49 7 v1 l.length (Z10 (parStep (c 5) l q).1)∧w'.ownsRow w.heap.size 58 3 v2 (Z2p (parStep (c 5) l q).2).length (Z1u (Z2p (parStep (c 5) l q).2))∧(∀ k,v1.ownBlock=some k→v2.ownBlock≠some k)∧Z00 w w' :=by
 obtain ⟨qa,qc,rfl⟩ :=Z0c hq
 have hqcap :=Z87 hq
 have HCL :=Hd (fun w' (hk:Z00 w w') =>clone_any v l w' (hl.mods hk fun _ _ h =>h) hn)
 have HSP :=Hd (fun k =>Z7s h5 hq0 hok k)
 have HPY :=Hd (fun (bo bp Bp bc:Nat) (vo:Value) (L:List Vd) (ps:List Pm) (r:Int × Int) (w:World) (h:Z9p w bo bp Bp vo L ps) (hc:w.heap[bc]? = some (cfB c)) (hcb:bc≠bp∧bc<Bp∧vo.ownBlock≠some bc) (hL:∀ x∈L,x.ok) (h0:0≤r.2) (hn:ps.length≤100000) =>Zgi r c w h hc hcb hL h0 h5 hn)
 have HQ :=Hd hq
 have HQ0 :=Hd hq0
 have h16:(cfgC c)[16]? = some (.int .i64 (c 16)) :=rfl
 obtain ⟨s16,hs16⟩:∃ x,x=c 16 :=⟨_,rfl⟩
 rw [← hs16] at h16 hqc
 have HSN :=Hd (Zcp (c 5) l q)
 have HP0 :=Hd (show parStep (c 5) l (q.take 0)=(l,[]) from rfl)
 have HPE :=Hd (show q.take q.length=q from List.take_length)
 generalize c 5=mn at *
 unfold cfB at HPY
 rw [show cfgV c = .agg (cfgC c) from rfl]
 generalize cfgC c=cs at *
 clear hs16 hok hl hq hq0 h5
 go_enter Tryz.func118,Tryz.ntmps118
 go_upto_region 1 with fail
 refine Z0l ?_
 intro wz hwz
 have BC :=Hd (Z0g hwz)
 have KZ :=Hd (Z0f hwz)
 have hzw:wz.heap.size=w.heap.size+1 :=by rw [hwz,World.size_alloc]
 clear hwz
 go_wp2_with fail
 refine (HCL.out _ KZ.out).mono ?_
 rintro r w1 ⟨vo,rfl,ho,hk1⟩
 obtain ⟨oa,oc,rfl⟩ :=Z0c ho
 have hoge :=Z0z ho
 have bc1 :=hk1.at BC.out fun h =>h
 obtain ⟨w2,hw2⟩:∃ x,x=(w1.alloc (.cells #[.slice oa l.length oc] 36)).alloc (.cells #[.slice none 0 0] 44) :=⟨_,rfl⟩
 have HW2 :=Hd hw2
 obtain ⟨g1,g2,g3,g4⟩ :=Z3u w1 (.cells #[.slice oa l.length oc] 36) (.cells #[.slice none 0 0] 44)
 rw [← hw2] at g1 g2 g3 g4
 have bc2 :=g4.at bc1 fun h =>h
 have HPA :=Hd (show Z9p w2 w1.heap.size (w1.heap.size+1) (w1.heap.size+1+1) (.slice oa l.length oc) (parStep mn l (q.take 0)).1 (parStep mn l (q.take 0)).2 from by
  rw [HP0.out]
  exact ⟨g1,own_base (g4.owns ho fun _ _ h =>h) (Nat.zero_le _),⟨_,g2,World.ownsRow_nil _ _ _ _⟩,fun k hk =>(hoge k hk).2,by omega,by omega,by omega⟩)
 have BC2 :=Hd bc2
 have K2 :=Hd (show Z00 w w2 from (KZ.out.keep hk1).keep g4)
 have HOGE :=Hd hoge
 have cc:w2.cell? ⟨w.heap.size,16,none⟩=some (.int .i64 s16) :=by rw [cell_of_row _ _ _ _ _ _ bc2]; exact h16
 have hsz1:w.heap.size+1≤w1.heap.size :=by have :=hk1.size; omega
 clear ho hk1 bc1 hoge g1 g2 g3 g4 bc2 hw2
 go_upto_region 4 with fail
 rw [← HW2.out]
 have hk2:w2.heap.size=w1.heap.size+1+1 :=by have :=HPA.out.Bw; rw [HW2.out,World.size_alloc,World.size_alloc]
 go_wp2_with fail
 clear cc h16 hqcap hqc
 go_loopw [27] (fun i wr => ∃ k:Nat,k≤q.length∧i = .int .i64 k∧Z9p wr w1.heap.size (w1.heap.size+1) (w1.heap.size+1+1) (.slice oa l.length oc) (parStep mn l (q.take k)).1 (parStep mn l (q.take k)).2∧Mods (ParS (w1.heap.size+1) (w1.heap.size+1+1) (.slice oa l.length oc)) w2 wr) (fun i _ =>q.length - (intOf i).toNat)
 case atStart =>exact ⟨0,Nat.zero_le _,rfl,HPA.out,Mods.refl _ _⟩
 case round =>
  obtain ⟨k,hk,rfl,hpa,hm⟩ :=hrel
  obtain ⟨a1,a2,a3⟩ :=HSP.out k
  have HM :=Hd hm
  have hnot:∀ i,i≤w.heap.size→¬ ParS (w1.heap.size+1) (w1.heap.size+1+1) (.slice oa l.length oc) i :=fun i hi h =>by
   rcases h with h | h | h
   ·have :=(HOGE.out i h).1; omega
   ·omega
   ·omega
  by_cases hlt:k<q.length
  ·have hki:(k:Int)<(q.length:Int) :=Int.ofNat_lt.2 hlt
   have hstep :=HSN.out k hlt
   have hmem :=HQ0.out q[k] (List.getElem_mem hlt)
   obtain ⟨g,rfl, -,p0,p1⟩ :=Zl4 (hm.owns (K2.out.owns HQ.out fun _ _ h =>h) fun i hi h =>hnot i (by have :=(Z0z HQ.out i hi).2; omega) h) k hlt
   have bcr :=hm.at BC2.out (hnot _ (Nat.le_refl _))
   have HC :=Hd (fun w' (hk:Z00 wr w') =>HPY.out _ _ _ w.heap.size _ _ _ q[k] w' (hpa.keeps hk) (hk.at bcr fun h =>h) ⟨by omega,by omega,fun h =>hnot _ (Nat.le_refl _) (.inl h)⟩ a1 hmem (by omega))
   generalize q[k]=p at *
   obtain ⟨p1',p2'⟩ :=p
   dsimp only at p0 p1 HC
   have HST :=Hd hstep
   have HSZ :=Hd hm.size
   clear hm hstep hmem bcr a1 a2 a3 hpa hnot
   go_wp2_with fail
   refine (HC.out _ ((Mods.refl _ wr).alloc _)).mono ?_
   rintro r w3 ⟨rfl,hp3,hm3⟩
   have HP3 :=Hd hp3
   have HM3 :=Hd (HM.out.trans (Mods.seq' hm3 ((Mods.refl _ wr).alloc _)))
   clear hp3 hm3 p0 p1
   go_wp2
   go_roundw
   case rel =>exact ⟨k+1,by omega,by go_num,by rw [HST.out]; exact HP3.out,HM3.out⟩
   case measure =>simp [intOf]; omega
  ·have hkn:k=q.length :=by omega
   subst hkn
   rw [HPE.out] at hpa a1 a2 a3
   obtain ⟨vp,hvp,hvo⟩ :=hpa.hp
   have co:wr.cell? ⟨w1.heap.size,0,none⟩=some (.slice oa l.length oc) :=by simp [World.cell?,hpa.ho]
   have cp:wr.cell? ⟨w1.heap.size+1,0,none⟩=some vp :=by simp [World.cell?,hvp]
   have HPO :=Hd (Zc1 _ vp _ wr.drew (show wr.drew.ownsRow _ 58 3 vp _ _ from (Mods.refl (fun _ =>False) wr).drew.owns hvo fun _ _ h =>h) (by omega))
   have hvge :=Z0z hvo
   obtain ⟨pa,pc,rfl⟩ :=Z0c hvo
   have HVG :=Hd hvge
   have HOW :=Hd (show wr.ownsRow w.heap.size 49 7 (.slice oa l.length oc) l.length (Z10 (parStep mn l q).1) from by
    have :=hpa.ow
    rw [a2] at this
    exact Zhe this fun k hk =>by have :=(HOGE.out k hk).1; omega)
   have HKW :=Hd (show Z00 w wr from K2.out.seq hm fun i hi h =>hnot i (by omega) h)
   have HSS :=Hd (fun (wx:World) (hm:Mods (fun i =>(Value.slice pa (parStep mn l q).2.length pc).ownBlock=some i) wr wx) =>(⟨hm.cell co fun h =>by have :=(hvge _ h).1; simp at this; omega,hm.cell cp fun h =>by have :=(hvge _ h).1; simp at this; omega⟩:wx.cell? ⟨w1.heap.size,0,none⟩=some (.slice oa l.length oc)∧wx.cell? ⟨w1.heap.size+1,0,none⟩=some (.slice pa (parStep mn l q).2.length pc)))
   clear hm hpa a1 a2 a3 hnot hvp hvo co cp hvge
   go_wp2_with fail
   refine wp_region_held_drew (S :=(fun w' =>w'.cell? ⟨w1.heap.size,0,none⟩=some (.slice oa l.length oc)∧w'.cell? ⟨w1.heap.size+1,0,none⟩=some (.slice pa (parStep mn l q).2.length pc))) (by kernel_rfl) (by exact HSS.out _ (Mods.refl _ wr).drew) (fun hH0 =>?_)
   refine tk 0 rfl hH0 ?_
   try go_frame
   refine tk 1 rfl hH0 ?_
   try go_frame
   refine tk 3 rfl hH0 ?_
   try go_frame
   refine rdy [2] (Z04 rfl (fun K hK =>?_) AllReadyH.nil)
   go_simp
   refine HPO.out.mono ?_
   rintro r w4 ⟨v',rfl,ho4,hm4⟩
   have hm5:Mods (fun i =>(Value.slice pa (parStep mn l q).2.length pc).ownBlock=some i) wr w4 :=Mods.seq' hm4 (Mods.refl _ wr).drew
   go_wp2_with fail
   refine hK.out _ _ (HSS.out _ hm5) (fun hH1 =>?_)
   clear hK K hH0
   try go_frame
   refine tk 4 rfl hH1 ?_
   try go_frame
   refine tk 5 rfl hH1 ?_
   try go_frame
   refine tk 6 rfl hH1 ?_
   try go_frame
   refine wpAnyH_done (by kernel_rfl) ?_ _
   clear hH1
   have HO4 :=Hd ho4
   have HM5 :=Hd hm5
   clear ho4 hm4 hm5
   go_wp2
   go_ret3
   refine ⟨_,_,rfl,HM5.out.owns HOW.out fun k hk h =>?_,own_base HO4.out (by omega),fun k hk h =>?_,HKW.out.seq HM5.out fun i hi h =>?_⟩
   ·have :=(HVG.out _ h).1
    have :=(HOGE.out k hk).2
    omega
   ·have :=(Z0z HO4.out _ h).1
    have :=(HOGE.out k hk).2
    omega
   ·have :=(HVG.out _ h).1
    omega
end Go.Proofs.YtecapfmmoejikaaGreat
