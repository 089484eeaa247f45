/- A part of the proofs of the top laws: BndA EslB. -/
import Derived.Test.YtecapfmmoejikaaGreatPkBg
import Derived.Test.YtecapfmmoejikaaGreatPkBp
set_option maxRecDepth 4000
set_option maxHeartbeats 8000000
namespace Go.Proofs.YtecapfmmoejikaaGreat
open Go.RowKit Go.Eg
theorem Zo5 {own:Nat→Nat} {w:World} {e:Nat} {c:Nat→Int} {E:En} {p:Ep} {N:Nat} (h:Z0i own w e c E p N) (i:Nat) (hi:i<E.vs.length) (x:Int) (hx:(Lit.int .i64 x).wf=true) (hN:N+1<4294967296) :
 Calls Tryz.prog 110 #[tabV p.rg, .int .i64 (i:Int), .int .i64 x] w fun r w' =>(∃ b,r = .returned (.bool b))∧∃ own',Z0i own' w' e c { E with vs :=evL E.vs i x } p (N+2)∧Ext own w own' w'∧Mods (fun i =>own i=1) w w' :=by
 obtain ⟨m,rv,n,h1,h2,h3⟩ :=h.reg (by decide)
 refine (Z7t h1 i hi x hx (by omega)).mono ?_
 rintro r w' ⟨hr,h4,hm⟩
 obtain ⟨own',h5,h6⟩ :=Zee h h3 (by omega) h4 hm
 exact ⟨hr,own',h5,h6,hm.weaken fun i _ hi =>h3 i hi⟩
structure Zpo (c:Nat→Int) (E:En):Prop where
 lv:∀ i∈E.lv,inR E.vs i
 lvl:E.lv.length≤10000
 bk:∀ j,(E.bk j).length≤90000
 due:∀ i∈dueI (c 12).toNat E.bk (E.b / c 13),inR E.vs i
 wd:∀ j,0≤j→(vAt (enLv E).vs j).wd≤1099511627776
 wd2:∀ x∈(Z19 c E).vs,x.wd≤1099511627776
 bk2:∀ j,((Z19 c E).bk j).length≤180000
 q2:∀ i∈E.fo ++ E.vo,inR (Z19 c E).vs i
 pe:∀ i∈E.pe,inR E.vs i
 car:0≤E.car
 act0:0≤actS (Z19 c E).vs
 act1:actS (Z19 c E).vs≤maxU
 tot:totS E.vs+totS E.vs≤maxU
 tot5:totS (Z9r c E).vs=totS E.vs
 tot4:totS (Zbs (Z23 c (Z19 c E) (E.b / c 13) (Z2i c (Z19 c E))) (Z2i c (Z19 c E))).vs=totS E.vs
 b0:0≤E.b
 b1:E.b≤1000000
theorem Zp0 {l:List Vd} (h:∀ i,inR l i→(vAt l i).wd≤1099511627776) (j:Int) (hj:0≤j):(vAt l j).wd≤1099511627776 :=by
 by_cases hr:inR l j
 ·exact h j hr
 ·unfold vAt
  have h1:l.length≤j.toNat :=by unfold inR at hr; omega
  have e:l.getD j.toNat ⟨0,0,false,0,0,0,0⟩=⟨0,0,false,0,0,0,0⟩ :=by rw [List.getD,List.getElem?_eq_none h1]; rfl
  rw [e]
  decide
theorem Inv.bndB {c:Nat→Int} (hV:Vld c) {E:En} {n:Nat} (h:Inv c E n) (hm:(E.b+1) % c 13=0) (hn:n≤100000):Z26 (Zbs (Z23 c (Z19 c (enUp E)) ((E.b+1) / c 13) (Z2i c (Z19 c (enUp E)))) (Z2i c (Z19 c (enUp E)))).vs=Z26 E.vs :=by
 have hL:1≤(c 12).toNat :=by have :=hV.c12; omega
 have B :=h.bnd1 hV hm
 obtain ⟨M,h1,h2⟩ :=B.bk
 have hep:0≤(E.b+1) / c 13 :=Int.ediv_nonneg (by have :=h.b0; omega) (by have :=hV.c13; omega)
 have hep1:(E.b+1) / c 13≤1000000 :=by
  have :=Int.ediv_le_self (c 13) (a :=E.b+1) (by have :=h.b0; omega)
  have :=h.b1
  omega
 obtain ⟨S,hS⟩:∃ S,S=Z19 c (enUp E) :=⟨_,rfl⟩
 have hSf:S.fo=E.fo∧S.vo=E.vo∧S.lv = [] :=by rw [hS]; exact ⟨rfl,rfl,rfl⟩
 obtain ⟨f1,f2,f4⟩ :=hSf
 rw [← hS] at B h1 ⊢
 have bc:Core (c 5) ((E.b+1) / c 13) ((E.b+1) / c 13+1) S.vs (E.fo ++ E.vo) [] :=B.core
 have bl:S.vs.length=E.vs.length :=B.len
 have bb:Z26 S.vs=Z26 E.vs :=B.bal
 have h1:Bk (c 12).toNat E.vs.length M S.bk :=h1
 generalize Z2i c S=lim
 generalize (E.b+1) / c 13=ep at *
 have hK :=Zap S lim
 rw [f1,f2] at hK
 generalize hKK:Z29 S lim=K at hK
 have hfst :=Z7d E.fo E.vo ep K hK
 have hcore0:Core (c 5) ep (ep+1) S.vs ((Z1p E.fo E.vo ep K).map (·.1) ++ (E.fo ++ E.vo).drop K) [] :=by
  rw [hfst,List.take_append_drop]; exact bc
 obtain ⟨-, -, -, -,a5⟩ :=asgs (L :=(c 12).toNat) (un :=c 10) hL hep hep1 (by have :=hV.c10; omega) (by have :=hV.c10; omega) (Z1p E.fo E.vo ep K) ((E.fo ++ E.vo).drop K) (s :=(S.vs,S.bk,S.lv)) (M :=M) (by rw [f4]; exact hcore0) (by rw [bl]; exact h1) (Zcb _ _ _ _)
 have hA:(Z23 c S ep lim).vs=((Z1p E.fo E.vo ep K).foldl (asg1 (c 12).toNat (c 10)) (S.vs,S.bk,S.lv)).1 :=by
  unfold Z23 Z42
  rw [hKK,f1,f2]
 unfold Zbs
 dsimp only
 rw [hA,(Z43 1 _ _).1,a5]
 exact bb
theorem Inv.bndOk {c:Nat→Int} (hV:Vld c) {E:En} {n:Nat} (h:Inv c E n) (hm:(E.b+1) % c 13=0) (hn:n≤9000):Zpo c (enUp E) :=by
 have hL:1≤(c 12).toNat :=by have :=hV.c12; omega
 have B :=h.bnd1 hV hm
 have I :=h.bnd hV hm (by omega)
 obtain ⟨M,m1,m2⟩ :=h.bk
 obtain ⟨M',m1',m2'⟩ :=B.bk
 have hsup:totS E.vs≤1152921504606846976 :=by
  have h1 :=h.sum
  have h2 :=h.lok.sc
  have h3 :=h.lc
  have h4 :=hV.c4
  unfold Led.sup at h1
  omega
 have hc :=h.core.leaves
 have hnn1:∀ v∈(Z19 c (enUp E)).vs,0≤v.bal :=fun v hv =>by
  have h1:v.bal∈Z26 (Z19 c (enUp E)).vs :=List.mem_map.2 ⟨v,hv,rfl⟩
  rw [B.bal] at h1
  obtain ⟨u,hu,e⟩ :=List.mem_map.1 h1
  rw [← e]
  exact h.nn u hu
 have hact :=Z3n (Z19 c (enUp E)).vs hnn1
 have htot1:totS (Z19 c (enUp E)).vs=totS E.vs :=by rw [Z4h,B.bal,← Z4h]; rfl
 have ht5:totS (Z9r c (enUp E)).vs=totS E.vs :=by
  rw [I.sum,h.sum]
  rfl
 have hwd1:∀ x∈(Z19 c (enUp E)).vs,x.wd≤1099511627776 :=fun x hx =>by
  obtain ⟨k,hk,rfl⟩ :=List.getElem_of_mem hx
  have :=B.core.wd k (Z5v.2 hk)
  rwa [Z2g hk] at this
 refine ⟨fun i hi =>((h.core.lvs i).1 hi).1, ?_,fun j =>Nat.le_trans (m1.le j) (by omega),fun i hi =>?_,fun j hj =>Zp0 hc.wd j hj,hwd1,fun j =>Nat.le_trans (m1'.le j) (by omega),fun i hi =>?_,h.pe,h.car,hact.1,by unfold maxU; omega, ?_,ht5, ?_, ?_, ?_⟩
 ·have :=h.lvn; show E.lv.length≤10000; omega
 ·exact (m1.due hL _).1 i hi
 ·exact (B.core.qs i hi).1
 ·show totS E.vs+totS E.vs≤maxU
  unfold maxU; omega
 ·show totS (Zbs (Z23 c (Z19 c (enUp E)) ((E.b+1) / c 13) (Z2i c (Z19 c (enUp E)))) (Z2i c (Z19 c (enUp E)))).vs=totS E.vs
  rw [Z4h,h.bndB hV hm (by omega),← Z4h]
 ·show 0≤E.b+1
  have :=h.b0; omega
 ·show E.b+1≤1000000
  have :=h.b1; omega
theorem Zfi {L:Nat} {un:Int}:∀ (o:List As) (s:List Vd × (Nat→List (Int × Int)) × List Int),(o.foldl (asg1 L un) s).1.length=s.1.length
 | [],_ =>rfl
 | a :: o,s =>by
  rw [List.foldl_cons,Zfi o]
  unfold asg1
  simp
theorem Zez {L:Nat} {ep:Int}:∀ (o:List Int) (s:List Vd × (Nat→List (Int × Int))),(o.foldl (rip1 L ep) s).1.length=s.1.length
 | [],_ =>rfl
 | i :: o,s =>by
  rw [List.foldl_cons,Zez o]
  unfold rip1
  split
  ·rfl
  ·exact Z8f _ _ _
theorem Zd8 (c:Nat→Int) (E:En) (ep lim:Int):(Z23 c E ep lim).vs.length=E.vs.length :=Zfi _ _
theorem Zfy (c:Nat→Int) (E:En):(Z19 c E).vs.length=E.vs.length :=(Zez _ _).trans (Z43 3 E.lv E.vs).2
theorem Zpp {own:Nat→Nat} {w:World} {e:Nat} {c:Nat→Int} {E:En} {p:Ep} {N:Nat} (h:Z0i own w e c E p N) (o:Od) (hn:0≤c 18) (hd:c 18≤c 19) (hd1:1≤c 19) (hd2:c 19≤4294967296) (hb0:0≤E.b) (hb1:E.b≤1000000) (hc13:1≤c 13)
 (hwd:∀ x∈E.vs,x.wd≤1099511627776) (hbk:∀ j,(E.bk j).length≤1000000) (hN:N+10<4294967296) :
 Calls Tryz.prog 53 #[.pointer (some ⟨e,0,none⟩),o.val] w fun r w' =>r = .returned (resV (Z3h c E o.ix).1 (Z3h c E o.ix).2.1 (Z3h c E o.ix).2.2)∧Goes own w e c p (Z1e c E o.ix) (N+10) w' :=by
 obtain ⟨kd,oix,otg,am⟩ :=o
 dsimp only
 obtain ⟨hvok,htot,hvl,hc4⟩ :=h.vsok
 have H :=Hd h
 have HBK :=Hd hbk
 obtain ⟨X,hX⟩:∃ X,X=Z3h c E oix :=⟨_,rfl⟩
 obtain ⟨Y,hY⟩:∃ Y,Y=Z1e c E oix :=⟨_,rfl⟩
 rw [← hX,← hY]
 have HX :=Hd hX
 have HY :=Hd hY
 obtain ⟨cs,hcs⟩:∃ x,x=cfgC c :=⟨_,rfl⟩
 have hcz:cs.toList.length=20 :=by rw [hcs]; rfl
 have HS20 :=Hd (show (Tryz.prog.info? 24).map (·.size)=some cs.toList.length from by rw [Z0m,hcz])
 obtain ⟨lv,hblk, -, -⟩ :=h.blk (by decide)
 obtain ⟨c0,c21, -, -, -, -, -,c27, -, -, -⟩ :=Z09 hblk
 have hcfg :=Z55 hblk
 rw [← hcs] at hcfg
 have HCE :=Hd (fun (w':World) (hk:Z00 w w') =>(⟨hk.cell c0 fun h =>h,hk.cell c21 fun h =>h,hk.cell c27 fun h =>h,Z0n hcfg hk⟩:w'.cell? ⟨e,0,none⟩=some (.pointer (some ⟨p.rg,0,none⟩))∧w'.cell? ⟨e,21,none⟩=some (.pointer (some ⟨p.ck,0,none⟩))∧w'.cell? ⟨e,27,none⟩=some (.pointer (some ⟨p.la,0,none⟩))∧w'.rangeAt e 1 cs.toList))
 have HGET0:∃ V B,(∀ (w':World),Z00 w w'→Calls Tryz.prog 88 #[.pointer (some ⟨p.rg,0,none⟩), .int .i64 oix] w' fun r w'' =>r = .returned (.tuple #[V.val, .bool B])∧Z00 w' w'')∧(B=true→inR E.vs oix∧V=vAt E.vs oix)∧(B=false→¬ inR E.vs oix) :=by
  by_cases hin:inR E.vs oix
  ·have hi0 :=hin.1
   obtain ⟨j,rfl⟩ :=Int.eq_ofNat_of_zero_le hi0
   have hil:j<E.vs.length :=by have :=hin.2; omega
   exact ⟨E.vs[j],true,fun w' hk =>eGet (H.out.keeps hk) j hil,fun _ =>⟨hin,(Z2g hil).symm⟩,fun h =>by cases h⟩
  ·exact ⟨vd0,false,fun w' hk =>Zjx (H.out.keeps hk) oix hin,(fun h =>by cases h),fun _ =>hin⟩
 obtain ⟨V,B,hget,hB1,hB2⟩ :=HGET0
 have HGET :=Hd hget
 have HB1 :=Hd hB1
 have HB2 :=Hd hB2
 clear hX hY hblk c0 c21 c27 hcfg hcz h hget hB1 hB2 hbk
 go_enter Tryz.func53,Tryz.ntmps53
 go_upto_region 1 with fail
 refine Z0l ?_
 intro wz hwz
 obtain ⟨g1,g2,g3,g4⟩ :=Z3u w (.cells #[.int .i64 kd, .int .i64 oix, .int .i64 otg, .int .u64 am] 34) (resB 0 0 0)
 rw [← (show wz=_ from hwz)] at g1 g2 g3 g4
 have K0 :=Hd g4
 have G0 :=Hd g2
 have O0 :=Hd g1
 have HZS :=Hd g3
 have HS1 :=Hd (fun (wx:World) (hk:Z00 wz wx) =>(⟨(HCE.out _ (K0.out.keep hk)).1,by rw [cell_of_row _ _ _ _ _ _ (hk.at O0.out fun h =>h)]; rfl⟩:wx.cell? ⟨e,0,none⟩=some (.pointer (some ⟨p.rg,0,none⟩))∧wx.cell? ⟨w.heap.size,1,none⟩=some (.int .i64 oix)))
 clear hwz g1 g2 g3 g4
 go_cut [5,6] (fun s5 s6 wx => ∃ z,s5 = .pointer (some ⟨z,0,none⟩)∧s6 = .bool B∧wz.heap.size≤z∧wx.heap[z]? = some (vdB V)∧Z00 wz wx)
 case first =>
  refine Z07 (S :=(fun w' =>w'.cell? ⟨e,0,none⟩=some (.pointer (some ⟨p.rg,0,none⟩))∧w'.cell? ⟨w.heap.size,1,none⟩=some (.int .i64 oix))) (by kernel_rfl) (by exact HS1.out _ (Mods.refl _ wz).drew) (fun wc hD hH0 =>?_)
  have HK :=Hd (show Z00 wz wc from hD.mods)
  clear hD
  refine tk 0 rfl hH0 ?_
  try go_frame
  refine tk 1 rfl hH0 ?_
  try go_frame
  refine tk 2 rfl hH0 ?_
  try go_frame
  refine tk 3 rfl hH0 ?_
  try go_frame
  refine tk 4 rfl hH0 ?_
  try go_frame
  refine tk 5 rfl hH0 ?_
  try go_frame
  refine tk 6 rfl hH0 ?_
  try go_frame
  refine rdy [7,11] (Z04 rfl (fun K hK =>?_) (Z04 rfl (fun K hK =>?_) AllReadyH.nil))
  ·go_simp
   refine (HGET.out _ (K0.out.keep HK.out)).mono ?_
   rintro r wc ⟨rfl,hk⟩
   go_wp2_with fail
   refine hK.out _ _ (HS1.out _ (HK.out.keep hk)) (fun hH1 =>?_)
   clear hK K hH0
   try go_frame
   replace HK :=Hd (HK.out.keep hk)
   try replace HZ :=Hd (hk.at HZ.out fun h =>h)
   clear hk
   refine tk 8 rfl hH1 ?_
   try go_frame
   refine tk 9 rfl hH1 ?_
   try go_frame
   refine tk 10 rfl hH1 ?_
   try go_frame
   refine rdy [11] (Z04 rfl (fun K hK =>?_) AllReadyH.nil)
   go_simp
   have hsbn:wz.heap.size≤wc.heap.size :=HK.out.size
   generalize hsz5:wc.heap.size=z at *
   refine Z14 ?_
   intro wc hwd
   have hk :=Z0f hwd
   have hn :=Z0g hwd
   rw [hsz5] at hn
   refine hK.out _ _ (HS1.out _ (HK.out.keep hk)) (fun hH2 =>?_)
   clear hK K hH1
   try go_frame
   replace HK :=Hd (HK.out.keep hk)
   have HZ :=Hd (show wc.heap[z]? = some (vdB vd0) from hn)
   have HZN :=Hd hsbn
   clear hwd hk hn hsz5 hsbn
   refine rdy [12] (Z04 rfl (fun K hK =>?_) AllReadyH.nil)
   refine Z0d (by rfl) (.tmp 5) (.tmp 19) rfl z V vd0 (by rfl) (by rfl) HZ.out ?_
   intro wc hz hm
   have hk:Z00 wz wc :=HK.out.seq hm fun i hi e =>by have :=HZN.out; omega
   refine hK.out _ _ (HS1.out _ hk) (fun hH3 =>?_)
   clear hK K hH2
   try go_frame
   replace HK :=Hd hk
   have HF :=Hd hz
   clear hz hm hk HZ
   refine tk 13 rfl hH3 ?_
   try go_frame
   refine wpAnyH_done (by kernel_rfl) ?_ _
   have hS :=Hd hH3
   clear hH3
   go_wp2_with fail
   go_meet
   case rel =>exact ⟨_,rfl,rfl,HZN.out,HF.out,HK.out⟩
  ·go_simp
   have hsbn:wz.heap.size≤wc.heap.size :=HK.out.size
   generalize hsz5:wc.heap.size=z at *
   refine Z14 ?_
   intro wc hwd
   have hk :=Z0f hwd
   have hn :=Z0g hwd
   rw [hsz5] at hn
   refine hK.out _ _ (HS1.out _ (HK.out.keep hk)) (fun hH1 =>?_)
   clear hK K hH0
   try go_frame
   replace HK :=Hd (HK.out.keep hk)
   have HZ :=Hd (show wc.heap[z]? = some (vdB vd0) from hn)
   have HZN :=Hd hsbn
   clear hwd hk hn hsz5 hsbn
   refine rdy [7] (Z04 rfl (fun K hK =>?_) AllReadyH.nil)
   go_simp
   refine (HGET.out _ (K0.out.keep HK.out)).mono ?_
   rintro r wc ⟨rfl,hk⟩
   go_wp2_with fail
   refine hK.out _ _ (HS1.out _ (HK.out.keep hk)) (fun hH2 =>?_)
   clear hK K hH1
   try go_frame
   replace HK :=Hd (HK.out.keep hk)
   try replace HZ :=Hd (hk.at HZ.out fun h =>h)
   clear hk
   refine tk 8 rfl hH2 ?_
   try go_frame
   refine tk 9 rfl hH2 ?_
   try go_frame
   refine tk 10 rfl hH2 ?_
   try go_frame
   refine rdy [12] (Z04 rfl (fun K hK =>?_) AllReadyH.nil)
   refine Z0d (by rfl) (.tmp 5) (.tmp 19) rfl z V vd0 (by rfl) (by rfl) HZ.out ?_
   intro wc hz hm
   have hk:Z00 wz wc :=HK.out.seq hm fun i hi e =>by have :=HZN.out; omega
   refine hK.out _ _ (HS1.out _ hk) (fun hH3 =>?_)
   clear hK K hH2
   try go_frame
   replace HK :=Hd hk
   have HF :=Hd hz
   clear hz hm hk HZ
   refine tk 13 rfl hH3 ?_
   try go_frame
   refine wpAnyH_done (by kernel_rfl) ?_ _
   have hS :=Hd hH3
   clear hH3
   go_wp2_with fail
   go_meet
   case rel =>exact ⟨_,rfl,rfl,HZN.out,HF.out,HK.out⟩
 case rest =>
  obtain ⟨z5,rfl,rfl,hzn,hz,hk⟩ :=hcut
  obtain ⟨w2,hw2⟩:∃ x,x=wc :=⟨_,rfl⟩
  subst hw2
  have T2 :=Hd hz
  have KZ2 :=Hd hk
  have K2 :=Hd (K0.out.keep hk)
  have G2 :=Hd (hk.at G0.out fun h =>h)
  have HZ5 :=Hd hzn
  clear hz hk hzn
  cases B with
  | false =>
   have HO :=Hd (show Z40 c E oix=7 from if_pos (HB2.out rfl))
   go_wp2_with fail
   refine (Z0q 7 _).mono ?_
   rintro r wf ⟨rfl,hkf⟩
   have gf :=hkf.at G2.out fun h =>h
   have HKF :=Hd hkf
   clear hkf
   go_wp2_with (refine Z08 rfl (.tmp 4) (.tmp 23) rfl (w.heap.size+1) 7 0 0 0 0 0 rfl rfl gf ?_; refine Z0e.out ?_)
   refine Z0e.mk ?_
   intro wg hg hm
   have HM :=Hd hm
   have HG :=Hd hg
   clear hg hm gf
   go_wp2_with fail
   obtain ⟨p0,p1,p2⟩ :=Z0b HG.out
   have hkk:Z00 w wg :=(K2.out.keep HKF.out).seq HM.out fun i hi e =>by omega
   exact bodyPost_ret (v :=resV 7 0 0) (by simp [results,Tryz.results53,go_sem,p0,p1,p2]) rfl ⟨by rw [HX.out,show Z3h c E oix=(7,0,0) from by rw [Z3h,HO.out,if_neg (by decide)]],by rw [HY.out,show Z1e c E oix=E from by rw [Z1e,HO.out,if_neg (by decide)]]; exact Goes.mono (Goes.keeps H.out hkk) (by omega)⟩
  | true =>
   obtain ⟨hin,hVV⟩ :=HB1.out rfl
   have hi0 :=hin.1
   obtain ⟨j,hj⟩ :=Int.eq_ofNat_of_zero_le hi0
   have HJ :=Hd hj
   have hil:j<E.vs.length :=by have :=hin.2; omega
   obtain ⟨v0,hv0⟩:∃ x,x=vAt E.vs oix :=⟨_,rfl⟩
   have HV0 :=Hd hv0
   have hmem:v0∈E.vs :=by rw [hv0]; exact List.mem_of_getElem? (Z44 hin)
   have HVO :=Hd (hvok _ hmem)
   have HWD :=Hd (hwd _ hmem)
   obtain rfl:V=v0 :=hVV.trans hv0.symm
   obtain ⟨ep,hep⟩:∃ x,x=E.b / c 13 :=⟨_,rfl⟩
   have HEPO :=Hd (fun (w':World) (hk:Z00 w w') =>Z12 p.ck E.b (c 13) w' ((H.out.keeps hk).ck (by decide)) hb0 (by omega) hc13)
   rw [← hep] at HEPO
   have HEP :=Hd hep
   have HSLS :=Hd (fun w =>Zcw V HVO.out ep c hn hd hd1 hd2 w)
   obtain ⟨SL,hSL⟩:∃ x,x=Z1y ep c V :=⟨_,rfl⟩
   obtain ⟨BU,hBU⟩:∃ x,x=Z9q ep c V :=⟨_,rfl⟩
   rw [← hSL,← hBU,show cfgV c = .agg (cfgC c) from rfl,← hcs] at HSLS
   have HSL :=Hd hSL
   have HBU :=Hd hBU
   have HO0 :=Hd (show Z40 c E oix=(if SL.1=9∨SL.1=8 then SL.1 else if V.st=2∧(c 1).toNat≤E.fo.length then 6 else SL.1) from by
    unfold Z40
    rw [if_neg (by simp [hin]),← hep,← hv0,← hSL])
   clear hin hVV hi0 hj hv0 hmem hep hSL hBU hwd hvok hcs
   go_wp2_with fail
   have hs20 :=HS20.out
   have HS2 :=Hd (fun (wx:World) (hk:Z00 wz wx) (ht:wx.heap[z5]? = some (vdB V)) =>(⟨ht,(HCE.out _ (K0.out.keep hk)).2.1,(HCE.out _ (K0.out.keep hk)).2.2.2⟩:wx.heap[z5]? = some (vdB V)∧wx.cell? ⟨e,21,none⟩=some (.pointer (some ⟨p.ck,0,none⟩))∧wx.rangeAt e 1 cs.toList))
   go_cut [7,8,9] (fun s7 s8 s9 wx => ∃ z,s7 = .pointer (some ⟨z,0,none⟩)∧s8 = .int .u64 BU∧s9 = .int .i64 SL.1∧wz.heap.size≤z∧wx.heap[z]? = some (vdB SL.2)∧Z00 w2 wx)
   case first =>
    refine Z07 (S :=(fun w' =>w'.heap[z5]? = some (vdB V)∧w'.cell? ⟨e,21,none⟩=some (.pointer (some ⟨p.ck,0,none⟩))∧w'.rangeAt e 1 cs.toList)) (by kernel_rfl) (by exact HS2.out _ KZ2.out.drew T2.out) (fun wc hD hH0 =>?_)
    have HK :=Hd (show Z00 w2 wc from hD.mods)
    clear hD
    refine tkb 0 rfl hH0 (Z13 (by rfl) (.tmp 5) rfl z5 rfl V (fun _ h =>h.1)) ?_
    try go_frame
    refine tk 1 rfl hH0 ?_
    try go_frame
    refine tk 2 rfl hH0 ?_
    try go_frame
    refine tk 3 rfl hH0 ?_
    try go_frame
    refine tk 4 rfl hH0 ?_
    try go_frame
    refine tk 6 rfl hH0 ?_
    try go_frame
    refine tk 7 rfl hH0 ?_
    try go_frame
    refine tk 8 rfl hH0 ?_
    try go_frame
    refine tkb 9 rfl hH0 (yieldsIf_load_mid (by rfl) 24 (.tmp 33) rfl e 1 rfl cs.toList _ (fun _ h =>h.2.2) Tryz.underlying24 rfl hs20) ?_
    try go_frame
    refine rdy [5,15] (Z04 rfl (fun K hK =>?_) (Z04 rfl (fun K hK =>?_) AllReadyH.nil))
    ·go_simp
     refine (HEPO.out _ (K2.out.keep HK.out)).mono ?_
     rintro r wc ⟨rfl,hk⟩
     go_wp2_with fail
     refine hK.out _ _ (HS2.out _ (KZ2.out.keep (HK.out.keep hk)) ((HK.out.keep hk).at T2.out fun h =>h)) (fun hH1 =>?_)
     clear hK K hH0
     try go_frame
     replace HK :=Hd (HK.out.keep hk)
     try replace HZ :=Hd (hk.at HZ.out fun h =>h)
     clear hk
     refine rdy [10,15] (Z04 rfl (fun K hK =>?_) (Z04 rfl (fun K hK =>?_) AllReadyH.nil))
     ·go_simp
      refine (HSLS.out _).mono ?_
      rintro r wc ⟨rfl,hk⟩
      go_wp2_with fail
      refine hK.out _ _ (HS2.out _ (KZ2.out.keep (HK.out.keep hk)) ((HK.out.keep hk).at T2.out fun h =>h)) (fun hH2 =>?_)
      clear hK K hH1
      try go_frame
      replace HK :=Hd (HK.out.keep hk)
      try replace HZ :=Hd (hk.at HZ.out fun h =>h)
      clear hk
      refine tk 11 rfl hH2 ?_
      try go_frame
      refine tk 12 rfl hH2 ?_
      try go_frame
      refine tk 13 rfl hH2 ?_
      try go_frame
      refine tk 14 rfl hH2 ?_
      try go_frame
      refine rdy [15] (Z04 rfl (fun K hK =>?_) AllReadyH.nil)
      go_simp
      have hsbn:w2.heap.size≤wc.heap.size :=HK.out.size
      generalize hsz5:wc.heap.size=z at *
      refine Z14 ?_
      intro wc hwd
      have hk :=Z0f hwd
      have hn :=Z0g hwd
      rw [hsz5] at hn
      refine hK.out _ _ (HS2.out _ (KZ2.out.keep (HK.out.keep hk)) ((HK.out.keep hk).at T2.out fun h =>h)) (fun hH3 =>?_)
      clear hK K hH2
      try go_frame
      replace HK :=Hd (HK.out.keep hk)
      have HZ :=Hd (show wc.heap[z]? = some (vdB vd0) from hn)
      have HZN :=Hd hsbn
      clear hwd hk hn hsz5 hsbn
      refine rdy [16] (Z04 rfl (fun K hK =>?_) AllReadyH.nil)
      refine Z0d (by rfl) (.tmp 7) (.tmp 36) rfl z SL.2 vd0 (by rfl) (by rfl) HZ.out ?_
      intro wc hz hm
      have hk:Z00 w2 wc :=HK.out.seq hm fun i hi e =>by have :=HZN.out; omega
      refine hK.out _ _ (HS2.out _ (KZ2.out.keep hk) (hk.at T2.out fun h =>h)) (fun hH4 =>?_)
      clear hK K hH3
      try go_frame
      replace HK :=Hd hk
      have HF :=Hd hz
      clear hz hm hk HZ
      refine tk 17 rfl hH4 ?_
      try go_frame
      refine tk 18 rfl hH4 ?_
      try go_frame
      refine wpAnyH_done (by kernel_rfl) ?_ _
      have hS :=Hd hH4
      clear hH4
      go_wp2_with fail
      go_meet
      case rel =>exact ⟨_,rfl,rfl,rfl,by have :=HZN.out; have :=KZ2.out.size; omega,HF.out,HK.out⟩
     ·go_simp
      have hsbn:w2.heap.size≤wc.heap.size :=HK.out.size
      generalize hsz5:wc.heap.size=z at *
      refine Z14 ?_
      intro wc hwd
      have hk :=Z0f hwd
      have hn :=Z0g hwd
      rw [hsz5] at hn
      refine hK.out _ _ (HS2.out _ (KZ2.out.keep (HK.out.keep hk)) ((HK.out.keep hk).at T2.out fun h =>h)) (fun hH2 =>?_)
      clear hK K hH1
      try go_frame
      replace HK :=Hd (HK.out.keep hk)
      have HZ :=Hd (show wc.heap[z]? = some (vdB vd0) from hn)
      have HZN :=Hd hsbn
      clear hwd hk hn hsz5 hsbn
      refine rdy [10] (Z04 rfl (fun K hK =>?_) AllReadyH.nil)
      go_simp
      refine (HSLS.out _).mono ?_
      rintro r wc ⟨rfl,hk⟩
      go_wp2_with fail
      refine hK.out _ _ (HS2.out _ (KZ2.out.keep (HK.out.keep hk)) ((HK.out.keep hk).at T2.out fun h =>h)) (fun hH3 =>?_)
      clear hK K hH2
      try go_frame
      replace HK :=Hd (HK.out.keep hk)
      try replace HZ :=Hd (hk.at HZ.out fun h =>h)
      clear hk
      refine tk 11 rfl hH3 ?_
      try go_frame
      refine tk 12 rfl hH3 ?_
      try go_frame
      refine tk 13 rfl hH3 ?_
      try go_frame
      refine tk 14 rfl hH3 ?_
      try go_frame
      refine rdy [16] (Z04 rfl (fun K hK =>?_) AllReadyH.nil)
      refine Z0d (by rfl) (.tmp 7) (.tmp 36) rfl z SL.2 vd0 (by rfl) (by rfl) HZ.out ?_
      intro wc hz hm
      have hk:Z00 w2 wc :=HK.out.seq hm fun i hi e =>by have :=HZN.out; omega
      refine hK.out _ _ (HS2.out _ (KZ2.out.keep hk) (hk.at T2.out fun h =>h)) (fun hH4 =>?_)
      clear hK K hH3
      try go_frame
      replace HK :=Hd hk
      have HF :=Hd hz
      clear hz hm hk HZ
      refine tk 17 rfl hH4 ?_
      try go_frame
      refine tk 18 rfl hH4 ?_
      try go_frame
      refine wpAnyH_done (by kernel_rfl) ?_ _
      have hS :=Hd hH4
      clear hH4
      go_wp2_with fail
      go_meet
      case rel =>exact ⟨_,rfl,rfl,rfl,by have :=HZN.out; have :=KZ2.out.size; omega,HF.out,HK.out⟩
    ·go_simp
     have hsbn:w2.heap.size≤wc.heap.size :=HK.out.size
     generalize hsz5:wc.heap.size=z at *
     refine Z14 ?_
     intro wc hwd
     have hk :=Z0f hwd
     have hn :=Z0g hwd
     rw [hsz5] at hn
     refine hK.out _ _ (HS2.out _ (KZ2.out.keep (HK.out.keep hk)) ((HK.out.keep hk).at T2.out fun h =>h)) (fun hH1 =>?_)
     clear hK K hH0
     try go_frame
     replace HK :=Hd (HK.out.keep hk)
     have HZ :=Hd (show wc.heap[z]? = some (vdB vd0) from hn)
     have HZN :=Hd hsbn
     clear hwd hk hn hsz5 hsbn
     refine rdy [5] (Z04 rfl (fun K hK =>?_) AllReadyH.nil)
     go_simp
     refine (HEPO.out _ (K2.out.keep HK.out)).mono ?_
     rintro r wc ⟨rfl,hk⟩
     go_wp2_with fail
     refine hK.out _ _ (HS2.out _ (KZ2.out.keep (HK.out.keep hk)) ((HK.out.keep hk).at T2.out fun h =>h)) (fun hH2 =>?_)
     clear hK K hH1
     try go_frame
     replace HK :=Hd (HK.out.keep hk)
     try replace HZ :=Hd (hk.at HZ.out fun h =>h)
     clear hk
     refine rdy [10] (Z04 rfl (fun K hK =>?_) AllReadyH.nil)
     go_simp
     refine (HSLS.out _).mono ?_
     rintro r wc ⟨rfl,hk⟩
     go_wp2_with fail
     refine hK.out _ _ (HS2.out _ (KZ2.out.keep (HK.out.keep hk)) ((HK.out.keep hk).at T2.out fun h =>h)) (fun hH3 =>?_)
     clear hK K hH2
     try go_frame
     replace HK :=Hd (HK.out.keep hk)
     try replace HZ :=Hd (hk.at HZ.out fun h =>h)
     clear hk
     refine tk 11 rfl hH3 ?_
     try go_frame
     refine tk 12 rfl hH3 ?_
     try go_frame
     refine tk 13 rfl hH3 ?_
     try go_frame
     refine tk 14 rfl hH3 ?_
     try go_frame
     refine rdy [16] (Z04 rfl (fun K hK =>?_) AllReadyH.nil)
     refine Z0d (by rfl) (.tmp 7) (.tmp 36) rfl z SL.2 vd0 (by rfl) (by rfl) HZ.out ?_
     intro wc hz hm
     have hk:Z00 w2 wc :=HK.out.seq hm fun i hi e =>by have :=HZN.out; omega
     refine hK.out _ _ (HS2.out _ (KZ2.out.keep hk) (hk.at T2.out fun h =>h)) (fun hH4 =>?_)
     clear hK K hH3
     try go_frame
     replace HK :=Hd hk
     have HF :=Hd hz
     clear hz hm hk HZ
     refine tk 17 rfl hH4 ?_
     try go_frame
     refine tk 18 rfl hH4 ?_
     try go_frame
     refine wpAnyH_done (by kernel_rfl) ?_ _
     have hS :=Hd hH4
     clear hH4
     go_wp2_with fail
     go_meet
     case rel =>exact ⟨_,rfl,rfl,rfl,by have :=HZN.out; have :=KZ2.out.size; omega,HF.out,HK.out⟩
   case rest =>
    obtain ⟨z7,rfl,rfl,rfl,hzn,hz,hk⟩ :=hcut
    obtain ⟨w6,hw6⟩:∃ x,x=wc :=⟨_,rfl⟩
    subst hw6
    have T7 :=Hd hz
    have T5 :=Hd (hk.at T2.out fun h =>h)
    have O6 :=Hd ((KZ2.out.keep hk).at O0.out fun h =>h)
    have K6 :=Hd (K2.out.keep hk)
    have G6 :=Hd (hk.at G2.out fun h =>h)
    have HZ0 :=Hd (show own w.heap.size=0∧own (w.heap.size+1)=0∧own z5=0∧own z7=0 from ⟨H.out.new _ (Nat.le_refl _),H.out.new _ (Nat.le_succ _),H.out.new _ (by have :=HZ5.out; have :=HZS.out; omega),H.out.new _ (by have :=HZS.out; omega)⟩)
    clear hz hk hzn
    have HCF :=Hd (fun (w':World) (hk':Z00 w w') =>Z8m ((H.out.keeps hk').la (by decide)) 0 (.inl rfl))
    rw [if_pos rfl] at HCF
    have hql:E.fo.length≤(c 1).toNat :=by
     obtain ⟨-, -,S0,S1,p0,q0, -,r0,r1, -⟩ :=H.out.la (by decide)
     exact r0.2.2.2.1
    by_cases h98:SL.1=9∨SL.1=8
    ·have HO :=Hd (show Z40 c E oix=SL.1 from HO0.out.trans (if_pos h98))
     have hne : ¬ SL.1=0 :=by omega
     have HNE :=Hd hne
     by_cases h9:SL.1=9
     ·have hb9:(SL.1 == 9)=true :=by simp [h9]
      clear h98 h9 hne
      go_wp2_with fail
      refine (Z0q SL.1 _).mono ?_
      rintro r wf ⟨rfl,hkf⟩
      have gf :=hkf.at G6.out fun h =>h
      have HKF :=Hd hkf
      clear hkf
      go_wp2_with (refine Z08 rfl (.tmp 4) (.tmp 46) rfl (w.heap.size+1) SL.1 0 0 0 0 0 rfl rfl gf ?_; refine Z0e.out ?_)
      refine Z0e.mk ?_
      intro wg hg hm
      have HM :=Hd hm
      have HG :=Hd hg
      clear hg hm gf
      go_wp2_with fail
      obtain ⟨p0,p1,p2⟩ :=Z0b HG.out
      have hkk:Z00 w wg :=(K6.out.keep HKF.out).seq HM.out fun i hi e =>by omega
      exact bodyPost_ret (v :=resV SL.1 0 0) (by simp [results,Tryz.results53,go_sem,p0,p1,p2]) rfl ⟨by rw [HX.out,show Z3h c E oix=(SL.1,0,0) from by rw [Z3h,HO.out,if_neg HNE.out]],by rw [HY.out,show Z1e c E oix=E from by rw [Z1e,HO.out,if_neg HNE.out]]; exact Goes.mono (Goes.keeps H.out hkk) (by omega)⟩
     ·have hb9:(SL.1 == 9)=false :=by simp [h9]
      have hb8:(SL.1 == 8)=true :=by simp; omega
      clear h98 h9 hne
      go_wp2_with fail
      refine (Z0q SL.1 _).mono ?_
      rintro r wf ⟨rfl,hkf⟩
      have gf :=hkf.at G6.out fun h =>h
      have HKF :=Hd hkf
      clear hkf
      go_wp2_with (refine Z08 rfl (.tmp 4) (.tmp 46) rfl (w.heap.size+1) SL.1 0 0 0 0 0 rfl rfl gf ?_; refine Z0e.out ?_)
      refine Z0e.mk ?_
      intro wg hg hm
      have HM :=Hd hm
      have HG :=Hd hg
      clear hg hm gf
      go_wp2_with fail
      obtain ⟨p0,p1,p2⟩ :=Z0b HG.out
      have hkk:Z00 w wg :=(K6.out.keep HKF.out).seq HM.out fun i hi e =>by omega
      exact bodyPost_ret (v :=resV SL.1 0 0) (by simp [results,Tryz.results53,go_sem,p0,p1,p2]) rfl ⟨by rw [HX.out,show Z3h c E oix=(SL.1,0,0) from by rw [Z3h,HO.out,if_neg HNE.out]],by rw [HY.out,show Z1e c E oix=E from by rw [Z1e,HO.out,if_neg HNE.out]]; exact Goes.mono (Goes.keeps H.out hkk) (by omega)⟩
    ·have HO1' :=Hd (HO0.out.trans (if_neg h98))
     have hb9:(SL.1 == 9)=false :=by simp; omega
     have hb8:(SL.1 == 8)=false :=by simp; omega
     clear h98
     have x51 :=(Z0o T5.out).2.1
     have x27 :=(HCE.out _ K6.out).2.2.1
     by_cases hst:V.st=2
     ·have HST :=Hd hst
      have hb2:(V.st == 2)=true :=by simp [hst]
      by_cases hfull:(c 1).toNat≤E.fo.length
      ·have HO :=Hd (show Z40 c E oix=6 from HO1'.out.trans (if_pos ⟨hst,hfull⟩))
       have hz0:((((c 1).toNat:Int) - (E.fo.length:Int)) == 0)=true :=by rw [beq_iff_eq]; omega
       clear hst
       go_wp2_with fail
       refine (HCF.out _ K6.out).mono ?_
       rintro r w7 ⟨rfl,hd7⟩
       have K7 :=Hd (K6.out.keep hd7.mods)
       have G7 :=Hd (show w7.heap[w.heap.size+1]? = some (resB 0 0 0) from (hd7.mods (S :=fun _ =>False)).at G6.out fun h =>h)
       clear hd7 x51 x27
       go_wp2_with fail
       refine (Z0q 6 _).mono ?_
       rintro r wf ⟨rfl,hkf⟩
       have gf :=hkf.at G7.out fun h =>h
       have HKF :=Hd hkf
       clear hkf
       go_wp2_with (refine Z08 rfl (.tmp 4) (.tmp 58) rfl (w.heap.size+1) 6 0 0 0 0 0 rfl rfl gf ?_; refine Z0e.out ?_)
       refine Z0e.mk ?_
       intro wg hg hm
       have HM :=Hd hm
       have HG :=Hd hg
       clear hg hm gf
       go_wp2_with fail
       obtain ⟨p0,p1,p2⟩ :=Z0b HG.out
       have hkk:Z00 w wg :=(K7.out.keep HKF.out).seq HM.out fun i hi e =>by omega
       exact bodyPost_ret (v :=resV 6 0 0) (by simp [results,Tryz.results53,go_sem,p0,p1,p2]) rfl ⟨by rw [HX.out,show Z3h c E oix=(6,0,0) from by rw [Z3h,HO.out,if_neg (by decide)]],by rw [HY.out,show Z1e c E oix=E from by rw [Z1e,HO.out,if_neg (by decide)]]; exact Goes.mono (Goes.keeps H.out hkk) (by omega)⟩
      ·have HO1 :=Hd (show Z40 c E oix=SL.1 from HO1'.out.trans (if_neg fun h =>hfull h.2))
       have hz0:((((c 1).toNat:Int) - (E.fo.length:Int)) == 0)=false :=by rw [beq_eq_false_iff_ne]; omega
       have hfl:(if (0:Int)=0 then E.fo else E.vo).length<(c 1).toNat :=by rw [if_pos rfl]; omega
       clear hst
       go_wp2_with fail
       refine (HCF.out _ K6.out).mono ?_
       rintro r w7 ⟨rfl,hd7⟩
       have hk7:Z00 w6 w7 :=hd7.mods
       have O7 :=Hd (hk7.at O6.out fun h =>h)
       have T57 :=Hd (hk7.at T5.out fun h =>h)
       have T77 :=Hd (hk7.at T7.out fun h =>h)
       have G7 :=Hd (hk7.at G6.out fun h =>h)
       have K7 :=Hd (K6.out.keep hk7)
       clear hd7 x51 x27 hk7
       clear O6 T5 T7 G6 K6
       by_cases hcd:SL.1=0
       ·have HO :=Hd (show Z40 c E oix=0 from HO1.out.trans hcd)
        obtain ⟨q1,q2,q3,q4,q5,q6⟩ :=Z5u HVO.out ep c HWD.out hn hd hd1 (by rw [← HSL.out]; exact hcd)
        rw [← HSL.out] at q1 q2 q5 q6
        rw [← HBU.out] at q2 q3 q4
        have hsum:totS (E.vs.set j SL.2)≤maxU :=by
         rw [Z2z hil,q2]
         have h2:E.vs[j]=V :=by rw [HV0.out,HJ.out,Z2g hil]
         rw [h2]
         omega
        have HCH :=Hd (fun (w':World) (hk':Z00 w w') =>Z4z (H.out.keeps hk') SL.2 q1 j hil hsum (by omega))
        have HQ5 :=Hd q5
        have HQ6 :=Hd q6
        have HQ3 :=Hd (show 0≤BU∧BU≤maxU from ⟨q3,by have :=HVO.out.b1; omega⟩)
        have hcb:(SL.1 != 0)=false :=by simp [hcd]
        clear hcd q1 q2 q3 q4 q5 q6 hsum
        go_wp2_with fail
        have hS8:∀ wx,Z00 w7 wx→(wx.cell? ⟨e,0,none⟩=some (.pointer (some ⟨p.rg,0,none⟩))∧wx.cell? ⟨w.heap.size,1,none⟩=some (.int .i64 (j:Int))∧wx.heap[z7]? = some (vdB SL.2)) :=fun wx hk' =>⟨(HCE.out _ (K7.out.keep hk')).1,by rw [cell_of_row _ _ _ _ _ _ (hk'.at O7.out fun h =>h),HJ.out]; rfl,hk'.at T77.out fun h =>h⟩
        refine wp_region_held_drew (S :=(fun w' =>w'.cell? ⟨e,0,none⟩=some (.pointer (some ⟨p.rg,0,none⟩))∧w'.cell? ⟨w.heap.size,1,none⟩=some (.int .i64 (j:Int))∧w'.heap[z7]? = some (vdB SL.2))) (by kernel_rfl) (by exact hS8 _ (Mods.refl _ w7).drew) (fun hH0 =>?_)
        refine tk 0 rfl hH0 ?_
        try go_frame
        refine tk 1 rfl hH0 ?_
        try go_frame
        refine tk 2 rfl hH0 ?_
        try go_frame
        refine tk 3 (v :=tabV p.rg) rfl hH0 ?_
        try go_frame
        refine tk 4 rfl hH0 ?_
        try go_frame
        refine tk 5 rfl hH0 ?_
        try go_frame
        refine tkb 6 rfl hH0 (Z13 (by rfl) (.tmp 7) rfl z7 rfl SL.2 (fun _ h =>h.2.2)) ?_
        try go_frame
        refine rdy [7] (Z04 rfl (fun K hK =>?_) AllReadyH.nil)
        go_simp
        refine (HCH.out _ K7.out.drew).mono ?_
        rintro r w8 ⟨rfl,own8,hE8,hX8⟩
        go_wp2_with fail
        have hX68 :=(Ext.keeps (own :=own) (Mods.refl (fun _ =>False) w7).drew).trans hX8
        have O8 :=Hd (hX68.at O7.out HZ0.out.1)
        have G8 :=Hd (hX68.at G7.out HZ0.out.2.1)
        have T5' :=Hd (hX68.at T57.out HZ0.out.2.2.1)
        have T7' :=Hd (hX68.at T77.out HZ0.out.2.2.2)
        obtain ⟨lv8,hb8, -, -⟩ :=hE8.blk (by decide)
        have x22 :=(Z09 hb8).2.2.1
        refine hK.out _ _ (⟨(Z09 hb8).1,by rw [cell_of_row _ _ _ _ _ _ O8.out.1,HJ.out]; rfl,T7'.out.1⟩) (fun hH1 =>?_)
        clear hK K hH0
        try go_frame
        refine wpAnyH_done (by kernel_rfl) ?_ _
        clear hH1
        have HBN :=Hd (fun (w':World) (hk':Z00 w8 w') =>Znz (hE8.keeps hk') BU HQ3.out.1 HQ3.out.2 (Led.burn_ok (hE8.ld (by decide)).2 HQ3.out.1))
        have HX8 :=Hd ((Ext.keeps (own :=own) K7.out).trans hX68)
        clear hE8 hX8 hX68 hb8 hS8
        go_wp2_with fail
        refine (HBN.out _ (Mods.refl _ _)).mono ?_
        rintro r w9 ⟨rfl,own9,hE9,hX9⟩
        have O9 :=Hd (hX9.at O8.out.1 O8.out.2)
        have G9 :=Hd (hX9.at G8.out.1 G8.out.2)
        have T59 :=Hd (hX9.at T5'.out.1 T5'.out.2)
        have T79 :=Hd (hX9.at T7'.out.1 T7'.out.2)
        have HX9 :=Hd (HX8.out.trans hX9)
        obtain ⟨lv9,hb9, -, -⟩ :=hE9.blk (by decide)
        have h9c :=Z09 hb9
        have x51 :=(Z0o T59.out.1).2.1
        have x1:w9.cell? ⟨w.heap.size,1,none⟩=some (.int .i64 (j:Int)) :=by rw [cell_of_row _ _ _ _ _ _ O9.out.1,HJ.out]; rfl
        have HE9 :=Hd hE9
        clear hE9 hX9 hb9 x22
        have x27 :=h9c.2.2.2.2.2.2.2.1
        have HPU :=Hd (fun (w':World) (hk':Z00 w9 w') =>Zmd (HE9.out.keeps hk') 0 (j:Int) (.inl rfl) hfl)
        have HS9 :=Hd (fun wx (hk':Z00 w9 wx) =>(⟨hk'.cell x27 fun h =>h,hk'.cell x1 fun h =>h⟩:wx.cell? ⟨e,27,none⟩=some (.pointer (some ⟨p.la,0,none⟩))∧wx.cell? ⟨w.heap.size,1,none⟩=some (.int .i64 (j:Int))))
        clear h9c x27 x1
        go_wp2_with fail
        refine wp_region_held_drew (S :=(fun w' =>w'.cell? ⟨e,27,none⟩=some (.pointer (some ⟨p.la,0,none⟩))∧w'.cell? ⟨w.heap.size,1,none⟩=some (.int .i64 (j:Int)))) (by kernel_rfl) (by exact HS9.out _ (Mods.refl _ w9).drew) (fun hH0 =>?_)
        refine tk 0 rfl hH0 ?_
        try go_frame
        refine tk 1 rfl hH0 ?_
        try go_frame
        refine tk 2 rfl hH0 ?_
        try go_frame
        refine tk 3 rfl hH0 ?_
        try go_frame
        refine tk 4 rfl hH0 ?_
        try go_frame
        refine tk 5 rfl hH0 ?_
        try go_frame
        refine rdy [6] (Z04 rfl (fun K hK =>?_) AllReadyH.nil)
        go_simp
        refine (HPU.out _ (Mods.refl _ w9).drew).mono ?_
        rintro r wd ⟨rfl,ownd,hEd,hXd⟩
        go_wp2_with fail
        have hX2 :=(Ext.keeps (own :=own9) (Mods.refl (fun _ =>False) w9).drew).trans hXd
        have OD :=hX2.at O9.out.1 O9.out.2
        obtain ⟨lvd,hbd, -, -⟩ :=hEd.blk (by decide)
        have xd1:wd.cell? ⟨w.heap.size,1,none⟩=some (.int .i64 oix) :=by rw [cell_of_row _ _ _ _ _ _ OD.1]; rfl
        refine hK.out _ _ (⟨(Z09 hbd).2.2.2.2.2.2.2.1,by rw [← HJ.out]; exact xd1⟩) (fun hH1 =>?_)
        clear hK K hH0
        try go_frame
        refine wpAnyH_done (by kernel_rfl) ?_ _
        clear hH1
        have GD :=Hd (hX2.at G9.out.1 G9.out.2)
        have HEd :=Hd hEd
        have HXd :=Hd (HX9.out.trans hX2)
        clear hEd hXd hX2 hbd OD x51
        go_wp2_with fail
        refine (Z2f _ _ _).mono ?_
        rintro r wf ⟨rfl,hkf⟩
        have gf :=hkf.at GD.out.1 fun h =>h
        have HKF :=Hd hkf
        clear hkf
        go_wp2_with (refine Z08 rfl (.tmp 4) (.tmp 101) rfl (w.heap.size+1) 0 oix (-1) 0 0 0 rfl rfl gf ?_; refine Z0e.out ?_)
        refine Z0e.mk ?_
        intro wg hg hm
        have HM :=Hd hm
        have HG :=Hd hg
        clear hg hm gf
        go_wp2_with fail
        obtain ⟨p0,p1,p2⟩ :=Z0b HG.out
        refine bodyPost_ret (v :=resV 0 oix (-1)) (by simp [results,Tryz.results53,go_sem,p0,p1,p2]) rfl ⟨by rw [HX.out,show Z3h c E oix=(0,oix, -1) from by rw [Z3h,HO.out]; rfl], ?_⟩
        have h9':Z0i ownd wg e c _ p _ :=(HEd.out.keeps HKF.out).loc HM.out fun i _ h =>by rw [h]; exact GD.out.2
        have h10:Ext own w ownd wg :=Z1l (HXd.out.trans (Ext.keeps HKF.out)) HM.out fun i hi h =>by omega
        rw [HY.out,Z1e,HO.out,if_pos rfl,show Z3f c E oix = { E with vs :=E.vs.set j SL.2,led :=E.led.burn BU,fo :=(Z74 0 E.fo E.vo (j:Int)).1,vo :=(Z74 0 E.fo E.vo (j:Int)).2 } from by unfold Z3f; dsimp only; rw [if_pos (by rw [← HV0.out]; exact HST.out),← HEP.out,← HV0.out,← HSL.out,← HBU.out,HJ.out]; rfl]
        exact ⟨ownd,h9'.mono (by omega),h10⟩
       ·have hcb:(SL.1 != 0)=true :=by simp [hcd]
        have HNE :=Hd hcd
        clear hcd
        go_wp2_with fail
        refine (Z0q SL.1 _).mono ?_
        rintro r wf ⟨rfl,hkf⟩
        have gf :=hkf.at G7.out fun h =>h
        have HKF :=Hd hkf
        clear hkf
        go_wp2_with (refine Z08 rfl (.tmp 4) (.tmp 62) rfl (w.heap.size+1) SL.1 0 0 0 0 0 rfl rfl gf ?_; refine Z0e.out ?_)
        refine Z0e.mk ?_
        intro wg hg hm
        have HM :=Hd hm
        have HG :=Hd hg
        clear hg hm gf
        go_wp2_with fail
        obtain ⟨p0,p1,p2⟩ :=Z0b HG.out
        have hkk:Z00 w wg :=(K7.out.keep HKF.out).seq HM.out fun i hi e =>by omega
        exact bodyPost_ret (v :=resV SL.1 0 0) (by simp [results,Tryz.results53,go_sem,p0,p1,p2]) rfl ⟨by rw [HX.out,show Z3h c E oix=(SL.1,0,0) from by rw [Z3h,HO1.out,if_neg HNE.out]],by rw [HY.out,show Z1e c E oix=E from by rw [Z1e,HO1.out,if_neg HNE.out]]; exact Goes.mono (Goes.keeps H.out hkk) (by omega)⟩
     ·have hb2:(V.st == 2)=false :=by simp [hst]
      have HO1 :=Hd (show Z40 c E oix=SL.1 from HO1'.out.trans (if_neg fun h =>hst h.1))
      by_cases hcd:SL.1=0
      ·by_cases hs5:V.st=5
       ·have HST :=Hd hs5
        have hb5:(V.st == 5)=true :=by simp [hs5]
        clear hst hs5
        have HO :=Hd (show Z40 c E oix=0 from HO1.out.trans hcd)
        obtain ⟨q1,q2,q3,q4,q5,q6⟩ :=Z5u HVO.out ep c HWD.out hn hd hd1 (by rw [← HSL.out]; exact hcd)
        rw [← HSL.out] at q1 q2 q5 q6
        rw [← HBU.out] at q2 q3 q4
        have hsum:totS (E.vs.set j SL.2)≤maxU :=by
         rw [Z2z hil,q2]
         have h2:E.vs[j]=V :=by rw [HV0.out,HJ.out,Z2g hil]
         rw [h2]
         omega
        have HCH :=Hd (fun (w':World) (hk':Z00 w w') =>Z4z (H.out.keeps hk') SL.2 q1 j hil hsum (by omega))
        have HQ5 :=Hd q5
        have HQ6 :=Hd q6
        have HQ3 :=Hd (show 0≤BU∧BU≤maxU from ⟨q3,by have :=HVO.out.b1; omega⟩)
        have hcb:(SL.1 != 0)=false :=by simp [hcd]
        clear hcd q1 q2 q3 q4 q5 q6 hsum
        go_wp2_with fail
        have hS8:∀ wx,Z00 w6 wx→(wx.cell? ⟨e,0,none⟩=some (.pointer (some ⟨p.rg,0,none⟩))∧wx.cell? ⟨w.heap.size,1,none⟩=some (.int .i64 (j:Int))∧wx.heap[z7]? = some (vdB SL.2)) :=fun wx hk' =>⟨(HCE.out _ (K6.out.keep hk')).1,by rw [cell_of_row _ _ _ _ _ _ (hk'.at O6.out fun h =>h),HJ.out]; rfl,hk'.at T7.out fun h =>h⟩
        refine wp_region_held_drew (S :=(fun w' =>w'.cell? ⟨e,0,none⟩=some (.pointer (some ⟨p.rg,0,none⟩))∧w'.cell? ⟨w.heap.size,1,none⟩=some (.int .i64 (j:Int))∧w'.heap[z7]? = some (vdB SL.2))) (by kernel_rfl) (by exact hS8 _ (Mods.refl _ w6).drew) (fun hH0 =>?_)
        refine tk 0 rfl hH0 ?_
        try go_frame
        refine tk 1 rfl hH0 ?_
        try go_frame
        refine tk 2 rfl hH0 ?_
        try go_frame
        refine tk 3 (v :=tabV p.rg) rfl hH0 ?_
        try go_frame
        refine tk 4 rfl hH0 ?_
        try go_frame
        refine tk 5 rfl hH0 ?_
        try go_frame
        refine tkb 6 rfl hH0 (Z13 (by rfl) (.tmp 7) rfl z7 rfl SL.2 (fun _ h =>h.2.2)) ?_
        try go_frame
        refine rdy [7] (Z04 rfl (fun K hK =>?_) AllReadyH.nil)
        go_simp
        refine (HCH.out _ K6.out.drew).mono ?_
        rintro r w8 ⟨rfl,own8,hE8,hX8⟩
        go_wp2_with fail
        have hX68 :=(Ext.keeps (own :=own) (Mods.refl (fun _ =>False) w6).drew).trans hX8
        have O8 :=Hd (hX68.at O6.out HZ0.out.1)
        have G8 :=Hd (hX68.at G6.out HZ0.out.2.1)
        have T5' :=Hd (hX68.at T5.out HZ0.out.2.2.1)
        have T7' :=Hd (hX68.at T7.out HZ0.out.2.2.2)
        obtain ⟨lv8,hb8, -, -⟩ :=hE8.blk (by decide)
        have x22 :=(Z09 hb8).2.2.1
        refine hK.out _ _ (⟨(Z09 hb8).1,by rw [cell_of_row _ _ _ _ _ _ O8.out.1,HJ.out]; rfl,T7'.out.1⟩) (fun hH1 =>?_)
        clear hK K hH0
        try go_frame
        refine wpAnyH_done (by kernel_rfl) ?_ _
        clear hH1
        have HBN :=Hd (fun (w':World) (hk':Z00 w8 w') =>Znz (hE8.keeps hk') BU HQ3.out.1 HQ3.out.2 (Led.burn_ok (hE8.ld (by decide)).2 HQ3.out.1))
        have HX8 :=Hd ((Ext.keeps (own :=own) K6.out).trans hX68)
        clear hE8 hX8 hX68 hb8 hS8
        go_wp2_with fail
        refine (HBN.out _ (Mods.refl _ _)).mono ?_
        rintro r w9 ⟨rfl,own9,hE9,hX9⟩
        have O9 :=Hd (hX9.at O8.out.1 O8.out.2)
        have G9 :=Hd (hX9.at G8.out.1 G8.out.2)
        have T59 :=Hd (hX9.at T5'.out.1 T5'.out.2)
        have T79 :=Hd (hX9.at T7'.out.1 T7'.out.2)
        have HX9 :=Hd (HX8.out.trans hX9)
        obtain ⟨lv9,hb9, -, -⟩ :=hE9.blk (by decide)
        have h9c :=Z09 hb9
        have x51 :=(Z0o T59.out.1).2.1
        have x1:w9.cell? ⟨w.heap.size,1,none⟩=some (.int .i64 (j:Int)) :=by rw [cell_of_row _ _ _ _ _ _ O9.out.1,HJ.out]; rfl
        have HE9 :=Hd hE9
        clear hE9 hX9 hb9 x22
        have x23 :=h9c.2.2.2.1
        have HPU :=Hd (fun (w':World) (hk':Z00 w9 w') =>ePut (HE9.out.keeps hk') SL.2.wd (j:Int) HQ5.out HQ6.out HBK.out)
        have x75 :=(Z0o T79.out.1).2.2.2.2.2.1
        have HS9 :=Hd (fun wx (hk':Z00 w9 wx) =>(⟨hk'.cell x23 fun h =>h,hk'.cell x75 fun h =>h,hk'.cell x1 fun h =>h⟩:wx.cell? ⟨e,23,none⟩=some (.pointer (some ⟨p.bo,0,none⟩))∧wx.cell? ⟨z7,5,none⟩=some (.int .i64 SL.2.wd)∧wx.cell? ⟨w.heap.size,1,none⟩=some (.int .i64 (j:Int))))
        clear h9c x23 x1 x75
        go_wp2_with fail
        refine wp_region_held_drew (S :=(fun w' =>w'.cell? ⟨e,23,none⟩=some (.pointer (some ⟨p.bo,0,none⟩))∧w'.cell? ⟨z7,5,none⟩=some (.int .i64 SL.2.wd)∧w'.cell? ⟨w.heap.size,1,none⟩=some (.int .i64 (j:Int)))) (by kernel_rfl) (by exact HS9.out _ (Mods.refl _ w9).drew) (fun hH0 =>?_)
        refine tk 0 rfl hH0 ?_
        try go_frame
        refine tk 1 rfl hH0 ?_
        try go_frame
        refine tk 2 rfl hH0 ?_
        try go_frame
        refine tk 3 rfl hH0 ?_
        try go_frame
        refine tk 4 rfl hH0 ?_
        try go_frame
        refine tk 5 rfl hH0 ?_
        try go_frame
        refine tk 6 rfl hH0 ?_
        try go_frame
        refine tk 7 rfl hH0 ?_
        try go_frame
        refine rdy [8] (Z04 rfl (fun K hK =>?_) AllReadyH.nil)
        go_simp
        refine (HPU.out _ (Mods.refl _ w9).drew).mono ?_
        rintro r wd ⟨rfl,ownd,hEd,hXd⟩
        go_wp2_with fail
        have hX2 :=(Ext.keeps (own :=own9) (Mods.refl (fun _ =>False) w9).drew).trans hXd
        have OD :=hX2.at O9.out.1 O9.out.2
        have TD :=hX2.at T79.out.1 T79.out.2
        obtain ⟨lvd,hbd, -, -⟩ :=hEd.blk (by decide)
        have xd1:wd.cell? ⟨w.heap.size,1,none⟩=some (.int .i64 oix) :=by rw [cell_of_row _ _ _ _ _ _ OD.1]; rfl
        refine hK.out _ _ (⟨(Z09 hbd).2.2.2.1,(Z0o TD.1).2.2.2.2.2.1,by rw [← HJ.out]; exact xd1⟩) (fun hH1 =>?_)
        clear hK K hH0
        try go_frame
        refine wpAnyH_done (by kernel_rfl) ?_ _
        clear hH1
        have GD :=Hd (hX2.at G9.out.1 G9.out.2)
        have HEd :=Hd hEd
        have HXd :=Hd (HX9.out.trans hX2)
        clear hEd hXd hX2 hbd OD TD x51
        go_wp2_with fail
        refine (Z2f _ _ _).mono ?_
        rintro r wf ⟨rfl,hkf⟩
        have gf :=hkf.at GD.out.1 fun h =>h
        have HKF :=Hd hkf
        clear hkf
        go_wp2_with (refine Z08 rfl (.tmp 4) (.tmp 101) rfl (w.heap.size+1) 0 oix (-1) 0 0 0 rfl rfl gf ?_; refine Z0e.out ?_)
        refine Z0e.mk ?_
        intro wg hg hm
        have HM :=Hd hm
        have HG :=Hd hg
        clear hg hm gf
        go_wp2_with fail
        obtain ⟨p0,p1,p2⟩ :=Z0b HG.out
        refine bodyPost_ret (v :=resV 0 oix (-1)) (by simp [results,Tryz.results53,go_sem,p0,p1,p2]) rfl ⟨by rw [HX.out,show Z3h c E oix=(0,oix, -1) from by rw [Z3h,HO.out]; rfl], ?_⟩
        have h9':Z0i ownd wg e c _ p _ :=(HEd.out.keeps HKF.out).loc HM.out fun i _ h =>by rw [h]; exact GD.out.2
        have h10:Ext own w ownd wg :=Z1l (HXd.out.trans (Ext.keeps HKF.out)) HM.out fun i hi h =>by omega
        rw [HY.out,Z1e,HO.out,if_pos rfl,show Z3f c E oix = { E with vs :=E.vs.set j SL.2,led :=E.led.burn BU,bk :=putB (c 12).toNat E.bk SL.2.wd (j:Int) } from by unfold Z3f; dsimp only; rw [if_neg (by rw [← HV0.out,HST.out]; decide),if_pos (by rw [← HV0.out]; exact HST.out),← HEP.out,← HV0.out,← HSL.out,← HBU.out,HJ.out]; rfl]
        exact ⟨ownd,h9'.mono (by omega),h10⟩
       ·have HST :=Hd (show ¬ V.st=2∧¬ V.st=5 from ⟨hst,hs5⟩)
        have hb5:(V.st == 5)=false :=by simp [hs5]
        clear hst hs5
        have HO :=Hd (show Z40 c E oix=0 from HO1.out.trans hcd)
        obtain ⟨q1,q2,q3,q4,q5,q6⟩ :=Z5u HVO.out ep c HWD.out hn hd hd1 (by rw [← HSL.out]; exact hcd)
        rw [← HSL.out] at q1 q2 q5 q6
        rw [← HBU.out] at q2 q3 q4
        have hsum:totS (E.vs.set j SL.2)≤maxU :=by
         rw [Z2z hil,q2]
         have h2:E.vs[j]=V :=by rw [HV0.out,HJ.out,Z2g hil]
         rw [h2]
         omega
        have HCH :=Hd (fun (w':World) (hk':Z00 w w') =>Z4z (H.out.keeps hk') SL.2 q1 j hil hsum (by omega))
        have HQ5 :=Hd q5
        have HQ6 :=Hd q6
        have HQ3 :=Hd (show 0≤BU∧BU≤maxU from ⟨q3,by have :=HVO.out.b1; omega⟩)
        have hcb:(SL.1 != 0)=false :=by simp [hcd]
        clear hcd q1 q2 q3 q4 q5 q6 hsum
        go_wp2_with fail
        have hS8:∀ wx,Z00 w6 wx→(wx.cell? ⟨e,0,none⟩=some (.pointer (some ⟨p.rg,0,none⟩))∧wx.cell? ⟨w.heap.size,1,none⟩=some (.int .i64 (j:Int))∧wx.heap[z7]? = some (vdB SL.2)) :=fun wx hk' =>⟨(HCE.out _ (K6.out.keep hk')).1,by rw [cell_of_row _ _ _ _ _ _ (hk'.at O6.out fun h =>h),HJ.out]; rfl,hk'.at T7.out fun h =>h⟩
        refine wp_region_held_drew (S :=(fun w' =>w'.cell? ⟨e,0,none⟩=some (.pointer (some ⟨p.rg,0,none⟩))∧w'.cell? ⟨w.heap.size,1,none⟩=some (.int .i64 (j:Int))∧w'.heap[z7]? = some (vdB SL.2))) (by kernel_rfl) (by exact hS8 _ (Mods.refl _ w6).drew) (fun hH0 =>?_)
        refine tk 0 rfl hH0 ?_
        try go_frame
        refine tk 1 rfl hH0 ?_
        try go_frame
        refine tk 2 rfl hH0 ?_
        try go_frame
        refine tk 3 (v :=tabV p.rg) rfl hH0 ?_
        try go_frame
        refine tk 4 rfl hH0 ?_
        try go_frame
        refine tk 5 rfl hH0 ?_
        try go_frame
        refine tkb 6 rfl hH0 (Z13 (by rfl) (.tmp 7) rfl z7 rfl SL.2 (fun _ h =>h.2.2)) ?_
        try go_frame
        refine rdy [7] (Z04 rfl (fun K hK =>?_) AllReadyH.nil)
        go_simp
        refine (HCH.out _ K6.out.drew).mono ?_
        rintro r w8 ⟨rfl,own8,hE8,hX8⟩
        go_wp2_with fail
        have hX68 :=(Ext.keeps (own :=own) (Mods.refl (fun _ =>False) w6).drew).trans hX8
        have O8 :=Hd (hX68.at O6.out HZ0.out.1)
        have G8 :=Hd (hX68.at G6.out HZ0.out.2.1)
        have T5' :=Hd (hX68.at T5.out HZ0.out.2.2.1)
        have T7' :=Hd (hX68.at T7.out HZ0.out.2.2.2)
        obtain ⟨lv8,hb8, -, -⟩ :=hE8.blk (by decide)
        have x22 :=(Z09 hb8).2.2.1
        refine hK.out _ _ (⟨(Z09 hb8).1,by rw [cell_of_row _ _ _ _ _ _ O8.out.1,HJ.out]; rfl,T7'.out.1⟩) (fun hH1 =>?_)
        clear hK K hH0
        try go_frame
        refine wpAnyH_done (by kernel_rfl) ?_ _
        clear hH1
        have HBN :=Hd (fun (w':World) (hk':Z00 w8 w') =>Znz (hE8.keeps hk') BU HQ3.out.1 HQ3.out.2 (Led.burn_ok (hE8.ld (by decide)).2 HQ3.out.1))
        have HX8 :=Hd ((Ext.keeps (own :=own) K6.out).trans hX68)
        clear hE8 hX8 hX68 hb8 hS8
        go_wp2_with fail
        refine (HBN.out _ (Mods.refl _ _)).mono ?_
        rintro r w9 ⟨rfl,own9,hE9,hX9⟩
        have O9 :=Hd (hX9.at O8.out.1 O8.out.2)
        have G9 :=Hd (hX9.at G8.out.1 G8.out.2)
        have T59 :=Hd (hX9.at T5'.out.1 T5'.out.2)
        have T79 :=Hd (hX9.at T7'.out.1 T7'.out.2)
        have HX9 :=Hd (HX8.out.trans hX9)
        obtain ⟨lv9,hb9, -, -⟩ :=hE9.blk (by decide)
        have h9c :=Z09 hb9
        have x51 :=(Z0o T59.out.1).2.1
        have x1:w9.cell? ⟨w.heap.size,1,none⟩=some (.int .i64 (j:Int)) :=by rw [cell_of_row _ _ _ _ _ _ O9.out.1,HJ.out]; rfl
        have HE9 :=Hd hE9
        clear hE9 hX9 hb9 x22
        have HE9' :=HE9
        rw [HJ.out.symm] at x1
        clear h9c
        go_wp2_with fail
        refine (Z2f _ _ _).mono ?_
        rintro r wf ⟨rfl,hkf⟩
        have gf :=hkf.at G9.out.1 fun h =>h
        have HKF :=Hd hkf
        clear hkf
        go_wp2_with (refine Z08 rfl (.tmp 4) (.tmp 101) rfl (w.heap.size+1) 0 oix (-1) 0 0 0 rfl rfl gf ?_; refine Z0e.out ?_)
        refine Z0e.mk ?_
        intro wg hg hm
        have HM :=Hd hm
        have HG :=Hd hg
        clear hg hm gf
        go_wp2_with fail
        obtain ⟨p0,p1,p2⟩ :=Z0b HG.out
        refine bodyPost_ret (v :=resV 0 oix (-1)) (by simp [results,Tryz.results53,go_sem,p0,p1,p2]) rfl ⟨by rw [HX.out,show Z3h c E oix=(0,oix, -1) from by rw [Z3h,HO.out]; rfl], ?_⟩
        have h9':Z0i own9 wg e c _ p _ :=(HE9.out.keeps HKF.out).loc HM.out fun i _ h =>by rw [h]; exact G9.out.2
        have h10:Ext own w own9 wg :=Z1l (HX9.out.trans (Ext.keeps HKF.out)) HM.out fun i hi h =>by omega
        rw [HY.out,Z1e,HO.out,if_pos rfl,show Z3f c E oix = { E with vs :=E.vs.set j SL.2,led :=E.led.burn BU } from by unfold Z3f; dsimp only; rw [if_neg (by rw [← HV0.out]; exact HST.out.1),if_neg (by rw [← HV0.out]; exact HST.out.2),← HEP.out,← HV0.out,← HSL.out,← HBU.out,HJ.out]; rfl]
        exact ⟨own9,h9'.mono (by omega),h10⟩
      ·have hcb:(SL.1 != 0)=true :=by simp [hcd]
       have HNE :=Hd hcd
       clear hcd
       go_wp2_with fail
       refine (Z0q SL.1 _).mono ?_
       rintro r wf ⟨rfl,hkf⟩
       have gf :=hkf.at G6.out fun h =>h
       have HKF :=Hd hkf
       clear hkf
       go_wp2_with (refine Z08 rfl (.tmp 4) (.tmp 62) rfl (w.heap.size+1) SL.1 0 0 0 0 0 rfl rfl gf ?_; refine Z0e.out ?_)
       refine Z0e.mk ?_
       intro wg hg hm
       have HM :=Hd hm
       have HG :=Hd hg
       clear hg hm gf
       go_wp2_with fail
       obtain ⟨p0,p1,p2⟩ :=Z0b HG.out
       have hkk:Z00 w wg :=(K6.out.keep HKF.out).seq HM.out fun i hi e =>by omega
       exact bodyPost_ret (v :=resV SL.1 0 0) (by simp [results,Tryz.results53,go_sem,p0,p1,p2]) rfl ⟨by rw [HX.out,show Z3h c E oix=(SL.1,0,0) from by rw [Z3h,HO1.out,if_neg HNE.out]],by rw [HY.out,show Z1e c E oix=E from by rw [Z1e,HO1.out,if_neg HNE.out]]; exact Goes.mono (Goes.keeps H.out hkk) (by omega)⟩
end Go.Proofs.YtecapfmmoejikaaGreat
