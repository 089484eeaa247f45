/- A part of the proofs of the top laws: ElvB Exi Eej. -/
import Derived.Test.YtecapfmmoejikaaGreatPkBf
set_option maxRecDepth 4000
set_option maxHeartbeats 8000000
namespace Go.Proofs.YtecapfmmoejikaaGreat
open Go.RowKit Go.Eg
theorem Zjx {own:Nat→Nat} {w:World} {e:Nat} {c:Nat→Int} {E:En} {p:Ep} {N:Nat} (h:Z0i own w e c E p N) (i:Int) (hi : ¬ inR E.vs i) :
 Calls Tryz.prog 88 #[.pointer (some ⟨p.rg,0,none⟩), .int .i64 i] w fun r w' =>r = .returned (.tuple #[vd0.val, .bool false])∧Z00 w w' :=by
 obtain ⟨m,rv,n,h1, -, -⟩ :=h.reg (by decide)
 exact Zal h1 i (by unfold inR at hi; omega)
theorem Zeq:∀ {l:List Int},(∀ x∈l,0≤x)→0≤sumL l :=by
 intro l
 induction l with
 | nil =>intro _; exact Int.le_refl _
 | cons a r ih =>
  intro h
  have h1 :=h a List.mem_cons_self
  have h2 :=ih fun x hx =>h x (List.mem_cons_of_mem _ hx)
  simp only [sumL]
  omega
theorem Zm9 {own:Nat→Nat} {w:World} {e:Nat} {c:Nat→Int} {E:En} {p:Ep} {N:Nat} (h:Z0i own w e c E p N) (k i:Int) (hk:k=0∨k=1) (hV:Vld c) (h9:0≤c 9) (hb0:0≤E.b) (hb1:E.b≤1000000) (hc13:1≤c 13) (hN:N+10<4294967296) :
 Calls Tryz.prog 87 #[.pointer (some ⟨e,0,none⟩), .int .i64 k, .int .i64 i] w fun r w' =>r = .returned (resV (Z2r c E k i).1 (Z2r c E k i).2.1 (Z2r c E k i).2.2)∧Goes own w e c p (Z18 c E k i) (N+10) w' :=by
 obtain ⟨hvok,htot,hvl,hc4⟩ :=h.vsok
 have H :=Hd h
 obtain ⟨X,hX⟩:∃ X,X=Z2r c E k i :=⟨_,rfl⟩
 obtain ⟨Y,hY⟩:∃ Y,Y=Z18 c E k i :=⟨_,rfl⟩
 rw [← hX,← hY]
 have HX :=Hd hX
 have HY :=Hd hY
 obtain ⟨lv,hblk, -, -⟩ :=h.blk (by decide)
 obtain ⟨c0,c21, -, -, -, -, -,c27, -, -, -⟩ :=Z09 hblk
 have hcfg :=Z55 hblk
 obtain ⟨cs,hcs⟩:∃ x,x=cfgC c :=⟨_,rfl⟩
 have hcz:cs.toList.length=20 :=by rw [hcs]; rfl
 rw [← hcs] at hcfg
 have HCS :=Hd hcs
 have HCZ :=Hd hcz
 have HCE :=Hd (fun (w':World) (hk:Z00 w w') =>(⟨hk.cell c0 fun h =>h,hk.cell c21 fun h =>h,hk.cell c27 fun h =>h,Z0n hcfg hk⟩:w'.cell? ⟨e,0,none⟩=some (.pointer (some ⟨p.rg,0,none⟩))∧w'.cell? ⟨e,21,none⟩=some (.pointer (some ⟨p.ck,0,none⟩))∧w'.cell? ⟨e,27,none⟩=some (.pointer (some ⟨p.la,0,none⟩))∧w'.rangeAt e 1 cs.toList))
 clear hX hY hblk c0 c21 c27 hcfg hcs hcz h
 by_cases hin:inR E.vs i
 ·have HI :=Hd hin
  have hi0 :=hin.1
  obtain ⟨j,rfl⟩ :=Int.eq_ofNat_of_zero_le hi0
  have hil:j<E.vs.length :=by have :=hin.2; omega
  have hvj :=Z2g hil
  have hvo :=hvok _ (List.getElem_mem hil)
  have HGET :=Hd (fun (w':World) (hk:Z00 w w') =>eGet (H.out.keeps hk) j hil)
  rw [← hvj] at HGET hvo
  obtain ⟨ep,hep⟩:∃ x,x=E.b / c 13 :=⟨_,rfl⟩
  have HEPO :=Hd (fun (w':World) (hk:Z00 w w') =>Z12 p.ck E.b (c 13) w' ((H.out.keeps hk).ck (by decide)) hb0 (by omega) hc13)
  rw [← hep] at HEPO
  have HEP :=Hd hep
  obtain ⟨v0,hv0⟩:∃ x,x=vAt E.vs (j:Int) :=⟨_,rfl⟩
  have HV0 :=Hd hv0
  rw [← hv0] at HGET hvo
  have HACC :=Hd (fun w =>Zbv v0 hvo ep w)
  obtain ⟨AC,hAC⟩:∃ x,x=Z2n ep v0 :=⟨_,rfl⟩
  have HAC :=Hd hAC
  have HVO :=Hd hvo
  rw [← hAC] at HACC
  clear hvj hvo hep hv0 hAC hi0 hin
  go_enter Tryz.func87,Tryz.ntmps87
  go_upto_region 1 with fail
  refine Z0l ?_
  intro wz hwz
  have K0 :=Hd (Z0f hwz)
  have G0 :=Hd (show wz.heap[w.heap.size]? = some (resB 0 0 0) from Z0g hwz)
  have hzs:wz.heap.size=w.heap.size+1 :=by rw [hwz,World.size_alloc]
  obtain ⟨d0, -, -, -⟩ :=HCE.out _ K0.out
  clear hwz
  go_wp2_with fail
  refine (HGET.out _ K0.out).mono ?_
  rintro r w1 ⟨rfl,hk1⟩
  have hs1 :=hk1.size
  go_wp2_with fail
  refine Z0l ?_
  intro w2 hw2
  have k12:Z00 wz w2 :=by rw [show w2=_ from hw2]; exact hk1.alloc _
  have K2 :=Hd (K0.out.keep k12)
  have KZ2 :=Hd k12
  have G2 :=Hd (k12.at G0.out fun h =>h)
  have B2 :=Hd (show w2.heap[w1.heap.size]? = some (vdB v0) from by rw [show w2=_ from hw2]; exact heap_alloc_last w1 _)
  obtain ⟨x0,hx0⟩:∃ x,x=w1.heap.size :=⟨_,rfl⟩
  rw [← hx0] at B2 hs1 ⊢
  clear hk1 hw2 k12 d0 hx0
  go_cut [9,10] (fun s9 s10 wx => ∃ z,s9 = .pointer (some ⟨z,0,none⟩)∧s10 = .int .i64 AC.1∧wz.heap.size≤z∧wx.heap[z]? = some (vdB AC.2)∧Z00 w2 wx)
  case first =>
   refine Z07 (S :=(fun w' =>w'.heap[x0]? = some (vdB v0)∧w'.cell? ⟨e,21,none⟩=some (.pointer (some ⟨p.ck,0,none⟩)))) (by kernel_rfl) (by exact ⟨B2.out,(HCE.out _ K2.out.drew).2.1⟩) (fun wc hD hH0 =>?_)
   have HK :=Hd (show Z00 w2 wc from hD.mods)
   clear hD
   refine tkb 0 rfl hH0 (Z13 (by rfl) (.tmp 7) rfl x0 rfl v0 (fun _ h =>h.1)) ?_
   try go_frame
   refine tk 1 rfl hH0 ?_
   try go_frame
   refine tk 2 rfl hH0 ?_
   try go_frame
   refine tk 3 rfl hH0 ?_
   try go_frame
   refine tk 4 rfl hH0 ?_
   try go_frame
   refine rdy [5,10] (Z04 rfl (fun K hK =>?_) (Z04 rfl (fun K hK =>?_) AllReadyH.nil))
   ·go_simp
    refine (HEPO.out _ (K2.out.keep HK.out)).mono ?_
    rintro r wc ⟨rfl,hk⟩
    go_wp2_with fail
    refine hK.out _ _ (⟨(HK.out.keep hk).at B2.out fun h =>h,(HCE.out _ (K2.out.keep (HK.out.keep hk))).2.1⟩) (fun hH1 =>?_)
    clear hK K hH0
    try go_frame
    replace HK :=Hd (HK.out.keep hk)
    try replace HZ :=Hd (hk.at HZ.out fun h =>h)
    clear hk
    refine rdy [6,10] (Z04 rfl (fun K hK =>?_) (Z04 rfl (fun K hK =>?_) AllReadyH.nil))
    ·go_simp
     refine (HACC.out _).mono ?_
     rintro r wc ⟨rfl,hk⟩
     go_wp2_with fail
     refine hK.out _ _ (⟨(HK.out.keep hk).at B2.out fun h =>h,(HCE.out _ (K2.out.keep (HK.out.keep hk))).2.1⟩) (fun hH2 =>?_)
     clear hK K hH1
     try go_frame
     replace HK :=Hd (HK.out.keep hk)
     try replace HZ :=Hd (hk.at HZ.out fun h =>h)
     clear hk
     refine tk 7 rfl hH2 ?_
     try go_frame
     refine tk 8 rfl hH2 ?_
     try go_frame
     refine tk 9 rfl hH2 ?_
     try go_frame
     refine rdy [10] (Z04 rfl (fun K hK =>?_) AllReadyH.nil)
     go_simp
     have hsbn:w2.heap.size≤wc.heap.size :=HK.out.size
     generalize hsz5:wc.heap.size=z at *
     refine Z14 ?_
     intro wc hwd
     have hk :=Z0f hwd
     have hn :=Z0g hwd
     rw [hsz5] at hn
     refine hK.out _ _ (⟨(HK.out.keep hk).at B2.out fun h =>h,(HCE.out _ (K2.out.keep (HK.out.keep hk))).2.1⟩) (fun hH3 =>?_)
     clear hK K hH2
     try go_frame
     replace HK :=Hd (HK.out.keep hk)
     have HZ :=Hd (show wc.heap[z]? = some (vdB vd0) from hn)
     have HZN :=Hd hsbn
     clear hwd hk hn hsz5 hsbn
     refine rdy [11] (Z04 rfl (fun K hK =>?_) AllReadyH.nil)
     refine Z0d (by rfl) (.tmp 9) (.tmp 36) rfl z AC.2 vd0 (by rfl) (by rfl) HZ.out ?_
     intro wc hz hm
     have hk:Z00 w2 wc :=HK.out.seq hm fun i hi e =>by have :=HZN.out; omega
     refine hK.out _ _ (⟨hk.at B2.out fun h =>h,(HCE.out _ (K2.out.keep hk)).2.1⟩) (fun hH4 =>?_)
     clear hK K hH3
     try go_frame
     replace HK :=Hd hk
     have HF :=Hd hz
     clear hz hm hk HZ
     refine tk 12 rfl hH4 ?_
     try go_frame
     refine wpAnyH_done (by kernel_rfl) ?_ _
     have hS :=Hd hH4
     clear hH4
     go_wp2_with fail
     go_meet
     case rel =>exact ⟨_,rfl,rfl,by have :=HZN.out; have :=KZ2.out.size; omega,HF.out,HK.out⟩
    ·go_simp
     have hsbn:w2.heap.size≤wc.heap.size :=HK.out.size
     generalize hsz5:wc.heap.size=z at *
     refine Z14 ?_
     intro wc hwd
     have hk :=Z0f hwd
     have hn :=Z0g hwd
     rw [hsz5] at hn
     refine hK.out _ _ (⟨(HK.out.keep hk).at B2.out fun h =>h,(HCE.out _ (K2.out.keep (HK.out.keep hk))).2.1⟩) (fun hH2 =>?_)
     clear hK K hH1
     try go_frame
     replace HK :=Hd (HK.out.keep hk)
     have HZ :=Hd (show wc.heap[z]? = some (vdB vd0) from hn)
     have HZN :=Hd hsbn
     clear hwd hk hn hsz5 hsbn
     refine rdy [6] (Z04 rfl (fun K hK =>?_) AllReadyH.nil)
     go_simp
     refine (HACC.out _).mono ?_
     rintro r wc ⟨rfl,hk⟩
     go_wp2_with fail
     refine hK.out _ _ (⟨(HK.out.keep hk).at B2.out fun h =>h,(HCE.out _ (K2.out.keep (HK.out.keep hk))).2.1⟩) (fun hH3 =>?_)
     clear hK K hH2
     try go_frame
     replace HK :=Hd (HK.out.keep hk)
     try replace HZ :=Hd (hk.at HZ.out fun h =>h)
     clear hk
     refine tk 7 rfl hH3 ?_
     try go_frame
     refine tk 8 rfl hH3 ?_
     try go_frame
     refine tk 9 rfl hH3 ?_
     try go_frame
     refine rdy [11] (Z04 rfl (fun K hK =>?_) AllReadyH.nil)
     refine Z0d (by rfl) (.tmp 9) (.tmp 36) rfl z AC.2 vd0 (by rfl) (by rfl) HZ.out ?_
     intro wc hz hm
     have hk:Z00 w2 wc :=HK.out.seq hm fun i hi e =>by have :=HZN.out; omega
     refine hK.out _ _ (⟨hk.at B2.out fun h =>h,(HCE.out _ (K2.out.keep hk)).2.1⟩) (fun hH4 =>?_)
     clear hK K hH3
     try go_frame
     replace HK :=Hd hk
     have HF :=Hd hz
     clear hz hm hk HZ
     refine tk 12 rfl hH4 ?_
     try go_frame
     refine wpAnyH_done (by kernel_rfl) ?_ _
     have hS :=Hd hH4
     clear hH4
     go_wp2_with fail
     go_meet
     case rel =>exact ⟨_,rfl,rfl,by have :=HZN.out; have :=KZ2.out.size; omega,HF.out,HK.out⟩
   ·go_simp
    have hsbn:w2.heap.size≤wc.heap.size :=HK.out.size
    generalize hsz5:wc.heap.size=z at *
    refine Z14 ?_
    intro wc hwd
    have hk :=Z0f hwd
    have hn :=Z0g hwd
    rw [hsz5] at hn
    refine hK.out _ _ (⟨(HK.out.keep hk).at B2.out fun h =>h,(HCE.out _ (K2.out.keep (HK.out.keep hk))).2.1⟩) (fun hH1 =>?_)
    clear hK K hH0
    try go_frame
    replace HK :=Hd (HK.out.keep hk)
    have HZ :=Hd (show wc.heap[z]? = some (vdB vd0) from hn)
    have HZN :=Hd hsbn
    clear hwd hk hn hsz5 hsbn
    refine rdy [5] (Z04 rfl (fun K hK =>?_) AllReadyH.nil)
    go_simp
    refine (HEPO.out _ (K2.out.keep HK.out)).mono ?_
    rintro r wc ⟨rfl,hk⟩
    go_wp2_with fail
    refine hK.out _ _ (⟨(HK.out.keep hk).at B2.out fun h =>h,(HCE.out _ (K2.out.keep (HK.out.keep hk))).2.1⟩) (fun hH2 =>?_)
    clear hK K hH1
    try go_frame
    replace HK :=Hd (HK.out.keep hk)
    try replace HZ :=Hd (hk.at HZ.out fun h =>h)
    clear hk
    refine rdy [6] (Z04 rfl (fun K hK =>?_) AllReadyH.nil)
    go_simp
    refine (HACC.out _).mono ?_
    rintro r wc ⟨rfl,hk⟩
    go_wp2_with fail
    refine hK.out _ _ (⟨(HK.out.keep hk).at B2.out fun h =>h,(HCE.out _ (K2.out.keep (HK.out.keep hk))).2.1⟩) (fun hH3 =>?_)
    clear hK K hH2
    try go_frame
    replace HK :=Hd (HK.out.keep hk)
    try replace HZ :=Hd (hk.at HZ.out fun h =>h)
    clear hk
    refine tk 7 rfl hH3 ?_
    try go_frame
    refine tk 8 rfl hH3 ?_
    try go_frame
    refine tk 9 rfl hH3 ?_
    try go_frame
    refine rdy [11] (Z04 rfl (fun K hK =>?_) AllReadyH.nil)
    refine Z0d (by rfl) (.tmp 9) (.tmp 36) rfl z AC.2 vd0 (by rfl) (by rfl) HZ.out ?_
    intro wc hz hm
    have hk:Z00 w2 wc :=HK.out.seq hm fun i hi e =>by have :=HZN.out; omega
    refine hK.out _ _ (⟨hk.at B2.out fun h =>h,(HCE.out _ (K2.out.keep hk)).2.1⟩) (fun hH4 =>?_)
    clear hK K hH3
    try go_frame
    replace HK :=Hd hk
    have HF :=Hd hz
    clear hz hm hk HZ
    refine tk 12 rfl hH4 ?_
    try go_frame
    refine wpAnyH_done (by kernel_rfl) ?_ _
    have hS :=Hd hH4
    clear hH4
    go_wp2_with fail
    go_meet
    case rel =>exact ⟨_,rfl,rfl,by have :=HZN.out; have :=KZ2.out.size; omega,HF.out,HK.out⟩
  case rest =>
   obtain ⟨z,rfl,rfl,hzn,hz,hk⟩ :=hcut
   have HZ :=Hd hz
   have HK :=Hd hk
   have K3 :=Hd (K2.out.keep hk)
   have G3 :=Hd (hk.at G2.out fun h =>h)
   obtain ⟨y0,y21,y27,ycfg⟩ :=HCE.out _ K3.out
   have YC :=Hd ycfg
   clear hz hk ycfg
   by_cases hac:AC.1=0
   ·have hbb:(AC.1 != 0)=false :=by simp [hac]
    obtain ⟨aok,abal⟩ :=Zd3 HVO.out ep (by rw [← HAC.out]; exact hac)
    rw [← HAC.out] at aok abal
    have HAOK :=Hd aok
    have HAB :=Hd abal
    have HO1 :=Hd (show Z5k c E k (j:Int)=(if (c 1).toNat≤(if k=0 then E.fo else E.vo).length then ((6,0,none):Int × Int × Option Vd) else if maxU<sumL (wgts (E.vs.map (·.bal)) (if k=0 then E.fo else E.fo ++ E.vo)) then (10,0,none) else Zls AC.2 (Zht ep (sumL (wgts (E.vs.map (·.bal)) (if k=0 then E.fo else E.fo ++ E.vo))) v0.bal c)) from by
     unfold Z5k
     rw [if_neg (by simp [HI.out]),← HEP.out,← HV0.out,← HAC.out,if_neg (by simp [hac])])
    have HFREE :=Hd (fun (w':World) (hk':Z00 w w') =>Z8m ((H.out.keeps hk').la (by decide)) k hk)
    obtain ⟨QL,hQL⟩:∃ x,x=(if k=0 then E.fo else E.vo).length :=⟨_,rfl⟩
    have hql:QL≤(c 1).toNat :=by
     obtain ⟨-, -,S0,S1,p0,q0, -,r0,r1, -⟩ :=H.out.la (by decide)
     rw [hQL]
     split
     ·exact r0.2.2.2.1
     ·exact r1.2.2.2.1
    rw [← hQL] at HFREE HO1
    have HQL :=Hd hQL
    clear aok abal hQL hac
    by_cases hfull:(c 1).toNat≤QL
    ·have HO :=Hd (show Z5k c E k (j:Int)=(6,0,none) from HO1.out.trans (if_pos hfull))
     have hz0:((((c 1).toNat:Int) - (QL:Int)) == 0)=true :=by rw [beq_iff_eq]; omega
     go_wp2_with fail
     refine (HFREE.out _ K3.out).mono ?_
     rintro r w4 ⟨rfl,hd4⟩
     have K4 :=Hd (K3.out.keep hd4.mods)
     have G4 :=Hd (show w4.heap[w.heap.size]? = some (resB 0 0 0) from (hd4.mods (S :=fun _ =>False)).at G3.out fun h =>h)
     clear hd4 y0 y21 y27
     go_wp2_with fail
     refine (Z0q 6 _).mono ?_
     rintro r wf ⟨rfl,hkf⟩
     have gf :=hkf.at G4.out fun h =>h
     have HKF :=Hd hkf
     clear hkf
     go_wp2_with (refine Z08 rfl (.tmp 6) (.tmp 49) rfl w.heap.size 6 0 0 0 0 0 rfl rfl gf ?_; refine Z0e.out ?_)
     refine Z0e.mk ?_
     intro wg hg hm
     have HM :=Hd hm
     have HG :=Hd hg
     clear hg hm gf
     go_wp2_with fail
     obtain ⟨p0,p1,p2⟩ :=Z0b HG.out
     have hkk:Z00 w wg :=(K4.out.keep HKF.out).seq HM.out fun i hi e =>by omega
     exact bodyPost_ret (v :=resV 6 0 0) (by simp [results,Tryz.results87,go_sem,p0,p1,p2]) rfl ⟨by rw [HX.out,show Z2r c E k (j:Int)=(6,0,0) from by rw [Z2r,HO.out]; rfl],by rw [HY.out,show Z18 c E k (j:Int)=E from by rw [Z18,HO.out]]; exact Goes.mono (Goes.keeps H.out hkk) (by omega)⟩
    ·have HO2 :=Hd (HO1.out.trans (if_neg hfull))
     have hz0:((((c 1).toNat:Int) - (QL:Int)) == 0)=false :=by rw [beq_eq_false_iff_ne]; omega
     go_wp2_with fail
     refine (HFREE.out _ K3.out).mono ?_
     rintro r w4 ⟨rfl,hd4⟩
     have k4:Z00 w w4 :=K3.out.keep hd4.mods
     have K4 :=Hd k4
     have G4 :=Hd (show w4.heap[w.heap.size]? = some (resB 0 0 0) from (hd4.mods (S :=fun _ =>False)).at G3.out fun h =>h)
     have Z4 :=Hd (show w4.heap[z]? = some (vdB AC.2) from (hd4.mods (S :=fun _ =>False)).at HZ.out fun h =>h)
     have HBALS :=Hd (fun (w':World) (hk':Z00 w w') =>Zms (H.out.keeps hk'))
     obtain ⟨IX,hIX⟩:∃ x:List Int,x=(if k=0 then E.fo else E.fo ++ E.vo) :=⟨_,rfl⟩
     have HAHD :=Hd (fun (w':World) (hk':Z00 w w') =>Zci ((H.out.keeps hk').la (by decide)) k hk)
     rw [← hIX] at HAHD HO2
     have hixl:IX.length≤100000 :=by
      obtain ⟨-, -,S0,S1,p0,q0, -,r0,r1, -⟩ :=H.out.la (by decide)
      have :=r0.2.2.2.1
      have :=r0.2.2.1
      have :=r1.2.2.2.1
      have :=r1.2.2.1
      rw [hIX]
      split
      ·omega
      ·rw [List.length_append]; omega
     have hW:∀ x∈E.vs.map (·.bal),0≤x∧x≤maxU :=fun x hx =>by
      obtain ⟨v,hv,rfl⟩ :=List.mem_map.1 hx
      exact ⟨(hvok v hv).b0,(hvok v hv).b1⟩
     have HWG :=Hd (fun (w':World) (v vi:Value) (B B2:Nat) (hv:w'.ownsRow B 22 1 v E.vs.length (E.vs.map fun x =>.int .u64 x.bal)) (hi:w'.ownsRow B2 3 1 vi IX.length (IX.map fun x =>.int .i64 x)) =>Z6g v vi (E.vs.map (·.bal)) IX B B2 w' (by rw [List.length_map,List.map_map]; exact hv) hW hi hixl)
     obtain ⟨SUM,hSUM⟩:∃ x,x=sumL (wgts (E.vs.map (·.bal)) IX) :=⟨_,rfl⟩
     rw [← hSUM] at HWG HO2
     have hsum0:0≤SUM :=by
      rw [hSUM]
      exact Zeq fun x hx =>by
       obtain ⟨y, -,rfl⟩ :=List.mem_map.1 hx
       exact (Z60 hW y).1
     obtain ⟨AH,hAH⟩:∃ x,x=(if SUM≤maxU then SUM else 0) :=⟨_,rfl⟩
     rw [← hAH] at HWG
     have hah0:0≤AH :=by rw [hAH]; split <;> omega
     have hah1:AH≤maxU :=by unfold maxU at *; rw [hAH]; split <;> omega
     have HPAY :=Hd (fun w =>Zdy ep AH v0.bal c hV h9 hah0 hah1 HVO.out.b0 HVO.out.b1 w)
     obtain ⟨PD,hPD⟩:∃ x,x=Zht ep AH v0.bal c :=⟨_,rfl⟩
     rw [← hPD,show cfgV c = .agg (cfgC c) from rfl,← HCS.out] at HPAY
     have HIX :=Hd hIX
     have HAH :=Hd hAH
     have HPD :=Hd hPD
     obtain ⟨FB,hFB⟩:∃ x,x=decide (SUM≤maxU) :=⟨_,rfl⟩
     rw [← hFB] at HWG
     have HFB :=Hd hFB
     clear hd4 y0 y21 y27 hz0 hIX hixl hW hSUM hsum0 hAH hah0 hah1 hPD hFB
     go_wp2_with fail
     obtain ⟨y0,y21,y27, -⟩ :=HCE.out _ k4
     have k4d :=k4.drew
     refine wp_region_held_drew (S :=(fun w' =>w'.cell? ⟨e,0,none⟩=some (.pointer (some ⟨p.rg,0,none⟩))∧w'.cell? ⟨e,27,none⟩=some (.pointer (some ⟨p.la,0,none⟩)))) (by kernel_rfl) (by exact ⟨y0,y27⟩) (fun hH0 =>?_)
     refine tk 0 rfl hH0 ?_
     try go_frame
     refine tk 1 rfl hH0 ?_
     try go_frame
     refine tk 2 rfl hH0 ?_
     try go_frame
     refine tk 3 (v :=tabV p.rg) rfl hH0 ?_
     try go_frame
     refine tk 5 rfl hH0 ?_
     try go_frame
     refine tk 6 rfl hH0 ?_
     try go_frame
     refine tk 7 rfl hH0 ?_
     try go_frame
     refine tk 8 rfl hH0 ?_
     try go_frame
     refine tk 9 rfl hH0 ?_
     try go_frame
     refine rdy [4] (Z04 rfl (fun K hK =>?_) AllReadyH.nil)
     go_simp
     refine (HBALS.out _ k4d).mono ?_
     rintro r w5 ⟨bv,rfl,hbv,hk5⟩
     go_wp2_with fail
     have k5 :=k4d.keep hk5
     refine hK.out _ _ (⟨(HCE.out _ k5).1,(HCE.out _ k5).2.2.1⟩) (fun hH1 =>?_)
     clear hK K hH0
     try go_frame
     refine rdy [10] (Z04 rfl (fun K hK =>?_) AllReadyH.nil)
     have K45 :=Hd (show Z00 w4 w5 from (Mods.refl _ w4).drew.keep hk5)
     have HBV :=Hd hbv
     clear hbv hk5
     go_simp
     refine (HAHD.out _ k5).mono ?_
     rintro r w6 ⟨av,rfl,hav,hk6⟩
     go_wp2_with fail
     have k6 :=k5.keep hk6
     refine hK.out _ _ (⟨(HCE.out _ k6).1,(HCE.out _ k6).2.2.1⟩) (fun hH2 =>?_)
     clear hK K hH1
     try go_frame
     refine rdy [11] (Z04 rfl (fun K hK =>?_) AllReadyH.nil)
     have K46 :=Hd (K45.out.keep hk6)
     have HAV :=Hd hav
     have HBV6 :=Hd (hk6.owns HBV.out fun _ _ h =>h)
     clear hav hk6
     go_simp
     refine (HWG.out _ bv av _ _ HBV6.out HAV.out).mono ?_
     rintro r w7 ⟨rfl,hk7⟩
     go_wp2_with fail
     have k7 :=k6.keep hk7
     refine hK.out _ _ (⟨(HCE.out _ k7).1,(HCE.out _ k7).2.2.1⟩) (fun hH3 =>?_)
     clear hK K hH2
     try go_frame
     refine tk 12 rfl hH3 ?_
     try go_frame
     refine tk 13 rfl hH3 ?_
     try go_frame
     refine tk 14 rfl hH3 ?_
     try go_frame
     refine tk 15 rfl hH3 ?_
     try go_frame
     refine tk 16 rfl hH3 ?_
     try go_frame
     refine wpAnyH_done (by kernel_rfl) ?_ _
     clear hH3
     have k47 :=K46.out.keep hk7
     have K7 :=Hd k7
     have G7 :=Hd (k47.at G4.out fun h =>h)
     have Z7 :=Hd (k47.at Z4.out fun h =>h)
     clear hk7 k47 k4 k4d k5 k6 y0 y21 y27
     go_wp2_with fail
     have hs20:(Tryz.prog.info? 24).map (·.size)=some cs.toList.length :=by rw [Z0m,HCZ.out]
     have hS7:∀ wx,Z00 w7 wx→(wx.cell? ⟨e,21,none⟩=some (.pointer (some ⟨p.ck,0,none⟩))∧wx.cell? ⟨z,0,none⟩=some (.int .u64 v0.bal)∧wx.rangeAt e 1 cs.toList) :=fun wx hk' =>⟨(HCE.out _ (k7.keep hk')).2.1,by have h1 :=(Z0o (hk'.at Z7.out fun h =>h)).1; rw [HAB.out] at h1; exact h1,(HCE.out _ (k7.keep hk')).2.2.2⟩
     have HS7 :=Hd hS7
     have k7d :=k7.drew
     clear hS7
     refine wp_region_held_drew (S :=(fun w' =>w'.cell? ⟨e,21,none⟩=some (.pointer (some ⟨p.ck,0,none⟩))∧w'.cell? ⟨z,0,none⟩=some (.int .u64 v0.bal)∧w'.rangeAt e 1 cs.toList)) (by kernel_rfl) (by exact HS7.out _ (Mods.refl _ w7).drew) (fun hH0 =>?_)
     refine tk 0 rfl hH0 ?_
     try go_frame
     refine tk 1 rfl hH0 ?_
     try go_frame
     refine tk 2 rfl hH0 ?_
     try go_frame
     refine tk 3 rfl hH0 ?_
     try go_frame
     refine tk 5 rfl hH0 ?_
     try go_frame
     refine tk 6 rfl hH0 ?_
     try go_frame
     refine tk 7 rfl hH0 ?_
     try go_frame
     refine tk 8 rfl hH0 ?_
     try go_frame
     refine tk 9 rfl hH0 ?_
     try go_frame
     refine tk 10 rfl hH0 ?_
     try go_frame
     refine tkb 11 rfl hH0 (yieldsIf_load_mid (by rfl) 24 (.tmp 76) rfl e 1 rfl cs.toList _ (fun _ h =>h.2.2) Tryz.underlying24 rfl hs20) ?_
     try go_frame
     refine rdy [4] (Z04 rfl (fun K hK =>?_) AllReadyH.nil)
     go_simp
     refine (HEPO.out _ k7d).mono ?_
     rintro r w8 ⟨rfl,hk8⟩
     go_wp2_with fail
     have hk78 :=((Mods.refl (fun _ =>False) w7).drew).keep hk8
     refine hK.out _ _ (HS7.out _ hk78) (fun hH1 =>?_)
     clear hK K hH0
     try go_frame
     refine rdy [12] (Z04 rfl (fun K hK =>?_) AllReadyH.nil)
     have K78 :=Hd hk78
     clear hk8 hk78
     go_simp
     refine (HPAY.out _).mono ?_
     rintro r w9 ⟨rfl,hk9⟩
     go_wp2_with fail
     have hk79 :=K78.out.keep hk9
     refine hK.out _ _ (HS7.out _ hk79) (fun hH2 =>?_)
     clear hK K hH1
     try go_frame
     refine tk 13 rfl hH2 ?_
     try go_frame
     refine tk 14 rfl hH2 ?_
     try go_frame
     refine tk 15 rfl hH2 ?_
     try go_frame
     refine tk 16 rfl hH2 ?_
     try go_frame
     refine tk 17 rfl hH2 ?_
     try go_frame
     refine wpAnyH_done (by kernel_rfl) ?_ _
     clear hH2
     have K9 :=Hd (k7.keep hk79)
     have G9 :=Hd (hk79.at G7.out fun h =>h)
     have Z9 :=Hd (hk79.at Z7.out fun h =>h)
     clear hk9 hk79 k7 k7d
     by_cases hfit:SUM≤maxU
     ·rw [show FB=true from by rw [HFB.out]; exact decide_eq_true hfit]
      have hAS:AH=SUM :=HAH.out.trans (if_pos hfit)
      have HO3 :=Hd (show Z5k c E k (j:Int)=Zls AC.2 PD from by
       rw [HPD.out,hAS]
       exact HO2.out.trans (if_neg (by omega)))
      clear hfit hAS
      cases PD with
      | none =>
       have HO :=Hd (show Z5k c E k (j:Int)=(10,0,none) from HO3.out)
       simp only [Option.getD_none,Option.isSome_none]
       go_wp2_with fail
       refine (Z0q 10 _).mono ?_
       rintro r wf ⟨rfl,hkf⟩
       have gf :=hkf.at G9.out fun h =>h
       have HKF :=Hd hkf
       clear hkf
       go_wp2_with (refine Z08 rfl (.tmp 6) (.tmp 87) rfl w.heap.size 10 0 0 0 0 0 rfl rfl gf ?_; refine Z0e.out ?_)
       refine Z0e.mk ?_
       intro wg hg hm
       have HM :=Hd hm
       have HG :=Hd hg
       clear hg hm gf
       go_wp2_with fail
       obtain ⟨p0,p1,p2⟩ :=Z0b HG.out
       have hkk:Z00 w wg :=(K9.out.keep HKF.out).seq HM.out fun i hi e =>by omega
       exact bodyPost_ret (v :=resV 10 0 0) (by simp [results,Tryz.results87,go_sem,p0,p1,p2]) rfl ⟨by rw [HX.out,show Z2r c E k (j:Int)=(10,0,0) from by rw [Z2r,HO.out]; rfl],by rw [HY.out,show Z18 c E k (j:Int)=E from by rw [Z18,HO.out]]; exact Goes.mono (Goes.keeps H.out hkk) (by omega)⟩
      | some d =>
       have HO :=Hd (show Z5k c E k (j:Int)=(0,d,some (Zba AC.2 d)) from HO3.out)
       simp only [Option.getD_some,Option.isSome_some]
       have z6 :=(Z0o Z9.out).2.2.2.2.2.2
       have fz :=Z06 Z9.out 6
       have HNV :=Hd (show (Zba AC.2 d).ok from ⟨HAOK.out.b0,HAOK.out.b1,HAOK.out.st⟩)
       have htt:totS (E.vs.set j (Zba AC.2 d))≤maxU :=by
        rw [Z2z hil]
        have h1:(Zba AC.2 d).bal=v0.bal :=HAB.out
        have h2:E.vs[j]=v0 :=by rw [HV0.out,Z2g hil]
        rw [h1,h2]
        omega
       have HCH :=Hd (fun (w':World) (hk':Z00 w w') =>Z4z (H.out.keeps hk') (Zba AC.2 d) HNV.out j hil htt (by omega))
       clear htt
       go_wp2_with fail
       refine Z0l ?_
       intro wa hwa
       have ha9:Mods (fun i =>i=z) w9 wa :=by rw [show wa=_ from hwa]; exact (Mods.refl _ w9).setCell _ _ fun _ =>rfl
       have hza:wa.heap[z]? = some (vdB (Zba AC.2 d)) :=by rw [show wa=_ from hwa]; exact heap_setCell_same w9 z 6 _ _ _ Z9.out
       have hws0 :=KZ2.out.size
       have ka:Z00 w wa :=K9.out.seq ha9 fun i hi e =>by omega
       have KA :=Hd ka
       have ZA :=Hd hza
       have GA :=Hd (ha9.at G9.out (by omega))
       have y0 :=(HCE.out _ ka).1
       have kad :=ka.drew
       clear hwa ha9 z6 fz hws0
       refine wp_region_held_drew (S :=(fun w' =>w'.cell? ⟨e,0,none⟩=some (.pointer (some ⟨p.rg,0,none⟩))∧w'.heap[z]? = some (vdB (Zba AC.2 d)))) (by kernel_rfl) (by exact ⟨y0,hza⟩) (fun hH0 =>?_)
       refine tk 0 rfl hH0 ?_
       try go_frame
       refine tk 1 rfl hH0 ?_
       try go_frame
       refine tk 2 rfl hH0 ?_
       try go_frame
       refine tk 3 (v :=tabV p.rg) rfl hH0 ?_
       try go_frame
       refine tk 4 rfl hH0 ?_
       try go_frame
       refine tkb 5 rfl hH0 (Z13 (by rfl) (.tmp 9) rfl z rfl (Zba AC.2 d) (fun _ h =>h.2)) ?_
       try go_frame
       refine rdy [6] (Z04 rfl (fun K hK =>?_) AllReadyH.nil)
       go_simp
       refine (HCH.out _ kad).mono ?_
       rintro r wb ⟨rfl,ownb,hEb,hXb⟩
       go_wp2_with fail
       have hzs0:own z=0 :=H.out.new z (by omega)
       have hXab :=(Ext.keeps (own :=own) (Mods.refl (fun _ =>False) wa).drew).trans hXb
       have ZB :=hXab.at hza hzs0
       have GB :=Hd (hXab.at GA.out (H.out.new _ (Nat.le_refl _)))
       obtain ⟨lvb,hbb2, -, -⟩ :=hEb.blk (by decide)
       have hcb :=Z09 hbb2
       refine hK.out _ _ (⟨hcb.1,ZB.1⟩) (fun hH1 =>?_)
       clear hK K hH0
       try go_frame
       refine wpAnyH_done (by kernel_rfl) ?_ _
       clear hH1
       have y27 :=hcb.2.2.2.2.2.2.2.1
       have HPU :=Hd (fun (w':World) (hk':Z00 wb w') =>Zmd (hEb.keeps hk') k (j:Int) hk (by have :=HQL.out; dsimp only; omega))
       have HEb :=Hd hEb
       have HXb :=Hd ((Ext.keeps (own :=own) KA.out).trans hXab)
       clear hEb hXb hXab hbb2 hcb ZB hza y0 ka kad
       go_wp2_with fail
       refine (HPU.out _ (Mods.refl _ _)).mono ?_
       rintro r wd ⟨rfl,ownd,hEd,hXd⟩
       have GD :=Hd (hXd.at GB.out.1 GB.out.2)
       have HEd :=Hd hEd
       have HXd :=Hd (HXb.out.trans hXd)
       clear hEd hXd y27
       go_wp2_with fail
       refine (Z2f _ _ _).mono ?_
       rintro r wf ⟨rfl,hkf⟩
       have gf :=hkf.at GD.out.1 fun h =>h
       have HKF :=Hd hkf
       clear hkf
       go_wp2_with (refine Z08 rfl (.tmp 6) (.tmp 106) rfl w.heap.size 0 (j:Int) d 0 0 0 rfl rfl gf ?_; refine Z0e.out ?_)
       refine Z0e.mk ?_
       intro wg hg hm
       have HM :=Hd hm
       have HG :=Hd hg
       clear hg hm gf
       go_wp2_with fail
       obtain ⟨p0,p1,p2⟩ :=Z0b HG.out
       refine bodyPost_ret (v :=resV 0 (j:Int) d) (by simp [results,Tryz.results87,go_sem,p0,p1,p2]) rfl ⟨by rw [HX.out,show Z2r c E k (j:Int)=(0,(j:Int),d) from by rw [Z2r,HO.out]; rfl], ?_⟩
       have h9':Z0i ownd wg e c _ p _ :=(HEd.out.keeps HKF.out).loc HM.out fun i _ h =>by rw [h]; exact GD.out.2
       have h10:Ext own w ownd wg :=Z1l (HXd.out.trans (Ext.keeps HKF.out)) HM.out fun i hi h =>by omega
       rw [HY.out,Z18,HO.out]
       exact ⟨ownd,h9'.mono (by omega),h10⟩
     ·rw [show FB=false from by rw [HFB.out]; exact decide_eq_false hfit]
      have HO :=Hd (show Z5k c E k (j:Int)=(10,0,none) from HO2.out.trans (if_pos (by omega)))
      clear hfit
      go_wp2_with fail
      refine (Z0q 10 _).mono ?_
      rintro r wf ⟨rfl,hkf⟩
      have gf :=hkf.at G9.out fun h =>h
      have HKF :=Hd hkf
      clear hkf
      go_wp2_with (refine Z08 rfl (.tmp 6) (.tmp 87) rfl w.heap.size 10 0 0 0 0 0 rfl rfl gf ?_; refine Z0e.out ?_)
      refine Z0e.mk ?_
      intro wg hg hm
      have HM :=Hd hm
      have HG :=Hd hg
      clear hg hm gf
      go_wp2_with fail
      obtain ⟨p0,p1,p2⟩ :=Z0b HG.out
      have hkk:Z00 w wg :=(K9.out.keep HKF.out).seq HM.out fun i hi e =>by omega
      exact bodyPost_ret (v :=resV 10 0 0) (by simp [results,Tryz.results87,go_sem,p0,p1,p2]) rfl ⟨by rw [HX.out,show Z2r c E k (j:Int)=(10,0,0) from by rw [Z2r,HO.out]; rfl],by rw [HY.out,show Z18 c E k (j:Int)=E from by rw [Z18,HO.out]]; exact Goes.mono (Goes.keeps H.out hkk) (by omega)⟩
   ·have HO :=Hd (show Z5k c E k (j:Int)=(AC.1,0,none) from by
     unfold Z5k
     rw [if_neg (by simp [HI.out]),← HEP.out,← HV0.out,← HAC.out,if_pos hac])
    have hbb:(AC.1 != 0)=true :=by simp [hac]
    have HAC1 :=Hd hac
    clear hac y0 y21 y27
    go_wp2_with fail
    refine (Z0q AC.1 _).mono ?_
    rintro r wf ⟨rfl,hkf⟩
    have gf :=hkf.at G3.out fun h =>h
    have HKF :=Hd hkf
    clear hkf
    go_wp2_with (refine Z08 rfl (.tmp 6) (.tmp 41) rfl w.heap.size AC.1 0 0 0 0 0 rfl rfl gf ?_; refine Z0e.out ?_)
    refine Z0e.mk ?_
    intro wg hg hm
    have HM :=Hd hm
    have HG :=Hd hg
    clear hg hm gf
    go_wp2_with fail
    obtain ⟨p0,p1,p2⟩ :=Z0b HG.out
    have hkk:Z00 w wg :=(K3.out.keep HKF.out).seq HM.out fun i hi e =>by omega
    exact bodyPost_ret (v :=resV AC.1 0 0) (by simp [results,Tryz.results87,go_sem,p0,p1,p2]) rfl ⟨by rw [HX.out,show Z2r c E k (j:Int)=(AC.1,0,0) from by rw [Z2r,HO.out,if_neg HAC1.out]],by rw [HY.out,show Z18 c E k (j:Int)=E from by rw [Z18,HO.out]]; exact Goes.mono (Goes.keeps H.out hkk) (by omega)⟩
 ·have HO :=Hd (show Z5k c E k i=(7,0,none) from if_pos hin)
  have HGO :=Hd (fun (w':World) (hk:Z00 w w') =>Zjx (H.out.keeps hk) i hin)
  go_enter Tryz.func87,Tryz.ntmps87
  go_upto_region 1 with fail
  refine Z0l ?_
  intro wz hwz
  have K0 :=Hd (Z0f hwz)
  have G0 :=Hd (show wz.heap[w.heap.size]? = some (resB 0 0 0) from Z0g hwz)
  obtain ⟨d0, -, -, -⟩ :=HCE.out _ K0.out
  clear hwz
  go_wp2_with fail
  refine (HGO.out _ K0.out).mono ?_
  rintro r w1 ⟨rfl,hk1⟩
  have K1 :=Hd (K0.out.keep hk1 |>.alloc (vdB vd0))
  have G1 :=Hd (show (w1.alloc (vdB vd0)).heap[w.heap.size]? = some (resB 0 0 0) from Z02 (hk1.at G0.out fun h =>h) _)
  clear hk1 d0
  go_wp2_with fail
  refine (Z0q 7 _).mono ?_
  rintro r wf ⟨rfl,hkf⟩
  have gf :=hkf.at G1.out fun h =>h
  have HKF :=Hd hkf
  clear hkf
  go_wp2_with (refine Z08 rfl (.tmp 6) (.tmp 27) rfl w.heap.size 7 0 0 0 0 0 rfl rfl gf ?_; refine Z0e.out ?_)
  refine Z0e.mk ?_
  intro wg hg hm
  have HM :=Hd hm
  have HG :=Hd hg
  clear hg hm gf
  go_wp2_with fail
  obtain ⟨p0,p1,p2⟩ :=Z0b HG.out
  have hkk:Z00 w wg :=(K1.out.keep HKF.out).seq HM.out fun i hi e =>by omega
  exact bodyPost_ret (v :=resV 7 0 0) (by simp [results,Tryz.results87,go_sem,p0,p1,p2]) rfl ⟨by rw [HX.out,show Z2r c E k i=(7,0,0) from by rw [Z2r,HO.out]; rfl],by rw [HY.out,show Z18 c E k i=E from by rw [Z18,HO.out]]; exact Goes.mono (Goes.keeps H.out hkk) (by omega)⟩
theorem Zqw {own:Nat→Nat} {w:World} {e:Nat} {c:Nat→Int} {E:En} {p:Ep} {N:Nat} (h:Z0i own w e c E p N) (o:Od) (hV:Vld c) (h9:0≤c 9) (hb0:0≤E.b) (hb1:E.b≤1000000) (hc13:1≤c 13) (hN:N+10<4294967296) :
 Calls Tryz.prog 51 #[.pointer (some ⟨e,0,none⟩),o.val] w fun r w' =>r = .returned (resV (Z2r c E 1 o.ix).1 (Z2r c E 1 o.ix).2.1 (Z2r c E 1 o.ix).2.2)∧Goes own w e c p (Z18 c E 1 o.ix) (N+10) w' :=by
 have HL :=Hd (fun (w':World) (hk:Z00 w w') =>Zm9 (h.keeps hk) 1 o.ix (.inr rfl) hV h9 hb0 hb1 hc13 hN)
 have H :=Hd h
 obtain ⟨X,hX⟩:∃ X,X=Z2r c E 1 o.ix :=⟨_,rfl⟩
 obtain ⟨Y,hY⟩:∃ Y,Y=Z18 c E 1 o.ix :=⟨_,rfl⟩
 rw [← hX,← hY] at HL ⊢
 clear hX hY h hV h9 hb0 hb1 hc13
 obtain ⟨kd,oix,otg,am⟩ :=o
 dsimp only at HL
 go_enter Tryz.func51,Tryz.ntmps51
 go_upto_region 1 with fail
 refine Z0l ?_
 intro wz hwz
 obtain ⟨g1,g2,g3,g4⟩ :=Z3u w (.cells #[.int .i64 kd, .int .i64 oix, .int .i64 otg, .int .u64 am] 34) (resB 0 0 0)
 rw [← (show wz=_ from hwz)] at g1 g2 g3 g4
 have a1:wz.cell? ⟨w.heap.size,1,none⟩=some (.int .i64 oix) :=by rw [cell_of_row _ _ _ _ _ _ g1]; rfl
 have K4 :=Hd g4
 have G2 :=Hd g2
 clear hwz g1 g2 g4
 go_wp2_with fail
 refine (HL.out _ K4.out).mono ?_
 rintro r w1 ⟨rfl,own1,hE1,hX1⟩
 have G3 :=Hd (hX1.at G2.out (H.out.new _ (Nat.le_succ _)))
 have gf :=G3.out.1
 have HE1 :=Hd hE1
 have HX1 :=Hd ((Ext.keeps (own :=own) K4.out).trans hX1)
 clear hE1 hX1 a1
 go_wp2_with (refine Z08 rfl (.tmp 4) (.tmp 8) rfl (w.heap.size+1) X.1 X.2.1 X.2.2 0 0 0 rfl rfl gf ?_; refine Z0e.out ?_)
 refine Z0e.mk ?_
 intro wg hg hm
 have HM :=Hd hm
 have HG :=Hd hg
 clear hg hm gf
 go_wp2_with fail
 obtain ⟨p0,p1,p2⟩ :=Z0b HG.out
 refine bodyPost_ret (v :=resV X.1 X.2.1 X.2.2) (by simp [results,Tryz.results51,go_sem,p0,p1,p2]) rfl ⟨rfl, ?_⟩
 have h9':Z0i own1 wg e c _ p _ :=HE1.out.loc HM.out fun i _ h =>by rw [h]; exact G3.out.2
 have h10:Ext own w own1 wg :=Z1l HX1.out HM.out fun i hi h =>by omega
 exact ⟨own1,h9',h10⟩
theorem Zom {own:Nat→Nat} {w:World} {e:Nat} {c:Nat→Int} {E:En} {p:Ep} {N:Nat} (h:Z0i own w e c E p N) (o:Od) (hV:Vld c) (h9:0≤c 9) (hb0:0≤E.b) (hb1:E.b≤1000000) (hc13:1≤c 13) (hN:N+10<4294967296) :
 Calls Tryz.prog 52 #[.pointer (some ⟨e,0,none⟩),o.val] w fun r w' =>r = .returned (resV (Z2r c E 0 o.ix).1 (Z2r c E 0 o.ix).2.1 (Z2r c E 0 o.ix).2.2)∧Goes own w e c p (Z18 c E 0 o.ix) (N+10) w' :=by
 have HL :=Hd (fun (w':World) (hk:Z00 w w') =>Zm9 (h.keeps hk) 0 o.ix (.inl rfl) hV h9 hb0 hb1 hc13 hN)
 have H :=Hd h
 obtain ⟨X,hX⟩:∃ X,X=Z2r c E 0 o.ix :=⟨_,rfl⟩
 obtain ⟨Y,hY⟩:∃ Y,Y=Z18 c E 0 o.ix :=⟨_,rfl⟩
 rw [← hX,← hY] at HL ⊢
 clear hX hY h hV h9 hb0 hb1 hc13
 obtain ⟨kd,oix,otg,am⟩ :=o
 dsimp only at HL
 go_enter Tryz.func52,Tryz.ntmps52
 go_upto_region 1 with fail
 refine Z0l ?_
 intro wz hwz
 obtain ⟨g1,g2,g3,g4⟩ :=Z3u w (.cells #[.int .i64 kd, .int .i64 oix, .int .i64 otg, .int .u64 am] 34) (resB 0 0 0)
 rw [← (show wz=_ from hwz)] at g1 g2 g3 g4
 have a1:wz.cell? ⟨w.heap.size,1,none⟩=some (.int .i64 oix) :=by rw [cell_of_row _ _ _ _ _ _ g1]; rfl
 have K4 :=Hd g4
 have G2 :=Hd g2
 clear hwz g1 g2 g4
 go_wp2_with fail
 refine (HL.out _ K4.out).mono ?_
 rintro r w1 ⟨rfl,own1,hE1,hX1⟩
 have G3 :=Hd (hX1.at G2.out (H.out.new _ (Nat.le_succ _)))
 have gf :=G3.out.1
 have HE1 :=Hd hE1
 have HX1 :=Hd ((Ext.keeps (own :=own) K4.out).trans hX1)
 clear hE1 hX1 a1
 go_wp2_with (refine Z08 rfl (.tmp 4) (.tmp 8) rfl (w.heap.size+1) X.1 X.2.1 X.2.2 0 0 0 rfl rfl gf ?_; refine Z0e.out ?_)
 refine Z0e.mk ?_
 intro wg hg hm
 have HM :=Hd hm
 have HG :=Hd hg
 clear hg hm gf
 go_wp2_with fail
 obtain ⟨p0,p1,p2⟩ :=Z0b HG.out
 refine bodyPost_ret (v :=resV X.1 X.2.1 X.2.2) (by simp [results,Tryz.results52,go_sem,p0,p1,p2]) rfl ⟨rfl, ?_⟩
 have h9':Z0i own1 wg e c _ p _ :=HE1.out.loc HM.out fun i _ h =>by rw [h]; exact G3.out.2
 have h10:Ext own w own1 wg :=Z1l HX1.out HM.out fun i hi h =>by omega
 exact ⟨own1,h9',h10⟩
end Go.Proofs.YtecapfmmoejikaaGreat
