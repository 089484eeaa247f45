/- A part of the proofs of the top laws: Ept ActA PyB. -/
import Derived.Test.YtecapfmmoejikaaGreatPkBc
import Derived.Test.YtecapfmmoejikaaGreatPkBk
set_option maxRecDepth 4000
set_option maxHeartbeats 8000000
namespace Go.Proofs.YtecapfmmoejikaaGreat
open Go.RowKit Go.Eg
def Z8i (c:Nat→Int) (E:En) (i a:Int):Int :=if Zh1 E.vs (i,a)=0 then (if (c 1).toNat≤E.pr.length then 6 else 0) else Zh1 E.vs (i,a)
def Z7z (c:Nat→Int) (E:En) (i a:Int):Int × Int × Int :=if Z8i c E i a=0 then (0,i, -1) else (Z8i c E i a,0,0)
def Z4q (c:Nat→Int) (E:En) (i a:Int):En :=if Z8i c E i a=0 then { E with pr :=E.pr ++ [(i,a)] } else E
theorem Zqn {own:Nat→Nat} {w:World} {e:Nat} {c:Nat→Int} {E:En} {p:Ep} {N:Nat} (h:Z0i own w e c E p N) (o:Od) :
 Calls Tryz.prog 55 #[.pointer (some ⟨e,0,none⟩),o.val] w fun r w' =>r = .returned (resV (Z7z c E o.ix o.am).1 (Z7z c E o.ix o.am).2.1 (Z7z c E o.ix o.am).2.2)∧Goes own w e c p (Z4q c E o.ix o.am) N w' :=by
 obtain ⟨kd,oix,otg,am⟩ :=o
 dsimp only
 have H :=Hd h
 obtain ⟨X,hX⟩:∃ X,X=Z7z c E oix am :=⟨_,rfl⟩
 obtain ⟨Y,hY⟩:∃ Y,Y=Z4q c E oix am :=⟨_,rfl⟩
 rw [← hX,← hY]
 have HX :=Hd hX
 have HY :=Hd hY
 obtain ⟨lv,hblk, -, -⟩ :=h.blk (by decide)
 obtain ⟨c0, -, -, -, -, -, -, -, -, -,c30⟩ :=Z09 hblk
 have HCE :=Hd (fun (w':World) (hk:Z00 w w') =>(⟨hk.cell c0 fun h =>h,hk.cell c30 fun h =>h⟩:w'.cell? ⟨e,0,none⟩=some (.pointer (some ⟨p.rg,0,none⟩))∧w'.cell? ⟨e,30,none⟩=some (.pointer (some ⟨p.pr,0,none⟩))))
 have HALL :=Hd (fun (w':World) (hk:Z00 w w') =>eAll (H.out.keeps hk))
 have HRQ :=Hd (fun (v:Value) (w':World) (hl:VL w' v E.vs) =>Zbq v E.vs (oix,am) w' hl)
 obtain ⟨RC,hRC⟩:∃ x,x=Zh1 E.vs (oix,am) :=⟨_,rfl⟩
 rw [← hRC] at HRQ
 have HRC :=Hd hRC
 clear hX hY hblk c0 c30 h hRC
 go_enter Tryz.func55,Tryz.ntmps55
 go_upto_region 1 with fail
 refine Z0l ?_
 intro wy hwy
 obtain ⟨g1,g2,g3,g4⟩ :=Z3u w (.cells #[.int .i64 kd, .int .i64 oix, .int .i64 otg, .int .u64 am] 34) (resB 0 0 0)
 rw [← (show wy=_ from hwy)] at g1 g2 g3 g4
 have b1:wy.cell? ⟨w.heap.size,1,none⟩=some (.int .i64 oix) :=by rw [cell_of_row _ _ _ _ _ _ g1]; rfl
 have b3:wy.cell? ⟨w.heap.size,3,none⟩=some (.int .u64 am) :=by rw [cell_of_row _ _ _ _ _ _ g1]; rfl
 clear hwy
 go_wp2_with fail
 refine Z0l ?_
 intro wz hwz
 have hkyz:Z00 wy wz :=Z0f hwz
 have K0 :=Hd (g4.keep hkyz)
 have G0 :=Hd (hkyz.at g2 fun h =>h)
 have O0 :=Hd (hkyz.at g1 fun h =>h)
 have T0 :=Hd (show wz.heap[w.heap.size+1+1]? = some (.cells #[.int .i64 oix, .int .u64 am] 96 (0,0)) from by rw [← g3]; exact Z0g hwz)
 obtain ⟨x0,hx0⟩:∃ x,x=w.heap.size+1+1 :=⟨_,rfl⟩
 have HY0 :=Hd hx0
 rw [← hx0] at T0 ⊢
 have HS1 :=Hd (fun (wx:World) (hk:Z00 wz wx) =>(⟨(HCE.out _ (K0.out.keep hk)).1,(Z27 (hk.at T0.out fun h =>h)).1,(Z27 (hk.at T0.out fun h =>h)).2⟩:wx.cell? ⟨e,0,none⟩=some (.pointer (some ⟨p.rg,0,none⟩))∧wx.cell? ⟨x0,0,none⟩=some (.int .i64 oix)∧wx.cell? ⟨x0,1,none⟩=some (.int .u64 am)))
 clear hwz g1 g2 g4 g3 hkyz hx0 b1 b3
 refine wp_region_held_drew (S :=(fun w' =>w'.cell? ⟨e,0,none⟩=some (.pointer (some ⟨p.rg,0,none⟩))∧w'.cell? ⟨x0,0,none⟩=some (.int .i64 oix)∧w'.cell? ⟨x0,1,none⟩=some (.int .u64 am))) (by kernel_rfl) (by exact HS1.out _ (Mods.refl _ wz).drew) (fun hH0 =>?_)
 refine tk 0 rfl hH0 ?_
 try go_frame
 refine tk 1 rfl hH0 ?_
 try go_frame
 refine tk 2 rfl hH0 ?_
 try go_frame
 refine tk 3 rfl hH0 ?_
 try go_frame
 refine tk 4 rfl hH0 ?_
 try go_frame
 refine tk 6 rfl hH0 ?_
 try go_frame
 refine rdy [5] (Z04 rfl (fun K hK =>?_) AllReadyH.nil)
 go_simp
 refine (HALL.out _ (K0.out.keep (Mods.refl _ wz).drew)).mono ?_
 rintro r w1 ⟨v,rfl,hv,hk1⟩
 go_wp2_with fail
 have hkz :=((Mods.refl (fun _ =>False) wz).drew).keep hk1
 refine hK.out _ _ (HS1.out _ hkz) (fun hH1 =>?_)
 clear hK K hH0
 try go_frame
 refine rdy [7] (Z04 rfl (fun K hK =>?_) AllReadyH.nil)
 have KZ :=Hd hkz
 have HV :=Hd (VL.of_owns (l :=E.vs) hv)
 clear hkz hv hk1
 go_simp
 refine (HRQ.out v _ HV.out).mono ?_
 rintro r w2 ⟨rfl,hk2⟩
 go_wp2_with fail
 have hkz2 :=KZ.out.keep hk2
 refine hK.out _ _ (HS1.out _ hkz2) (fun hH2 =>?_)
 clear hK K hH1
 try go_frame
 refine tk 8 rfl hH2 ?_
 try go_frame
 refine wpAnyH_done (by kernel_rfl) ?_ _
 clear hH2
 have K2 :=Hd (K0.out.keep hkz2)
 have KZ2 :=Hd hkz2
 have G2 :=Hd (hkz2.at G0.out fun h =>h)
 clear hkz2 hk2
 by_cases hrc:RC=0
 ·have hb0:(RC != 0)=false :=by simp [hrc]
  have HC1 :=Hd (show Z8i c E oix am=(if (c 1).toNat≤E.pr.length then 6 else 0) from by rw [Z8i,← HRC.out,if_pos hrc])
  clear hrc
  go_wp2_with fail
  obtain ⟨-,s1,s2⟩ :=HS1.out _ KZ2.out
  have s30 :=(HCE.out _ K2.out).2
  have HS4 :=Hd (fun (wx:World) (hk:Z00 w2 wx) =>(⟨hk.cell s30 fun h =>h,hk.cell s1 fun h =>h,hk.cell s2 fun h =>h⟩:wx.cell? ⟨e,30,none⟩=some (.pointer (some ⟨p.pr,0,none⟩))∧wx.cell? ⟨x0,0,none⟩=some (.int .i64 oix)∧wx.cell? ⟨x0,1,none⟩=some (.int .u64 am)))
  clear s1 s2 s30
  by_cases hfull:(c 1).toNat≤E.pr.length
  ·have HCO :=Hd (HC1.out.trans (if_pos hfull))
   have HPF :=Hd (fun (w':World) (hk:Z00 w w') vb =>Z9o ((H.out.keeps hk).pr (by decide)) hfull vb)
   refine Z07 (S :=(fun w' =>w'.cell? ⟨e,30,none⟩=some (.pointer (some ⟨p.pr,0,none⟩))∧w'.cell? ⟨x0,0,none⟩=some (.int .i64 oix)∧w'.cell? ⟨x0,1,none⟩=some (.int .u64 am))) (by kernel_rfl) (by exact HS4.out _ (Mods.refl _ w2).drew) (fun wc hD hH0 =>?_)
   have HK :=Hd (show Z00 w2 wc from hD.mods)
   clear hD
   refine tk 0 rfl hH0 ?_
   try go_frame
   refine tk 1 rfl hH0 ?_
   try go_frame
   refine tk 2 rfl hH0 ?_
   try go_frame
   refine tk 3 rfl hH0 ?_
   try go_frame
   refine tk 4 rfl hH0 ?_
   try go_frame
   refine rdy [5] (Z04 rfl (fun K hK =>?_) AllReadyH.nil)
   go_simp
   generalize hsz9:wc.heap.size=sb at *
   refine Z14 ?_
   intro wc hwd
   have hk :=Z0f hwd
   refine hK.out _ _ (HS4.out _ (HK.out.keep hk)) (fun hH1 =>?_)
   clear hK K hH0
   try go_frame
   replace HK :=Hd (HK.out.keep hk)
   clear hwd hk hsz9
   refine rdy [6] (Z04 rfl (fun K hK =>?_) AllReadyH.nil)
   go_simp
   refine (HPF.out _ (K2.out.keep HK.out) _).mono ?_
   rintro r wc ⟨rfl,hk⟩
   go_wp2_with fail
   refine hK.out _ _ (HS4.out _ (HK.out.keep hk)) (fun hH2 =>?_)
   clear hK K hH1
   try go_frame
   replace HK :=Hd (HK.out.keep hk)
   clear hk
   refine tk 7 rfl hH2 ?_
   try go_frame
   refine wpAnyH_done (by kernel_rfl) ?_ _
   have hS :=Hd hH2
   clear hH2
   clear hS
   have K5 :=Hd (K2.out.keep HK.out)
   have G5 :=Hd (HK.out.at G2.out fun h =>h)
   go_wp2_with fail
   refine (Z0q 6 _).mono ?_
   rintro r wf ⟨rfl,hkf⟩
   have gf :=hkf.at G5.out fun h =>h
   have HKF :=Hd hkf
   clear hkf
   go_wp2_with (refine Z08 rfl (.tmp 4) (.tmp 32) rfl (w.heap.size+1) 6 0 0 0 0 0 rfl rfl gf ?_; refine Z0e.out ?_)
   refine Z0e.mk ?_
   intro wg hg hm
   have HM :=Hd hm
   have HG :=Hd hg
   clear hg hm gf
   go_wp2_with fail
   obtain ⟨p0,p1,p2⟩ :=Z0b HG.out
   have hkk:Z00 w wg :=(K5.out.keep HKF.out).seq HM.out fun i hi e =>by omega
   exact bodyPost_ret (v :=resV 6 0 0) (by simp [results,Tryz.results55,go_sem,p0,p1,p2]) rfl ⟨by rw [HX.out,show Z7z c E oix am=(6,0,0) from by rw [Z7z,HCO.out]; rfl],by rw [HY.out,show Z4q c E oix am=E from by rw [Z4q,HCO.out]; rfl]; exact Goes.keeps H.out hkk⟩
  ·have HCO :=Hd (HC1.out.trans (if_neg hfull))
   have HPU :=Hd (fun (w':World) (hk:Z00 w w') vb hv hv2 =>Zpk (H.out.keeps hk) (by omega) (oix,am) vb hv hv2)
   refine Z07 (S :=(fun w' =>w'.cell? ⟨e,30,none⟩=some (.pointer (some ⟨p.pr,0,none⟩))∧w'.cell? ⟨x0,0,none⟩=some (.int .i64 oix)∧w'.cell? ⟨x0,1,none⟩=some (.int .u64 am))) (by kernel_rfl) (by exact HS4.out _ (Mods.refl _ w2).drew) (fun wc hD hH0 =>?_)
   have HK :=Hd (show Z00 w2 wc from hD.mods)
   clear hD
   refine tk 0 rfl hH0 ?_
   try go_frame
   refine tk 1 rfl hH0 ?_
   try go_frame
   refine tk 2 rfl hH0 ?_
   try go_frame
   refine tk 3 rfl hH0 ?_
   try go_frame
   refine tk 4 rfl hH0 ?_
   try go_frame
   refine rdy [5] (Z04 rfl (fun K hK =>?_) AllReadyH.nil)
   go_simp
   generalize hsz9:wc.heap.size=sb at *
   refine Z14 ?_
   intro wc hwd
   have hk :=Z0f hwd
   have hn :=Z0g hwd
   rw [hsz9] at hn
   refine hK.out _ _ (HS4.out _ (HK.out.keep hk)) (fun hH1 =>?_)
   clear hK K hH0
   try go_frame
   replace HK :=Hd (HK.out.keep hk)
   have HN :=Hd hn
   clear hwd hk hn hsz9
   refine rdy [6] (Z04 rfl (fun K hK =>?_) AllReadyH.nil)
   go_simp
   refine (HPU.out _ (K2.out.keep HK.out) _ (Z27 HN.out).1 (Z27 HN.out).2).mono ?_
   rintro r wd ⟨rfl,ownd,hEd,hXd⟩
   go_wp2_with fail
   have hX2 :=(Ext.keeps (own :=own) HK.out).trans hXd
   obtain ⟨lvd,hbd, -, -⟩ :=hEd.blk (by decide)
   have TD :=hX2.at (KZ2.out.at T0.out fun h =>h) (H.out.new _ (by have :=HY0.out; omega))
   have OD :=Hd (hX2.at (KZ2.out.at O0.out fun h =>h) (H.out.new _ (Nat.le_refl _)))
   refine hK.out _ _ (⟨(Z09 hbd).2.2.2.2.2.2.2.2.2.2,(Z27 TD.1).1,(Z27 TD.1).2⟩) (fun hH2 =>?_)
   clear hK K hH1
   try go_frame
   have GD :=Hd (hX2.at G2.out (H.out.new _ (Nat.le_succ _)))
   have HEd :=Hd hEd
   have HXd :=Hd ((Ext.keeps (own :=own) K2.out).trans hX2)
   have z1:wd.cell? ⟨w.heap.size,1,none⟩=some (.int .i64 oix) :=by rw [cell_of_row _ _ _ _ _ _ OD.out.1]; rfl
   clear hEd hXd hX2 hbd TD
   refine tk 7 rfl hH2 ?_
   try go_frame
   refine wpAnyH_done (by kernel_rfl) ?_ _
   have hS :=Hd hH2
   clear hH2
   clear hS
   go_wp2_with fail
   refine (Z2f _ _ _).mono ?_
   rintro r wf ⟨rfl,hkf⟩
   have gf :=hkf.at GD.out.1 fun h =>h
   have HKF :=Hd hkf
   clear hkf
   go_wp2_with (refine Z08 rfl (.tmp 4) (.tmp 35) rfl (w.heap.size+1) 0 oix (-1) 0 0 0 rfl rfl gf ?_; refine Z0e.out ?_)
   refine Z0e.mk ?_
   intro wg hg hm
   have HM :=Hd hm
   have HG :=Hd hg
   clear hg hm gf
   go_wp2_with fail
   obtain ⟨p0,p1,p2⟩ :=Z0b HG.out
   refine bodyPost_ret (v :=resV 0 oix (-1)) (by simp [results,Tryz.results55,go_sem,p0,p1,p2]) rfl ⟨by rw [HX.out,show Z7z c E oix am=(0,oix, -1) from by rw [Z7z,HCO.out]; rfl], ?_⟩
   have h9':Z0i ownd wg e c _ p _ :=(HEd.out.keeps HKF.out).loc HM.out fun i _ h =>by rw [h]; exact GD.out.2
   have h10:Ext own w ownd wg :=Z1l (HXd.out.trans (Ext.keeps HKF.out)) HM.out fun i hi h =>by omega
   rw [HY.out,Z4q,HCO.out]
   exact ⟨ownd,h9',h10⟩
 ·have HCO :=Hd (show Z8i c E oix am=RC from by rw [Z8i,← HRC.out,if_neg hrc])
  have hb0:(RC != 0)=true :=by simp [hrc]
  have HR :=Hd hrc
  clear hrc
  go_wp2_with fail
  refine (Z0q RC _).mono ?_
  rintro r wf ⟨rfl,hkf⟩
  have gf :=hkf.at G2.out fun h =>h
  have HKF :=Hd hkf
  clear hkf
  go_wp2_with (refine Z08 rfl (.tmp 4) (.tmp 23) rfl (w.heap.size+1) RC 0 0 0 0 0 rfl rfl gf ?_; refine Z0e.out ?_)
  refine Z0e.mk ?_
  intro wg hg hm
  have HM :=Hd hm
  have HG :=Hd hg
  clear hg hm gf
  go_wp2_with fail
  obtain ⟨p0,p1,p2⟩ :=Z0b HG.out
  have hkk:Z00 w wg :=(K2.out.keep HKF.out).seq HM.out fun i hi e =>by omega
  exact bodyPost_ret (v :=resV RC 0 0) (by simp [results,Tryz.results55,go_sem,p0,p1,p2]) rfl ⟨by rw [HX.out,show Z7z c E oix am=(RC,0,0) from by rw [Z7z,HCO.out,if_neg HR.out]],by rw [HY.out,show Z4q c E oix am=E from by rw [Z4q,HCO.out,if_neg HR.out]]; exact Goes.keeps H.out hkk⟩
abbrev boB (x:Bool):Obj := .cells #[.bool x] 4 (0,0)
theorem Zhl (lim:Int) (w:World) :
 Calls Tryz.prog 210 #[.int .u64 lim] w fun r w' =>r = .returned (.func (Fn.func 234) #[] #[.pointer (some ⟨w.heap.size+1,0,none⟩), .pointer (some ⟨w.heap.size+2,0,none⟩), .pointer (some ⟨w.heap.size,0,none⟩)]) ∧
  w'.heap[w.heap.size]? = some (u1B lim)∧w'.heap[w.heap.size+1]? = some (u1B 0)∧w'.heap[w.heap.size+2]? = some (boB true)∧Z00 w w'∧w'.heap.size=w.heap.size+3 :=by
 go_enter Tryz.func210,Tryz.ntmps210
 go_wp2
 go_ret
 have h1 :=heap_alloc_last (w.alloc (u1B lim)) (u1B 0)
 have h2 :=heap_alloc_last ((w.alloc (u1B lim)).alloc (u1B 0)) (boB true)
 rw [World.size_alloc] at h1
 rw [World.size_alloc,World.size_alloc] at h2
 refine ⟨rfl,Z02 (Z02 (heap_alloc_last w _) _) _,Z02 h1 _,h2, ?_,by simp only [World.size_alloc]⟩
 (repeat' first | (with_reducible refine Mods.setCell ?_ _ _ (fun _ =>rfl)) | (with_reducible refine Mods.alloc ?_ _) | (with_reducible refine Mods.drewN ?_ _) | (with_reducible refine Mods.drew ?_) | (with_reducible exact Mods.refl _ _))
def budS (lim:Int) (f:Bool) (s x:Int):Bool × Int × Bool :=if f=false∧lim<s+x then (false,s,f) else (true,s+x,false)
theorem Zl9 (bs bf bl:Nat) (lim s x:Int) (f:Bool) (w:World) (hs:w.heap[bs]? = some (u1B s)) (hf:w.heap[bf]? = some (boB f)) (hl:w.heap[bl]? = some (u1B lim)) (hn:bs≠bf∧bl≠bs∧bl≠bf) (s0:0≤s) (s1:s≤maxU) (x0:0≤x) (x1:x≤maxU) (hl1:lim≤maxU) (hfs:f=true→s=0) :
 Calls Tryz.prog 234 #[.int .u64 x, .bool true, .pointer (some ⟨bs,0,none⟩), .pointer (some ⟨bf,0,none⟩), .pointer (some ⟨bl,0,none⟩)] w fun r w' =>r = .returned (.bool (budS lim f s x).1) ∧
  w'.heap[bs]? = some (u1B (budS lim f s x).2.1)∧w'.heap[bf]? = some (boB (budS lim f s x).2.2)∧Mods (fun i =>i=bs∨i=bf) w w' :=by
 have c1:w.cell? ⟨bs,0,none⟩=some (.int .u64 s) :=by simp [World.cell?,hs]
 have HS :=Hd hs
 have HF :=Hd hf
 have HL :=Hd hl
 have HA :=Hd (Z1r (.slice (some ⟨w.heap.size,0,none⟩) 2 2) 2 (fun j => [s,x].getD j 0) (w.alloc (.cells #[.int .u64 s, .int .u64 x] 22))
  (Zcl (l := [s,x]) (B :=w.heap.size) (World.ownsRow_lit w #[.int .u64 s, .int .u64 x] 2 (Nat.le_refl _) (by decide) rfl) (fun y hy =>by simp at hy; rcases hy with rfl | rfl <;> omega)) (by omega))
 have hsum:sumF (fun j => [s,x].getD j 0) 2=s+x :=by simp [sumF]
 obtain ⟨AV,hAV⟩:∃ y,y=addV (fun j => [s,x].getD j 0) 2 :=⟨_,rfl⟩
 obtain ⟨AO,hAO⟩:∃ y,y=Z3p (fun j => [s,x].getD j 0) 2 :=⟨_,rfl⟩
 rw [← hAV,← hAO] at HA
 have hAV2:AV=if s+x≤maxU then s+x else 0 :=by rw [hAV,addV,hsum]
 have hAO2:AO=decide (s+x≤maxU) :=by rw [hAO,Z3p,hsum]
 have HAV :=Hd hAV2
 have HAO :=Hd hAO2
 obtain ⟨X,hX⟩:∃ y,y=budS lim f s x :=⟨_,rfl⟩
 rw [← hX]
 have HX :=Hd hX
 clear hsum hAV hAO hAV2 hAO2 hX hs hf hl
 go_enter Tryz.func234,Tryz.ntmps234
 go_wp2_with fail
 refine HA.out.mono ?_
 rintro r w1 ⟨rfl,rfl⟩
 have hS1 :=Z02 HS.out (.cells #[.int .u64 s, .int .u64 x] 22)
 have hF1 :=Z02 HF.out (.cells #[.int .u64 s, .int .u64 x] 22)
 have hL1 :=Z02 HL.out (.cells #[.int .u64 s, .int .u64 x] 22)
 have hk1:Mods (fun i =>i=bs∨i=bf) w (w.alloc (.cells #[.int .u64 s, .int .u64 x] 22)) :=(Mods.refl _ w).alloc _
 generalize w.alloc (.cells #[.int .u64 s, .int .u64 x] 22)=w1 at *
 have d0:w1.cell? ⟨bs,0,none⟩=some (.int .u64 s) :=by simp [World.cell?,hS1]
 have d1:w1.cell? ⟨bf,0,none⟩=some (.bool f) :=by simp [World.cell?,hF1]
 have hF2:(w1.setCell ⟨bs,0,none⟩ (.int .u64 (s+x))).heap[bf]? = some (boB f) :=((Mods.refl (fun i =>i=bs) w1).setCell _ _ fun _ =>rfl).at hF1 fun h =>hn.1 h.symm
 have d3:(w1.setCell ⟨bs,0,none⟩ (.int .u64 (s+x))).cell? ⟨bf,0,none⟩=some (.bool f) :=by simp [World.cell?,hF2]
 have z3:(w1.setCell ⟨bs,0,none⟩ (.int .u64 (s+x))).frozen? ⟨bf,0,none⟩=false :=by simp [World.frozen?,hF2]
 have HF2 :=Hd hF2
 have HS2 :=Hd (show (w1.setCell ⟨bs,0,none⟩ (.int .u64 (s+x))).heap[bs]? = some (u1B (s+x)) from heap_setCell_same w1 bs 0 _ _ _ hS1)
 have d2:w1.cell? ⟨bl,0,none⟩=some (.int .u64 lim) :=by simp [World.cell?,hL1]
 have z1:w1.frozen? ⟨bs,0,none⟩=false :=by simp [World.frozen?,hS1]
 have z2:w1.frozen? ⟨bf,0,none⟩=false :=by simp [World.frozen?,hF1]
 have HS1 :=Hd hS1
 have HF1 :=Hd hF1
 have HK1 :=Hd hk1
 clear hS1 hF1 hL1 hk1 hF2
 cases f
 ·by_cases hov:s+x≤maxU
  ·obtain rfl:AO=true :=by rw [HAO.out]; simp [hov]
   obtain rfl:AV=s+x :=by rw [HAV.out,if_pos hov]
   by_cases hlt:lim<s+x
   ·have hX2:X=(false,s,false) :=by rw [HX.out]; unfold budS; rw [if_pos ⟨rfl,hlt⟩]
    have HX2 :=Hd hX2
    clear HX hX2 hov
    go_wp2
    go_ret
    rw [HX2.out]
    exact ⟨rfl,HS1.out,HF1.out,HK1.out⟩
   ·have hX2:X=(true,s+x,false) :=by rw [HX.out]; unfold budS; rw [if_neg fun h =>hlt h.2]
    have HX2 :=Hd hX2
    have HN :=Hd hn
    clear HX hX2 hov hn
    go_wp2
    go_ret
    rw [HX2.out]
    exact ⟨rfl,((Mods.refl (fun i =>i=bf) _).setCell _ _ fun _ =>rfl).at HS2.out HN.out.1,heap_setCell_same _ bf 0 _ _ _ HF2.out,(HK1.out.setCell _ _ fun _ =>.inl rfl).setCell _ _ fun _ =>.inr rfl⟩
  ·obtain rfl:AO=false :=by rw [HAO.out]; simp [hov]
   have hX2:X=(false,s,false) :=by rw [HX.out]; unfold budS; rw [if_pos ⟨rfl,by omega⟩]
   have HX2 :=Hd hX2
   clear HX hX2 hov HAV
   go_wp2
   go_ret
   rw [HX2.out]
   exact ⟨rfl,HS1.out,HF1.out,HK1.out⟩
 ·have hs00 :=hfs rfl
  obtain rfl:AO=true :=by rw [HAO.out]; simp; omega
  obtain rfl:AV=s+x :=by rw [HAV.out,if_pos (by omega)]
  have hX2:X=(true,s+x,false) :=by rw [HX.out]; unfold budS; rw [if_neg fun h =>by cases h.1]
  have HX2 :=Hd hX2
  have HN :=Hd hn
  clear HX hX2 hn hs00 hfs
  go_wp2
  go_ret
  rw [HX2.out]
  exact ⟨rfl,((Mods.refl (fun i =>i=bf) _).setCell _ _ fun _ =>rfl).at HS2.out HN.out.1,heap_setCell_same _ bf 0 _ _ _ HF2.out,(HK1.out.setCell _ _ fun _ =>.inl rfl).setCell _ _ fun _ =>.inr rfl⟩
abbrev riB (p:Nat):Obj := .cells #[.pointer (some ⟨p,0,none⟩)] 88 (0,0)
abbrev suB (a:Option Addr) (n c:Nat):Obj := .cells #[.slice a n c] 59 (0,0)
theorem Zj1 (p:Nat) (fr lim:Int) (a:Option Addr) (n c:Nat) (w:World) :
 Calls Tryz.prog 174 #[.pointer (some ⟨p,0,none⟩), .int .i64 fr, .int .u64 lim, .slice a n c] w fun r w' =>r = .returned (.func (Fn.func 209) #[] #[.pointer (some ⟨w.heap.size+2,0,none⟩), .pointer (some ⟨w.heap.size,0,none⟩), .pointer (some ⟨w.heap.size+1,0,none⟩), .pointer (some ⟨w.heap.size+3,0,none⟩)]) ∧
  w'.heap[w.heap.size]? = some (riB p)∧w'.heap[w.heap.size+1]? = some (oneB fr)∧w'.heap[w.heap.size+2]? = some (u1B lim)∧w'.heap[w.heap.size+3]? = some (suB a n c)∧Z00 w w'∧w'.heap.size=w.heap.size+4 :=by
 go_enter Tryz.func174,Tryz.ntmps174
 go_wp2
 go_ret
 have h1 :=heap_alloc_last (w.alloc (riB p)) (oneB fr)
 have h2 :=heap_alloc_last ((w.alloc (riB p)).alloc (oneB fr)) (u1B lim)
 have h3 :=heap_alloc_last (((w.alloc (riB p)).alloc (oneB fr)).alloc (u1B lim)) (suB a n c)
 rw [World.size_alloc] at h1
 rw [World.size_alloc,World.size_alloc] at h2
 rw [World.size_alloc,World.size_alloc,World.size_alloc] at h3
 refine ⟨rfl,Z02 (Z02 (Z02 (heap_alloc_last w _) _) _) _,Z02 (Z02 h1 _) _,Z02 h2 _,h3, ?_,by simp only [World.size_alloc]⟩
 (repeat' first | (with_reducible refine Mods.setCell ?_ _ _ (fun _ =>rfl)) | (with_reducible refine Mods.alloc ?_ _) | (with_reducible refine Mods.drewN ?_ _) | (with_reducible refine Mods.drew ?_) | (with_reducible exact Mods.refl _ _))
theorem Zq5 {own:Nat→Nat} {w:World} {e:Nat} {c:Nat→Int} {E:En} {p:Ep} {N:Nat} (h:Z0i own w e c E p N) (n:Nat) (rdy:Nat→Bool) (rv:Value) (visits pays:Int) (hx:E.cur≤4096) (h1:n≤4096) (hr:Z9s w rv n rdy) (h0:∀ k,rv.ownBlock=some k→own k=0) :
 Calls Tryz.prog 120 #[.pointer (some ⟨p.cu,0,none⟩),rv, .int .i64 visits, .int .i64 pays] w fun r w' => ∃ v,r = .returned (.tuple #[v, .int .i64 (Z1o rdy n E.cur visits pays:Nat)]) ∧
  w'.ownsRow w.heap.size 3 1 v (Z34 rdy n E.cur visits pays).length (Z6w (Z34 rdy n E.cur visits pays))∧Z0i own w' e c { E with cur :=Z6p rdy n E.cur visits pays } p N∧Ext own w own w'∧∀ k,v.ownBlock=some k→own k=0 :=by
 refine (sweep_any p.cu E.cur n rdy rv visits pays w (h.cu (by decide)) (by omega) (by omega) hr fun _ hb =>by have :=h0 _ hb; rw [h.ocu] at this; cases this).mono ?_
 rintro r w' ⟨v,rfl,h2,h4,hm⟩
 have hS:∀ i,i<w.heap.size→i=p.cu→own i=6 :=fun i _ hi =>by rw [hi]; exact h.ocu
 exact ⟨v,rfl,h2,(h.frame0 hm (k :=6) hS).cu' h4,Ext.same hm (by decide) hS,fun k hk =>h.new k (h2.lt k hk).1⟩
theorem ePay {own:Nat→Nat} {w:World} {e:Nat} {c:Nat→Int} {E:En} {p:Ep} {N:Nat} (h:Z0i own w e c E p N) (hV:Vld c) (hb0:0≤E.b) (hb1:E.b≤1000000) (hcur:E.cur≤4096) (hs:totS E.vs+totS E.vs≤maxU) (hpr:∀ r∈E.pr,0≤r.2) (hN:N+50000<4294967296) :
 Calls Tryz.prog 80 #[.pointer (some ⟨e,0,none⟩)] w fun r w' => ∃ v,r = .returned (.tuple #[v, .int .i64 (Z6b c E)])∧∃ own',Z0i own' w' e c (Z9v c E) p (N+40000)∧Ext own w own' w' ∧
  w'.ownsRow w.heap.size 58 3 v (pyS c E).2.length (Z1u (pyS c E).2)∧∀ k,v.ownBlock=some k→own' k=0 :=by
 obtain ⟨hvok,htot,hvl,hc4⟩ :=h.vsok
 have h16:0≤c 16 :=hV.c16.1
 have h5:0≤c 5 :=by have :=hV.c5.1; omega
 have H :=Hd h
 have HALL :=Hd (fun (w':World) (hk:Z00 w w') =>eAll (H.out.keeps hk))
 have HTAK :=Hd (fun (w':World) (hk:Z00 w w') =>Zk5 (H.out.keeps hk) (c 16) h16)
 obtain ⟨Q,hQ⟩:∃ x,x=pyQ c E :=⟨_,rfl⟩
 have hQ':E.pr.take (c 16).toNat=Q :=hQ.symm
 rw [hQ'] at HTAK
 have hql:Q.length≤4096 :=by
  have h1 :=h.pr (by decide)
  have :=Nat.le_trans h1.2.2.2.1 h1.2.2.1
  rw [hQ]
  unfold pyQ
  rw [List.length_take]
  omega
 have hqc:(Q.length:Int)≤c 16 :=by
  rw [hQ]
  unfold pyQ
  rw [List.length_take]
  omega
 have hq0:∀ r∈Q,0≤r.2 :=fun r hr =>hpr r (by rw [hQ] at hr; exact List.mem_of_mem_take hr)
 have HPS :=Hd (fun (v vq:Value) (B:Nat) (w':World) (hl:VL w' v E.vs) (hq:w'.ownsRow B 96 2 vq Q.length (Z3y Q)) =>Zeo v E.vs hvok (by omega) vq Q B c w' hl hq (by omega) hqc hq0 h5)
 obtain ⟨L,hL⟩:∃ x,x=(parStep (c 5) E.vs Q).1 :=⟨_,rfl⟩
 obtain ⟨P0,hP0⟩:∃ x,x=Z2p (parStep (c 5) E.vs Q).2 :=⟨_,rfl⟩
 rw [← hL,← hP0] at HPS
 have hLs :=Z7s h5 hq0 hvok Q.length
 rw [List.take_length,← hL] at hLs
 obtain ⟨hLok,hLlen,hPl⟩ :=hLs
 have hLt:totS L≤totS E.vs :=by rw [hL]; exact Zdi h5 Q (E.vs,[]) hq0 hvok
 have hP0ok:PmOk P0 :=by rw [hP0]; exact Zl3 (Zhr h5 Q (E.vs,[]) hq0 hvok fun p hp =>by cases hp)
 have hP0l:P0.length≤4096 :=by rw [hP0]; exact Nat.le_trans (Zkj _) (by omega)
 obtain ⟨cs,hcs⟩:∃ x,x=cfgC c :=⟨_,rfl⟩
 have hcz:cs.toList.length=20 :=by rw [hcs]; rfl
 have hs20:(Tryz.prog.info? 24).map (·.size)=some cs.toList.length :=by rw [Z0m,hcz]
 rw [show cfgV c = .agg (cfgC c) from rfl,← hcs] at HPS
 obtain ⟨lv,hblk, -, -⟩ :=h.blk (by decide)
 obtain ⟨c0, -, -, -, -, -, -, -, -, -,c30⟩ :=Z09 hblk
 have c17:w.cell? ⟨e,17,none⟩=some (.int .i64 (c 16)) :=by rw [cell_of_row _ _ _ _ _ _ hblk]; rfl
 have hcfg :=Z55 hblk
 rw [← hcs] at hcfg
 have HCE :=Hd (fun (w':World) (hk:Z00 w w') =>(⟨hk.cell c0 fun h =>h,hk.cell c17 fun h =>h,hk.cell c30 fun h =>h,Z0n hcfg hk⟩:w'.cell? ⟨e,0,none⟩=some (.pointer (some ⟨p.rg,0,none⟩))∧w'.cell? ⟨e,17,none⟩=some (.int .i64 (c 16))∧w'.cell? ⟨e,30,none⟩=some (.pointer (some ⟨p.pr,0,none⟩))∧w'.rangeAt e 1 cs.toList))
 have HSS :=Hd (show ∀ x,x≤totS E.vs→totS E.vs+x≤maxU from fun x hx =>by omega)
 have HQE :=Hd hQ
 have HLE :=Hd hL
 have HPE :=Hd hP0
 have HCS :=Hd hcs
 have HLL :=Hd hLlen
 have HPL :=Hd hP0l
 have HVS :=Hd hvok
 have HLT :=Hd hLt
 have HLOK :=Hd hLok
 have HPOK :=Hd hP0ok
 have HLN :=Hd (show L.length≤4096 from by omega)
 have HS20 :=Hd hs20
 clear hblk c0 c17 c30 hcfg hcz h hQ hQ' hL hP0 hcs hLlen hLok hLt hPl hP0ok hP0l hq0 hpr hqc hvok htot hvl hs hc4
 go_enter Tryz.func80,Tryz.ntmps80
 go_wp2_with fail
 refine wp_region_held_drew (S :=(fun w' =>w'.cell? ⟨e,0,none⟩=some (.pointer (some ⟨p.rg,0,none⟩))∧w'.cell? ⟨e,17,none⟩=some (.int .i64 (c 16))∧w'.cell? ⟨e,30,none⟩=some (.pointer (some ⟨p.pr,0,none⟩))∧w'.rangeAt e 1 cs.toList)) (by kernel_rfl) (by exact HCE.out _ (Mods.refl _ w).drew) (fun hH0 =>?_)
 refine tk 0 rfl hH0 ?_
 try go_frame
 refine tk 1 rfl hH0 ?_
 try go_frame
 refine tk 2 rfl hH0 ?_
 try go_frame
 refine tk 3 rfl hH0 ?_
 try go_frame
 refine tk 4 rfl hH0 ?_
 try go_frame
 refine tk 6 rfl hH0 ?_
 try go_frame
 refine tk 7 rfl hH0 ?_
 try go_frame
 refine tk 8 rfl hH0 ?_
 try go_frame
 refine tk 9 rfl hH0 ?_
 try go_frame
 refine tk 10 rfl hH0 ?_
 try go_frame
 refine tk 11 rfl hH0 ?_
 try go_frame
 refine tk 12 rfl hH0 ?_
 try go_frame
 refine tk 13 rfl hH0 ?_
 try go_frame
 refine tk 14 rfl hH0 ?_
 try go_frame
 refine tk 16 rfl hH0 ?_
 try go_frame
 refine tk 17 rfl hH0 ?_
 try go_frame
 refine tk 18 rfl hH0 ?_
 try go_frame
 refine tkb 19 rfl hH0 (yieldsIf_load_mid (by rfl) 24 (.tmp 38) rfl e 1 rfl cs.toList _ (fun _ h =>h.2.2.2) Tryz.underlying24 rfl hs20) ?_
 try go_frame
 refine rdy [5] (Z04 rfl (fun K hK =>?_) AllReadyH.nil)
 go_simp
 refine (HALL.out _ (Mods.refl _ w).drew).mono ?_
 rintro r w1 ⟨v,rfl,hv,hk1⟩
 go_wp2_with fail
 have hkz :=((Mods.refl (fun _ =>False) w).drew).keep hk1
 refine hK.out _ _ (HCE.out _ hkz) (fun hH1 =>?_)
 clear hK K hH0
 try go_frame
 refine rdy [15] (Z04 rfl (fun K hK =>?_) AllReadyH.nil)
 have K1 :=Hd hkz
 have HV :=Hd hv
 clear hkz hv hk1
 go_simp
 refine (HTAK.out _ K1.out).mono ?_
 rintro r w2 ⟨vq,rfl,hq,hE2,hX2,hz2⟩
 go_wp2_with fail
 obtain ⟨lv2,hb2, -, -⟩ :=hE2.blk (by decide)
 have h2c :=Z09 hb2
 have h2cfg :=Z55 hb2
 rw [← HCS.out] at h2cfg
 have h2e:w2.cell? ⟨e,17,none⟩=some (.int .i64 (c 16)) :=by rw [cell_of_row _ _ _ _ _ _ hb2]; rfl
 refine hK.out _ _ (⟨h2c.1,h2e,h2c.2.2.2.2.2.2.2.2.2.2,h2cfg⟩) (fun hH2 =>?_)
 clear hK K hH1
 try go_frame
 refine rdy [20] (Z04 rfl (fun K hK =>?_) AllReadyH.nil)
 have HE2 :=Hd hE2
 have HX2 :=Hd ((Ext.keeps (own :=own) K1.out).trans hX2)
 have HV2 :=Hd (VL.of_owns (l :=E.vs) (hX2.owns HV.out fun k hk =>H.out.new k (by have :=(HV.out.lt k hk).1; exact this)))
 have HC2 :=Hd (fun (wx:World) (hk:Z00 w2 wx) =>(⟨hk.cell h2c.1 fun h =>h,hk.cell h2e fun h =>h,hk.cell h2c.2.2.2.2.2.2.2.2.2.2 fun h =>h,Z0n h2cfg hk⟩:wx.cell? ⟨e,0,none⟩=some (.pointer (some ⟨p.rg,0,none⟩))∧wx.cell? ⟨e,17,none⟩=some (.int .i64 (c 16))∧wx.cell? ⟨e,30,none⟩=some (.pointer (some ⟨p.pr,0,none⟩))∧wx.rangeAt e 1 cs.toList))
 have HQ :=Hd hq
 clear hE2 hX2 hb2 h2c h2cfg h2e hq hz2
 go_simp
 refine (HPS.out v vq _ _ HV2.out HQ.out).mono ?_
 rintro r w3 ⟨v1,v2,rfl,ho1,ho2,hsep,hk3⟩
 go_wp2_with fail
 refine hK.out _ _ (HC2.out _ hk3) (fun hH3 =>?_)
 clear hK K hH2
 try go_frame
 refine tk 21 rfl hH3 ?_
 try go_frame
 refine tk 22 rfl hH3 ?_
 try go_frame
 refine tk 23 rfl hH3 ?_
 try go_frame
 refine tk 24 rfl hH3 ?_
 try go_frame
 refine tk 25 rfl hH3 ?_
 try go_frame
 refine tk 26 rfl hH3 ?_
 try go_frame
 refine tk 27 rfl hH3 ?_
 try go_frame
 refine wpAnyH_done (by kernel_rfl) ?_ _
 clear hH3
 have HE3 :=Hd (HE2.out.keeps hk3)
 have HX3 :=Hd (HX2.out.trans (Ext.keeps (own :=own) hk3))
 have hs13:w.heap.size≤w2.heap.size :=HX2.out.mods.size
 have HZ1 :=Hd (show ∀ k,v1.ownBlock=some k→own k=0 from fun k hk =>H.out.new k (by have :=(ho1.lt k hk).1; omega))
 have HZ2 :=Hd (show ∀ k,v2.ownBlock=some k→own k=0 from fun k hk =>H.out.new k (by have :=(ho2.lt k hk).1; omega))
 rw [← HLL.out] at ho1
 have HO1 :=Hd ho1
 have HO2 :=Hd ho2
 have HSEP :=Hd hsep
 have HSTO :=Hd (Zm5 HE3.out v1 L _ ho1 HLL.out HLOK.out (HSS.out _ HLT.out) HZ1.out (by have :=HLN.out; omega))
 have hLn :=HLN.out
 clear ho1 ho2 hsep hk3
 go_wp2_with fail
 refine HSTO.out.mono ?_
 rintro r w4 ⟨rfl,own4,hE4,hX4⟩
 have HE4 :=Hd hE4
 have HX34 :=Hd hX4
 have HX4 :=Hd (HX3.out.trans hX4)
 have HO14 :=Hd (hX4.owns HO1.out HZ1.out)
 have HO24 :=Hd (hX4.owns HO2.out HZ2.out)
 have HZ14 :=Hd (show ∀ k,v1.ownBlock=some k→own4 k=0 from fun k hk =>(hX4.old k (HO1.out.lt k hk).2).trans (HZ1.out k hk))
 have HZ24 :=Hd (show ∀ k,v2.ownBlock=some k→own4 k=0 from fun k hk =>(hX4.old k (HO2.out.lt k hk).2).trans (HZ2.out k hk))
 obtain ⟨a1,n1,rfl⟩ :=Z0c HO1.out
 clear hE4 hX4
 go_wp2_with (at_make; refine Z6x rfl _ _ rfl L.length rfl rfl (by omega) ?_; refine Z0e.out ?_)
 refine Z0e.mk ?_
 intro w5 hz5 hk5
 have HZ5 :=Hd hz5
 have HK5 :=Hd hk5
 obtain ⟨z,hz⟩:∃ x,x=w4.heap.size :=⟨_,rfl⟩
 rw [← hz] at HZ5 ⊢
 have HZN :=Hd hz
 have HO15 :=Hd (hk5.owns HO14.out fun _ _ h =>h)
 have HB1 :=Hd (show ∀ k,(Value.slice a1 L.length n1).ownBlock=some k→k<z from fun k hk =>by rw [hz]; exact (HO14.out.lt k hk).2)
 clear hz5 hk5 hz
 go_wp2_with fail
 go_loopw [52] (fun i wr => ∃ k:Nat,k≤L.length∧i = .int .i64 k∧wr.heap[z]? = some (Z5p (fun j =>decide (j<k) && ((vAt L (j:Int)).st == 5)) L.length)∧Mods (fun i =>i=z) w5 wr) (fun i _ =>L.length - (intOf i).toNat)
 case atStart =>exact ⟨0,Nat.zero_le _,rfl,by rw [HZ5.out]; simp,Mods.refl _ _⟩
 case round =>
  obtain ⟨k,hk,rfl,hzb,hm⟩ :=hrel
  have HM :=Hd hm
  have HB :=Hd hzb
  by_cases hlt:k<L.length
  ·have hki:(k:Int)<(L.length:Int) :=Int.ofNat_lt.2 hlt
   have hrow :=hm.owns HO15.out fun j hj h =>by have :=HB1.out j hj; omega
   obtain ⟨b,rfl, -, -⟩ :=Z7x hrow k hlt
   obtain ⟨b',off,cap',e1,r1⟩ :=Z2y (VL.of_owns hrow) (i :=(k:Int)) ⟨by omega,hki⟩
   injection e1 with e1 _ e1'
   injection e1 with e1
   injection e1 with e1 e1''
   subst e1 e1' e1''
   rw [Nat.zero_add,Int.toNat_natCast] at r1
   obtain ⟨nv,hnv⟩:∃ x,x=vAt L (k:Int) :=⟨_,rfl⟩
   rw [← hnv] at r1
   have R1 :=Hd r1
   have HNV :=Hd hnv
   have cz :=Ze6 hzb k hlt
   have fz :=Zen hzb k
   have hczA:∀ o,(wr.alloc o).cell? ⟨z,k,none⟩=some (.bool (decide (k<k) && ((vAt L (k:Int)).st == 5))) :=fun o =>((Mods.refl (fun _ =>False) wr).alloc o).cell cz fun h =>h
   have hfzA:∀ o,(wr.alloc o).frozen? ⟨z,k,none⟩=false :=fun o =>by rw [((Mods.refl (fun _ =>False) wr).alloc o).frozen (Z0a hzb) fun h =>h]; exact fz
   have hvA:(wr.alloc (vdB nv)).cell? ⟨wr.heap.size,1,none⟩=some (.int .i64 nv.st) :=(Z0o (heap_alloc_last wr (vdB nv))).2.1
   have hws :=hm.size
   clear hm hzb hrow r1 hnv cz fz
   go_wp2_with (refine wpList_load_mid rfl 49 _ rfl b (k * 7) rfl nv.cells.toList _ R1.out Tryz.underlying49 rfl Z4n ?_)
   go_roundw
   case rel =>
    refine ⟨k+1,by omega,by go_num, ?_, ?_⟩
    ·refine (Zgz _ (Z02 HB.out _)).trans ?_
     rw [show (fun j =>if j=k then (nv.st == 5) else decide (j<k) && ((vAt L (j:Int)).st == 5))=(fun j =>decide (j<k+1) && ((vAt L (j:Int)).st == 5)) from funext fun j =>by
      by_cases e:j=k
      ·subst e; rw [if_pos rfl,HNV.out]; simp
      ·rw [if_neg e]; simp only [Nat.lt_succ_iff_lt_or_eq,e,or_false]]
    ·exact (HM.out.alloc _).setCell _ _ fun _ =>rfl
   case measure =>simp [intOf]; omega
  ·obtain rfl:k=L.length :=by omega
   have hz4:own4 z=0 :=by rw [HZN.out]; exact HE4.out.new _ (Nat.le_refl _)
   have HE6 :=Hd (show Z0i own4 wr e c _ p _ from (HE4.out.keeps HK5.out).loc hm fun i _ h =>by rw [h]; exact hz4)
   have hk46:Mods (fun i =>i=z) w4 wr :=Mods.seq' hm HK5.out
   have hws :=HX4.out.mods.size
   have HX6 :=Hd (Z1l HX4.out hk46 fun i hi h =>by have :=HZN.out; omega)
   have HO16 :=Hd (hm.owns HO15.out fun j hj h =>by have :=HB1.out j hj; omega)
   have HO26 :=Hd (hk46.owns HO24.out fun j hj h =>by have :=(HO24.out.lt j hj).2; have :=HZN.out; omega)
   have HBL :=Hd (show Z9s wr (.slice (some ⟨z,0,none⟩) L.length L.length) L.length (pyR c E) from by
    obtain ⟨a,cap,e1,e2⟩ :=Z92 (c :=L.length) hzb
    refine ⟨a,cap,e1,fun h0 =>?_⟩
    obtain ⟨b,off,e3,e4⟩ :=e2 h0
    refine ⟨b,off,e3,fun j hj =>?_⟩
    rw [e4 j hj]
    unfold pyR pyL
    rw [← HQE.out,← HLE.out]
    simp [hj])
   have HSW :=Hd (fun (w':World) (hk':Z00 wr w') =>Zq5 (HE6.out.keeps hk') L.length (pyR c E) (.slice (some ⟨z,0,none⟩) L.length L.length) (c 14 - Q.length) (c 15 - P0.length) hcur (by omega) (HBL.out.mods hk' fun _ _ h =>h) fun j hj =>by injection hj with hj; rw [← hj]; exact hz4)
   have hc14 :=hV.c14
   have hc15 :=hV.c15
   have HW14 :=Hd (show IntKind.i64.wrap (c 14 - (Q.length:Int))=c 14 - (Q.length:Int) from by rw [IntKind.wrap_i64]; omega)
   have HW15 :=Hd (show IntKind.i64.wrap (c 15 - (P0.length:Int))=c 15 - (P0.length:Int) from by have :=HPL.out; rw [IntKind.wrap_i64]; omega)
   obtain ⟨lv6,hb6, -, -⟩ :=HE6.out.blk (by decide)
   have h6c :=Z09 hb6
   have x15:wr.cell? ⟨e,15,none⟩=some (.int .i64 (c 14)) :=by rw [cell_of_row _ _ _ _ _ _ hb6]; rfl
   have x16:wr.cell? ⟨e,16,none⟩=some (.int .i64 (c 15)) :=by rw [cell_of_row _ _ _ _ _ _ hb6]; rfl
   have HS6 :=Hd (fun (wx:World) (hk:Z00 wr wx) =>(⟨hk.cell h6c.2.2.2.2.2.1 fun h =>h,hk.cell x15 fun h =>h,hk.cell x16 fun h =>h⟩:wx.cell? ⟨e,25,none⟩=some (.pointer (some ⟨p.cu,0,none⟩))∧wx.cell? ⟨e,15,none⟩=some (.int .i64 (c 14))∧wx.cell? ⟨e,16,none⟩=some (.int .i64 (c 15))))
   obtain ⟨a2,n2,rfl⟩ :=Z0c HO2.out
   clear hm hzb hk46 hz4 hb6 h6c x15 x16 hc14 hc15
   go_wp2_with fail
   refine wp_region_held_drew (S :=(fun w' =>w'.cell? ⟨e,25,none⟩=some (.pointer (some ⟨p.cu,0,none⟩))∧w'.cell? ⟨e,15,none⟩=some (.int .i64 (c 14))∧w'.cell? ⟨e,16,none⟩=some (.int .i64 (c 15)))) (by kernel_rfl) (by exact HS6.out _ (Mods.refl _ wr).drew) (fun hH0 =>?_)
   refine tk 0 rfl hH0 ?_
   try go_frame
   refine tk 1 rfl hH0 ?_
   try go_frame
   refine tk 2 rfl hH0 ?_
   try go_frame
   refine tk 3 rfl hH0 ?_
   try go_frame
   refine tk 4 rfl hH0 ?_
   try go_frame
   refine tk 5 rfl hH0 ?_
   try go_frame
   refine tk 6 rfl hH0 ?_
   try go_frame
   refine tk 7 rfl hH0 ?_
   try go_frame
   refine tk 8 rfl hH0 ?_
   try go_frame
   refine tk 9 rfl hH0 ?_
   try go_frame
   refine tk 10 rfl hH0 ?_
   try go_frame
   refine tk 11 rfl hH0 ?_
   try go_frame
   refine tk 12 rfl hH0 ?_
   try go_frame
   refine tk 13 rfl hH0 ?_
   try go_frame
   refine tk 14 rfl hH0 ?_
   try go_frame
   refine tk 15 rfl hH0 ?_
   try go_frame
   refine tk 16 rfl hH0 ?_
   try go_frame
   refine tk 17 rfl hH0 ?_
   try go_frame
   refine tk 18 rfl hH0 ?_
   try go_frame
   refine tk 19 rfl hH0 ?_
   try go_frame
   refine rdy [20] (Z04 rfl (fun K hK =>?_) AllReadyH.nil)
   go_simp
   rw [HW14.out,HW15.out]
   refine (HSW.out _ (Mods.refl _ wr).drew).mono ?_
   rintro r w7 ⟨vf,rfl,hof,hE7,hX7,hzf⟩
   go_wp2_with fail
   obtain ⟨lv7,hb7, -, -⟩ :=hE7.blk (by decide)
   have h7c :=Z09 hb7
   refine hK.out _ _ (⟨h7c.2.2.2.2.2.1,by rw [cell_of_row _ _ _ _ _ _ hb7]; rfl,by rw [cell_of_row _ _ _ _ _ _ hb7]; rfl⟩) (fun hH1 =>?_)
   clear hK K hH0
   try go_frame
   refine tk 21 rfl hH1 ?_
   try go_frame
   refine tk 22 rfl hH1 ?_
   try go_frame
   refine tk 23 rfl hH1 ?_
   try go_frame
   refine tk 24 rfl hH1 ?_
   try go_frame
   refine tk 25 rfl hH1 ?_
   try go_frame
   refine wpAnyH_done (by kernel_rfl) ?_ _
   clear hH1
   have hX67 :=(Ext.keeps (own :=own4) (Mods.refl (fun _ =>False) wr).drew).trans hX7
   have hLP:pyL c E=L :=by unfold pyL; rw [← HQE.out,← HLE.out]
   have hPP:pyP c E=P0 :=by unfold pyP; rw [← HQE.out,← HPE.out]
   obtain ⟨FL,hFL⟩:∃ x,x=Z34 (pyR c E) L.length E.cur (c 14 - Q.length) (c 15 - P0.length) :=⟨_,rfl⟩
   have hFL2:pyF c E=FL :=by unfold pyF; rw [hLP,hPP,← HQE.out,hFL]
   have HFV :=Hd (show pyV c E=Z1o (pyR c E) L.length E.cur (c 14 - Q.length) (c 15 - P0.length) from by unfold pyV; rw [hLP,hPP,← HQE.out])
   have HFA :=Hd (show pyA c E=Z6p (pyR c E) L.length E.cur (c 14 - Q.length) (c 15 - P0.length) from by unfold pyA; rw [hLP,hPP,← HQE.out])
   have hFlt:∀ i∈FL,i<L.length :=fun i hi =>by rw [hFL] at hi; exact (Zjb i hi).1
   have hFll:FL.length≤4096 :=by
    rw [hFL]
    have h1 :=Zh8 (pyR c E) L.length E.cur (c 14 - Q.length) (c 15 - P0.length)
    have h2 :=(Z4c (pyR c E) L.length E.cur (c 14 - Q.length) (c 15 - P0.length)).1
    omega
   rw [← hFL] at hof
   obtain ⟨T,hT⟩:∃ T:Nat→List Vd × List Pm,T=fun k =>(FL.take k).foldl (pay1 (E.b / c 13) L) (L,P0) :=⟨_,rfl⟩
   have HT0 :=Hd (show T 0=(L,P0) from by rw [hT]; rfl)
   have HTS :=Hd (show ∀ k (hk:k<FL.length),T (k+1)=pay1 (E.b / c 13) L (T k) FL[k] from fun k hk =>by
    rw [hT]
    dsimp only
    rw [List.take_succ_eq_append_getElem hk,List.foldl_append]
    rfl)
   have HTE :=Hd (show T FL.length=pyS c E from by rw [hT]; dsimp only; rw [List.take_length]; unfold pyS; rw [hLP,hPP,hFL2])
   have HTI :=Hd (show ∀ k,PayI L 8192 (T k) from fun k =>by
    have h8 :=PayI.fold (ep :=E.b / c 13) HLOK.out (FL.take k) (s :=(L,P0)) (M :=4096) ⟨rfl,HLOK.out,Int.le_refl _,HPOK.out,HPL.out⟩ fun i hi =>hFlt i (List.mem_of_mem_take hi)
    rw [hT]
    have h9:(FL.take k).length≤4096 :=by rw [List.length_take]; omega
    exact ⟨h8.len,h8.ok,h8.tot,h8.pm,by have :=h8.pl; dsimp only at this ⊢; omega⟩)
   obtain ⟨E0,hE0⟩:∃ x:En,x = { E with pr :=E.pr.drop (c 16).toNat,vs :=L,cur :=pyA c E } := ⟨_,rfl⟩
   have HE0 :=Hd hE0
   have HE7 :=Hd (show Z0i own4 w7 e c { E0 with vs :=(T 0).1 } p (N+4 * L.length) from by rw [HT0.out,hE0,HFA.out]; exact hE7)
   have HX7 :=Hd (HX6.out.trans hX67)
   have HOF :=Hd hof
   have HZF :=Hd hzf
   have HO17 :=Hd (hX67.owns HO16.out HZ14.out)
   have HO27 :=Hd (show w7.ownsRow w.heap.size 58 3 (Value.slice a2 P0.length n2) (T 0).2.length (Z1u (T 0).2) from by rw [HT0.out]; exact own_base (hX67.owns HO26.out HZ24.out) hs13)
   obtain ⟨af,nf,rfl⟩ :=Z0c hof
   have hFlen:FL.length=FL.length :=rfl
   have HFLT :=Hd hFlt
   clear hE7 hX7 hX67 hof hzf hb7 h7c hLP hPP hFL hFL2 hFlt hT hE0 hFlen
   go_wp2_with fail
   have hsepf:∀ j,(Value.slice a2 P0.length n2).ownBlock=some j→(Value.slice a1 L.length n1).ownBlock≠some j∧(Value.slice af FL.length nf).ownBlock≠some j :=fun j hj =>⟨fun h =>HSEP.out j h hj,fun h =>by
    have h1 :=(HOF.out.lt j h).1
    have h2 :=(HO26.out.lt j hj).2
    exact absurd h2 (Nat.not_lt.2 h1)⟩
   have HSF :=Hd hsepf
   have HZ26 :=Hd (show ∀ k,(Value.slice a2 P0.length n2).ownBlock=some k→own4 k=0 from HZ24.out)
   clear hsepf
   go_loopw [5,90] (fun pv i wx => ∃ k:Nat,k≤FL.length∧i = .int .i64 k∧∃ own',Z0i own' wx e c { E0 with vs :=(T k).1 } p (N+4 * L.length+2 * k)∧Ext own w own' wx∧wx.ownsRow w.heap.size 58 3 pv (T k).2.length (Z1u (T k).2) ∧
    wx.ownsRow 0 49 7 (.slice a1 L.length n1) L.length (Z10 L)∧wx.ownsRow 0 3 1 (.slice af FL.length nf) FL.length (Z6w FL) ∧
    (∀ j,pv.ownBlock=some j→own' j=0∧(Value.slice a1 L.length n1).ownBlock≠some j∧(Value.slice af FL.length nf).ownBlock≠some j)∧(∀ j,(Value.slice a1 L.length n1).ownBlock=some j→own' j=0)∧(∀ j,(Value.slice af FL.length nf).ownBlock=some j→own' j=0)) (fun _ i _ =>FL.length - (intOf i).toNat)
   case atStart =>exact ⟨0,Nat.zero_le _,rfl,own4,HE7.out,HX7.out,HO27.out,own_base HO17.out (Nat.zero_le _),own_base HOF.out (Nat.zero_le _),fun j hj =>⟨HZ26.out j hj,HSF.out j hj⟩,HZ14.out,HZF.out⟩
   case round =>
    obtain ⟨k,hk,rfl,own8,hE8,hX8,ho8,ho18,hof8,hz8,hz18,hzf8⟩ :=hrel
    by_cases hlt:k<FL.length
    ·have hki:(k:Int)<(FL.length:Int) :=Int.ofNat_lt.2 hlt
     have hil :=HFLT.out FL[k] (List.getElem_mem hlt)
     have hst :=HTS.out k hlt
     have hti :=HTI.out k
     rcases hof8.2 with ⟨h2,_⟩ | ⟨gf,cap,cur,hvv,hg,hh,r⟩
     ·injection h2 with _ h2
      omega
     simp only [Value.slice.injEq] at hvv
     obtain ⟨rfl,_,rfl⟩ :=hvv
     have hc:wr.cell? ⟨gf,k,none⟩=some (.int .i64 (FL[k]:Nat)) :=by
      rw [hof8.cellAt k (by omega)]
      simp [Z6w,hlt]
     generalize FL[k]=i at *
     obtain ⟨b,rfl, -, -⟩ :=Z7x ho18 i hil
     obtain ⟨b',off,cap',e1,r1⟩ :=Z2y (VL.of_owns ho18) (i :=(i:Int)) ⟨by omega,by omega⟩
     injection e1 with e1 _ e1'
     injection e1 with e1
     injection e1 with e1 e1''
     subst e1 e1' e1''
     rw [Nat.zero_add,Int.toNat_natCast] at r1
     have hVok :=Z5o HLOK.out (i :=(i:Int)) ⟨by omega,by omega⟩
     obtain ⟨v0,hv0⟩:∃ x,x=vAt L (i:Int) :=⟨_,rfl⟩
     rw [← hv0] at r1 hVok
     obtain ⟨ep,hep⟩:∃ x,x=E.b / c 13 :=⟨_,rfl⟩
     have HPY :=Hd (fun w =>Zgo v0 hVok ep w)
     obtain ⟨PF,hPF⟩:∃ x,x=payF ep v0 :=⟨_,rfl⟩
     obtain ⟨AM,hAM⟩:∃ x,x=(if PF.1=0 then v0.bal else 0) :=⟨_,rfl⟩
     rw [← hPF,← hAM] at HPY
     have HST :=Hd (show T (k+1)=((T k).1.set i PF.2,(T k).2 ++ [((i:Int),AM,true)]) from hst.trans (by unfold pay1; rw [← hep,← hv0,← hPF,← hAM]))
     have htl:i<(T k).1.length :=by rw [hti.len]; exact hil
     have hsum:totS ((T k).1.set i PF.2)≤maxU :=by
      have h1 :=(HTI.out (k+1)).tot
      rw [HST.out] at h1
      have h2 :=HLT.out
      have h3 :=HSS.out 0 (Z2u HVS.out)
      dsimp only at h1
      omega
     have hPok :=(Zk4 hVok ep).1
     rw [← hPF] at hPok
     have hb0':E0.b=E.b :=by rw [HE0.out]
     have HEPO :=Hd (fun (w':World) (hk':Z00 wr w') =>Z12 p.ck E.b (c 13) w' (by have h1 :=(hE8.keeps hk').ck (by decide); dsimp only at h1; rw [hb0'] at h1; exact h1) hb0 (by omega) hV.c13.1)
     rw [← hep] at HEPO
     have HCH :=Hd (fun (w':World) (hk':Z00 wr w') =>Z4z (hE8.keeps hk') PF.2 hPok i htl hsum (by omega))
     obtain ⟨lv8,hb8, -, -⟩ :=hE8.blk (by decide)
     have h8c :=Z09 hb8
     have HS8 :=Hd (fun (wx:World) (hk':Z00 wr wx) =>(⟨Z0n r1 hk',hk'.cell h8c.2.1 fun h =>h,hk'.cell h8c.1 fun h =>h⟩:wx.rangeAt b (i * 7) v0.cells.toList∧wx.cell? ⟨e,21,none⟩=some (.pointer (some ⟨p.ck,0,none⟩))∧wx.cell? ⟨e,0,none⟩=some (.pointer (some ⟨p.rg,0,none⟩))))
     have HE8 :=Hd hE8
     have HX8 :=Hd hX8
     have HO8 :=Hd ho8
     have HO18 :=Hd ho18
     have HOF8 :=Hd hof8
     have HZ8 :=Hd hz8
     have HZ18 :=Hd hz18
     have HZF8 :=Hd hzf8
     have hil':(i:Int)<(L.length:Int) :=by omega
     obtain ⟨pa,pn,rfl⟩ :=Z0c ho8
     have hpl8 :=hti.pl
     clear hE8 hX8 ho8 ho18 hof8 hz8 hz18 hzf8 hst hti hh r hg r1 hVok hv0 hep hPF hAM htl hsum hPok hb0' hb8 h8c
     go_wp2_with fail
     go_cut [14,15,16] (fun s14 s15 s16 wx => ∃ z,s14 = .pointer (some ⟨z,0,none⟩)∧s15 = .int .u64 AM∧s16 = .int .i64 PF.1∧wr.heap.size≤z∧wx.heap[z]? = some (vdB PF.2)∧Z00 wr wx)
     case first =>
      refine Z07 (S :=(fun w' =>w'.rangeAt b (i * 7) v0.cells.toList∧w'.cell? ⟨e,21,none⟩=some (.pointer (some ⟨p.ck,0,none⟩))∧w'.cell? ⟨e,0,none⟩=some (.pointer (some ⟨p.rg,0,none⟩)))) (by kernel_rfl) (by exact HS8.out _ (Mods.refl _ wr).drew) (fun wc hD hH0 =>?_)
      have HK :=Hd (show Z00 wr wc from hD.mods)
      clear hD
      refine tk 0 rfl hH0 ?_
      try go_frame
      refine tk 1 rfl hH0 ?_
      try go_frame
      refine tk 2 rfl hH0 ?_
      try go_frame
      refine tkb 3 rfl hH0 (yieldsIf_load_mid (by rfl) 49 (.tmp 97) rfl b (i * 7) rfl v0.cells.toList _ (fun _ h =>h.1) Tryz.underlying49 rfl Z4n) ?_
      try go_frame
      refine tk 4 rfl hH0 ?_
      try go_frame
      refine tk 5 rfl hH0 ?_
      try go_frame
      refine tk 6 rfl hH0 ?_
      try go_frame
      refine tk 7 rfl hH0 ?_
      try go_frame
      refine rdy [8,14] (Z04 rfl (fun K hK =>?_) (Z04 rfl (fun K hK =>?_) AllReadyH.nil))
      ·go_simp
       refine (HEPO.out _ HK.out).mono ?_
       rintro r wc ⟨rfl,hk⟩
       go_wp2_with fail
       refine hK.out _ _ (HS8.out _ (HK.out.keep hk)) (fun hH1 =>?_)
       clear hK K hH0
       try go_frame
       replace HK :=Hd (HK.out.keep hk)
       try replace HZ :=Hd (hk.at HZ.out fun h =>h)
       clear hk
       refine rdy [9,14] (Z04 rfl (fun K hK =>?_) (Z04 rfl (fun K hK =>?_) AllReadyH.nil))
       ·go_simp
        refine (HPY.out _).mono ?_
        rintro r wc ⟨rfl,hk⟩
        go_wp2_with fail
        refine hK.out _ _ (HS8.out _ (HK.out.keep hk)) (fun hH2 =>?_)
        clear hK K hH1
        try go_frame
        replace HK :=Hd (HK.out.keep hk)
        try replace HZ :=Hd (hk.at HZ.out fun h =>h)
        clear hk
        refine tk 10 rfl hH2 ?_
        try go_frame
        refine tk 11 rfl hH2 ?_
        try go_frame
        refine tk 12 rfl hH2 ?_
        try go_frame
        refine tk 13 rfl hH2 ?_
        try go_frame
        refine rdy [14] (Z04 rfl (fun K hK =>?_) AllReadyH.nil)
        go_simp
        have hsbn:wr.heap.size≤wc.heap.size :=HK.out.size
        generalize hsz5:wc.heap.size=z at *
        refine Z14 ?_
        intro wc hwd
        have hk :=Z0f hwd
        have hn :=Z0g hwd
        rw [hsz5] at hn
        refine hK.out _ _ (HS8.out _ (HK.out.keep hk)) (fun hH3 =>?_)
        clear hK K hH2
        try go_frame
        replace HK :=Hd (HK.out.keep hk)
        have HZ :=Hd (show wc.heap[z]? = some (vdB vd0) from hn)
        have HZN :=Hd hsbn
        clear hwd hk hn hsz5 hsbn
        refine rdy [15] (Z04 rfl (fun K hK =>?_) AllReadyH.nil)
        refine Z0d (by rfl) (.tmp 14) (.tmp 105) rfl z PF.2 vd0 (by rfl) (by rfl) HZ.out ?_
        intro wc hz hm
        have hk:Z00 wr wc :=HK.out.seq hm fun i hi e =>by have :=HZN.out; omega
        refine hK.out _ _ (HS8.out _ hk) (fun hH4 =>?_)
        clear hK K hH3
        try go_frame
        replace HK :=Hd hk
        have HF :=Hd hz
        clear hz hm hk HZ
        refine tk 16 rfl hH4 ?_
        try go_frame
        refine tk 17 rfl hH4 ?_
        try go_frame
        refine wpAnyH_done (by kernel_rfl) ?_ _
        have hS :=Hd hH4
        clear hH4
        go_wp2_with fail
        go_meet
        case rel =>exact ⟨_,rfl,rfl,rfl,HZN.out,HF.out,HK.out⟩
       ·go_simp
        have hsbn:wr.heap.size≤wc.heap.size :=HK.out.size
        generalize hsz5:wc.heap.size=z at *
        refine Z14 ?_
        intro wc hwd
        have hk :=Z0f hwd
        have hn :=Z0g hwd
        rw [hsz5] at hn
        refine hK.out _ _ (HS8.out _ (HK.out.keep hk)) (fun hH2 =>?_)
        clear hK K hH1
        try go_frame
        replace HK :=Hd (HK.out.keep hk)
        have HZ :=Hd (show wc.heap[z]? = some (vdB vd0) from hn)
        have HZN :=Hd hsbn
        clear hwd hk hn hsz5 hsbn
        refine rdy [9] (Z04 rfl (fun K hK =>?_) AllReadyH.nil)
        go_simp
        refine (HPY.out _).mono ?_
        rintro r wc ⟨rfl,hk⟩
        go_wp2_with fail
        refine hK.out _ _ (HS8.out _ (HK.out.keep hk)) (fun hH3 =>?_)
        clear hK K hH2
        try go_frame
        replace HK :=Hd (HK.out.keep hk)
        try replace HZ :=Hd (hk.at HZ.out fun h =>h)
        clear hk
        refine tk 10 rfl hH3 ?_
        try go_frame
        refine tk 11 rfl hH3 ?_
        try go_frame
        refine tk 12 rfl hH3 ?_
        try go_frame
        refine tk 13 rfl hH3 ?_
        try go_frame
        refine rdy [15] (Z04 rfl (fun K hK =>?_) AllReadyH.nil)
        refine Z0d (by rfl) (.tmp 14) (.tmp 105) rfl z PF.2 vd0 (by rfl) (by rfl) HZ.out ?_
        intro wc hz hm
        have hk:Z00 wr wc :=HK.out.seq hm fun i hi e =>by have :=HZN.out; omega
        refine hK.out _ _ (HS8.out _ hk) (fun hH4 =>?_)
        clear hK K hH3
        try go_frame
        replace HK :=Hd hk
        have HF :=Hd hz
        clear hz hm hk HZ
        refine tk 16 rfl hH4 ?_
        try go_frame
        refine tk 17 rfl hH4 ?_
        try go_frame
        refine wpAnyH_done (by kernel_rfl) ?_ _
        have hS :=Hd hH4
        clear hH4
        go_wp2_with fail
        go_meet
        case rel =>exact ⟨_,rfl,rfl,rfl,HZN.out,HF.out,HK.out⟩
      ·go_simp
       have hsbn:wr.heap.size≤wc.heap.size :=HK.out.size
       generalize hsz5:wc.heap.size=z at *
       refine Z14 ?_
       intro wc hwd
       have hk :=Z0f hwd
       have hn :=Z0g hwd
       rw [hsz5] at hn
       refine hK.out _ _ (HS8.out _ (HK.out.keep hk)) (fun hH1 =>?_)
       clear hK K hH0
       try go_frame
       replace HK :=Hd (HK.out.keep hk)
       have HZ :=Hd (show wc.heap[z]? = some (vdB vd0) from hn)
       have HZN :=Hd hsbn
       clear hwd hk hn hsz5 hsbn
       refine rdy [8] (Z04 rfl (fun K hK =>?_) AllReadyH.nil)
       go_simp
       refine (HEPO.out _ HK.out).mono ?_
       rintro r wc ⟨rfl,hk⟩
       go_wp2_with fail
       refine hK.out _ _ (HS8.out _ (HK.out.keep hk)) (fun hH2 =>?_)
       clear hK K hH1
       try go_frame
       replace HK :=Hd (HK.out.keep hk)
       try replace HZ :=Hd (hk.at HZ.out fun h =>h)
       clear hk
       refine rdy [9] (Z04 rfl (fun K hK =>?_) AllReadyH.nil)
       go_simp
       refine (HPY.out _).mono ?_
       rintro r wc ⟨rfl,hk⟩
       go_wp2_with fail
       refine hK.out _ _ (HS8.out _ (HK.out.keep hk)) (fun hH3 =>?_)
       clear hK K hH2
       try go_frame
       replace HK :=Hd (HK.out.keep hk)
       try replace HZ :=Hd (hk.at HZ.out fun h =>h)
       clear hk
       refine tk 10 rfl hH3 ?_
       try go_frame
       refine tk 11 rfl hH3 ?_
       try go_frame
       refine tk 12 rfl hH3 ?_
       try go_frame
       refine tk 13 rfl hH3 ?_
       try go_frame
       refine rdy [15] (Z04 rfl (fun K hK =>?_) AllReadyH.nil)
       refine Z0d (by rfl) (.tmp 14) (.tmp 105) rfl z PF.2 vd0 (by rfl) (by rfl) HZ.out ?_
       intro wc hz hm
       have hk:Z00 wr wc :=HK.out.seq hm fun i hi e =>by have :=HZN.out; omega
       refine hK.out _ _ (HS8.out _ hk) (fun hH4 =>?_)
       clear hK K hH3
       try go_frame
       replace HK :=Hd hk
       have HF :=Hd hz
       clear hz hm hk HZ
       refine tk 16 rfl hH4 ?_
       try go_frame
       refine tk 17 rfl hH4 ?_
       try go_frame
       refine wpAnyH_done (by kernel_rfl) ?_ _
       have hS :=Hd hH4
       clear hH4
       go_wp2_with fail
       go_meet
       case rel =>exact ⟨_,rfl,rfl,rfl,HZN.out,HF.out,HK.out⟩
     case rest =>
      obtain ⟨z,rfl,rfl,rfl,hzn,hz,hk⟩ :=hcut
      obtain ⟨w9,hw9⟩:∃ x,x=wc :=⟨_,rfl⟩
      subst hw9
      have HZ9 :=Hd hz
      have HK9 :=Hd hk
      clear hz hk
      go_wp2_with fail
      refine wp_region_held_drew (S :=(fun w' =>w'.heap[z]? = some (vdB PF.2)∧w'.cell? ⟨e,0,none⟩=some (.pointer (some ⟨p.rg,0,none⟩)))) (by kernel_rfl) (by exact ⟨HZ9.out,(HS8.out _ HK9.out.drew).2.2⟩) (fun hH0 =>?_)
      refine tk 0 rfl hH0 ?_
      try go_frame
      refine tk 1 rfl hH0 ?_
      try go_frame
      refine tk 2 rfl hH0 ?_
      try go_frame
      refine tk 3 (v :=tabV p.rg) rfl hH0 ?_
      try go_frame
      refine tk 4 rfl hH0 ?_
      try go_frame
      refine tkb 5 rfl hH0 (Z13 (by rfl) (.tmp 14) rfl z rfl PF.2 (fun _ h =>h.1)) ?_
      try go_frame
      refine rdy [6] (Z04 rfl (fun K hK =>?_) AllReadyH.nil)
      have hkc :=HK9.out.drew
      go_simp
      refine (HCH.out _ hkc).mono ?_
      rintro r w10 ⟨rfl,own9,hE9,hX9⟩
      go_wp2_with fail
      have hz0:own8 z=0 :=HE8.out.new z hzn
      have HZ10 :=Hd ((hX9.at (b :=z) HZ9.out hz0).1)
      obtain ⟨lv9,hb9, -, -⟩ :=hE9.blk (by decide)
      have f0 :=(Z09 hb9).1
      refine hK.out _ _ (⟨HZ10.out,f0⟩) (fun hH1 =>?_)
      clear hK K hH0
      try go_frame
      refine wpAnyH_done (by kernel_rfl) ?_ _
      clear hH1
      have hX89 :=(Ext.keeps (own :=own8) hkc).trans hX9
      have HX9 :=Hd (HX8.out.trans hX89)
      have HO9 :=Hd (hX89.owns HO8.out fun j hj =>(HZ8.out j hj).1)
      have HO19 :=Hd (hX89.owns HO18.out HZ18.out)
      have HOF9 :=Hd (hX89.owns HOF8.out HZF8.out)
      have HZ9' :=Hd (show ∀ j,(Value.slice pa (T k).2.length pn).ownBlock=some j→own9 j=0 from fun j hj =>(hX89.old j (HO8.out.lt j hj).2).trans (HZ8.out j hj).1)
      have HZ19 :=Hd (show ∀ j,(Value.slice (some ⟨b,0,none⟩) L.length n1).ownBlock=some j→own9 j=0 from fun j hj =>(hX89.old j (HO18.out.lt j hj).2).trans (HZ18.out j hj))
      have HZF9 :=Hd (show ∀ j,(Value.slice (some ⟨gf,0,none⟩) FL.length nf).ownBlock=some j→own9 j=0 from fun j hj =>(hX89.old j (HOF8.out.lt j hj).2).trans (HZF8.out j hj))
      have HE9 :=Hd hE9
      have hs89 :=hX89.mods.size
      have hsw:w.heap.size≤w10.heap.size :=HX9.out.mods.size
      obtain ⟨i0,hi0,hz0',hz1,hz2⟩ :=info_parts Zn4
      clear hX9 hE9 hb9 f0 hX89 hkc
      go_wp2_with (at_builtin; refine Z0e.out ?_)
      refine Z0e.mk ?_
      refine wpList_append_lies _ rfl _ _ 44 rfl w.heap.size 58 i0 zM 3 24 Tryz.underlying44 hi0 hz0' hz1 hz2 rfl (by decide) _ _ _ rfl (HO9.out.alloc _) ⟨w10.heap.size,0,none⟩ 1 1 [.int .i64 (i:Int), .int .u64 AM, .bool true] rfl rfl (Z89 _ _ _) (fun u hu =>by simp at hu; rcases hu with rfl | rfl | rfl <;> rfl) (by decide) (by unfold maxLen; omega) (by omega) (by simp; omega) _ rfl ?_
      intro ng nc w11 hown hgrow hng _
      have hm6:Mods (fun j =>(Value.slice pa (T k).2.length pn).ownBlock=some j) w10 w11 :=((Mods.refl _ w10).alloc _).seq ((Mods.refl (fun j =>(Value.slice pa (T k).2.length pn).ownBlock=some j) _).grown hgrow fun k _ h =>h) fun j _ h =>h
      have HE11 :=Hd (HE9.out.loc hm6 fun j _ hj =>HZ9'.out j hj)
      have HX11 :=Hd (Z1l HX9.out hm6 fun j hj h =>by have :=(HO9.out.lt j h).1; omega)
      have HO111 :=Hd (hm6.owns HO19.out fun j hj h =>(HZ8.out j h).2.1 hj)
      have HOF11 :=Hd (hm6.owns HOF9.out fun j hj h =>(HZ8.out j h).2.2 hj)
      have hto:T (k+1)=((T k).1.set i PF.2,(T k).2 ++ [((i:Int),AM,true)]) :=HST.out
      have HO11 :=Hd (show w11.ownsRow w.heap.size 58 3 (.slice (some ⟨ng,0,none⟩) ((T k).2.length+1) nc) (T (k+1)).2.length (Z1u (T (k+1)).2) from by rw [hto,Z79,List.length_append]; exact hown)
      have hnew10:ng=w10.heap.size+1→own9 ng=0∧b≠ng∧gf≠ng :=fun h =>⟨HE9.out.new ng (by omega),fun h2 =>by have :=(HO19.out.lt b rfl).2; omega,fun h2 =>by have :=(HOF9.out.lt gf rfl).2; omega⟩
      have HZ11 :=Hd (show ∀ j,(Value.slice (some ⟨ng,0,none⟩) ((T k).2.length+1) nc).ownBlock=some j→own9 j=0∧(Value.slice (some ⟨b,0,none⟩) L.length n1).ownBlock≠some j∧(Value.slice (some ⟨gf,0,none⟩) FL.length nf).ownBlock≠some j from fun j hj =>by
       injection hj with hj
       rcases hng with h | h
       ·rw [← hj]
        exact ⟨HZ9'.out _ h,(HZ8.out _ h).2⟩
       ·rw [← hj]
        obtain ⟨u1,u2,u3⟩ :=hnew10 (by rw [h]; simp)
        exact ⟨u1,fun h =>u2 (by injection h),fun h =>u3 (by injection h)⟩)
      have hE0n:({ E0 with vs :=(T (k+1)).1 }:En) = { E0 with vs :=(T k).1.set i PF.2 } := by rw [hto]
      have HTL :=Hd (show (T (k+1)).2.length=(T k).2.length+1 from by rw [hto,List.length_append]; rfl)
      clear hgrow hown hm6 hng hto hnew10
      go_wp2_with fail
      go_roundw
      case rel =>exact ⟨k+1,by omega,by go_num,own9,by rw [hE0n]; exact HE11.out.mono (by omega),HX11.out,HO11.out,own_base HO111.out (Nat.zero_le _),own_base HOF11.out (Nat.zero_le _),HZ11.out,HZ19.out,HZF9.out⟩
      case measure =>simp [intOf]; omega
    ·obtain rfl:k=FL.length :=by omega
     have hti :=HTI.out FL.length
     rw [HTE.out] at hE8 ho8 hti
     obtain ⟨R,hR⟩:∃ x,x=(pyS c E).2 :=⟨_,rfl⟩
     obtain ⟨VS,hVS⟩:∃ x,x=(pyS c E).1 :=⟨_,rfl⟩
     rw [← hVS] at hE8
     rw [← hR] at ho8
     have hpm:PmOk R :=by rw [hR]; exact hti.pm
     have hRl:R.length≤8192 :=by rw [hR]; exact hti.pl
     obtain ⟨pa,pn,rfl⟩ :=Z0c ho8
     have HPM :=Hd hpm
     have HR :=Hd hR
     have HVSS :=Hd hVS
     have HE8 :=Hd hE8
     have HX8 :=Hd hX8
     have HO8 :=Hd ho8
     have HZ8 :=Hd (show ∀ j,(Value.slice pa R.length pn).ownBlock=some j→own8 j=0 from fun j hj =>(hz8 j hj).1)
     have hlenF :=HFLT.out
     have hfl8:FL.length=FL.length :=rfl
     clear hE8 hX8 ho8 ho18 hof8 hz8 hz18 hzf8 hti hlenF hfl8 hpm hR hVS
     go_wp2_with fail
     go_loopw [124] (fun i wx => ∃ k:Nat,k≤R.length∧i = .int .i64 k∧∃ own',Z0i own' wx e c { E0 with vs :=VS,led :=Z3t E0.led (R.take k) } p (N+40000)∧Ext own w own' wx∧wx.ownsRow w.heap.size 58 3 (Value.slice pa R.length pn) R.length (Z1u R)∧∀ j,(Value.slice pa R.length pn).ownBlock=some j→own' j=0) (fun i _ =>R.length - (intOf i).toNat)
     case atStart =>exact ⟨0,Nat.zero_le _,rfl,own8,by rw [List.take_zero]; exact HE8.out.mono (by omega),HX8.out,HO8.out,HZ8.out⟩
     case round =>
      obtain ⟨k,hk,rfl,own9,hE9,hX9,ho9,hz9⟩ :=hrel
      by_cases hlt:k<R.length
      ·have hki:(k:Int)<(R.length:Int) :=Int.ofNat_lt.2 hlt
       obtain ⟨g,gc,hvv,q0,q1,q2⟩ :=Zi0 ho9 k hlt
       simp only [Value.slice.injEq] at hvv
       obtain ⟨rfl,_,rfl⟩ :=hvv
       have hpk :=HPM.out R[k] (List.getElem_mem hlt)
       have HST :=Hd (show Z3t E0.led (R.take (k+1))=(Z3t E0.led (R.take k)).pay R[k].2.1 from by rw [List.take_succ_eq_append_getElem hlt,Zdq])
       generalize R[k]=a at *
       obtain ⟨ix,am,fl⟩ :=a
       dsimp only at q0 q1 q2 hpk HST
       have hlok :=(hE9.ld (by decide)).2
       dsimp only at hlok
       have HPAY :=Hd (fun (w':World) (hk:Z00 wr w') =>Zqp (hE9.keeps hk) am hpk.1 hpk.2 (Led.pay_ok hlok hpk.1))
       obtain ⟨lv9,hb9, -, -⟩ :=hE9.blk (by decide)
       have h9c :=(Z09 hb9).2.2.1
       have HS9 :=Hd (fun (wx:World) (hk:Z00 wr wx) =>(hk.cell h9c fun h =>h:wx.cell? ⟨e,22,none⟩=some (.pointer (some ⟨p.ld,0,none⟩))))
       have HE9 :=Hd hE9
       have HX9 :=Hd hX9
       have HO9 :=Hd ho9
       have HZ9 :=Hd hz9
       clear hE9 hX9 ho9 hz9 hpk hlok hb9 h9c
       go_wp2_with fail
       refine Z0l ?_
       intro w3 hw3
       have hb3 :=Z0g hw3
       have hk3 :=Z0f hw3
       have y1 :=(Z0b hb3).2.1
       have HK3 :=Hd hk3
       have HY1 :=Hd y1
       clear hw3 hb3 hk3 y1
       refine wp_region_held_drew (S :=(fun w' =>w'.cell? ⟨e,22,none⟩=some (.pointer (some ⟨p.ld,0,none⟩))∧w'.cell? ⟨wr.heap.size,1,none⟩=some (.int .u64 am))) (by kernel_rfl) (by exact ⟨HS9.out _ HK3.out.drew,((Mods.refl (fun _ =>False) w3).drew).cell HY1.out fun h =>h⟩) (fun hH0 =>?_)
       refine tk 0 rfl hH0 ?_
       try go_frame
       refine tk 1 rfl hH0 ?_
       try go_frame
       refine tk 2 rfl hH0 ?_
       try go_frame
       refine tk 3 rfl hH0 ?_
       try go_frame
       refine tk 4 rfl hH0 ?_
       try go_frame
       refine tk 5 rfl hH0 ?_
       try go_frame
       refine rdy [6] (Z04 rfl (fun K hK =>?_) AllReadyH.nil)
       go_simp
       have hkc :=HK3.out.drew
       refine (HPAY.out _ hkc).mono ?_
       rintro r w6 ⟨rfl,own10,hE10,hX10⟩
       go_wp2_with fail
       have hz0:own9 wr.heap.size=0 :=HE9.out.new _ (Nat.le_refl _)
       obtain ⟨lv10,hb10, -, -⟩ :=hE10.blk (by decide)
       have hzc:w6.cell? ⟨wr.heap.size,1,none⟩=some (.int .u64 am) :=hX10.mods.cell (((Mods.refl (fun _ =>False) w3).drew).cell HY1.out fun h =>h) fun h =>h hz0
       refine hK.out _ _ (⟨(Z09 hb10).2.2.1,hzc⟩) (fun hH1 =>?_)
       clear hK K hH0
       try go_frame
       refine wpAnyH_done (by kernel_rfl) ?_ _
       clear hH1
       have hX910 :=(Ext.keeps (own :=own9) hkc).trans hX10
       have HE10 :=Hd hE10
       have HX10 :=Hd (HX9.out.trans hX910)
       have HO10 :=Hd (hX910.owns HO9.out HZ9.out)
       have HZ10 :=Hd (show ∀ j,(Value.slice (some ⟨g,0,none⟩) R.length pn).ownBlock=some j→own10 j=0 from fun j hj =>(hX910.old j (HO9.out.lt j hj).2).trans (HZ9.out j hj))
       clear hE10 hX10 hb10 hzc hX910 hkc hz0
       go_wp2_with fail
       go_roundw
       case rel =>exact ⟨k+1,by omega,by go_num,own10,by rw [HST.out]; exact HE10.out,HX10.out,HO10.out,HZ10.out⟩
       case measure =>simp [intOf]; omega
      ·obtain rfl:k=R.length :=by omega
       rw [List.take_length] at hE9
       have hEE:({ E0 with vs :=VS,led :=Z3t E0.led R }:En)=Z9v c E :=by rw [HE0.out,HVSS.out,HR.out]; rfl
       rw [hEE] at hE9
       have HE9 :=Hd hE9
       have HX9 :=Hd hX9
       have HO9 :=Hd ho9
       have HZ9 :=Hd hz9
       have HWN :=Hd (show wrap64 ((Q.length:Int)+(Z1o (pyR c E) L.length E.cur (c 14 - Q.length) (c 15 - P0.length):Nat))=Z6b c E from by
        have h1 :=(Z4c (pyR c E) L.length E.cur (c 14 - Q.length) (c 15 - P0.length)).1
        have h2 :=HLN.out
        unfold Z6b
        rw [HFV.out,← HQE.out]
        exact iw (by omega) (by omega))
       clear hE9 hX9 ho9 hz9 hEE
       go_wp2
       go_ret2
       rw [HWN.out,← HR.out]
       exact ⟨_,rfl,own9,HE9.out,HX9.out,HO9.out,HZ9.out⟩
end Go.Proofs.YtecapfmmoejikaaGreat
