/- A part of the proofs of the top laws: ActB ActC BndB. -/
import Derived.Shelf.Abstract
import Derived.WalkKit
import Derived.OwnWalkIn
import Derived.TacticsInMore
import Derived.LoopNIn
import Derived.LoopIn
import Derived.Maps.AppendAt
import Derived.Test.YtecapfmmoejikaaGreatPkBi
import Derived.Test.YtecapfmmoejikaaGreatPkBh
set_option maxRecDepth 4000
set_option maxHeartbeats 8000000
namespace Go.Proofs.YtecapfmmoejikaaGreat
open Go.RowKit Go.Eg Go.Shelf
attribute [local go_sem] Oper.semAt_some
theorem Zic (lim:Int) (ws:List Int) (k:Nat) (hk:k<ws.length) (f:Bool) (s:Int):actN lim f s (ws.drop k)=if (budS lim f s ws[k]).1=true then actN lim (budS lim f s ws[k]).2.2 (budS lim f s ws[k]).2.1 (ws.drop (k+1))+1 else 0 :=by
 rw [List.drop_eq_getElem_cons hk]
 rw [actN]
 by_cases h:f=false∧lim<s+ws[k]
 ·have e:budS lim f s ws[k]=(false,s,f) :=if_pos h
  rw [if_pos h,e]
  rfl
 ·have e:budS lim f s ws[k]=(true,s+ws[k],false) :=if_neg h
  rw [if_neg h,e]
  rfl
theorem mlt {K k a:Nat} (h:k+(a+1)=K):K - (k+1)<K - k :=by omega
theorem mrel {K k a:Nat} (h:k+(a+1)=K):k+1+a=K :=by omega
theorem Zno {lim s x:Int} {f:Bool} (h:(budS lim f s x).1=true) (hl:lim≤maxU) (s0:0≤s) (x0:0≤x) (x1:x≤maxU) (hf:f=true→s=0):0≤(budS lim f s x).2.1∧(budS lim f s x).2.1≤maxU∧(budS lim f s x).2.2=false :=by
 unfold budS at h ⊢
 by_cases hc:f=false∧lim<s+x
 ·rw [if_pos hc] at h; cases h
 ·rw [if_neg hc]
  refine ⟨by dsimp only; omega, ?_,rfl⟩
  dsimp only
  cases f
  ·have : ¬ lim<s+x :=fun e =>hc ⟨rfl,e⟩
   omega
  ·have :=hf rfl; omega
def Zo8 (w:World) (b:Nat):Nat :=match w.cell? ⟨b,0,none⟩ with
 | some (.int _ k) =>k.toNat
 | _ =>0
theorem Zf9 {w:World} {b:Nat} {k:Nat} (h:w.heap[b]? = some (oneB (k:Int))):Zo8 w b=k :=by
 unfold Zo8
 have:w.cell? ⟨b,0,none⟩=some (.int .i64 (k:Int)) :=by simp [World.cell?,h]
 rw [this]
 simp
/-- the iterator: it yields the first K of the pending -/
theorem Zk0 {SR:Nat→Prop} {sz pg:Nat} (pe:List Int) (bl:List Int) (lim:Int) (bL bQ bF bW:Nat) (sa:Option Addr) (sc:Nat) (l:Nat) (J:List Int→World→Prop) (U:Nat→Prop) (W:World)
 (hL:W.heap[bL]? = some (u1B lim)) (hQ:W.heap[bQ]? = some (riB pg)) (hF:W.heap[bF]? = some (oneB 0)) (hWt:W.heap[bW]? = some (suB sa bl.length sc))
 (hR:Z1n SR W pg sz pe) (hB:W.ownsRow 0 22 1 (.slice sa bl.length sc) bl.length (bl.map fun x =>.int .u64 x)) (hbl:∀ x∈bl,0≤x∧x≤maxU) (hlm:lim≤maxU)
 (hns:bL≠bF∧bQ≠bF∧bW≠bF∧¬ SR bF∧sa.map (·.block)≠some bF)
 (hU:∀ i,U i→i≠bL∧i≠bQ∧i≠bF∧i≠bW∧¬ SR i∧sa.map (·.block)≠some i∧(i<W.heap.size∨W.heap.size+3≤i))
 (hJ:∀ s A A',J s A→Mods (fun i =>i=bF∨W.heap.size≤i∧i<W.heap.size+3) A A'→J s A')
 (hY:∀ pre x W1,J pre W1→W.heap.size+3≤W1.heap.size→pre ++ [x]=pe.take (pre.length+1)→YieldAt Fence.wide 8 Tryz.prog l #[.int .i64 x] W1 fun e W' =>e = .returned (.bool true)∧J (pre ++ [x]) W'∧Mods U W1 W')
 (h0:J [] W) :
 CallsIn Fence.wide 9 Tryz.prog 209 #[.func (.yield l) #[] #[], .pointer (some ⟨bL,0,none⟩), .pointer (some ⟨bQ,0,none⟩), .pointer (some ⟨bF,0,none⟩), .pointer (some ⟨bW,0,none⟩)] W fun e W' =>(∃ v,e = .returned v) ∧
  ∃ xs,xs=pe.take (actN lim true 0 (pe.map (wgt bl)))∧J xs W' :=by
 have c1:W.cell? ⟨bL,0,none⟩=some (.int .u64 lim) :=by simp [World.cell?,hL]
 have hpe:pe.length≤4096 :=Nat.le_trans hR.2.2.2.1 hR.2.2.1
 have HBUD :=Hd (fun w =>Zhl lim w)
 have HL :=Hd hL
 have HQ :=Hd hQ
 have HF :=Hd hF
 have HW :=Hd hWt
 have HR :=Hd hR
 have HB :=Hd hB
 have HBL :=Hd hbl
 have HNS :=Hd hns
 have HU :=Hd hU
 have HJ :=Hd hJ
 have HY :=Hd hY
 have H0 :=Hd h0
 clear hL hQ hF hWt hR hB hbl hns hU hJ hY h0
 refine callsIn_of_wp Tryz.func209 rfl trivial ?_ rfl
 simp only [Tryz.ntmps209,List.size_toArray,List.length_cons,List.length_nil,Nat.reduceAdd,Nat.reduceSub,Array.replicate_succ,Array.replicate_zero,List.push_toArray,List.append_toArray,List.nil_append,List.cons_append]
 gi_wp2_with fail
 refine ⟨trivial,(callsIn_wide.2 (HBUD.out _)).mono ?_⟩
 rintro r W2 ⟨rfl,b1,b2,b3,hk,hsz⟩
 obtain ⟨Z,hZ⟩:∃ Z,Z=W.heap.size :=⟨_,rfl⟩
 rw [← hZ] at b1 b2 b3 hsz HU HJ HY ⊢
 obtain ⟨ws,hws⟩:∃ ws,ws=pe.map (wgt bl) :=⟨_,rfl⟩
 obtain ⟨K,hK⟩:∃ K,K=actN lim true 0 ws :=⟨_,rfl⟩
 have HWS :=Hd hws
 have HKE :=Hd hK
 have HZ :=Hd hZ
 have hKl:K≤pe.length :=by rw [hK,hws]; have :=Zj5 lim (pe.map (wgt bl)) true 0; simpa using this
 have hlF:bF<Z :=by rw [hZ]; exact Z0a HF.out
 have HST :=Hd (show W2.heap[bF]? = some (oneB (0:Nat))∧W2.heap[Z+1]? = some (u1B 0)∧W2.heap[Z+2]? = some (boB true)∧W2.heap[Z]? = some (u1B lim)∧J [] W2∧Mods (fun i =>i=bF∨U i) W W2∧Z+3≤W2.heap.size from
  ⟨hk.at HF.out fun h =>h,b2,b3,b1,HJ.out _ _ _ H0.out (hk.weaken fun _ _ h =>h.elim),hk.weaken fun _ _ h =>h.elim,by omega⟩)
 clear b1 b2 b3 hk hsz hws hK hZ
 gi_wp2_with fail
 gi_loopw [11] (fun _ wr => ∃ (k:Nat) (s:Int) (f:Bool),wr.heap[bF]? = some (oneB (k:Int))∧wr.heap[Z+1]? = some (u1B s)∧wr.heap[Z+2]? = some (boB f)∧wr.heap[Z]? = some (u1B lim)∧J (pe.take k) wr∧Mods (fun i =>i=bF∨U i) W wr∧Z+3≤wr.heap.size∧0≤s∧s≤maxU∧(f=true→s=0)∧k+actN lim f s (ws.drop k)=K∧k≤pe.length) (fun _ wr =>K - Zo8 wr bF)
 case atStart =>
  obtain ⟨s1,s2,s3,s4,s5,s6,s7⟩ :=HST.out
  exact ⟨0,0,true,s1,s2,s3,s4,s5,s6,s7,Int.le_refl _,by unfold maxU; omega,fun _ =>rfl,by rw [List.drop_zero,Nat.zero_add]; exact HKE.out.symm,Nat.zero_le _⟩
 case round =>
  obtain ⟨k,s,f,r1,r2,r3,r4,r5,r6,r7,s0,s1,hfs,hkK,hkl⟩ :=hrel
  have g1:wr.cell? ⟨bF,0,none⟩=some (.int .i64 (k:Int)) :=by simp [World.cell?,r1]
  have hq :=r6.at HQ.out (fun h =>by rcases h with h | h; exact HNS.out.2.1 h; exact (HU.out _ h).2.1 rfl)
  have g2:wr.cell? ⟨bQ,0,none⟩=some (.pointer (some ⟨pg,0,none⟩)) :=by simp [World.cell?,hq]
  have hw :=r6.at HW.out (fun h =>by rcases h with h | h; exact HNS.out.2.2.1 h; exact (HU.out _ h).2.2.2.1 rfl)
  have g3:wr.cell? ⟨bW,0,none⟩=some (.slice sa bl.length sc) :=by simp [World.cell?,hw]
  have hring:Z1n SR wr pg sz pe :=HR.out.mods r6 fun i hi h =>by rcases h with h | h; exact HNS.out.2.2.2.1 (h ▸ hi); exact (HU.out _ h).2.2.2.2.1 hi
  by_cases hlt:k<pe.length
  ·have HPK :=Hd (Z2j hring k hlt)
   obtain ⟨x,hx⟩:∃ x,x=pe[k] :=⟨_,rfl⟩
   rw [← hx] at HPK
   have hwk:k<ws.length :=by rw [HWS.out]; simpa using hlt
   have hwx:ws[k]=wgt bl x :=by simp only [HWS.out,List.getElem_map,hx]
   have hstep :=Zic lim ws k hwk f s
   rw [hwx] at hstep
   obtain ⟨wx,hwx'⟩:∃ y,y=wgt bl x :=⟨_,rfl⟩
   have hwr:0≤wx∧wx≤maxU :=by rw [hwx']; exact Z60 HBL.out x
   have hsl:sumL (wgts bl [x])=wx :=by simp [wgts,sumL,hwx']
   rw [← hwx'] at hstep
   have HX :=Hd hx
   have HSL :=Hd hsl
   have HSTEP :=Hd hstep
   have HWR :=Hd hwr
   have hbal :=r6.owns HB.out fun i hi h =>by
    rcases h with h | h
    ·rw [h] at hi; exact HNS.out.2.2.2.2 (by revert hi; cases sa <;> simp [Value.ownBlock])
    ·exact (HU.out _ h).2.2.2.2.2.1 (by revert hi; cases sa <;> simp [Value.ownBlock])
   have HBAL :=Hd hbal
   have R1 :=Hd r1
   have R2 :=Hd r2
   have R3 :=Hd r3
   have R4 :=Hd r4
   have R5 :=Hd r5
   have R6 :=Hd r6
   have HKK :=Hd hkK
   have HFS :=Hd hfs
   clear r1 r2 r3 r4 r5 r6 hq hw hring hkK hx hwk hwx hstep hwx' hwr hsl hbal hfs
   gi_wp2_with fail
   refine ⟨trivial,(callsIn_wide.2 HPK.out).mono ?_⟩
   rintro r w3 ⟨rfl,hd⟩
   have hk3:Z00 wr w3 :=hd.mods
   have d3 :=hk3.cell g3 fun h =>h
   have HK3 :=Hd hk3
   have HWT :=Hd (Z6g (.slice sa bl.length sc) (.slice (some ⟨w3.heap.size,0,none⟩) 1 1) bl [x] 0 w3.heap.size (w3.alloc (.cells #[.int .i64 x] 3)) (((Mods.refl _ w3).alloc _).owns (hk3.owns HBAL.out fun _ _ h =>h) fun _ _ h =>h) HBL.out (World.ownsRow_lit w3 #[.int .i64 x] 1 (Nat.le_refl _) (by decide) rfl) (by simp))
   rw [HSL.out,if_pos HWR.out.2,decide_eq_true HWR.out.2] at HWT
   have HNW :=Hd (show ∀ o,Z00 w3 (w3.alloc o) from fun o =>(Mods.refl _ w3).alloc o)
   clear hd hk3 g1 g2 g3
   gi_wp2_with fail
   refine ⟨trivial,(callsIn_wide.2 HWT.out).mono ?_⟩
   rintro r w4 ⟨rfl,hk4⟩
   have hk34:Z00 wr w4 :=(HK3.out.keep (HNW.out _)).keep hk4
   have HK4 :=Hd hk34
   have HBU :=Hd (Zl9 (Z+1) (Z+2) Z lim s wx f w4 (hk34.at R2.out fun h =>h) (hk34.at R3.out fun h =>h) (hk34.at R4.out fun h =>h) ⟨by omega,by omega,by omega⟩ s0 s1 HWR.out.1 HWR.out.2 hlm HFS.out)
   obtain ⟨BB,hBB⟩:∃ y,y=budS lim f s wx :=⟨_,rfl⟩
   have HBB :=Hd hBB
   rw [← hBB] at HBU HSTEP
   clear hk4 hk34 hBB
   gi_wp2_with fail
   refine ⟨trivial,(callsIn_wide.2 HBU.out).mono ?_⟩
   rintro r w5 ⟨rfl,q1,q2,hm5⟩
   have k1 :=(hm5.at (HK4.out.at R1.out fun h =>h) (show ¬ (bF=Z+1∨bF=Z+2) by omega))
   have k4 :=(hm5.at (HK4.out.at R4.out fun h =>h) (show ¬ (Z=Z+1∨Z=Z+2) by omega))
   have hsz5:Z+3≤w5.heap.size :=Nat.le_trans r7 (Nat.le_trans HK4.out.size hm5.size)
   have hmw:Mods (fun i =>i=Z+1∨i=Z+2) wr w5 :=hm5.seq' HK4.out
   have kJ :=HJ.out _ _ _ R5.out (hmw.weaken fun i _ h =>show i=bF∨Z≤i∧i<Z+3 by omega)
   have kM:Mods (fun i =>i=bF∨U i) W w5 :=R6.out.seq hmw fun i hi h =>by have :=HZ.out; omega
   have Q1 :=Hd q1
   have Q2 :=Hd q2
   have K1 :=Hd k1
   have K4 :=Hd k4
   have KJ :=Hd kJ
   have KM :=Hd kM
   cases hB1:BB.1
   ·have hK0:k=K :=by
     have h1 :=HSTEP.out
     rw [hB1] at h1
     have h2 :=HKK.out
     rw [h1] at h2
     simpa using h2
    have HK0 :=Hd hK0
    clear q1 q2 hm5 k1 k4 hmw kJ kM hK0
    gi_wp2_with fail
    refine ⟨fun _ _ =>trivial, ?_⟩
    gi_wp2_with fail
    refine bodyPost_ret (results_none rfl _ _ _) rfl ?_
    exact ⟨⟨_,rfl⟩,_,by rw [← HWS.out,← HKE.out,← HK0.out],KJ.out⟩
   ·have hst :=HSTEP.out
    rw [hB1,if_pos rfl] at hst
    have hkk :=HKK.out
    rw [hst] at hkk
    have hpre:(pe.take k).length=k :=by rw [List.length_take]; omega
    obtain ⟨fn,tmps,assign,body,hy,hR⟩ :=HY.out (pe.take k) x w5 kJ hsz5 (by rw [hpre,List.take_succ_eq_append_getElem hlt,HX.out])
    have hpx:pe.take k ++ [x]=pe.take (k+1) :=by rw [List.take_succ_eq_append_getElem hlt,HX.out]
    have HHR :=Hd hR
    have HKK2 :=Hd hkk
    have HPX :=Hd hpx
    clear q1 q2 hm5 k1 k4 hmw kJ kM hst hkk hpre hR hpx
    gi_wp2_with fail
    refine HHR.out.mono ?_
    rintro r w6 ⟨rfl,hJ6,hm6⟩
    have m1 :=hm6.at K1.out (fun h =>(HU.out _ h).2.2.1 rfl)
    have m2 :=hm6.at Q1.out (fun h =>by have :=(HU.out _ h).2.2.2.2.2.2; have :=HZ.out; omega)
    have m3 :=hm6.at Q2.out (fun h =>by have :=(HU.out _ h).2.2.2.2.2.2; have :=HZ.out; omega)
    have m4 :=hm6.at K4.out (fun h =>by have :=(HU.out _ h).2.2.2.2.2.2; have :=HZ.out; omega)
    have mM:Mods (fun i =>i=bF∨U i) W w6 :=KM.out.seq hm6 fun i _ h =>.inr h
    have hs6:Z+3≤w6.heap.size :=Nat.le_trans hsz5 hm6.size
    have n1:w6.cell? ⟨bF,0,none⟩=some (.int .i64 (k:Int)) :=by simp [World.cell?,m1]
    have n2:w6.frozen? ⟨bF,0,none⟩=false :=by simp [World.frozen?,m1]
    have n3:wrap64 ((k:Int)+1)=(k:Int)+1 :=iw (by omega) (by omega)
    have hms:Mods (fun i =>i=bF) w6 (w6.setCell ⟨bF,0,none⟩ (.int .i64 ((k:Int)+1))) :=(Mods.refl _ w6).setCell _ _ fun _ =>rfl
    have M1 :=Hd (show (w6.setCell ⟨bF,0,none⟩ (.int .i64 ((k:Int)+1))).heap[bF]? = some (oneB ((k+1:Nat):Int)) from heap_setCell_same w6 bF 0 _ _ _ m1)
    have M2 :=Hd (hms.at m2 (by omega))
    have M3 :=Hd (hms.at m3 (by omega))
    have M4 :=Hd (hms.at m4 (by omega))
    have MJ :=Hd (HJ.out _ _ _ hJ6 (hms.weaken fun i _ h =>.inl h))
    have MM :=Hd (mM.seq hms fun i _ h =>.inl h)
    have hms2:Z+3≤(w6.setCell ⟨bF,0,none⟩ (.int .i64 ((k:Int)+1))).heap.size :=Nat.le_trans hs6 hms.size
    have MS :=Hd hms2
    have hBs:0≤BB.2.1∧BB.2.1≤maxU∧BB.2.2=false :=by
     have h :=hB1
     rw [HBB.out] at h ⊢
     exact Zno h hlm s0 HWR.out.1 HWR.out.2 HFS.out
    have HBS :=Hd hBs
    have HLT :=Hd hlt
    clear m1 m2 m3 m4 mM hs6 hJ6 hm6 hms hms2 hBs hpe hlm s0 s1 r7 hkl hlF hKl hB1 hsz5
    gi_wp2_with fail
    go_roundw
    case rel =>exact ⟨k+1,BB.2.1,BB.2.2,M1.out,M2.out,M3.out,M4.out,by rw [← HPX.out]; exact MJ.out,MM.out,MS.out,HBS.out.1,HBS.out.2.1,(fun h =>absurd h (by rw [HBS.out.2.2]; simp)),mrel HKK2.out,HLT.out⟩
    case measure =>rw [Zf9 M1.out,Zf9 R1.out]; exact mlt HKK2.out
  ·have HPK :=Hd (Zbt hring (k:Int) (.inr (by omega)))
   obtain rfl:k=pe.length :=by omega
   have hres:pe.take pe.length=pe.take K∧J (pe.take pe.length) wr :=⟨by
    have:ws.drop pe.length = [] :=by rw [List.drop_eq_nil_iff,HWS.out]; simp
    rw [this] at hkK
    simp only [actN] at hkK
    rw [← hkK,Nat.add_zero],r5⟩
   have HRES :=Hd hres
   clear r1 r2 r3 r4 r5 r6 hq hw hring hres hkK
   gi_wp2_with fail
   refine ⟨trivial,(callsIn_wide.2 HPK.out).mono ?_⟩
   rintro r w3 ⟨rfl,rfl⟩
   gi_wp2_with fail
   refine ⟨trivial, ?_⟩
   gi_wp2_with fail
   refine ⟨fun _ _ =>trivial, ?_⟩
   gi_wp2_with fail
   refine ⟨fun _ _ =>trivial, ?_⟩
   gi_wp2_with fail
   refine bodyPost_ret (results_none rfl _ _ _) rfl ?_
   exact ⟨⟨_,rfl⟩,_,by rw [← HWS.out,← HKE.out]; exact HRES.out.1,HRES.out.2⟩
attribute [local go_sem] Oper.semAt_some
theorem Zej {k n:Nat} (h:k<n) (hn:n≤100000):n - (intOf (Value.int .i64 (wrap64 ((k:Int)+1)))).toNat<n - (intOf (Value.int .i64 (k:Int))).toNat :=by
 rw [iw (by omega) (by omega)]
 simp [intOf]
 omega
theorem Zjp {k:Nat} (h:k≤100000):Value.int .i64 (wrap64 ((k:Int)+1))=Value.int .i64 ((k+1:Nat):Int) :=by
 rw [iw (by omega) (by omega)]
 rfl
abbrev siB (v:Value):Obj := .cells #[v] 37 (0,0)
theorem Zi7 {own:Nat→Nat} {w:World} {e:Nat} {c:Nat→Int} {E:En} {p:Ep} {N:Nat} (h:Z0i own w e c E p N) (lim:Int) (hl1:lim≤maxU) (v:Value) (B:Nat) (hv:w.ownsRow B 22 1 v E.vs.length (E.vs.map fun x =>.int .u64 x.bal)) (hv0:∀ k,v.ownBlock=some k→own k=0) :
 Calls Tryz.prog 113 #[.pointer (some ⟨p.pe,0,none⟩), .int .u64 lim,v] w fun r w' => ∃ v',r = .returned v'∧w'.ownsRow w.heap.size 3 1 v' (E.pe.take (actK E lim)).length ((E.pe.take (actK E lim)).map fun x =>.int .i64 x) ∧
  Z0i own w' e c { E with pe :=E.pe.drop (actK E lim) } p N∧Ext own w own w'∧∀ k,v'.ownBlock=some k→own k=0 :=by
 obtain ⟨sa,sc,rfl⟩ :=Z0c hv
 have H :=Hd h
 have HV :=Hd hv
 have HV0 :=Hd hv0
 obtain ⟨K,hK⟩:∃ K,K=actK E lim :=⟨_,rfl⟩
 rw [← hK]
 have HK :=Hd hK
 clear h hv hv0 hK
 refine (callsIn_wide (n :=10)).1 ?_
 refine callsIn_of_wp_marks Tryz.func113 rfl trivial ?_ rfl
 simp only [Tryz.ntmps113,List.size_toArray,List.length_cons,List.length_nil,Nat.reduceAdd,Nat.reduceSub,Array.replicate_succ,Array.replicate_zero,List.push_toArray,List.append_toArray,List.nil_append,List.cons_append]
 gi_wp2_with fail
 refine ⟨trivial,(callsIn_wide.2 (Zj1 p.pe 0 lim sa E.vs.length sc _)).mono ?_⟩
 rintro r w2 ⟨rfl,b1,b2,b3,b4,hk,hsz⟩
 simp only [World.size_alloc] at b1 b2 b3 b4 hsz ⊢
 have b0:w2.heap[w.heap.size]? = some (siB (.slice none 0 0)) :=hk.at (heap_alloc_last w _) fun h =>h
 have hkw:Z00 w w2 :=(((Mods.refl _ w).alloc _).keep hk)
 obtain ⟨z,hz⟩:∃ z,z=w.heap.size :=⟨_,rfl⟩
 rw [← hz] at b0 b1 b2 b3 b4 hsz ⊢
 clear hk
 gi_wp2_with fail
 obtain ⟨D,hD⟩:∃ D,D=w2.heap.size :=⟨_,rfl⟩
 have HD :=Hd hD
 have HZ :=Hd hz
 have hDz:D=z+5 :=by rw [hD,hsz]
 have B0 :=Hd b0
 have B1 :=Hd b1
 have B2 :=Hd b2
 have B3 :=Hd b3
 have B4 :=Hd b4
 have HKW :=Hd hkw
 have hown0:∀ i,z≤i→own i=0 :=fun i hi =>H.out.new i (by rw [← HZ.out]; exact hi)
 have hsab:∀ i,z≤i→sa.map (·.block)≠some i :=fun i hi e =>by
  have h1:(Value.slice sa E.vs.length sc).ownBlock=some i :=by revert e; cases sa <;> simp [Value.ownBlock]
  have :=(HV.out.lt i h1).2
  rw [← HZ.out] at this
  omega
 have HPE :=Hd (H.out.pe (by decide))
 have HVS :=Hd (H.out.vsok)
 clear b0 b1 b2 b3 b4 hkw hD hz hsz
 refine Z8y (gf :=209) (lb := #[.pointer (some ⟨z+1+2,0,none⟩), .pointer (some ⟨z+1,0,none⟩), .pointer (some ⟨z+1+1,0,none⟩), .pointer (some ⟨z+1+3,0,none⟩)]) rfl (enters_of Tryz.func209 (by kernel_rfl) rfl)
  (encs :=fun x:Int => #[.int .i64 x]) (fun _ =>rfl) (fun i =>i=z+1+1∨D+2≤i∧i<D+5) (fun i =>(i=z∨D+5≤i)∨i=D+1) (X :=fun pre x =>pre ++ [x]=E.pe.take (pre.length+1)) (S :=fun xs =>xs=E.pe.take K) (B :=D+5)
  (by rw [← HD.out]; omega) (by rw [← HD.out]; omega) ?iter (fun i =>i=z∨D+5≤i) (fun i hi =>.inl hi) (by rw [← HD.out]; omega)
  (fun pre W =>(∃ ov,W.heap[z]? = some (siB ov)∧W.ownsRow (D+5) 3 1 ov pre.length (pre.map fun x =>.int .i64 x))∧Mods (fun i =>i=z∨i=z+1+1) w2 W) ?hI ?h0
  (fun x => { tmps := #[.pointer (some ⟨p.pe,0,none⟩), .int .u64 lim, .slice sa E.vs.length sc,undef,undef,undef, .slice none 0 0, .pointer (some ⟨z,0,none⟩), .int .i64 x, .pointer (some ⟨p.pe,0,none⟩), .int .u64 lim, .slice sa E.vs.length sc,
   .func (Fn.func 209) #[] #[.pointer (some ⟨z+1+2,0,none⟩), .pointer (some ⟨z+1,0,none⟩), .pointer (some ⟨z+1+1,0,none⟩), .pointer (some ⟨z+1+3,0,none⟩)], .int .i64 x,undef,undef,undef,undef,undef,undef,undef,undef,undef,undef,undef,undef],defers := [] }) ?assign ?body ?done
 case iter =>
  intro l J W hkW hszW hJ hY h0
  rw [← HD.out] at hszW
  refine (Zk0 (SR :=Go.Eg.Own own w 9) (sz :=(c 1).toNat) (pg :=p.pe) E.pe (E.vs.map (·.bal)) lim (z+1+2) (z+1) (z+1+1) (z+1+3) sa sc l J (fun i =>(i=z∨D+5≤i)∨i=D+1) W (hkW.at B3.out fun h =>h) (hkW.at B1.out fun h =>h) (hkW.at B2.out fun h =>h) (by rw [List.length_map]; exact hkW.at B4.out fun h =>h) (HPE.out.mods (HKW.out.keep hkW) fun _ _ h =>h) ?_ ?_ hl1 ?_ ?_ ?_ ?_ h0).mono ?_
  ·rw [List.length_map,List.map_map]
   exact own_base ((HKW.out.keep hkW).owns HV.out fun _ _ h =>h) (Nat.zero_le _)
  ·intro x hx
   obtain ⟨y,hy,rfl⟩ :=List.mem_map.1 hx
   exact ⟨(HVS.out.1 y hy).b0,(HVS.out.1 y hy).b1⟩
  ·exact ⟨by omega,by omega,by omega,fun h1 =>by have h2 :=h1.1; rw [hown0 _ (by omega)] at h2; omega,hsab _ (by omega)⟩
  ·intro i hi
   rw [hszW]
   have hz0:own i=0 :=hown0 i (by omega)
   exact ⟨by omega,by omega,by omega,by omega,fun h1 =>by have h2 :=h1.1; rw [hz0] at h2; omega,hsab i (by omega),by omega⟩
  ·intro s A A' hs hm
   rw [hszW] at hm
   exact hJ s A A' hs (hm.weaken fun i _ h =>by omega)
  ·intro pre x W1 hj hs hx
   rw [hszW] at hs
   exact hY pre x W1 hj hs hx
  ·rintro r W' ⟨hr,xs,hxs,hj⟩
   exact ⟨hr,xs,by rw [hxs,HK.out]; rfl,hj⟩
 case hI =>
  rw [← HD.out]
  rintro s A A' ⟨⟨ov,i1,i2⟩,i3⟩ hm
  refine ⟨⟨ov,hm.at i1 (by omega),hm.owns i2 fun k hk h =>by have :=(i2.lt k hk).1; omega⟩,i3.seq hm fun i hi h =>?_⟩
  rw [← HD.out] at hi
  omega
 case h0 =>
  intro W hkW _
  exact ⟨⟨_,hkW.at B0.out fun h =>h,World.ownsRow_nil _ _ _ _⟩,hkW.weaken fun _ _ h =>h.elim⟩
 case assign =>
  intro l x W K hK
  gi_wp2
  exact hK
 case body =>
  rintro l pre x W ⟨⟨ov,i1,i2⟩,i3⟩ hB hx
  have hpl:pre.length+1≤4096 :=by
   have h1 :=congrArg List.length hx
   have h2:E.pe.length≤4096 :=Nat.le_trans HPE.out.2.2.2.1 HPE.out.2.2.1
   rw [List.length_append,List.length_take] at h1
   simp only [List.length_cons,List.length_nil] at h1
   omega
  obtain ⟨oa,oc,rfl⟩ :=Z0c i2
  have c0:W.cell? ⟨z,0,none⟩=some (.slice oa pre.length oc) :=by simp [World.cell?,i1]
  obtain ⟨i0,hi0,hz0,hz1,hz2⟩ :=info_parts Zb3
  have I1 :=Hd i1
  have I2 :=Hd i2
  have I3 :=Hd i3
  have hmx:pre.length+1≤maxLen :=by unfold maxLen; omega
  have hmb:(pre.length+1) * 8≤140737488355328 :=by omega
  have hbs:D+5≤(W.alloc (.cells #[.int .i64 x] 3)).heap.size :=by rw [World.size_alloc]; omega
  have HX :=Hd hx
  have HDZ :=Hd hDz
  clear i1 i2 i3 hpl hx hDz
  gi_wp2_with (gi_at_builtin; refine Z0e.out ?_)
  refine Z0e.mk ?_
  refine wpListIn_append_own _ rfl _ _ 37 rfl (D+5) 3 i0 (.int .i64 0) 1 8 Tryz.underlying37 hi0 hz0 hz1 hz2 rfl (by decide) _ _ _ rfl (I2.out.alloc _) ⟨W.heap.size,0,none⟩ 1 1 [.int .i64 x] rfl rfl (cell_one_new _ _ _) (by simp [Value.oneCell']) hmx hmb hbs ?_
  intro v' w1 hown' hgrow _
  obtain ⟨g',cap',rfl⟩ :=ownsRow_succ hown'
  have hgl :=hown'.lt g' rfl
  have hm1:Mods (fun i =>D+5≤i) W w1 :=((Mods.refl _ W).alloc _).seq ((Mods.refl (fun i =>D+5≤i) _).grown hgrow fun k _ hk =>(I2.out.lt k hk).1) fun i _ h =>h
  have e1 :=hm1.at I1.out (by have :=HDZ.out; omega)
  have c1:w1.cell? ⟨z,0,none⟩=some (.slice oa pre.length oc) :=by simp [World.cell?,e1]
  have f1:w1.frozen? ⟨z,0,none⟩=false :=by simp [World.frozen?,e1]
  have hms:∀ u,Mods (fun i =>i=z) w1 (w1.setCell ⟨z,0,none⟩ u) :=fun u =>(Mods.refl _ w1).setCell _ _ fun _ =>rfl
  have HE1 :=Hd (fun u =>(heap_setCell_same w1 z 0 _ _ u e1:(w1.setCell ⟨z,0,none⟩ u).heap[z]? = some (siB u)))
  have HROW :=Hd hown'
  have HM1 :=Hd hm1
  have HMS :=Hd hms
  clear hown' hgrow hm1 e1 hms hmx hmb hbs
  gi_wp2_with fail
  have hDz :=HDZ.out
  have hm2 :=HMS.out (.slice (some ⟨g',0,none⟩) (pre.length+1) cap')
  refine ⟨(HM1.out.weaken fun i _ h =>.inr h).trans (hm2.weaken fun i _ h =>.inl h),⟨_,HE1.out _, ?_⟩,I3.out.seq ((HM1.out.weaken (T :=fun i =>i=z∨D+5≤i) fun i _ h =>.inr h).trans (hm2.weaken fun i _ h =>.inl h)) fun i hi h =>?_⟩
  ·have :=hm2.owns HROW.out fun k hk h =>by
    injection hk with hk
    have hk:g'=k :=hk
    omega
   exact this
  ·rw [← HD.out] at hi
   omega
 case done =>
  rintro PT W hPT ⟨⟨ov,i1,i2⟩,i3⟩ hdef
  rw [← HD.out] at hdef ⊢
  obtain ⟨oa,oc,rfl⟩ :=Z0c i2
  have c0:W.cell? ⟨z,0,none⟩=some (.slice oa PT.length oc) :=by simp [World.cell?,i1]
  have hkeep:Z00 w W :=HKW.out.seq i3 fun i hi h =>by rw [← HZ.out] at hi; omega
  have HE :=Hd (H.out.keeps hkeep)
  have HXW :=Hd (Ext.keeps (own :=own) hkeep)
  have hKl:PT.length≤E.pe.length :=by rw [hPT,List.length_take]; omega
  have HPT :=Hd hPT
  have hp4:E.pe.length≤4096 :=Nat.le_trans HPE.out.2.2.2.1 HPE.out.2.2.1
  have HKL :=Hd hKl
  have HP4 :=Hd hp4
  have I1 :=Hd i1
  have I2 :=Hd i2
  have I3 :=Hd i3
  have HDEF :=Hd hdef
  have HDZ :=Hd hDz
  clear i1 i2 i3 hdef hkeep hKl hp4 hPT hDz
  gi_wp2_with fail
  gi_loopw [20] (fun i wr => ∃ k:Nat,k≤PT.length∧i = .int .i64 k∧Z0i own wr e c { E with pe :=E.pe.drop k } p N∧Ext own W own wr) (fun i _ =>PT.length - (intOf i).toNat)
  case atStart =>exact ⟨0,Nat.zero_le _,rfl,HE.out,Ext.refl _ _⟩
  case round =>
   obtain ⟨k,hk,rfl,hE,hX⟩ :=hrel
   by_cases hlt:k<PT.length
   ·have hki:(k:Int)<(PT.length:Int) :=Int.ofNat_lt.2 hlt
    have hkp:k<E.pe.length :=Nat.lt_of_lt_of_le hlt HKL.out
    have HPOP :=Hd (Zqk hE (List.drop_eq_getElem_cons hkp))
    have HX :=Hd hX
    clear hE hX
    gi_wp2_with fail
    refine ⟨trivial,(callsIn_wide.2 HPOP.out).mono ?_⟩
    rintro r w4 ⟨⟨u,rfl⟩,hE4,hX4⟩
    have HE4 :=Hd hE4
    have HX4 :=Hd (HX.out.trans hX4)
    have HLB :=Hd (show PT.length≤100000 from by have :=HP4.out; have :=HKL.out; omega)
    clear hE4 hX4
    gi_wp2_with fail
    go_roundw
    case rel =>exact ⟨k+1,hlt,Zjp (Nat.le_trans hk HLB.out),HE4.out,HX4.out⟩
    case measure =>exact Zej hlt HLB.out
   ·obtain rfl:k=PT.length :=by omega
    have hz0:own z=0 :=hown0 z (Nat.le_refl _)
    have hD0:own D=0 :=hown0 D (by have :=HDZ.out; omega)
    have hKd:E.pe.drop PT.length=E.pe.drop K :=by
     rw [HPT.out,List.length_take]
     rcases Nat.le_total K E.pe.length with hle | hle
     ·rw [Nat.min_eq_left hle]
     ·rw [Nat.min_eq_right hle,List.drop_eq_nil_of_le (Nat.le_refl _),List.drop_eq_nil_of_le hle]
    have hdf :=(hX.at HDEF.out hD0).1
    have hzc :=(hX.at I1.out hz0).1
    have c1:wr.cell? ⟨z,0,none⟩=some (.slice oa PT.length oc) :=by simp [World.cell?,hzc]
    have HROW :=Hd (hX.owns I2.out fun i hi =>hown0 i (by have :=(I2.out.lt i hi).1; have :=HDZ.out; omega))
    rw [hKd] at hE
    have HEE :=Hd hE
    have HXX :=Hd (HXW.out.trans hX)
    have HDF :=Hd hdf
    clear hE hX hKd hdf hzc
    gi_wp2_with fail
    refine ⟨by simp, .inl ⟨_,_,rfl,run_takeDeferred HDF.out, ?_⟩⟩
    refine ⟨_,results_tmp rfl _ _ _, ?_⟩
    have hmd:Mods (fun i =>i=D) wr (wr.putObj D (.deferred none)) :=(Mods.refl _ wr).putObj _ _ fun _ =>rfl
    have hDz :=HDZ.out
    refine ⟨_,rfl, ?_,HEE.out.loc hmd fun i _ h =>by rw [h]; exact hD0,Z1l HXX.out hmd fun i hi h =>by have :=HZ.out; omega,fun i hi =>hown0 i (by have :=(I2.out.lt i hi).1; omega)⟩
    rw [← HPT.out]
    exact own_base (hmd.owns HROW.out fun i hi h =>by have :=(I2.out.lt i hi).1; omega) (by have :=HZ.out; omega)
open Go.RowKit Go.Eg
theorem ints_at {w:World} {B:Nat} {v:Value} {l:List Int} (h:w.ownsRow B 3 1 v l.length (l.map fun x =>.int .i64 x)) (k:Nat) (hk:k<l.length):∃ g c,v = .slice (some ⟨g,0,none⟩) l.length c∧w.cell? ⟨g,k,none⟩=some (.int .i64 l[k]) :=by
 rcases h.2 with ⟨_,h0⟩ | ⟨g,cap,cur,hv,hg,hh,r⟩
 ·omega
 subst hv
 exact ⟨g,cap,rfl,by rw [h.cellAt k (by omega)]; simp [hk]⟩
theorem Zie {own:Nat→Nat} {w:World} {e:Nat} {c:Nat→Int} {E:En} {p:Ep} {N:Nat} (h:Z0i own w e c E p N) (hV:Vld c) (ho:Zpo c E) (hN:N+400000<4294967296) :
 Calls Tryz.prog 79 #[.pointer (some ⟨e,0,none⟩)] w fun r w' => ∃ v,r = .returned v∧∃ own',Z0i own' w' e c (Z9r c E) p (N+300000)∧Ext own w own' w' ∧
  w'.ownsRow w.heap.size 51 3 v (Z65 c E).length (Z4u (Z65 c E))∧∀ k,v.ownBlock=some k→own' k=0 :=by
 have H :=Hd h
 have HO :=Hd ho
 have hb0 :=ho.b0
 have hb1 :=ho.b1
 have h13:1≤c 13 :=hV.c13.1
 obtain ⟨ep,hep⟩:∃ x,x=E.b / c 13 :=⟨_,rfl⟩
 have hep0:0≤ep :=by rw [hep]; exact Int.ediv_nonneg hb0 (by omega)
 have hep1:ep≤1000000 :=by rw [hep]; have :=Int.ediv_le_self (c 13) hb0; omega
 have HEP :=Hd (Z12 p.ck E.b (c 13) w (h.ck (by decide)) hb0 (by omega) h13)
 rw [← hep] at HEP
 have HEPE :=Hd hep
 have HEP0 :=Hd hep0
 have HEP1 :=Hd hep1
 obtain ⟨lv,hblk,hlr,hlo⟩ :=h.blk (by decide)
 obtain ⟨-,c21, -, -, -, -, -, -, -, -, -⟩ :=Z09 hblk
 have HBLK :=Hd hblk
 have HLR :=Hd hlr
 have HLO :=Hd hlo
 clear h ho hb0 hb1 h13 hep hep0 hep1 hblk hlr hlo
 go_enter Tryz.func79,Tryz.ntmps79
 go_wp2_with fail
 refine HEP.out.mono ?_
 rintro r w1 ⟨rfl,hk1⟩
 have hE1 :=H.out.keeps hk1
 have hb1 :=hk1.at HBLK.out fun h =>h
 have hr1 :=hk1.owns HLR.out fun _ _ h =>h
 have HX1 :=Hd (Ext.keeps (own :=own) hk1)
 have HE1 :=Hd hE1
 have HB1 :=Hd hb1
 have HR1 :=Hd hr1
 obtain ⟨la,lc,rfl⟩ :=Z0c hr1
 have c24 :=(Z09 hb1).2.2.2.2.1
 have c0 :=(Z09 hb1).1
 obtain ⟨T,hT⟩:∃ T:Nat→List Vd,T=fun k =>(E.lv.take k).foldl (fun l i =>evL l i.toNat 3) E.vs :=⟨_,rfl⟩
 have HT0 :=Hd (show T 0=E.vs from by rw [hT]; rfl)
 have HTS :=Hd (show ∀ k (hk:k<E.lv.length),T (k+1)=evL (T k) E.lv[k].toNat 3 from fun k hk =>by
  rw [hT]
  dsimp only
  rw [List.take_succ_eq_append_getElem hk,List.foldl_append]
  rfl)
 have HTE :=Hd (show { E with vs :=T E.lv.length,lv := [] }=enLv E from by rw [hT]; dsimp only; rw [List.take_length]; rfl)
 have HTL :=Hd (show ∀ k,(T k).length=E.vs.length from fun k =>by rw [hT]; exact (Z43 3 (E.lv.take k) E.vs).2)
 clear hk1 hE1 hb1 hr1 c21 hT
 go_wp2_with fail
 go_loopw [22] (fun i wr => ∃ k:Nat,k≤E.lv.length∧i = .int .i64 k∧∃ own',Z0i own' wr e c { E with vs :=T k } p (N+2 * k)∧Ext own w own' wr∧(∀ i,i<w1.heap.size→own' i=own i)∧Mods (fun i =>own i=1) w1 wr) (fun i _ =>E.lv.length - (intOf i).toNat)
 case atStart =>exact ⟨0,Nat.zero_le _,rfl,own,by rw [HT0.out]; exact HE1.out,HX1.out,fun _ _ =>rfl,Mods.refl _ _⟩
 case round =>
  obtain ⟨k,hk,rfl,own2,hE2,hX2,ho2,hm2⟩ :=hrel
  by_cases hlt:k<E.lv.length
  ·have hki:(k:Int)<(E.lv.length:Int) :=Int.ofNat_lt.2 hlt
   obtain ⟨g,gc,hvv,q0⟩ :=ints_at (hm2.owns HR1.out fun j hj h =>by have :=(HLO.out j hj).1; omega) k hlt
   simp only [Value.slice.injEq] at hvv
   obtain ⟨rfl,_,rfl⟩ :=hvv
   have hst :=HTS.out k hlt
   have hin :=HO.out.lv E.lv[k] (List.getElem_mem hlt)
   generalize E.lv[k]=a at *
   obtain ⟨i,rfl⟩ :=Int.eq_ofNat_of_zero_le hin.1
   rw [Int.toNat_natCast] at hst
   have hil:i<(T k).length :=by rw [HTL.out]; have :=hin.2; omega
   have HLB :=Hd (show E.lv.length≤100000 from by have :=HO.out.lvl; omega)
   have HEV :=Hd (Zo5 hE2 i hil 3 (by decide) (by have :=HO.out.lvl; omega))
   obtain ⟨lv2,hb2, -, -⟩ :=hE2.blk (by decide)
   have d0 :=(Z09 hb2).1
   have HST :=Hd hst
   have HX2 :=Hd hX2
   have HO2 :=Hd ho2
   have HM2 :=Hd hm2
   clear hE2 hX2 ho2 hm2 hst hin hil hb2
   go_wp2_with fail
   refine HEV.out.mono ?_
   rintro r w2 ⟨⟨b,rfl⟩,own3,hE3,hX3,hm3⟩
   have HE3 :=Hd hE3
   have HX3 :=Hd (HX2.out.trans hX3)
   have HO3 :=Hd (show ∀ i,i<w1.heap.size→own3 i=own i from fun i hi =>(hX3.old i (Nat.lt_of_lt_of_le hi HM2.out.size)).trans (HO2.out i hi))
   have HM3 :=Hd (HM2.out.seq hm3 fun i hi h =>(HO2.out i hi).symm.trans h)
   clear hE3 hX3 hm3
   go_wp2_with fail
   go_roundw
   case rel =>exact ⟨k+1,hlt,Zjp (Nat.le_trans hk HLB.out),own3,by rw [HST.out]; exact HE3.out,HX3.out,HO3.out,HM3.out⟩
   case measure =>exact Zej hlt HLB.out
  ·obtain rfl:k=E.lv.length :=by omega
   obtain ⟨lv2,hb2,hr2,hlo2⟩ :=hE2.blk (by decide)
   have d24 :=(Z09 hb2).2.2.2.2.1
   have f24:wr.frozen? ⟨e,24,none⟩=false :=by simp [World.frozen?,hb2]
   have hgo :=Z98 hE2 hlo2 (l := []) (w' :=wr.setCell ⟨e,24,none⟩ (.slice none 0 0)) (heap_setCell_same wr e 24 _ _ _ hb2) (World.ownsRow_nil _ _ _ _) (fun k hk =>by cases hk) ((Mods.refl _ wr).setCell _ _ fun _ =>.inl rfl)
   obtain ⟨own3,hE3,hX3⟩ :=hgo
   have e1:({ E with vs :=T E.lv.length,lv := [] }:En)=enLv E :=HTE.out
   have hE3:Z0i own3 (wr.setCell ⟨e,24,none⟩ (.slice none 0 0)) e c (enLv E) p (N+20000) :=by
    rw [← e1]
    exact hE3.mono (by have :=HO.out.lvl; omega)
   have HE3 :=Hd hE3
   have HX3 :=Hd (hX2.trans hX3)
   have HRP :=Hd (Zp4 HE3.out ep HEP0.out (by have :=HEP1.out; omega) HO.out.bk (fun i hi =>by
    have h1 :=HO.out.due i (by rw [← HEPE.out]; exact hi)
    exact (Z2t (show (enLv E).vs.length=E.vs.length from (Z43 3 E.lv E.vs).2) i).2 h1) HO.out.wd (by omega))
   have hbS:(wr.setCell ⟨e,24,none⟩ (.slice none 0 0)).heap[e]? = some (engB c p (.slice none 0 0)) :=heap_setCell_same wr e 24 _ _ _ hb2
   clear hE2 hX2 ho2 hm2 hb2 hr2 hlo2 hX3 hE3 e1
   go_wp2_with fail
   refine HRP.out.mono ?_
   rintro r w4 ⟨rfl,own4,hE4,hX4⟩
   obtain ⟨S,hS⟩:∃ S,S=Z19 c E :=⟨_,rfl⟩
   have hE4:Z0i own4 w4 e c S p (N+200000) :=by rw [hS]; unfold Z19 Zq0; rw [show (enLv E).b=E.b from rfl,← HEPE.out]; exact hE4.mono (by omega)
   have HX4 :=Hd (HX3.out.trans hX4)
   have HE4 :=Hd hE4
   have HS :=Hd hS
   obtain ⟨lv4,hb4, -, -⟩ :=hE4.blk (by decide)
   have g0 :=(Z09 hb4).1
   have g8:w4.cell? ⟨e,8,none⟩=some (.int .u64 (c 7)) :=by rw [cell_of_row _ _ _ _ _ _ hb4]; rfl
   have g9:w4.cell? ⟨e,9,none⟩=some (.int .u64 (c 8)) :=by rw [cell_of_row _ _ _ _ _ _ hb4]; rfl
   have HC4 :=Hd (fun (wx:World) (hk:Z00 w4 wx) =>(⟨hk.cell g0 fun h =>h,hk.cell g8 fun h =>h,hk.cell g9 fun h =>h⟩:wx.cell? ⟨e,0,none⟩=some (.pointer (some ⟨p.rg,0,none⟩))∧wx.cell? ⟨e,8,none⟩=some (.int .u64 (c 7))∧wx.cell? ⟨e,9,none⟩=some (.int .u64 (c 8))))
   have HACT :=Hd (fun (w':World) (hk:Z00 w4 w') =>Zi5 (HE4.out.keeps hk))
   have HCH :=Hd (fun (w':World) =>Zii (actS S.vs) (c 7) (c 8) w' (by rw [HS.out]; exact HO.out.act0) (by rw [HS.out]; exact HO.out.act1) (by have :=hV.c8; omega))
   obtain ⟨lim,hlim⟩:∃ x,x=max (c 7) (actS S.vs / c 8) :=⟨_,rfl⟩
   rw [← hlim] at HCH
   have HLIM :=Hd hlim
   clear hE4 hX4 hS hb4 g0 g8 g9 hlim d24 f24 hbS
   go_wp2_with fail
   refine wp_region_held_drew (S :=(fun w' =>w'.cell? ⟨e,0,none⟩=some (.pointer (some ⟨p.rg,0,none⟩))∧w'.cell? ⟨e,8,none⟩=some (.int .u64 (c 7))∧w'.cell? ⟨e,9,none⟩=some (.int .u64 (c 8)))) (by kernel_rfl) (by exact HC4.out _ (Mods.refl _ w4).drew) (fun hH0 =>?_)
   refine tk 0 rfl hH0 ?_
   try go_frame
   refine tk 1 rfl hH0 ?_
   try go_frame
   refine tk 2 rfl hH0 ?_
   try go_frame
   refine tk 3 rfl hH0 ?_
   try go_frame
   refine tk 4 rfl hH0 ?_
   try go_frame
   refine tk 6 rfl hH0 ?_
   try go_frame
   refine tk 7 rfl hH0 ?_
   try go_frame
   refine tk 8 rfl hH0 ?_
   try go_frame
   refine tk 9 rfl hH0 ?_
   try go_frame
   refine tk 10 rfl hH0 ?_
   try go_frame
   refine tk 11 rfl hH0 ?_
   try go_frame
   refine tk 12 rfl hH0 ?_
   try go_frame
   refine tk 13 rfl hH0 ?_
   try go_frame
   refine tk 14 rfl hH0 ?_
   try go_frame
   refine tk 15 rfl hH0 ?_
   try go_frame
   refine rdy [5] (Z04 rfl (fun K hK =>?_) AllReadyH.nil)
   go_simp
   refine (HACT.out _ (Mods.refl _ w4).drew).mono ?_
   rintro r w5 ⟨rfl,rfl⟩
   go_wp2_with fail
   refine hK.out _ _ (HC4.out _ (Mods.refl _ w4).drew) (fun hH1 =>?_)
   clear hK K hH0
   try go_frame
   refine rdy [16] (Z04 rfl (fun K hK =>?_) AllReadyH.nil)
   go_simp
   refine (HCH.out _).mono ?_
   rintro r w5 ⟨rfl,rfl⟩
   go_wp2_with fail
   refine hK.out _ _ (HC4.out _ (Mods.refl _ w4).drew) (fun hH2 =>?_)
   clear hK K hH1
   try go_frame
   refine tk 17 rfl hH2 ?_
   try go_frame
   refine wpAnyH_done (by kernel_rfl) ?_ _
   clear hH2
   have hl0:0≤lim :=by rw [HLIM.out]; have :=hV.c7; omega
   have hl1:lim≤maxU :=by
    rw [HLIM.out]
    have h1 :=hV.c7
    have h2 :=HO.out.act1
    rw [← HS.out] at h2
    have h3 :=Int.ediv_le_self (c 8) (a :=actS S.vs) (by rw [HS.out]; exact HO.out.act0)
    unfold maxU at h2 ⊢
    omega
   have HL1 :=Hd hl1
   have HAS :=Hd (Znt (HE4.out.keeps (Mods.refl _ w4).drew) ep lim HEP0.out HEP1.out hl0 hl1 (by rw [HS.out]; exact HO.out.car) (by rw [HS.out]; exact HO.out.q2) (by rw [HS.out]; exact HO.out.wd2) (by rw [HS.out]; exact HO.out.bk2) (by rw [HS.out]; exact Nat.zero_le _) (by omega))
   obtain ⟨A,hA⟩:∃ A,A=Z23 c S ep lim :=⟨_,rfl⟩
   rw [← hA] at HAS
   have HA :=Hd hA
   have hlimE:lim=Z2i c S :=HLIM.out
   have hoK:Z65 c E=Z42 S ep lim :=by unfold Z65; rw [← HS.out,← HEPE.out,← hlimE]
   have hoL:(Z65 c E).length=Z29 S lim :=by rw [hoK]; exact Za6 _ _ _ _
   rw [← hoL,← hoK] at HAS
   have hpeA:∀ i∈A.pe,inR A.vs i :=fun i hi =>by
    rw [hA] at hi ⊢
    refine (Z2t ((Zd8 c S ep lim).trans ?_) i).2 (HO.out.pe i ?_)
    ·rw [HS.out]; exact Zfy c E
    ·rw [HS.out] at hi; exact hi
   have HPEA :=Hd hpeA
   have HLE :=Hd hlimE
   clear hl0 hl1 hA hlimE hoK hoL hpeA
   go_wp2_with fail
   refine HAS.out.mono ?_
   rintro r w6 ⟨vo,rfl,own6,hE6,hX6,hro,hzo⟩
   have hs46:w.heap.size≤w4.drew.heap.size :=HX4.out.mods.size
   have HX6 :=Hd ((HX4.out.trans (Ext.keeps (own :=own4) (Mods.refl _ w4).drew)).trans hX6)
   have HE6 :=Hd hE6
   have HRO :=Hd (own_base hro hs46)
   have HZO :=Hd hzo
   obtain ⟨oa,oc,rfl⟩ :=Z0c hro
   obtain ⟨lv6,hb6, -, -⟩ :=hE6.blk (by decide)
   have g0 :=(Z09 hb6).1
   have g28 :=(Z09 hb6).2.2.2.2.2.2.2.2.1
   have HC6 :=Hd (fun (wx:World) (hk:Z00 w6 wx) =>(⟨hk.cell g28 fun h =>h,hk.cell g0 fun h =>h⟩:wx.cell? ⟨e,28,none⟩=some (.pointer (some ⟨p.pe,0,none⟩))∧wx.cell? ⟨e,0,none⟩=some (.pointer (some ⟨p.rg,0,none⟩))))
   have HBA :=Hd (fun (w':World) (hk:Z00 w6 w') =>Zms (HE6.out.keeps hk))
   have HSTP :=Hd (fun (w':World) (hk:Z00 w6 w') =>Zi7 (HE6.out.keeps hk) lim HL1.out)
   obtain ⟨P,hP⟩:∃ P,P=A.pe.take (actK A lim) :=⟨_,rfl⟩
   rw [← hP] at HSTP
   have HP :=Hd hP
   have hPl:P.length≤4096 :=by
    have h1 :=HE6.out.pe (by decide)
    have h2 :=Nat.le_trans h1.2.2.2.1 h1.2.2.1
    rw [hP,List.length_take]
    omega
   have HPL :=Hd hPl
   clear hE6 hX6 hro hzo hb6 g0 g28 hs46 hP hPl
   go_wp2_with fail
   refine wp_region_held_drew (S :=(fun w' =>w'.cell? ⟨e,28,none⟩=some (.pointer (some ⟨p.pe,0,none⟩))∧w'.cell? ⟨e,0,none⟩=some (.pointer (some ⟨p.rg,0,none⟩)))) (by kernel_rfl) (by exact HC6.out _ (Mods.refl _ w6).drew) (fun hH0 =>?_)
   refine tk 0 rfl hH0 ?_
   try go_frame
   refine tk 1 rfl hH0 ?_
   try go_frame
   refine tk 2 rfl hH0 ?_
   try go_frame
   refine tk 3 rfl hH0 ?_
   try go_frame
   refine tk 4 rfl hH0 ?_
   try go_frame
   refine tk 5 rfl hH0 ?_
   try go_frame
   refine tk 6 rfl hH0 ?_
   try go_frame
   refine tk 7 rfl hH0 ?_
   try go_frame
   refine tk 8 rfl hH0 ?_
   try go_frame
   refine tk 12 rfl hH0 ?_
   try go_frame
   refine rdy [9] (Z04 rfl (fun K hK =>?_) AllReadyH.nil)
   go_simp
   refine (HBA.out _ (Mods.refl _ w6).drew).mono ?_
   rintro r w7 ⟨vb,rfl,hvb,hk7⟩
   have hk67 :=((Mods.refl (fun _ =>False) w6).drew).keep hk7
   go_wp2_with fail
   refine hK.out _ _ (HC6.out _ hk67) (fun hH1 =>?_)
   clear hK K hH0
   try go_frame
   refine rdy [10] (Z04 rfl (fun K hK =>?_) AllReadyH.nil)
   have HK67 :=Hd hk67
   have HVB :=Hd hvb
   have HNB :=Hd (show ∀ k,vb.ownBlock=some k→own6 k=0 from fun k hk =>HE6.out.new k (hvb.lt k hk).1)
   clear hk67 hvb hk7
   go_simp
   refine (HSTP.out _ HK67.out vb _ HVB.out HNB.out).mono ?_
   rintro r w8 ⟨vi,rfl,hri,hE8,hX8,hzi⟩
   go_wp2_with fail
   obtain ⟨lv8,hb8, -, -⟩ :=hE8.blk (by decide)
   obtain ⟨ia,ic,rfl⟩ :=Z0c hri
   refine hK.out _ _ (⟨(Z09 hb8).2.2.2.2.2.2.2.2.1,(Z09 hb8).1⟩) (fun hH2 =>?_)
   clear hK K hH1
   try go_frame
   refine tk 11 rfl hH2 ?_
   try go_frame
   refine wpAnyH_done (by kernel_rfl) ?_ _
   clear hH2
   have hX68 :=(Ext.keeps (own :=own6) HK67.out).trans hX8
   have HX8 :=Hd (HX6.out.trans hX68)
   have HE8 :=Hd hE8
   have HRO8 :=Hd (hX68.owns HRO.out HZO.out)
   have HRI :=Hd hri
   have HZI :=Hd hzi
   obtain ⟨T2,hT2⟩:∃ T:Nat→List Vd,T=fun k =>(P.take k).foldl (fun l i =>evL l i.toNat 1) A.vs :=⟨_,rfl⟩
   have HT20 :=Hd (show T2 0=A.vs from by rw [hT2]; rfl)
   have HT2S :=Hd (show ∀ k (hk:k<P.length),T2 (k+1)=evL (T2 k) P[k].toNat 1 from fun k hk =>by
    rw [hT2]
    dsimp only
    rw [List.take_succ_eq_append_getElem hk,List.foldl_append]
    rfl)
   have HT2E :=Hd (show { A with vs :=T2 P.length,pe :=A.pe.drop (actK A lim) }=Zbs A lim from by rw [hT2]; dsimp only; rw [List.take_length,HP.out]; rfl)
   have HT2L :=Hd (show ∀ k,(T2 k).length=A.vs.length from fun k =>by rw [hT2]; exact (Z43 1 (P.take k) A.vs).2)
   have HPIN :=Hd (show ∀ i∈P,inR A.vs i from fun i hi =>HPEA.out i (by rw [HP.out] at hi; exact List.mem_of_mem_take hi))
   clear hX68 hX8 hE8 hri hzi hb8 hT2
   go_wp2_with fail
   go_loopw [72] (fun i wr => ∃ k:Nat,k≤P.length∧i = .int .i64 k∧∃ own',Z0i own' wr e c { A with vs :=T2 k,pe :=A.pe.drop (actK A lim) } p (N+220000+2 * k)∧Ext own w own' wr∧Ext own6 w8 own' wr) (fun i _ =>P.length - (intOf i).toNat)
   case atStart =>exact ⟨0,Nat.zero_le _,rfl,own6,by rw [HT20.out]; exact HE8.out.mono (by omega),HX8.out,Ext.refl _ _⟩
   case round =>
    obtain ⟨k,hk,rfl,own9,hE9,hX9,hX89⟩ :=hrel
    by_cases hlt:k<P.length
    ·have hki:(k:Int)<(P.length:Int) :=Int.ofNat_lt.2 hlt
     obtain ⟨g,gc,hvv,q0⟩ :=ints_at (hX89.owns HRI.out HZI.out) k hlt
     simp only [Value.slice.injEq] at hvv
     obtain ⟨rfl,_,rfl⟩ :=hvv
     have hst :=HT2S.out k hlt
     have hin :=HPIN.out P[k] (List.getElem_mem hlt)
     generalize P[k]=a at *
     obtain ⟨i,rfl⟩ :=Int.eq_ofNat_of_zero_le hin.1
     rw [Int.toNat_natCast] at hst
     have hil:i<(T2 k).length :=by rw [HT2L.out]; have :=hin.2; omega
     have HLB :=Hd (show P.length≤100000 from by have :=HPL.out; omega)
     have HEV :=Hd (Zmo hE9 i hil 1 (by decide) (by have :=HPL.out; omega))
     obtain ⟨lv9,hb9, -, -⟩ :=hE9.blk (by decide)
     have d0 :=(Z09 hb9).1
     have HST :=Hd hst
     have HX9 :=Hd hX9
     have HX89 :=Hd hX89
     clear hE9 hX9 hX89 hst hin hil hb9
     go_wp2_with fail
     refine HEV.out.mono ?_
     rintro r w10 ⟨⟨b,rfl⟩,own10,hE10,hX10⟩
     have HE10 :=Hd hE10
     have HX10 :=Hd hX10
     clear hE10 hX10
     go_wp2_with fail
     go_roundw
     case rel =>exact ⟨k+1,hlt,Zjp (Nat.le_trans hk HLB.out),own10,by rw [HST.out]; exact HE10.out,HX9.out.trans HX10.out,HX89.out.trans HX10.out⟩
     case measure =>exact Zej hlt HLB.out
    ·obtain rfl:k=P.length :=by omega
     obtain ⟨F,hF⟩:∃ F,F=Zbs A lim :=⟨_,rfl⟩
     have e9:({ A with vs :=T2 P.length,pe :=A.pe.drop (actK A lim) }:En)=F :=by rw [hF]; exact HT2E.out
     rw [e9] at hE9
     have hFE:F=Zbs (Z23 c (Z19 c E) (E.b / c 13) (Z2i c (Z19 c E))) (Z2i c (Z19 c E)) :=by
      rw [hF,HA.out,← HS.out,← HEPE.out,← HLE.out]
     have hF4:totS F.vs=totS E.vs :=by rw [hFE]; exact HO.out.tot4
     obtain ⟨Q,hQ⟩:∃ x,x=F.mg.take (c 17).toNat :=⟨_,rfl⟩
     obtain ⟨L,hL⟩:∃ x,x=Z1k (c 6) F.vs Q :=⟨_,rfl⟩
     have hBE:Z9r c E = { F with vs :=L,mg :=F.mg.drop (c 17).toNat } := by
      unfold Z9r
      rw [← hFE,hL,hQ]
      rfl
     have hL5:totS L=totS E.vs :=by have :=HO.out.tot5; rw [hBE] at this; exact this
     have hE9:Z0i own9 wr e c F p (N+240000) :=hE9.mono (by have :=HPL.out; omega)
     obtain ⟨hvok, -,hvl,hc4⟩ :=hE9.vsok
     have hLok:∀ x∈L,x.ok :=by rw [hL]; exact Zaa Q hvok
     have hLl:L.length=F.vs.length :=by rw [hL]; exact Z5s _ _ _
     have hql:Q.length≤4096 :=by
      have h1 :=hE9.mg (by decide)
      have h2 :=Nat.le_trans h1.2.2.2.1 h1.2.2.1
      rw [hQ,List.length_take]
      omega
     have h17 :=hV.c17
     have hqc:(Q.length:Int)≤c 17 :=by rw [hQ,List.length_take]; omega
     have HALL :=Hd (fun (w':World) (hk:Z00 wr w') =>eAll (hE9.keeps hk))
     have HTAK :=Hd (fun (w':World) (hk:Z00 wr w') =>Zjc (hE9.keeps hk) (c 17) h17.1)
     rw [← hQ] at HTAK
     have HPS :=Hd (fun (v vq:Value) (B:Nat) (w':World) (hl:VL w' v F.vs) (hq:w'.ownsRow B 92 2 vq Q.length (Z16 Q)) =>Zdw v F.vs hvok (by omega) vq Q B c w' hl hq (by omega) hqc)
     rw [← hL,← hLl] at HPS
     obtain ⟨cs,hcs⟩:∃ x,x=cfgC c :=⟨_,rfl⟩
     have hcz:cs.toList.length=20 :=by rw [hcs]; rfl
     have hs20:(Tryz.prog.info? 24).map (·.size)=some cs.toList.length :=by rw [Z0m,hcz]
     rw [show cfgV c = .agg (cfgC c) from rfl,← hcs] at HPS
     obtain ⟨lv9,hb9, -, -⟩ :=hE9.blk (by decide)
     have c0 :=(Z09 hb9).1
     have c29 :=(Z09 hb9).2.2.2.2.2.2.2.2.2.1
     have c18:wr.cell? ⟨e,18,none⟩=some (.int .i64 (c 17)) :=by rw [cell_of_row _ _ _ _ _ _ hb9]; rfl
     have hcfg :=Z55 hb9
     rw [← hcs] at hcfg
     have HCE :=Hd (fun (w':World) (hk:Z00 wr w') =>(⟨hk.cell c0 fun h =>h,hk.cell c18 fun h =>h,hk.cell c29 fun h =>h,Z0n hcfg hk⟩:w'.cell? ⟨e,0,none⟩=some (.pointer (some ⟨p.rg,0,none⟩))∧w'.cell? ⟨e,18,none⟩=some (.int .i64 (c 17))∧w'.cell? ⟨e,29,none⟩=some (.pointer (some ⟨p.mg,0,none⟩))∧w'.rangeAt e 1 cs.toList))
     have HSUM :=Hd (show totS F.vs+totS L≤maxU from by rw [hF4,hL5]; exact HO.out.tot)
     have HBE :=Hd hBE
     have HCS :=Hd hcs
     have HLL :=Hd hLl
     have HLOK :=Hd hLok
     have HLN :=Hd (show L.length≤4096 from by omega)
     have HE9 :=Hd hE9
     have HX9 :=Hd hX9
     have HRO9 :=Hd (hX89.owns HRO8.out (fun j hj =>HZO.out j hj))
     have HZO9 :=Hd (show ∀ j,(Value.slice oa (Z65 c E).length oc).ownBlock=some j→own9 j=0 from fun j hj =>(hX89.old j (HRO8.out.lt j hj).2).trans (HZO.out j hj))
     have HS20 :=Hd hs20
     clear hF e9 hFE hF4 hQ hL hBE hL5 hE9 hvok hvl hc4 hLok hLl hql hqc hcs hcz hb9 c0 c29 c18 hcfg hX9 hX89
     go_wp2_with fail
     refine wp_region_held_drew (S :=(fun w' =>w'.cell? ⟨e,0,none⟩=some (.pointer (some ⟨p.rg,0,none⟩))∧w'.cell? ⟨e,18,none⟩=some (.int .i64 (c 17))∧w'.cell? ⟨e,29,none⟩=some (.pointer (some ⟨p.mg,0,none⟩))∧w'.rangeAt e 1 cs.toList)) (by kernel_rfl) (by exact HCE.out _ (Mods.refl _ wr).drew) (fun hH0 =>?_)
     refine tk 0 rfl hH0 ?_
     try go_frame
     refine tk 1 rfl hH0 ?_
     try go_frame
     refine tk 2 rfl hH0 ?_
     try go_frame
     refine tk 3 rfl hH0 ?_
     try go_frame
     refine tk 4 rfl hH0 ?_
     try go_frame
     refine tk 6 rfl hH0 ?_
     try go_frame
     refine tk 7 rfl hH0 ?_
     try go_frame
     refine tk 8 rfl hH0 ?_
     try go_frame
     refine tk 9 rfl hH0 ?_
     try go_frame
     refine tk 10 rfl hH0 ?_
     try go_frame
     refine tk 11 rfl hH0 ?_
     try go_frame
     refine tk 12 rfl hH0 ?_
     try go_frame
     refine tk 13 rfl hH0 ?_
     try go_frame
     refine tk 14 rfl hH0 ?_
     try go_frame
     refine tk 16 rfl hH0 ?_
     try go_frame
     refine tk 17 rfl hH0 ?_
     try go_frame
     refine tk 18 rfl hH0 ?_
     try go_frame
     refine tkb 19 rfl hH0 (yieldsIf_load_mid (by rfl) 24 (.tmp 102) rfl e 1 rfl cs.toList _ (fun _ h =>h.2.2.2) Tryz.underlying24 rfl hs20) ?_
     try go_frame
     refine rdy [5] (Z04 rfl (fun K hK =>?_) AllReadyH.nil)
     go_simp
     refine (HALL.out _ (Mods.refl _ wr).drew).mono ?_
     rintro r w10 ⟨v,rfl,hv,hk1⟩
     go_wp2_with fail
     have hkz :=((Mods.refl (fun _ =>False) wr).drew).keep hk1
     refine hK.out _ _ (HCE.out _ hkz) (fun hH1 =>?_)
     clear hK K hH0
     try go_frame
     refine rdy [15] (Z04 rfl (fun K hK =>?_) AllReadyH.nil)
     have K1 :=Hd hkz
     have HV :=Hd hv
     clear hkz hv hk1
     go_simp
     refine (HTAK.out _ K1.out).mono ?_
     rintro r w11 ⟨vq,rfl,hq,hE11,hX11,hz11⟩
     go_wp2_with fail
     obtain ⟨lv11,hb11, -, -⟩ :=hE11.blk (by decide)
     have h2cfg :=Z55 hb11
     rw [← HCS.out] at h2cfg
     have h2c :=Z09 hb11
     have h2e:w11.cell? ⟨e,18,none⟩=some (.int .i64 (c 17)) :=by rw [cell_of_row _ _ _ _ _ _ hb11]; rfl
     refine hK.out _ _ (⟨h2c.1,h2e,h2c.2.2.2.2.2.2.2.2.2.1,h2cfg⟩) (fun hH2 =>?_)
     clear hK K hH1
     try go_frame
     refine rdy [20] (Z04 rfl (fun K hK =>?_) AllReadyH.nil)
     have HE11 :=Hd hE11
     have HX11 :=Hd ((Ext.keeps (own :=own9) K1.out).trans hX11)
     have HV11 :=Hd (VL.of_owns (l :=F.vs) (hX11.owns HV.out fun k hk =>HE9.out.new k (by have :=(HV.out.lt k hk).1; exact this)))
     have HC11 :=Hd (fun (wx:World) (hk:Z00 w11 wx) =>(⟨hk.cell h2c.1 fun h =>h,hk.cell h2e fun h =>h,hk.cell h2c.2.2.2.2.2.2.2.2.2.1 fun h =>h,Z0n h2cfg hk⟩:wx.cell? ⟨e,0,none⟩=some (.pointer (some ⟨p.rg,0,none⟩))∧wx.cell? ⟨e,18,none⟩=some (.int .i64 (c 17))∧wx.cell? ⟨e,29,none⟩=some (.pointer (some ⟨p.mg,0,none⟩))∧wx.rangeAt e 1 cs.toList))
     have HQQ :=Hd hq
     clear hE11 hX11 hb11 h2c h2cfg h2e hq hz11
     go_simp
     refine (HPS.out v vq _ _ HV11.out HQQ.out).mono ?_
     rintro r w12 ⟨v1,vd,rfl,ho1,hk12⟩
     go_wp2_with fail
     refine hK.out _ _ (HC11.out _ hk12) (fun hH3 =>?_)
     clear hK K hH2
     try go_frame
     refine tk 21 rfl hH3 ?_
     try go_frame
     refine tk 22 rfl hH3 ?_
     try go_frame
     refine tk 23 rfl hH3 ?_
     try go_frame
     refine tk 24 rfl hH3 ?_
     try go_frame
     refine tk 25 rfl hH3 ?_
     try go_frame
     refine wpAnyH_done (by kernel_rfl) ?_ _
     clear hH3
     have HE12 :=Hd (HE11.out.keeps hk12)
     have HX12 :=Hd (HX11.out.trans (Ext.keeps (own :=own9) hk12))
     have hs13:wr.heap.size≤w11.heap.size :=HX11.out.mods.size
     have HZ1 :=Hd (show ∀ k,v1.ownBlock=some k→own9 k=0 from fun k hk =>HE9.out.new k (by have :=(ho1.lt k hk).1; omega))
     have HSTO :=Hd (Zm5 HE12.out v1 L _ ho1 HLL.out HLOK.out HSUM.out HZ1.out (by have :=HLN.out; omega))
     have hLn :=HLN.out
     clear ho1 hk12 hs13
     go_wp2_with fail
     refine HSTO.out.mono ?_
     rintro r w13 ⟨rfl,own13,hE13,hX13⟩
     have hX913 :=HX12.out.trans hX13
     have HE13 :=Hd (show Z0i own13 w13 e c (Z9r c E) p (N+300000) from by rw [HBE.out]; exact hE13.mono (by omega))
     have HX13 :=Hd (HX9.out.trans hX913)
     have HRO13 :=Hd (hX913.owns HRO9.out HZO9.out)
     have HZO13 :=Hd (show ∀ j,(Value.slice oa (Z65 c E).length oc).ownBlock=some j→own13 j=0 from fun j hj =>(hX913.old j (HRO9.out.lt j hj).2).trans (HZO9.out j hj))
     clear hE13 hX13 hX913 hLn
     go_wp2
     go_ret
     exact ⟨_,rfl,own13,HE13.out,HX13.out,HRO13.out,HZO13.out⟩
end Go.Proofs.YtecapfmmoejikaaGreat
