/- A part of the proofs of the top laws: StoB Rip AsgA PosA PosB ParA. -/
import Derived.Test.YtecapfmmoejikaaGreatPkAy
set_option maxRecDepth 4000
set_option maxHeartbeats 8000000
namespace Go.Proofs.YtecapfmmoejikaaGreat
open Go.RowKit Go.Eg
theorem Zr8 (a b:Bool) (w:World):(Instr.index 261 (.agg #[.bool a, .bool b]) (.int .i64 0)).run Tryz.prog w = .ok (.bool a) w :=by kernel_rfl
theorem Zqy (a b:Bool) (w:World):(Instr.index 261 (.agg #[.bool a, .bool b]) (.int .i64 1)).run Tryz.prog w = .ok (.bool b) w :=by kernel_rfl
theorem Zm5 {own:Nat→Nat} {w:World} {e:Nat} {c:Nat→Int} {E:En} {p:Ep} {N:Nat} (h:Z0i own w e c E p N) (v:Value) (l:List Vd) (B:Nat) (hl:w.ownsRow B 49 7 v l.length (Z10 l)) (hlen:l.length=E.vs.length) (hok:∀ x∈l,x.ok) (hs:totS E.vs+totS l≤maxU) (h0:∀ k,v.ownBlock=some k→own k=0) (hN:N+4 * l.length+1<4294967296) :
 Calls Tryz.prog 117 #[.pointer (some ⟨e,0,none⟩),v] w fun r w' =>r = .returned (.tuple #[])∧Goes own w e c p { E with vs :=l } (N+4 * l.length) w' :=by
 obtain ⟨va,vc,rfl⟩ :=Z0c hl
 have hvs :=h.vsok.1
 have hn4:l.length≤4096 :=by have :=h.vsok.2.2; omega
 have HSUM :=Hd (fun f =>Int.le_trans (Zkh hlen hvs hok f) hs)
 have H :=Hd h
 have HL :=Hd hl
 have H0 :=Hd h0
 have HOK :=Hd hok
 obtain ⟨le,hle⟩:∃ le:Nat→Bool,le=fun i:Nat =>decide ((vAt l i).bal≤(vAt E.vs i).bal) :=⟨_,rfl⟩
 have HLE :=Hd hle
 have ix0 :=Zr8 false true
 have ix1 :=Zqy false true
 have HLEN :=Hd hlen
 clear h hl h0 hok hs hvs hle hlen
 go_enter Tryz.func117,Tryz.ntmps117
 go_wp2_with fail
 go_loopw [11] (fun i wr =>(i = .int .i64 0∧∃ own',Z0i own' wr e c E p N∧Ext own w own' wr)∨(i = .int .i64 1∧∃ own',Z0i own' wr e c { E with vs :=mixL le E.vs l } p (N+2 * l.length)∧Ext own w own' wr)∨(i = .int .i64 2∧Goes own w e c p { E with vs :=l } (N+4 * l.length) wr)) (fun i _ =>2 - (intOf i).toNat)
 case atStart =>exact .inl ⟨rfl,own,H.out,Ext.refl _ _⟩
 case round =>
  rcases hrel with ⟨rfl,own1,hE,hX⟩ | ⟨rfl,own1,hE,hX⟩ | ⟨rfl,hG⟩
  ·have HE1 :=Hd hE
   have HX1 :=Hd hX
   obtain ⟨FF,hFF⟩:∃ FF:Nat→Nat→Bool,FF=fun k i =>decide (i<k) && le i :=⟨_,rfl⟩
   have HFF :=Hd hFF
   have HEND :=Hd (show mixL (FF l.length) E.vs l=mixL le E.vs l from Z2v fun i hi =>by have :=HLEN.out; rw [hFF]; simp; omega)
   clear hE hX hFF
   go_wp2_with fail
   go_loopw [16] (fun i wr => ∃ k:Nat,k≤l.length∧i = .int .i64 k∧∃ own',Z0i own' wr e c { E with vs :=mixL (FF k) E.vs l } p (N+0+2 * k)∧Ext own w own' wr) (fun i _ =>l.length - (intOf i).toNat)
   case atStart =>exact ⟨0,Nat.zero_le _,rfl,own1,by rw [show mixL (FF 0) E.vs l=E.vs from by rw [HFF.out]; simp [Zib]]; exact HE1.out,HX1.out⟩
   case round =>
    obtain ⟨k,hk,rfl,own2,hE,hX⟩ :=hrel
    by_cases hlt:k<l.length
    ·have hki:(k:Int)<(l.length:Int) :=Int.ofNat_lt.2 hlt
     have hkv:k<E.vs.length :=by have :=HLEN.out; omega
     have hkm:k<(mixL (FF k) E.vs l).length :=by rw [Z4i]; exact hkv
     obtain ⟨lv,hblk, -, -⟩ :=hE.blk (by decide)
     have c0:wr.cell? ⟨e,0,none⟩=some (.pointer (some ⟨p.rg,0,none⟩)) :=by rw [cell_of_row _ _ _ _ _ _ hblk]; rfl
     have hrow :=hX.owns HL.out H0.out
     obtain ⟨b,rfl, -, -⟩ :=Z7x hrow k hlt
     obtain ⟨b',off,cap',e1,r1⟩ :=Z2y (VL.of_owns hrow) (i :=(k:Int)) ⟨by omega,hki⟩
     injection e1 with e1 _ e1'
     injection e1 with e1
     injection e1 with e1 e1''
     subst e1 e1' e1''
     rw [Nat.zero_add,Int.toNat_natCast] at r1
     have HGET :=Hd (fun w' (hk:Z00 wr w') =>eGet (hE.keeps hk) k hkm)
     have hold:(mixL (FF k) E.vs l)[k]=vAt E.vs k :=by rw [Z70 _ _ _ _ hkv]; rw [HFF.out]; simp
     rw [hold] at HGET
     have HC0 :=Hd (fun w' (hk:Z00 wr w') =>hk.cell c0 fun h =>h)
     have hc0:∀ o,(wr.alloc o).cell? ⟨e,0,none⟩=some (.pointer (some ⟨p.rg,0,none⟩)) :=fun o =>HC0.out _ ((Mods.refl _ wr).alloc o)
     have HE :=Hd hE
     have HX :=Hd hX
     have R1 :=Hd r1
     have HVOK :=Hd (show (vAt l k).ok from by rw [Z2g hlt]; exact HOK.out _ (List.getElem_mem _))
     obtain ⟨nv,hnv⟩:∃ x,x=vAt l (k:Int) :=⟨_,rfl⟩
     obtain ⟨ov,hov⟩:∃ x,x=vAt E.vs k :=⟨_,rfl⟩
     have hgt:decide (ov.bal<nv.bal) = !le k :=by rw [hov,hnv]; rw [HLE.out]; simp [← Int.not_le,decide_not]
     rw [← hnv] at R1 HVOK
     rw [← hov] at HGET
     have HNV :=Hd hnv
     clear hblk hrow r1 hE hX hold hov hnv
     go_wp2_with (refine wpList_load_mid rfl 49 _ rfl b (k * 7) rfl nv.cells.toList _ R1.out Tryz.underlying49 rfl Z4n ?_)
     refine (HGET.out _ (by (repeat' first | (with_reducible refine Mods.setCell ?_ _ _ (fun _ =>rfl)) | (with_reducible refine Mods.alloc ?_ _) | (with_reducible refine Mods.drewN ?_ _) | (with_reducible refine Mods.drew ?_) | (with_reducible exact Mods.refl _ _)))).mono ?_
     rintro r w2 ⟨rfl,hk2⟩
     have hk12:Z00 wr w2 :=((Mods.refl _ wr).alloc _).keep hk2
     have hb7:w2.heap[wr.heap.size]? = some (vdB nv) :=hk2.at (heap_alloc_last wr _) fun h =>h
     have e7 :=(Z0o hb7).1
     have hb7' :=Z02 hb7 (vdB ov)
     have e7':(w2.alloc (vdB ov)).cell? ⟨wr.heap.size,0,none⟩=some (.int .u64 nv.bal) :=(Z0o hb7').1
     have e8:(w2.alloc (vdB ov)).cell? ⟨w2.heap.size,0,none⟩=some (.int .u64 ov.bal) :=(Z0o (heap_alloc_last w2 (vdB ov))).1
     have HK3 :=Hd (hk12.alloc (vdB ov))
     have HB7 :=Hd hb7'
     clear hk2 hk12 hb7 hb7' e7 c0 hc0
     by_cases hle:le k=true
     ·rw [hle] at hgt
      have HMX :=Hd (show (mixL (FF k) E.vs l).set k nv=mixL (FF (k+1)) E.vs l from by
       rw [HNV.out,Zfj]
       exact Z2v fun i _ =>by
        rw [HFF.out]
        by_cases e:i=k
        ·subst e; simp [hle]
        ·simp only [Nat.lt_succ_iff_lt_or_eq,e,or_false,decide_false,Bool.or_false])
      have hsum :=HSUM.out (FF (k+1))
      rw [← HMX.out] at hsum
      have HCH :=Hd (fun w' (hk:Z00 wr w') =>Z4z (HE.out.keeps hk) nv HVOK.out k hkm hsum (by omega))
      rw [HMX.out] at HCH
      clear hle hsum
      go_wp2_with fail
      refine Z0l ?_
      intro w3 hw3
      rw [← (show w3=_ from hw3)] at HK3 HB7
      have hc3 :=HC0.out _ HK3.out
      clear hw3 e7' e8
      refine wp_region_held_drew (S :=(fun w' =>w'.cell? ⟨e,0,none⟩=some (.pointer (some ⟨p.rg,0,none⟩))∧w'.heap[wr.heap.size]? = some (vdB nv))) (by kernel_rfl) (by exact ⟨hc3,HB7.out⟩) (fun hH0 =>?_)
      refine tk 0 rfl hH0 ?_
      try go_frame
      refine tk 1 rfl hH0 ?_
      try go_frame
      refine tk 2 rfl hH0 ?_
      try go_frame
      refine tk 3 (v :=tabV p.rg) rfl hH0 ?_
      try go_frame
      refine tk 4 rfl hH0 ?_
      try go_frame
      refine tkb 5 rfl hH0 (Z13 (by rfl) (.tmp 7) rfl wr.heap.size rfl nv (fun _ h =>h.2)) ?_
      try go_frame
      refine rdy [6] (Z04 rfl (fun K hK =>?_) AllReadyH.nil)
      go_simp
      refine (HCH.out _ ((HK3.out).drew)).mono ?_
      rintro r w4 ⟨rfl,own3,hE3,hX3⟩
      go_wp2_with fail
      have hX4 :=HX.out.trans ((Ext.keeps (HK3.out.drew)).trans hX3)
      obtain ⟨lv4,hb4, -, -⟩ :=hE3.blk (by decide)
      refine hK.out _ _ (⟨by rw [cell_of_row _ _ _ _ _ _ hb4]; rfl,(hX3.at (b :=wr.heap.size) HB7.out ((HE.out.new _ (Nat.le_refl _)))).1⟩) (fun hH1 =>?_)
      clear hK K hH0
      try go_frame
      refine wpAnyH_done (by kernel_rfl) ?_ _
      clear hH1
      have HE3 :=Hd hE3
      have HX4 :=Hd hX4
      clear hE3 hX3 hX4 hb4
      go_wp2
      go_roundw
      case rel =>exact ⟨k+1,by omega,by go_num,own3,HE3.out.mono (by omega),HX4.out⟩
      case measure =>simp [intOf]; omega
     ·have hle':le k=false :=by simpa using hle
      rw [hle'] at hgt
      have HMX :=Hd (show mixL (FF k) E.vs l=mixL (FF (k+1)) E.vs l from Z2v fun i _ =>by
       rw [HFF.out]
       by_cases e:i=k
       ·subst e; simp [hle']
       ·simp only [Nat.lt_succ_iff_lt_or_eq,e,or_false])
      clear hle hle'
      go_wp2_with fail
      go_roundw
      case rel =>exact ⟨k+1,by omega,by go_num,own2,by rw [← HMX.out]; exact (HE.out.keeps HK3.out).mono (by omega),HX.out.trans (Ext.keeps HK3.out)⟩
      case measure =>simp [intOf]; omega
    ·obtain rfl:k=l.length :=by omega
     have HE :=Hd hE
     have HX :=Hd hX
     clear hE hX
     go_wp2
     go_roundw
     case rel =>exact .inr (.inl ⟨by go_num,own2,by rw [HEND.out] at HE; exact HE.out.mono (by omega),HX.out⟩)
     case measure =>simp [intOf]
  ·have HE1 :=Hd hE
   have HX1 :=Hd hX
   obtain ⟨FF,hFF⟩:∃ FF:Nat→Nat→Bool,FF=fun k i =>le i || decide (i<k) :=⟨_,rfl⟩
   have HFF :=Hd hFF
   have HEND :=Hd (show mixL (FF l.length) E.vs l=l from (Z2v fun i hi =>by have :=HLEN.out; rw [hFF]; simp; omega).trans (Zl5 HLEN.out))
   clear hE hX hFF
   go_wp2_with fail
   go_loopw [16] (fun i wr => ∃ k:Nat,k≤l.length∧i = .int .i64 k∧∃ own',Z0i own' wr e c { E with vs :=mixL (FF k) E.vs l } p (N+2 * l.length+2 * k)∧Ext own w own' wr) (fun i _ =>l.length - (intOf i).toNat)
   case atStart =>exact ⟨0,Nat.zero_le _,rfl,own1,by rw [show mixL (FF 0) E.vs l=mixL le E.vs l from Z2v fun i _ =>by rw [HFF.out]; simp]; exact HE1.out,HX1.out⟩
   case round =>
    obtain ⟨k,hk,rfl,own2,hE,hX⟩ :=hrel
    by_cases hlt:k<l.length
    ·have hki:(k:Int)<(l.length:Int) :=Int.ofNat_lt.2 hlt
     have hkv:k<E.vs.length :=by have :=HLEN.out; omega
     have hkm:k<(mixL (FF k) E.vs l).length :=by rw [Z4i]; exact hkv
     obtain ⟨lv,hblk, -, -⟩ :=hE.blk (by decide)
     have c0:wr.cell? ⟨e,0,none⟩=some (.pointer (some ⟨p.rg,0,none⟩)) :=by rw [cell_of_row _ _ _ _ _ _ hblk]; rfl
     have hrow :=hX.owns HL.out H0.out
     obtain ⟨b,rfl, -, -⟩ :=Z7x hrow k hlt
     obtain ⟨b',off,cap',e1,r1⟩ :=Z2y (VL.of_owns hrow) (i :=(k:Int)) ⟨by omega,hki⟩
     injection e1 with e1 _ e1'
     injection e1 with e1
     injection e1 with e1 e1''
     subst e1 e1' e1''
     rw [Nat.zero_add,Int.toNat_natCast] at r1
     have HGET :=Hd (fun w' (hk:Z00 wr w') =>eGet (hE.keeps hk) k hkm)
     have hold:(mixL (FF k) E.vs l)[k]=(if le k=true then vAt l k else vAt E.vs k) :=by rw [Z70 _ _ _ _ hkv]; rw [HFF.out]; simp
     rw [hold] at HGET
     have HC0 :=Hd (fun w' (hk:Z00 wr w') =>hk.cell c0 fun h =>h)
     have hc0:∀ o,(wr.alloc o).cell? ⟨e,0,none⟩=some (.pointer (some ⟨p.rg,0,none⟩)) :=fun o =>HC0.out _ ((Mods.refl _ wr).alloc o)
     have HE :=Hd hE
     have HX :=Hd hX
     have R1 :=Hd r1
     have HVOK :=Hd (show (vAt l k).ok from by rw [Z2g hlt]; exact HOK.out _ (List.getElem_mem _))
     obtain ⟨nv,hnv⟩:∃ x,x=vAt l (k:Int) :=⟨_,rfl⟩
     obtain ⟨ov,hov⟩:∃ x,x=(if le k=true then vAt l k else vAt E.vs k) :=⟨_,rfl⟩
     have hgt:decide (ov.bal<nv.bal) = !le k :=by 
      rw [hov,hnv]
      by_cases e:le k=true
      ·rw [if_pos e,e]; simp
      ·rw [if_neg e]
       rw [HLE.out] at e ⊢
       simp [← Int.not_le,decide_not]
     rw [← hnv] at R1 HVOK
     rw [← hov] at HGET
     have HNV :=Hd hnv
     clear hblk hrow r1 hE hX hold hov hnv
     go_wp2_with (refine wpList_load_mid rfl 49 _ rfl b (k * 7) rfl nv.cells.toList _ R1.out Tryz.underlying49 rfl Z4n ?_)
     refine (HGET.out _ (by (repeat' first | (with_reducible refine Mods.setCell ?_ _ _ (fun _ =>rfl)) | (with_reducible refine Mods.alloc ?_ _) | (with_reducible refine Mods.drewN ?_ _) | (with_reducible refine Mods.drew ?_) | (with_reducible exact Mods.refl _ _)))).mono ?_
     rintro r w2 ⟨rfl,hk2⟩
     have hk12:Z00 wr w2 :=((Mods.refl _ wr).alloc _).keep hk2
     have hb7:w2.heap[wr.heap.size]? = some (vdB nv) :=hk2.at (heap_alloc_last wr _) fun h =>h
     have e7 :=(Z0o hb7).1
     have hb7' :=Z02 hb7 (vdB ov)
     have e7':(w2.alloc (vdB ov)).cell? ⟨wr.heap.size,0,none⟩=some (.int .u64 nv.bal) :=(Z0o hb7').1
     have e8:(w2.alloc (vdB ov)).cell? ⟨w2.heap.size,0,none⟩=some (.int .u64 ov.bal) :=(Z0o (heap_alloc_last w2 (vdB ov))).1
     have HK3 :=Hd (hk12.alloc (vdB ov))
     have HB7 :=Hd hb7'
     clear hk2 hk12 hb7 hb7' e7 c0 hc0
     by_cases hle:le k=true
     ·rw [hle] at hgt
      have HMX :=Hd (show mixL (FF k) E.vs l=mixL (FF (k+1)) E.vs l from Z2v fun i _ =>by
       rw [HFF.out]
       by_cases e:i=k
       ·subst e; simp [hle]
       ·simp only [Nat.lt_succ_iff_lt_or_eq,e,or_false])
      clear hle
      go_wp2_with fail
      go_roundw
      case rel =>exact ⟨k+1,by omega,by go_num,own2,by rw [← HMX.out]; exact (HE.out.keeps HK3.out).mono (by omega),HX.out.trans (Ext.keeps HK3.out)⟩
      case measure =>simp [intOf]; omega
     ·have hle':le k=false :=by simpa using hle
      rw [hle'] at hgt
      have HMX :=Hd (show (mixL (FF k) E.vs l).set k nv=mixL (FF (k+1)) E.vs l from by
       rw [HNV.out,Zfj]
       exact Z2v fun i _ =>by
        rw [HFF.out]
        by_cases e:i=k
        ·subst e; simp
        ·simp only [Nat.lt_succ_iff_lt_or_eq,e,or_false,decide_false,Bool.or_false])
      have hsum :=HSUM.out (FF (k+1))
      rw [← HMX.out] at hsum
      have HCH :=Hd (fun w' (hk:Z00 wr w') =>Z4z (HE.out.keeps hk) nv HVOK.out k hkm hsum (by omega))
      rw [HMX.out] at HCH
      clear hle hle' hsum
      go_wp2_with fail
      refine Z0l ?_
      intro w3 hw3
      rw [← (show w3=_ from hw3)] at HK3 HB7
      have hc3 :=HC0.out _ HK3.out
      clear hw3 e7' e8
      refine wp_region_held_drew (S :=(fun w' =>w'.cell? ⟨e,0,none⟩=some (.pointer (some ⟨p.rg,0,none⟩))∧w'.heap[wr.heap.size]? = some (vdB nv))) (by kernel_rfl) (by exact ⟨hc3,HB7.out⟩) (fun hH0 =>?_)
      refine tk 0 rfl hH0 ?_
      try go_frame
      refine tk 1 rfl hH0 ?_
      try go_frame
      refine tk 2 rfl hH0 ?_
      try go_frame
      refine tk 3 (v :=tabV p.rg) rfl hH0 ?_
      try go_frame
      refine tk 4 rfl hH0 ?_
      try go_frame
      refine tkb 5 rfl hH0 (Z13 (by rfl) (.tmp 7) rfl wr.heap.size rfl nv (fun _ h =>h.2)) ?_
      try go_frame
      refine rdy [6] (Z04 rfl (fun K hK =>?_) AllReadyH.nil)
      go_simp
      refine (HCH.out _ ((HK3.out).drew)).mono ?_
      rintro r w4 ⟨rfl,own3,hE3,hX3⟩
      go_wp2_with fail
      have hX4 :=HX.out.trans ((Ext.keeps (HK3.out.drew)).trans hX3)
      obtain ⟨lv4,hb4, -, -⟩ :=hE3.blk (by decide)
      refine hK.out _ _ (⟨by rw [cell_of_row _ _ _ _ _ _ hb4]; rfl,(hX3.at (b :=wr.heap.size) HB7.out ((HE.out.new _ (Nat.le_refl _)))).1⟩) (fun hH1 =>?_)
      clear hK K hH0
      try go_frame
      refine wpAnyH_done (by kernel_rfl) ?_ _
      clear hH1
      have HE3 :=Hd hE3
      have HX4 :=Hd hX4
      clear hE3 hX3 hX4 hb4
      go_wp2
      go_roundw
      case rel =>exact ⟨k+1,by omega,by go_num,own3,HE3.out.mono (by omega),HX4.out⟩
      case measure =>simp [intOf]; omega
    ·obtain rfl:k=l.length :=by omega
     have HE :=Hd hE
     have HX :=Hd hX
     clear hE hX
     go_wp2
     go_roundw
     case rel =>exact .inr (.inr ⟨by go_num,own2,by rw [HEND.out] at HE; exact HE.out.mono (by omega),HX.out⟩)
     case measure =>simp [intOf]
  ·have HG :=Hd hG
   clear hG
   go_wp2_with fail
   exact bodyPost_end (v := .tuple #[]) (by simp [results,Tryz.results117,go_sem]) rfl ⟨rfl,HG.out⟩
def rip1 (L:Nat) (ep:Int) (s:List Vd × (Nat→List (Int × Int))) (i:Int):List Vd × (Nat→List (Int × Int)) :=
 if ep<(vAt s.1 i).wd then (s.1,putB L s.2 (vAt s.1 i).wd i) else (evL s.1 i.toNat 4,s.2)
def dueI (L:Nat) (bk:Nat→List (Int × Int)) (ep:Int):List Int :=outE ep (bk (ep % (L:Int)).toNat)
def Z8k (L:Nat) (ep:Int) (vs:List Vd) (bk:Nat→List (Int × Int)):List Vd × (Nat→List (Int × Int)) :=(dueI L bk ep).foldl (rip1 L ep) (vs,dueB L bk ep)
theorem Z8f (l:List Vd) (i:Nat) (x:Int):(evL l i x).length=l.length :=by
 unfold evL
 split
 ·rfl
 ·split
  ·rfl
  ·simp
theorem Z46 {l:List Vd} {i:Nat} {v:Vd} (hi:i<l.length) (j:Int) (hj:0≤j):vAt (l.set i v) j=if j=i then v else vAt l j :=by
 obtain ⟨k,rfl⟩ :=Int.eq_ofNat_of_zero_le hj
 unfold vAt
 rw [Int.toNat_natCast]
 simp only [List.getD,List.getElem?_set]
 by_cases e:i=k
 ·subst e
  simp [hi]
 ·rw [if_neg e,if_neg (by omega)]
theorem Zmm {l:List Vd} {i:Nat} (hi:i<l.length) (x:Int):evL l i x=l.set i { vAt l i with st :=if Z0j (vAt l i).st x=0 then (vAt l i).st else Z0j (vAt l i).st x } := by
 rw [Z2g hi]
 unfold evL
 rw [List.getElem?_eq_getElem hi]
 dsimp only
 split
 ·rename_i h
  have:({ l[i] with st :=l[i].st }:Vd)=l[i] :=rfl
  rw [this,List.set_getElem_self]
 ·rfl
theorem Zq2 (l:List Vd) (i:Nat) (x j:Int) (hj:0≤j):(vAt (evL l i x) j).wd=(vAt l j).wd :=by
 by_cases hi:i<l.length
 ·rw [Zmm hi,Z46 hi j hj]
  split
  ·rename_i e
   rw [e]
  ·rfl
 ·unfold evL
  rw [List.getElem?_eq_none (by omega)]
structure RipI (ep:Int) (vs:List Vd) (M:Nat) (s:List Vd × (Nat→List (Int × Int))):Prop where
 len:s.1.length=vs.length
 wd:∀ j,0≤j→(vAt s.1 j).wd=(vAt vs j).wd
 bkl:∀ j,(s.2 j).length≤M
theorem RipI.step {L:Nat} {ep:Int} {vs:List Vd} {M:Nat} {s:List Vd × (Nat→List (Int × Int))} (h:RipI ep vs M s) (i:Int):RipI ep vs (M+1) (rip1 L ep s i) :=by
 unfold rip1
 split
 ·refine ⟨h.len,h.wd,fun j =>?_⟩
  have :=h.bkl j
  unfold putB
  dsimp only
  split
  ·simp; omega
  ·omega
 ·exact ⟨(Z8f _ _ _).trans h.len,fun j hj =>(Zq2 _ _ _ _ hj).trans (h.wd j hj),fun j =>Nat.le_succ_of_le (h.bkl j)⟩
theorem Zjj {L:Nat} {ep:Int} {vs:List Vd} {M:Nat}:∀ (q:List Int) (s:List Vd × (Nat→List (Int × Int))),RipI ep vs M s→RipI ep vs (M+q.length) (q.foldl (rip1 L ep) s) :=by
 intro q
 induction q generalizing M with
 | nil =>intro s h; exact h
 | cons i q ih =>
  intro s h
  have :=ih (rip1 L ep s i) (h.step (L :=L) i)
  rw [List.length_cons]
  rwa [show M+1+q.length=M+(q.length+1) from by omega] at this
theorem Zns (L:Nat) (bk:Nat→List (Int × Int)) (ep:Int) (j:Nat):(dueB L bk ep j).length≤(bk j).length :=by
 unfold dueB
 split
 ·exact Zlh _ _
 ·exact Nat.le_refl _
theorem Zp4 {own:Nat→Nat} {w:World} {e:Nat} {c:Nat→Int} {E:En} {p:Ep} {N:Nat} (h:Z0i own w e c E p N) (ep:Int) (h0:0≤ep) (h1:ep≤1099511627776) (hlen:∀ j,(E.bk j).length≤90000)
 (hin:∀ i∈dueI (c 12).toNat E.bk ep,inR E.vs i) (hwd:∀ j,0≤j→(vAt E.vs j).wd≤1099511627776) (hN:N+200000<4294967296) :
 Calls Tryz.prog 111 #[.pointer (some ⟨e,0,none⟩), .int .i64 ep] w fun r w' =>r = .returned (.tuple #[])∧Goes own w e c p { E with vs :=(Z8k (c 12).toNat ep E.vs E.bk).1,bk :=(Z8k (c 12).toNat ep E.vs E.bk).2 } (N+180000) w' :=by
 obtain ⟨Q,hQ⟩:∃ Q,Q=dueI (c 12).toNat E.bk ep :=⟨_,rfl⟩
 have HDUE :=Hd (eDue h ep h0 h1 hlen)
 rw [show outE ep (E.bk (ep % ((c 12).toNat:Int)).toNat)=Q from hQ.symm] at HDUE
 have hQl:Q.length≤90000 :=by rw [hQ]; exact Nat.le_trans (Zdl _ _) (hlen _)
 rw [← hQ] at hin
 have HIN :=Hd hin
 have HWD :=Hd hwd
 have HI :=Hd (fun k:Nat =>Zjj (L :=(c 12).toNat) (ep :=ep) (vs :=E.vs) (Q.take k) (E.vs,dueB (c 12).toNat E.bk ep) ⟨rfl,fun _ _ =>rfl,fun j =>Nat.le_trans (Zns _ _ _ j) (hlen j)⟩)
 obtain ⟨T,hT⟩:∃ T:Nat→List Vd × (Nat→List (Int × Int)),T=fun k =>(Q.take k).foldl (rip1 (c 12).toNat ep) (E.vs,dueB (c 12).toNat E.bk ep) :=⟨_,rfl⟩
 have HS :=Hd (show ∀ k (hk:k<Q.length),T (k+1)=rip1 (c 12).toNat ep (T k) Q[k] from fun k hk =>by
  rw [hT]
  dsimp only
  rw [List.take_succ_eq_append_getElem hk,List.foldl_append]
  rfl)
 have HT0 :=Hd (show T 0=(E.vs,dueB (c 12).toNat E.bk ep) from by rw [hT]; rfl)
 have HTE :=Hd (show T Q.length=Z8k (c 12).toNat ep E.vs E.bk from by rw [hT]; dsimp only; rw [List.take_length]; unfold Z8k; rw [← hQ])
 rw [← HTE.out]
 have HII :=Hd (show ∀ k,RipI ep E.vs 180000 (T k) from fun k =>by
  have :=HI.out k
  rw [hT]
  dsimp only
  exact ⟨this.len,this.wd,fun j =>by have h1 :=this.bkl j; rw [List.length_take] at h1; omega⟩)
 obtain ⟨lv,hblk, -, -⟩ :=h.blk (by decide)
 have c23:w.cell? ⟨e,23,none⟩=some (.pointer (some ⟨p.bo,0,none⟩)) :=by rw [cell_of_row _ _ _ _ _ _ hblk]; rfl
 clear hQ hin hwd hlen hT HI hblk h
 go_enter Tryz.func111,Tryz.ntmps111
 go_wp2_with fail
 refine HDUE.out.mono ?_
 rintro r w1 ⟨v,rfl,hv,own1,hE1,hX1,hz⟩
 rw [show ({ E with bk :=dueB (c 12).toNat E.bk ep }:En) = { E with vs :=(T 0).1,bk :=(T 0).2 } from by rw [HT0.out]] at hE1
 have HE1 :=Hd hE1
 have HX1 :=Hd hX1
 have HV :=Hd hv
 have HZ :=Hd hz
 obtain ⟨va,vc,rfl⟩ :=Z0c hv
 clear hE1 hX1 hv hz c23
 go_wp2_with fail
 go_loopw [15] (fun i wr => ∃ k:Nat,k≤Q.length∧i = .int .i64 k∧∃ own',Z0i own' wr e c { E with vs :=(T k).1,bk :=(T k).2 } p (N+2 * k)∧Ext own w own' wr∧Ext own1 w1 own' wr) (fun i _ =>Q.length - (intOf i).toNat)
 case atStart =>exact ⟨0,Nat.zero_le _,rfl,own1,HE1.out,HX1.out,Ext.refl _ _⟩
 case round =>
  obtain ⟨k,hk,rfl,own2,hE,hX,hX1⟩ :=hrel
  by_cases hlt:k<Q.length
  ·have hki:(k:Int)<(Q.length:Int) :=Int.ofNat_lt.2 hlt
   have hq :=hX1.owns HV.out HZ.out
   have hinq :=HIN.out Q[k] (List.getElem_mem hlt)
   have hst :=HS.out k hlt
   rcases hq.2 with ⟨h2,_⟩ | ⟨g,cap,cur,hvv,hg,hh,r⟩
   ·injection h2 with _ h2
    omega
   simp only [Value.slice.injEq] at hvv
   obtain ⟨rfl,_,rfl⟩ :=hvv
   have hc:wr.cell? ⟨g,k,none⟩=some (.int .i64 Q[k]) :=by
    rw [hq.cellAt k (by omega)]
    simp [hlt]
   have hii :=HII.out k
   generalize Q[k]=x at *
   have hx0 :=hinq.1
   obtain ⟨i,rfl⟩ :=Int.eq_ofNat_of_zero_le hx0
   have hil:i<(T k).1.length :=by have :=hinq.2; rw [hii.len]; omega
   have HGET :=Hd (fun w' (hk:Z00 wr w') =>eGet (hE.keeps hk) i hil)
   obtain ⟨lv,hblk, -, -⟩ :=hE.blk (by decide)
   have c0:wr.cell? ⟨e,0,none⟩=some (.pointer (some ⟨p.rg,0,none⟩)) :=by rw [cell_of_row _ _ _ _ _ _ hblk]; rfl
   have c23:wr.cell? ⟨e,23,none⟩=some (.pointer (some ⟨p.bo,0,none⟩)) :=by rw [cell_of_row _ _ _ _ _ _ hblk]; rfl
   have HCC :=Hd (fun w' (hk:Z00 wr w') =>(⟨hk.cell c0 fun h =>h,hk.cell c23 fun h =>h⟩:w'.cell? ⟨e,0,none⟩=some (.pointer (some ⟨p.rg,0,none⟩))∧w'.cell? ⟨e,23,none⟩=some (.pointer (some ⟨p.bo,0,none⟩))))
   have hwdk:(vAt (T k).1 (i:Int)).wd≤1099511627776 :=by rw [hii.wd _ hx0]; exact HWD.out _ hx0
   have hvk :=Z2g hil
   rw [← hvk] at HGET
   have HE :=Hd hE
   have HX :=Hd hX
   have HXX :=Hd hX1
   have HST :=Hd hst
   have HIK :=Hd hii
   obtain ⟨v0,hv0⟩:∃ x,x=vAt (T k).1 (i:Int) :=⟨_,rfl⟩
   rw [← hv0] at HGET hwdk
   have HV0 :=Hd hv0
   have HWK :=Hd hwdk
   clear hq hinq hst hh r hg hii hblk hvk hE hX hX1 hv0 hwdk
   go_wp2_with fail
   refine (HGET.out _ (by (repeat' first | (with_reducible refine Mods.setCell ?_ _ _ (fun _ =>rfl)) | (with_reducible refine Mods.alloc ?_ _) | (with_reducible refine Mods.drewN ?_ _) | (with_reducible refine Mods.drew ?_) | (with_reducible exact Mods.refl _ _)))).mono ?_
   rintro r w2 ⟨rfl,hk2⟩
   have hb6 :=heap_alloc_last w2 (vdB v0)
   have HK3 :=Hd (hk2.alloc (vdB v0))
   have HW2 :=Hd hk2.size
   have e5:(w2.alloc (vdB v0)).cell? ⟨w2.heap.size,5,none⟩=some (.int .i64 v0.wd) :=(Z0o hb6).2.2.2.2.2.1
   obtain ⟨d0,d23⟩ :=HCC.out _ HK3.out
   clear hk2 hb6 c0 c23 hc
   by_cases hgt:ep<v0.wd
   ·have HN :=Hd (show T (k+1)=((T k).1,putB (c 12).toNat (T k).2 v0.wd (i:Int)) from HST.out.trans (by rw [rip1,← HV0.out,if_pos hgt]))
    have HPUT :=Hd (fun w' (hk:Z00 wr w') =>ePut (HE.out.keeps hk) v0.wd (i:Int) (by omega) HWK.out (fun j =>by have :=HIK.out.bkl j; dsimp only; omega))
    go_wp2_with fail
    refine Z0l ?_
    intro w3 hw3
    rw [← (show w3=_ from hw3)] at HK3 e5 d0 d23
    clear hw3 d0
    refine wp_region_held_drew (S :=(fun w' =>w'.cell? ⟨e,23,none⟩=some (.pointer (some ⟨p.bo,0,none⟩))∧w'.cell? ⟨w2.heap.size,5,none⟩=some (.int .i64 v0.wd))) (by kernel_rfl) (by exact ⟨d23,e5⟩) (fun hH0 =>?_)
    refine tk 0 rfl hH0 ?_
    try go_frame
    refine tk 1 rfl hH0 ?_
    try go_frame
    refine tk 2 rfl hH0 ?_
    try go_frame
    refine tk 3 rfl hH0 ?_
    try go_frame
    refine tk 4 rfl hH0 ?_
    try go_frame
    refine tk 5 rfl hH0 ?_
    try go_frame
    refine tk 6 rfl hH0 ?_
    try go_frame
    refine rdy [7] (Z04 rfl (fun K hK =>?_) AllReadyH.nil)
    go_simp
    refine (HPUT.out _ HK3.out.drew).mono ?_
    rintro r w4 ⟨rfl,own3,hE3,hX3⟩
    go_wp2_with fail
    obtain ⟨lv4,hb4, -, -⟩ :=hE3.blk (by decide)
    refine hK.out _ _ (⟨by rw [cell_of_row _ _ _ _ _ _ hb4]; rfl,hX3.mods.cell e5 fun h =>h (HE.out.new _ HW2.out)⟩) (fun hH1 =>?_)
    clear hK K hH0
    try go_frame
    refine wpAnyH_done (by kernel_rfl) ?_ _
    clear hH1
    have HE3 :=Hd hE3
    have HX3 :=Hd (((Ext.keeps (own :=own2) HK3.out.drew)).trans hX3)
    clear hE3 hX3 hb4
    go_wp2
    go_roundw
    case rel =>exact ⟨k+1,by omega,by go_num,own3,by rw [HN.out]; exact HE3.out.mono (by omega),HX.out.trans HX3.out,HXX.out.trans HX3.out⟩
    case measure =>simp [intOf]; omega
   ·have HN :=Hd (show T (k+1)=(evL (T k).1 i 4,(T k).2) from HST.out.trans (by rw [rip1,← HV0.out,if_neg hgt,Int.toNat_natCast]))
    have HEV :=Hd (fun w' (hk:Z00 wr w') =>Zmo (HE.out.keeps hk) i hil 4 (by decide) (by omega))
    go_wp2_with fail
    refine (HEV.out _ HK3.out).mono ?_
    rintro r w4 ⟨⟨b,rfl⟩,own3,hE3,hX3⟩
    have HE3 :=Hd hE3
    have HX3 :=Hd (((Ext.keeps (own :=own2) HK3.out)).trans hX3)
    clear hE3 hX3 d0 d23 e5
    go_wp2
    go_roundw
    case rel =>exact ⟨k+1,by omega,by go_num,own3,by rw [HN.out]; exact HE3.out.mono (by omega),HX.out.trans HX3.out,HXX.out.trans HX3.out⟩
    case measure =>simp [intOf]; omega
  ·obtain rfl:k=Q.length :=by omega
   have HE :=Hd hE
   have HX :=Hd hX
   clear hE hX hX1
   go_wp2
   exact bodyPost_end (v := .tuple #[]) (by simp [results,Tryz.results111,go_sem]) rfl ⟨rfl,own2,HE.out.mono (by omega),HX.out⟩
end Go.Proofs.YtecapfmmoejikaaGreat
namespace Go.Eg
open Go Go.RowKit
abbrev As :=Int × Int × Int
def asC (e:As):List Value := [.int .i64 e.1, .int .i64 e.2.1, .int .i64 e.2.2]
def Z4u (l:List As):List Value :=l.flatMap asC
theorem Zg5 (l:List As) (e:As):Z4u (l ++ [e])=Z4u l ++ asC e :=by simp [Z4u]
theorem Zke:∀ (l:List As) (k:Nat) (hk:k<l.length),(Z4u l)[k * 3]? = some (.int .i64 l[k].1)∧(Z4u l)[k * 3+1]? = some (.int .i64 l[k].2.1)∧(Z4u l)[k * 3+2]? = some (.int .i64 l[k].2.2) :=by
 intro l
 induction l with
 | nil =>intro k hk; simp at hk
 | cons a l ih =>
  intro k hk
  cases k with
  | zero =>simp [Z4u,asC]
  | succ k =>
   have :=ih k (by simpa using hk)
   rw [show (k+1) * 3=k * 3+3 from by omega,show k * 3+3+1=k * 3+1+3 from by omega,show k * 3+3+2=k * 3+2+3 from by omega]
   simpa [Z4u,asC] using this
theorem Zr6 {w:World} {B:Nat} {e:TypeId} {v:Value} {l:List As} (h:w.ownsRow B e 3 v l.length (Z4u l)) (k:Nat) (hk:k<l.length):∃ g c,v = .slice (some ⟨g,0,none⟩) l.length c∧w.cell? ⟨g,k * 3,none⟩=some (.int .i64 l[k].1)∧w.cell? ⟨g,k * 3+1,none⟩=some (.int .i64 l[k].2.1)∧w.cell? ⟨g,k * 3+2,none⟩=some (.int .i64 l[k].2.2) :=by
 rcases h.2 with ⟨_,h0⟩ | ⟨g,cap,cur,hv,hg,hh,r⟩
 ·omega
 subst hv
 obtain ⟨f0,f1,f2⟩ :=Zke l k hk
 exact ⟨g,cap,rfl,by rw [h.cellAt (k * 3) (by omega),f0],by rw [h.cellAt (k * 3+1) (by omega),f1],by rw [h.cellAt (k * 3+2) (by omega),f2]⟩
def asgN:List Int→Int→Nat
 | [],_ =>0
 | w :: r,car =>if w≤car then asgN r (car - w)+1 else 0
def sumT (ws:List Int) (k:Nat):Int :=(ws.take k).foldr (·+·) 0
theorem Z6n (ws:List Int):sumT ws 0=0 :=rfl
theorem Z8e (w:Int) (ws:List Int) (k:Nat):sumT (w :: ws) (k+1)=w+sumT ws k :=rfl
theorem Zco:∀ (ws:List Int) (k:Nat) (hk:k<ws.length),sumT ws (k+1)=sumT ws k+ws[k] :=by
 intro ws
 induction ws with
 | nil =>intro k hk; simp at hk
 | cons w r ih =>
  intro k hk
  cases k with
  | zero =>simp [sumT]
  | succ k =>
   rw [Z8e,Z8e,ih k (by simpa using hk)]
   simp only [List.getElem_cons_succ]
   omega
theorem Ziu:∀ (ws:List Int) (car:Int),asgN ws car≤ws.length :=by
 intro ws
 induction ws with
 | nil =>intro car; exact Nat.le_refl _
 | cons w r ih =>
  intro car
  unfold asgN
  split
  ·have :=ih (car - w)
   simp only [List.length_cons]
   omega
  ·exact Nat.zero_le _
theorem Zj2:∀ (ws:List Int) (car:Int) (k:Nat),k≤asgN ws car→(k<asgN ws car↔∃ hk:k<ws.length,ws[k]≤car - sumT ws k) :=by
 intro ws
 induction ws with
 | nil =>
  intro car k hk
  have:k=0 :=by simpa [asgN] using hk
  subst this
  simp [asgN]
 | cons w r ih =>
  intro car k hk
  unfold asgN at hk ⊢
  split at hk
  ·rename_i hw
   rw [if_pos hw]
   cases k with
   | zero =>
    simp only [Z6n,List.getElem_cons_zero,List.length_cons]
    exact ⟨fun _ =>⟨by omega,by omega⟩,fun _ =>by omega⟩
   | succ k =>
    have :=ih (car - w) k (by omega)
    rw [Z8e]
    simp only [List.getElem_cons_succ,List.length_cons]
    constructor
    ·intro h
     obtain ⟨h1,h2⟩ :=this.1 (by omega)
     exact ⟨by omega,by omega⟩
    ·rintro ⟨h1,h2⟩
     have :=this.2 ⟨by omega,by omega⟩
     omega
  ·rename_i hw
   rw [if_neg hw]
   have:k=0 :=by omega
   subst this
   simp only [Z6n,List.getElem_cons_zero,List.length_cons]
   exact ⟨fun h =>absurd h (Nat.lt_irrefl _),fun ⟨_,h⟩ =>absurd (by omega) hw⟩
theorem Zka {ws:List Int} {car:Int} (h0:0≤car):∀ k,k≤asgN ws car→0≤car - sumT ws k :=by
 intro k
 induction k with
 | zero =>intro _; rw [Z6n]; omega
 | succ k ih =>
  intro h
  obtain ⟨h1,h2⟩ :=(Zj2 ws car k (by omega)).1 (by omega)
  rw [Zco ws k h1]
  omega
def Z1p (fo vo:List Int) (ep:Int) (k:Nat):List As :=(List.range k).map fun j =>((fo ++ vo).getD j 0,if j<fo.length then 0 else 1,ep+1)
theorem Ze5 (fo vo:List Int) (ep:Int) (k:Nat):Z1p fo vo ep (k+1)=Z1p fo vo ep k ++ [((fo ++ vo).getD k 0,if k<fo.length then 0 else 1,ep+1)] :=by
 unfold Z1p
 rw [List.range_succ,List.map_append]
 rfl
theorem Za6 (fo vo:List Int) (ep:Int) (k:Nat):(Z1p fo vo ep k).length=k :=by simp [Z1p]
end Go.Eg
namespace Go.Proofs.YtecapfmmoejikaaGreat
open Go.RowKit Go.Eg
theorem Znh (fo vo:List Int) (k:Nat):Zdx (fo.drop k) (vo.drop (k - fo.length))=if k<(fo ++ vo).length then ((fo ++ vo).getD k 0,if k<fo.length then 0 else 1,true) else (0,0,false) :=by
 rw [List.length_append]
 by_cases h:k<fo.length
 ·rw [if_pos (by omega),if_pos h,List.drop_eq_getElem_cons h]
  simp [Zdx,List.getD,List.getElem?_append_left h,h]
 ·rw [List.drop_of_length_le (by omega),if_neg h]
  by_cases h2:k - fo.length<vo.length
  ·rw [if_pos (by omega),List.drop_eq_getElem_cons h2]
   simp [Zdx,List.getD,List.getElem?_append_right (Nat.le_of_not_lt h),h2]
  ·rw [if_neg (by omega),List.drop_of_length_le (by omega)]
   rfl
theorem Zop (fo vo:List Int) (k:Nat):popL (fo.drop k) (vo.drop (k - fo.length))=(fo.drop (k+1),vo.drop (k+1 - fo.length)) :=by
 unfold popL
 by_cases h:k<fo.length
 ·have hne:fo.drop k≠[] :=fun e =>by have :=congrArg List.length e; simp at this; omega
  rw [if_neg hne,List.tail_drop,show k+1 - fo.length=k - fo.length from by omega]
 ·have e1:fo.drop k = [] :=List.drop_of_length_le (by omega)
  have e2:fo.drop (k+1) = [] :=List.drop_of_length_le (by omega)
  rw [if_pos e1,List.tail_drop,e2,show k+1 - fo.length=k - fo.length+1 from by omega]
theorem ne_k {fo vo:List Int} {k:Nat} (h:k<(fo ++ vo).length):fo.drop k≠[]∨vo.drop (k - fo.length)≠[] :=by
 rw [List.length_append] at h
 by_cases h1:k<fo.length
 ·exact .inl fun e =>by have :=congrArg List.length e; simp at this; omega
 ·exact .inr fun e =>by have :=congrArg List.length e; simp at this; omega
theorem Zqs:(Tryz.prog.info? 51).map (fun i =>(i.zero,i.size,i.bytes))=some (some (.agg #[.int .i64 0, .int .i64 0, .int .i64 0]),3,24) :=by kernel_rfl
section
variable {own:Nat→Nat} {w w':World} {e:Nat} {c:Nat→Int} {E:En} {p:Ep} {N:Nat}
theorem EngBut.loc {T:Nat→Prop} (h:Z0i own w e c E p N) (hm:Mods T w w') (hT:∀ i,i<w.heap.size→T i→own i=0):Z0i own w' e c E p N :=by
 have h2 :=h.frame0 hm (k :=0) hT
 exact ⟨h2.new,h2.oe,fun _ =>h2.blk (by decide),fun _ =>h2.reg (by decide),fun _ =>h2.ck (by decide),h2.ock,fun _ =>h2.ld (by decide),h2.old,fun _ =>h2.bo (by decide),fun _ =>h2.cu (by decide),h2.ocu,fun _ =>h2.me (by decide),h2.ome,fun _ =>h2.la (by decide),fun _ =>h2.pe (by decide),fun _ =>h2.mg (by decide),fun _ =>h2.pr (by decide)⟩
theorem Z1l {own':Nat→Nat} {w2:World} {T:Nat→Prop} (h:Ext own w own' w') (hm:Mods T w' w2) (hT:∀ i,i<w.heap.size→¬ T i):Ext own w own' w2 :=
 ⟨h.old,h.mods.seq hm fun i hi h =>absurd h (hT i hi)⟩
end
end Go.Proofs.YtecapfmmoejikaaGreat
namespace Go.Eg
open Go Go.RowKit
abbrev Pm :=Int × Int × Bool
def pmC (e:Pm):List Value := [.int .i64 e.1, .int .u64 e.2.1, .bool e.2.2]
def Z1u (l:List Pm):List Value :=l.flatMap pmC
theorem Z79 (l:List Pm) (e:Pm):Z1u (l ++ [e])=Z1u l ++ pmC e :=by simp [Z1u]
theorem Zin (l:List Pm):(Z1u l).length=l.length * 3 :=by
 induction l with
 | nil =>rfl
 | cons a l ih =>simp only [Z1u,pmC,List.flatMap_cons,List.length_append,List.length_cons,List.length_nil] at ih ⊢; omega
theorem Zlm:∀ (l:List Pm) (k:Nat) (hk:k<l.length),(Z1u l)[k * 3]? = some (.int .i64 l[k].1)∧(Z1u l)[k * 3+1]? = some (.int .u64 l[k].2.1)∧(Z1u l)[k * 3+2]? = some (.bool l[k].2.2) :=by
 intro l
 induction l with
 | nil =>intro k hk; simp at hk
 | cons a l ih =>
  intro k hk
  cases k with
  | zero =>simp [Z1u,pmC]
  | succ k =>
   have :=ih k (by simpa using hk)
   rw [show (k+1) * 3=k * 3+3 from by omega,show k * 3+3+1=k * 3+1+3 from by omega,show k * 3+3+2=k * 3+2+3 from by omega]
   simpa [Z1u,pmC] using this
theorem Zja (R:List Pm):∀ (i:Nat) (x:Pm),Z1u (R.set i x)=(((Z1u R).set (i * 3) (.int .i64 x.1)).set (i * 3+1) (.int .u64 x.2.1)).set (i * 3+2) (.bool x.2.2) :=by
 induction R with
 | nil =>intro i x; simp [Z1u]
 | cons a R ih =>
  intro i x
  cases i with
  | zero =>simp [Z1u,pmC]
  | succ i =>
   have :=ih i x
   rw [show (i+1) * 3=i * 3+3 from by omega,show i * 3+3+1=(i * 3+1)+3 from by omega,show i * 3+3+2=(i * 3+2)+3 from by omega]
   simpa [Z1u,pmC] using this
theorem Zhi (R:List Pm):∀ m,(Z1u R).take (m * 3)=Z1u (R.take m) :=by
 induction R with
 | nil =>intro m; simp [Z1u]
 | cons a R ih =>
  intro m
  cases m with
  | zero =>simp [Z1u]
  | succ m =>
   have :=ih m
   rw [show (m+1) * 3=m * 3+3 from by omega]
   simpa [Z1u,pmC] using this
theorem Zi0 {w:World} {B:Nat} {e:TypeId} {v:Value} {l:List Pm} (h:w.ownsRow B e 3 v l.length (Z1u l)) (k:Nat) (hk:k<l.length):∃ g c,v = .slice (some ⟨g,0,none⟩) l.length c∧w.cell? ⟨g,k * 3,none⟩=some (.int .i64 l[k].1)∧w.cell? ⟨g,k * 3+1,none⟩=some (.int .u64 l[k].2.1)∧w.cell? ⟨g,k * 3+2,none⟩=some (.bool l[k].2.2) :=by
 rcases h.2 with ⟨_,h0⟩ | ⟨g,cap,cur,hv,hg,hh,r⟩
 ·omega
 subst hv
 obtain ⟨f0,f1,f2⟩ :=Zlm l k hk
 exact ⟨g,cap,rfl,by rw [h.cellAt (k * 3) (by omega),f0],by rw [h.cellAt (k * 3+1) (by omega),f1],by rw [h.cellAt (k * 3+2) (by omega),f2]⟩
theorem Zlt {w:World} {B g n c i:Nat} {e:TypeId} {xs:List Value} (h:w.ownsRow B e 3 (.slice (some ⟨g,0,none⟩) n c) n xs) (hi:i<n) (u v x:Value) :
 (((w.setCell ⟨g,i * 3,none⟩ u).setCell ⟨g,i * 3+1,none⟩ v).setCell ⟨g,i * 3+2,none⟩ x).ownsRow B e 3 (.slice (some ⟨g,0,none⟩) n c) n (((xs.set (i * 3) u).set (i * 3+1) v).set (i * 3+2) x) :=by
 obtain ⟨hl,h2⟩ :=h
 rcases h2 with ⟨h2,rfl⟩ | ⟨g',cap,cur,hv,hg,hh,r1,r2,r3,r4⟩
 ·omega
 simp only [Value.slice.injEq,Option.some.injEq,Addr.mk.injEq] at hv
 obtain ⟨⟨rfl,_⟩,_,rfl⟩ :=hv
 have e1 :=heap_setCell_same w g (i * 3) cur e u hh
 have e2 :=heap_setCell_same _ g (i * 3+1) _ e v e1
 have e3 :=heap_setCell_same _ g (i * 3+2) _ e x e2
 refine ⟨by simp [hl], .inr ⟨g,c,((cur.setIfInBounds (i * 3) u).setIfInBounds (i * 3+1) v).setIfInBounds (i * 3+2) x,rfl,hg,e3,r1,r2,by simp [r3], ?_⟩⟩
 rw [← r4]
 simp only [Array.toList_setIfInBounds,List.take_set]
def Z2p (l:List Pm):List Pm :=l.filter fun x => !decide (x.2.1=0)
theorem Z7e (l:List Pm) (x:Pm):Z2p (l ++ [x])=if x.2.1=0 then Z2p l else Z2p l ++ [x] :=by
 unfold Z2p
 by_cases h:x.2.1=0 <;> simp [List.filter_append,h]
theorem Zao {l:List Pm} (h:∀ x∈l,x.2.1≠0):Z2p l=l :=List.filter_eq_self.2 fun x hx =>by simp [h x hx]
theorem Zkj (l:List Pm):(Z2p l).length≤l.length :=List.length_filter_le _ _
end Go.Eg
namespace Go.Proofs.YtecapfmmoejikaaGreat
open Go.RowKit Go.Eg
theorem Zfa (x:Pm) (w:World):Calls Tryz.prog 213 #[.agg #[.int .i64 x.1, .int .u64 x.2.1, .bool x.2.2]] w fun r w' =>r = .returned (.bool (decide (x.2.1=0)))∧Z00 w w' :=by
 obtain ⟨x1,x2,x3⟩ :=x
 obtain ⟨b,hb⟩:∃ b,b=decide (x2=0) :=⟨_,rfl⟩
 have hb2:(x2 == 0)=b :=by rw [hb]; rfl
 simp only [← hb]
 clear hb
 go_enter Tryz.func213,Tryz.ntmps213
 go_wp2
 go_ret
 exact ⟨by rw [← hb2]; rfl,(Mods.refl _ w).alloc _⟩
theorem Zhd (l:List Pm) (v:Value) (Bs:Nat) (w:World) (hv:w.ownsRow Bs 58 3 v l.length (Z1u l)) (hn:l.length≤1000000) :
 Calls Tryz.prog 235 #[v, .func (Fn.func 213) #[] #[]] w fun r w' =>
  ((∃ k,∃ hk:k<l.length,(∀ x∈l.take k,x.2.1≠0)∧l[k].2.1=0∧r = .returned (.int .i64 k))∨((∀ x∈l,x.2.1≠0)∧r = .returned (.int .i64 (-1))))∧Z00 w w' :=by
 have HV :=Hd hv
 obtain ⟨va,vc,rfl⟩ :=Z0c hv
 clear hv
 go_enter Tryz.func235,Tryz.ntmps235
 go_wp2
 go_loopw [8] (fun i wr => ∃ k:Nat,k≤l.length∧i = .int .i64 k∧(∀ x∈l.take k,x.2.1≠0)∧Z00 w wr) (fun i _ =>l.length - (intOf i).toNat)
 case atStart =>exact ⟨0,Nat.zero_le _,rfl,by simp,Mods.refl _ _⟩
 case round =>
  obtain ⟨k,hk,rfl,hno,hm⟩ :=hrel
  have HM :=Hd hm
  have HNO :=Hd hno
  by_cases hlt:k<l.length
  ·have hki:(k:Int)<(l.length:Int) :=Int.ofNat_lt.2 hlt
   obtain ⟨g,c,hvv,c0,c1,c2⟩ :=Zi0 (hm.owns HV.out fun _ _ h =>h) k hlt
   simp only [Value.slice.injEq] at hvv
   obtain ⟨rfl,_,rfl⟩ :=hvv
   have HD :=Hd (fun wr =>Zfa l[k] wr)
   have htk:l.take (k+1)=l.take k ++ [l[k]] :=by simp
   have HTK :=Hd htk
   obtain ⟨x,hx⟩:∃ x,x=l[k] :=⟨_,rfl⟩
   have HX :=Hd hx
   rw [← hx] at c0 c1 c2 HD HTK
   obtain ⟨x1,x2,x3⟩ :=x
   simp only at c0 c1 c2 HD
   clear hno hm htk hx
   go_wp2_with fail
   refine (HD.out _).mono ?_
   rintro r w2 ⟨rfl,hm2⟩
   have HM2 :=Hd (HM.out.keep hm2)
   by_cases h:x2=0
   ·rw [decide_eq_true h]
    have HH :=Hd h
    clear h hm2 c0 c1 c2
    go_wp2
    go_ret
    exact ⟨.inl ⟨k,hlt,HNO.out,by rw [← HX.out]; exact HH.out,rfl⟩,HM2.out⟩
   ·rw [decide_eq_false h]
    have HN2 :=Hd (show ∀ y∈l.take (k+1),y.2.1≠0 from by
     rw [HTK.out]
     intro y hy
     rcases List.mem_append.1 hy with hy | hy
     ·exact HNO.out y hy
     ·simp at hy
      subst hy
      exact h)
    clear h hm2 c0 c1 c2
    go_wp2
    go_roundw
    case rel =>exact ⟨k+1,by omega,by go_num,HN2.out,HM2.out⟩
    case measure =>simp [intOf]; omega
  ·obtain rfl:k=l.length :=by omega
   clear hno hm
   go_wp2
   go_ret
   exact ⟨.inr ⟨by have :=HNO.out; rwa [List.take_length] at this,rfl⟩,HM.out⟩
end Go.Proofs.YtecapfmmoejikaaGreat
namespace Go.Eg
structure MidM (l R:List Pm) (i j:Nat):Prop where
 len:R.length=l.length
 ij:i<j
 jl:j≤l.length
 ki:i=(Z2p (l.take j)).length
 head:R.take i=Z2p (l.take j)
 tail:R.drop j=l.drop j
theorem MidM.start {l:List Pm} {k:Nat} (hk:k<l.length) (hno:∀ x∈l.take k,x.2.1≠0) (he:l[k].2.1=0):MidM l l k (k+1) :=by
 have htk:l.take (k+1)=l.take k ++ [l[k]] :=by simp
 have h1 :=Zao hno
 have h3:Z2p (l.take (k+1))=l.take k :=by rw [htk,Z7e,if_pos he,h1]
 exact ⟨rfl,by omega,by omega,by rw [h3]; simp; omega,h3.symm,rfl⟩
theorem MidM.get {l R:List Pm} {i j:Nat} (h:MidM l R i j) (hj:j<l.length):R[j]'(by rw [h.len]; exact hj)=l[j] :=by
 have h1:(R.drop j)[0]? = (l.drop j)[0]? := by rw [h.tail]
 rw [List.getElem?_drop,List.getElem?_drop,Nat.add_zero,List.getElem?_eq_getElem hj,List.getElem?_eq_getElem (by rw [h.len]; exact hj)] at h1
 exact Option.some.inj h1
theorem MidM.skip {l R:List Pm} {i j:Nat} (h:MidM l R i j) (hj:j<l.length) (he:l[j].2.1=0):MidM l R i (j+1) :=by
 have htk:l.take (j+1)=l.take j ++ [l[j]] :=by simp
 have h3:Z2p (l.take (j+1))=Z2p (l.take j) :=by rw [htk,Z7e,if_pos he]
 refine ⟨h.len,by have :=h.ij; omega,by omega,by rw [h3]; exact h.ki,by rw [h3]; exact h.head, ?_⟩
 rw [← List.drop_drop,← List.drop_drop,h.tail]
theorem MidM.move {l R:List Pm} {i j:Nat} (h:MidM l R i j) (hj:j<l.length) (he:l[j].2.1≠0):MidM l (R.set i l[j]) (i+1) (j+1) :=by
 have htk:l.take (j+1)=l.take j ++ [l[j]] :=by simp
 have h3:Z2p (l.take (j+1))=Z2p (l.take j) ++ [l[j]] :=by rw [htk,Z7e,if_neg he]
 have hij :=h.ij
 have hil:i<R.length :=by rw [h.len]; omega
 refine ⟨by rw [List.length_set]; exact h.len,by omega,by omega,by rw [h3,List.length_append,← h.ki]; rfl, ?_, ?_⟩
 ·rw [h3,← h.head,List.take_add_one,List.getElem?_set_self hil,List.take_set_of_le (Nat.le_refl i)]
  rfl
 ·rw [List.drop_set_of_lt (by omega),← List.drop_drop,← List.drop_drop,h.tail]
end Go.Eg
namespace Go.Proofs.YtecapfmmoejikaaGreat
open Go.RowKit Go.Eg
abbrev zM:Value := .agg #[.int .i64 0, .int .u64 0, .bool false]
theorem Zn6:zM.cells.size=3 :=rfl
theorem Zow:∀ u∈zM.cells.toList,u.oneCell'=true :=by
 intro u hu
 have h:zM.cells=#[.int .i64 0, .int .u64 0, .bool false] :=by kernel_rfl
 rw [h] at hu
 simp at hu
 rcases hu with rfl | rfl | rfl <;> rfl
set_option maxRecDepth 20000 in
theorem Ze9 (l:List Pm) (v:Value) (Bs:Nat) (w:World) (hv:w.ownsRow Bs 58 3 v l.length (Z1u l)) (hn:l.length≤90000) :
 Calls Tryz.prog 212 #[v, .func (Fn.func 213) #[] #[]] w fun r w' =>
  ∃ v',r = .returned v'∧w'.ownsRow Bs 58 3 v' (Z2p l).length (Z1u (Z2p l))∧(∀ k,v'.ownBlock=some k→v.ownBlock=some k)∧Mods (fun i =>v.ownBlock=some i) w w' :=by
 have HIX :=Hd (Zhd l v Bs w hv (by omega))
 have HV :=Hd hv
 obtain ⟨va,vc,rfl⟩ :=Z0c hv
 clear hv
 go_enter Tryz.func212,Tryz.ntmps212
 go_wp2_with fail
 refine HIX.out.mono ?_
 rintro r w1 ⟨⟨k,hk,hno,hke,rfl⟩ | ⟨hno,rfl⟩,hm1⟩
 ·have hmid :=MidM.start hk hno hke
  have hv1 :=hm1.owns HV.out fun _ _ h =>h
  obtain ⟨g,c,hvv,_,_,_⟩ :=Zi0 hv1 k hk
  simp only [Value.slice.injEq] at hvv
  obtain ⟨rfl,_,rfl⟩ :=hvv
  have HMID :=Hd hmid
  have HV1 :=Hd hv1
  have HM1 :=Hd (hm1.weaken (T :=fun i =>i=g) fun _ _ h =>h.elim)
  clear hmid hno hke hm1 hv1
  have hkm:((k:Int) == -1)=false :=by simp
  go_wp2_with fail
  clear hkm
  go_loopw [5,6] (fun i j wr => ∃ ii jj R,i = .int .i64 (ii:Nat)∧j = .int .i64 (jj:Nat)∧MidM l R ii jj∧wr.ownsRow Bs 58 3 (.slice (some ⟨g,0,none⟩) l.length vc) l.length (Z1u R)∧Mods (fun i =>i=g) w wr) (fun _ j _ =>l.length - (intOf j).toNat)
  case atStart =>exact ⟨k,k+1,l,rfl,by go_num,HMID.out,HV1.out,HM1.out⟩
  case round =>
   obtain ⟨ii,jj,R,rfl,rfl,hmid,hrow,hm⟩ :=hrel
   have HMID :=Hd hmid
   have HM :=Hd hm
   have HROW :=Hd hrow
   by_cases hlt:jj<l.length
   ·have hji:(jj:Int)<(l.length:Int) :=Int.ofNat_lt.2 hlt
    obtain ⟨g',c',hvv,c0,c1,c2⟩ :=Zi0 (l :=R) (by rw [hmid.len]; exact hrow) jj (by rw [hmid.len]; exact hlt)
    simp only [Value.slice.injEq,Option.some.injEq,Addr.mk.injEq] at hvv
    obtain ⟨⟨rfl,_⟩,hlen1,rfl⟩ :=hvv
    clear hlen1
    rw [hmid.get hlt] at c0 c1 c2
    have hil:ii<l.length :=Nat.lt_trans hmid.ij hlt
    have hii:(ii:Int)<(l.length:Int) :=Int.ofNat_lt.2 hil
    obtain ⟨wx,hwx⟩:∃ wx,wx=wr.alloc (.cells #[.int .i64 l[jj].1, .int .u64 l[jj].2.1, .bool l[jj].2.2] 58) :=⟨_,rfl⟩
    have kx:Z00 wr wx :=hwx ▸ (Mods.refl _ wr).alloc _
    have HD :=Hd (Zfa l[jj] wx)
    have bx:wx.heap[wr.heap.size]? = some (.cells #[.int .i64 l[jj].1, .int .u64 l[jj].2.1, .bool l[jj].2.2] 58 (0,0)) :=hwx ▸ heap_alloc_last wr _
    have HBX :=Hd bx
    have HKX :=Hd kx
    have HWX :=Hd hwx
    have HMS :=Hd (fun he =>hmid.skip hlt he)
    have HMM :=Hd (fun he =>hmid.move hlt he)
    obtain ⟨x,hx⟩:∃ x,x=l[jj] :=⟨_,rfl⟩
    rw [← hx] at c0 c1 c2 HD HWX HBX HMS HMM
    obtain ⟨x1,x2,x3⟩ :=x
    simp only at c0 c1 c2 HD HWX HBX
    have hsz :=hm.size
    clear hmid hrow hm kx bx hwx hx
    go_wp2_with fail
    rw [← HWX.out]
    refine HD.out.mono ?_
    rintro r w2 ⟨rfl,hm2⟩
    have hb2:w2.heap[wr.heap.size]? = some (.cells #[.int .i64 x1, .int .u64 x2, .bool x3] 58 (0,0)) :=hm2.at HBX.out fun h =>h
    have hrow2 :=hm2.owns (HKX.out.owns HROW.out fun _ _ h =>h) fun _ _ h =>h
    have HM2 :=Hd (show Mods (fun i =>i=g) w w2 from (HM.out.keep HKX.out).keep hm2)
    have HR2 :=Hd hrow2
    have HB2 :=Hd hb2
    by_cases h:x2=0
    ·have HS :=Hd (HMS.out h)
     rw [decide_eq_true h]
     clear h hm2 hb2 hrow2 c0 c1 c2
     go_wp2
     go_roundw
     case rel =>exact ⟨ii,jj+1,R,rfl,by go_num,HS.out,HR2.out,HM2.out⟩
     case measure =>simp [intOf]; omega
    ·have HS :=Hd (HMM.out h)
     rw [decide_eq_false h]
     obtain ⟨g',c',hvv,d0,d1,d2⟩ :=Zi0 (l :=R) (by rw [HMID.out.len]; exact hrow2) ii (by rw [HMID.out.len]; exact hil)
     simp only [Value.slice.injEq,Option.some.injEq,Addr.mk.injEq] at hvv
     obtain ⟨⟨rfl,_⟩,hlen1,rfl⟩ :=hvv
     clear hlen1
     have hfz:∀ j,w2.frozen? ⟨g,j,none⟩=false :=by
      rcases hrow2.2 with ⟨h2,_⟩ | ⟨g',cap,cur,hv,hg,hh,_⟩
      ·cases h2
      ·simp only [Value.slice.injEq,Option.some.injEq,Addr.mk.injEq] at hv
       obtain ⟨⟨rfl,_⟩,_,_⟩ :=hv
       intro j
       simp [World.frozen?,hh]
     have f0 :=hfz (ii * 3)
     have f1 :=hfz (ii * 3+1)
     have f2 :=hfz (ii * 3+2)
     have y0:w2.cell? ⟨wr.heap.size,0,none⟩=some (.int .i64 x1) :=by simp [World.cell?,hb2]
     have y1:w2.cell? ⟨wr.heap.size,1,none⟩=some (.int .u64 x2) :=by simp [World.cell?,hb2]
     have y2:w2.cell? ⟨wr.heap.size,2,none⟩=some (.bool x3) :=by simp [World.cell?,hb2]
     have HSET :=Hd (show (((w2.setCell ⟨g,ii * 3,none⟩ (.int .i64 x1)).setCell ⟨g,ii * 3+1,none⟩ (.int .u64 x2)).setCell ⟨g,ii * 3+2,none⟩ (.bool x3)).ownsRow Bs 58 3 (.slice (some ⟨g,0,none⟩) l.length vc) l.length (Z1u (R.set ii (x1,x2,x3))) from by
      rw [Zja]
      exact Zlt hrow2 hil _ _ _)
     have HMS2 :=Hd (show Mods (fun i =>i=g) w2 (((w2.setCell ⟨g,ii * 3,none⟩ (.int .i64 x1)).setCell ⟨g,ii * 3+1,none⟩ (.int .u64 x2)).setCell ⟨g,ii * 3+2,none⟩ (.bool x3)) from by (repeat' first | (with_reducible refine Mods.setCell ?_ _ _ (fun _ =>rfl)) | (with_reducible refine Mods.alloc ?_ _) | (with_reducible refine Mods.drewN ?_ _) | (with_reducible refine Mods.drew ?_) | (with_reducible exact Mods.refl _ _)))
     have HII :=Hd (show wrap64 ((ii:Int)+1)=(ii:Int)+1 from Z1m (by omega) (by omega))
     clear h hm2 hb2 hrow2 c0 c1 c2 hfz
     go_wp2
     go_roundw
     case rel =>exact ⟨ii+1,jj+1,R.set ii (x1,x2,x3),by go_num,by go_num,HS.out,HSET.out,HM2.out.trans HMS2.out⟩
     case measure =>simp [intOf]; omega
   ·obtain rfl:jj=l.length :=by have :=hmid.jl; omega
    have hik:ii=(Z2p l).length :=by have :=hmid.ki; rwa [List.take_length] at this
    have hhead:R.take ii=Z2p l :=by have :=hmid.head; rwa [List.take_length] at this
    have hil:ii<l.length :=hmid.ij
    have hii:(ii:Int)≤(l.length:Int) :=by omega
    rcases hrow.2 with ⟨h2,_⟩ | ⟨g',cap,cur,hv,hg,hh,r1,r2,r3,r4⟩
    ·cases h2
    simp only [Value.slice.injEq,Option.some.injEq,Addr.mk.injEq] at hv
    obtain ⟨⟨rfl,_⟩,_,rfl⟩ :=hv
    have HH :=Hd hh
    have HFIT :=Hd (show ii * 3+(l.length - ii) * 3≤cur.size from by rw [r3]; omega)
    have HFIN :=Hd (show ∀ (W:World) (cur':Array Value),W.heap[g]? = some (.cells cur' 58 (0,0))→cur'.size=cur.size→(∀ j,j<ii * 3→cur'[j]? = cur[j]?)→W.ownsRow Bs 58 3 (.slice (some ⟨g,0,none⟩) ii vc) ii (Z1u (Z2p l)) from fun W cur' h1 h2 h3 =>by
     refine ⟨by rw [Zin,hik], .inr ⟨g,vc,cur',rfl,hg,h1,by omega,r2,by rw [h2,r3], ?_⟩⟩
     rw [← hhead,← Zhi,← r4,List.take_take,Nat.min_eq_left (by omega)]
     apply List.ext_getElem?
     intro j
     rw [List.getElem?_take,List.getElem?_take]
     by_cases hj:j<ii * 3
     ·rw [if_pos hj,if_pos hj]
      simpa using h3 j hj
     ·rw [if_neg hj,if_neg hj])
    have HIK :=Hd hik
    have HM2 :=Hd hm
    have hcap:ii≤vc :=by omega
    have hcap2:l.length≤vc :=r1
    have hzz : ¬ (l.length - ii=0) :=by omega
    clear hmid hrow hm hik hhead hh r2 r3 r4 hg
    obtain ⟨cs,hcl,hrun⟩ :=Z93 (P :=Tryz.prog) wr 44 0 58 zM 3 Tryz.underlying44 (by kernel_rfl) Zn6 Zow g (ii * 3) (l.length - ii) (vc - ii) cur _ HH.out (by omega) HFIT.out
    obtain ⟨wc,hwc⟩:∃ wc,wc=wr.setRow g (cur.toList.take (ii * 3) ++ cs ++ cur.toList.drop (ii * 3+cs.length)).toArray :=⟨_,rfl⟩
    rw [← hwc] at hrun
    have hg1:wc.heap[g]? = some (.cells (cur.toList.take (ii * 3) ++ cs ++ cur.toList.drop (ii * 3+cs.length)).toArray 58 (0,0)) :=hwc ▸ setRow_heap wr g cur _ _ _ HH.out
    have hmc:Mods (fun i =>i=g) wr wc :=hwc ▸ (Mods.refl _ wr).setRow _ _ fun _ =>rfl
    have HROW2 :=Hd (HFIN.out wc _ hg1 (by
     have :=HFIT.out
     simp only [List.size_toArray,List.length_append,List.length_take,List.length_drop,Array.length_toList]
     omega) (fun j hj =>by
     have :=HFIT.out
     rw [List.getElem?_toArray,Z6s _ _ _ j (by simp only [Array.length_toList]; omega),if_pos hj]
     simp))
    have HM3 :=Hd (HM2.out.trans hmc)
    have HRUN :=Hd hrun
    clear hwc hg1 hmc hcl hrun
    go_wp2_with fail
    rw [HRUN.out]
    go_wp2
    go_ret
    refine ⟨_,rfl, ?_,fun k hk =>hk,HM3.out.weaken fun i _ h =>by rw [h]; rfl⟩
    rw [← HIK.out]
    exact HROW2.out
 ·have K1 :=Hd (Zao hno)
  have HM1 :=Hd hm1
  have HV1 :=Hd (hm1.owns HV.out fun _ _ h =>h)
  clear hno hm1
  go_wp2
  go_ret
  rw [K1.out]
  exact ⟨_,rfl,HV1.out,fun k hk =>hk,HM1.out.weaken fun _ _ h =>h.elim⟩
theorem Zc1 (l:List Pm) (v:Value) (Bs:Nat) (w:World) (hv:w.ownsRow Bs 58 3 v l.length (Z1u l)) (hn:l.length≤90000) :
 Calls Tryz.prog 180 #[v] w fun r w' =>
  ∃ v',r = .returned v'∧w'.ownsRow Bs 58 3 v' (Z2p l).length (Z1u (Z2p l))∧Mods (fun i =>v.ownBlock=some i) w w' :=by
 have HD :=Hd (Ze9 l v Bs w hv hn)
 clear hv
 go_enter Tryz.func180,Tryz.ntmps180
 go_wp2_with fail
 refine HD.out.mono ?_
 rintro r w1 ⟨v',rfl,h1, -,h2⟩
 have H1 :=Hd h1
 have H2 :=Hd h2
 clear h1 h2
 go_wp2
 go_ret
 exact ⟨_,rfl,H1.out,H2.out⟩
end Go.Proofs.YtecapfmmoejikaaGreat
namespace Go.Eg
def Zh1 (l:List Vd) (r:Int × Int):Int :=if ¬ inR l r.1 then 7 else if r.2=0 then 3 else if (vAt l r.1).st≠2 then 8 else 0
end Go.Eg
namespace Go.Proofs.YtecapfmmoejikaaGreat
open Go.RowKit Go.Eg
theorem Zbq (v:Value) (l:List Vd) (r:Int × Int) (w:World) (hl:VL w v l):Calls Tryz.prog 97 #[v, .agg #[.int .i64 r.1, .int .u64 r.2]] w fun e w' =>e = .returned (.int .i64 (Zh1 l r))∧Z00 w w' :=by
 obtain ⟨i,am⟩ :=r
 have hlen:∃ a cap,v = .slice a l.length cap :=by
  obtain ⟨a,cap,rfl, -⟩ :=hl
  exact ⟨a,cap,rfl⟩
 obtain ⟨a,cap,rfl⟩ :=hlen
 have HL :=Hd hl
 obtain ⟨X,hX⟩:∃ X,X=Zh1 l (i,am) :=⟨_,rfl⟩
 rw [← hX]
 dsimp only
 unfold Zh1 at hX
 dsimp only at hX
 have HQ:∀ w:World,Z00 w (w.alloc (.cells #[.int .i64 i, .int .u64 am] 96)) :=fun w =>(Mods.refl _ w).alloc _
 by_cases hlo:i<0
 ·have E :=Hd (hX.trans (if_pos fun h:inR l i =>by have :=h.1; omega))
  clear hX hl
  go_enter Tryz.func97,Tryz.ntmps97
  go_wp2_with fail
  go_ret
  exact ⟨by rw [E.out]; rfl,HQ w⟩
 ·by_cases hup:(l.length:Int)≤i
  ·have E :=Hd (hX.trans (if_pos fun h:inR l i =>by have :=h.2; omega))
   clear hX hl
   go_enter Tryz.func97,Tryz.ntmps97
   go_wp2_with fail
   go_ret
   exact ⟨by rw [E.out]; rfl,HQ w⟩
  ·have hin:inR l i :=⟨by omega,by omega⟩
   rw [if_neg (by simp [hin])] at hX
   by_cases ham:am=0
   ·have E :=Hd (hX.trans (if_pos ham))
    subst ham
    clear hX hl
    go_enter Tryz.func97,Tryz.ntmps97
    go_wp2_with fail
    go_ret
    exact ⟨by rw [E.out]; rfl,HQ w⟩
   ·rw [if_neg ham] at hX
    obtain ⟨b,off,cap',e1,r1⟩ :=Z2y hl hin
    injection e1 with e1 _ e1'
    subst e1 e1'
    obtain ⟨p,rfl⟩ :=Int.eq_ofNat_of_zero_le hin.1
    rw [Int.toNat_natCast] at r1
    have c1 :=(Mods.refl (fun _ =>False) w).alloc (.cells #[.int .i64 (p:Int), .int .u64 am] 96) |>.cell (r1 1 _ rfl) fun h =>h
    by_cases hst:(vAt l p).st=2
    ·have E :=Hd (hX.trans (if_neg (by simp [hst])))
     rw [hst] at c1
     clear hX hl hst r1 hin
     go_enter Tryz.func97,Tryz.ntmps97
     go_wp2_with fail
     go_ret
     exact ⟨by rw [E.out]; rfl,HQ w⟩
    ·have E :=Hd (hX.trans (if_pos hst))
     have hne:((vAt l p).st != 2)=true :=by simp [hst]
     generalize (vAt l p).st=st at *
     clear hX hl hst r1 hin
     go_enter Tryz.func97,Tryz.ntmps97
     go_wp2_with fail
     go_ret
     exact ⟨by rw [E.out]; rfl,HQ w⟩
end Go.Proofs.YtecapfmmoejikaaGreat
