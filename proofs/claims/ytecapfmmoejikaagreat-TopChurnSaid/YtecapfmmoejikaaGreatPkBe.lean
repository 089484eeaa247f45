/- A part of the proofs of the top laws: PenE PenF PenG EslA InvA. -/
import Derived.Test.YtecapfmmoejikaaGreatPkBd
import Derived.Test.YtecapfmmoejikaaGreatPkBf
set_option maxRecDepth 4000
set_option maxHeartbeats 8000000
namespace Go.Eg
def pnl (b n d:Int):Int :=b * n / d
theorem Z8x {b n d:Int} (h0:0≤b) (hn:0≤n) (hd:n≤d) (h1:1≤d):0≤pnl b n d∧pnl b n d≤b :=by
 unfold pnl
 refine ⟨Int.ediv_nonneg (Int.mul_nonneg h0 hn) (by omega), ?_⟩
 have h:b * n≤b * d :=Int.mul_le_mul_of_nonneg_left hd h0
 calc b * n / d≤b * d / d :=Int.ediv_le_ediv (by omega) h
  _=b :=Int.mul_ediv_cancel _ (by omega)
end Go.Eg
namespace Go.Proofs.YtecapfmmoejikaaGreat
open Go.RowKit Go.Eg
theorem Zdg (b n d:Int) (h0:0≤b) (h1:b≤maxU) (hn:0≤n) (hd:n≤d) (hd1:1≤d) (hd2:d≤4294967296) (w:World) :
 Calls Tryz.prog 132 #[.int .u64 b, .int .u64 n, .int .u64 d] w fun e w' =>e = .returned (.tuple #[.int .u64 (pnl b n d), .bool true])∧Z00 w w' :=by
 obtain ⟨b,rfl⟩ :=Int.eq_ofNat_of_zero_le h0
 obtain ⟨n,rfl⟩ :=Int.eq_ofNat_of_zero_le hn
 obtain ⟨d,rfl⟩ :=Int.eq_ofNat_of_zero_le (show 0≤d by omega)
 unfold maxU at h1
 have :=Zgb b n d (by omega) (by omega) (by omega) (by omega) w
 rw [show pnl (b:Int) (n:Int) (d:Int)=((b * n / d:Nat):Int) by simp [pnl]]
 exact this
def Z72 (n d:Int) (v:Vd):Int × Vd :=(0,{ v with bal :=v.bal - pnl v.bal n d })
theorem Zjt (b b1 b2:Nat) (v:Vd) (hv:v.ok) (c:Nat→Int) (x:Int) (w:World) (hb:w.heap[b]? = some (vdB v)) (h1:w.heap[b1]? = some (cfB c)) (h2:w.heap[b2]? = some (u1B x)) (hne:b≠b2) (hne1:b1≠b2)
 (hn:0≤c 18) (hd:c 18≤c 19) (hd1:1≤c 19) (hd2:c 19≤4294967296) :
 Calls Tryz.prog 131 #[.pointer (some ⟨b,0,none⟩), .pointer (some ⟨b1,0,none⟩), .pointer (some ⟨b2,0,none⟩)] w fun r w' =>r = .returned (.int .i64 0)∧w'.heap[b]? = some (vdB (Z72 (c 18) (c 19) v).2)∧w'.heap[b2]? = some (u1B (pnl v.bal (c 18) (c 19)))∧Mods (fun i =>i=b∨i=b2) w w' :=by
 have HA :=Hd (fun w =>Zdg v.bal (c 18) (c 19) hv.b0 hv.b1 hn hd hd1 hd2 w)
 have hp :=Z8x hv.b0 hn hd hd1
 have hb1 :=hv.b1
 unfold Z72
 generalize pnl v.bal (c 18) (c 19)=P at *
 have hw:IntKind.u64.wrap (v.bal - P)=v.bal - P :=by rw [IntKind.wrap_u64]; unfold maxU at hb1; omega
 have HB :=Hd hb
 have HC :=Hd h1
 have HX :=Hd h2
 have c0 :=(Z0o hb).1
 have c18:w.cell? ⟨b1,18,none⟩=some (.int .u64 (c 18)) :=by simp [World.cell?,h1]
 have c19:w.cell? ⟨b1,19,none⟩=some (.int .u64 (c 19)) :=by simp [World.cell?,h1]
 clear hb h1 h2 hv hn hd hd1 hd2 hb1 hp
 go_enter Tryz.func131,Tryz.ntmps131
 go_wp2
 refine Z07 (S :=(fun w' =>w'.cell? ⟨b,0,none⟩=some (.int .u64 v.bal)∧w'.cell? ⟨b1,18,none⟩=some (.int .u64 (c 18))∧w'.cell? ⟨b1,19,none⟩=some (.int .u64 (c 19)))) (by kernel_rfl) (by exact ⟨c0,c18,c19⟩) (fun wc hD hH0 =>?_)
 refine tk 0 rfl hH0 ?_
 try go_frame
 refine tk 1 rfl hH0 ?_
 try go_frame
 refine tk 2 rfl hH0 ?_
 try go_frame
 refine tk 3 rfl hH0 ?_
 try go_frame
 refine tk 4 rfl hH0 ?_
 try go_frame
 refine tk 5 rfl hH0 ?_
 try go_frame
 refine tk 6 rfl hH0 ?_
 try go_frame
 refine tk 7 rfl hH0 ?_
 try go_frame
 refine rdy [8] (Z04 rfl (fun K hK =>?_) AllReadyH.nil)
 go_simp
 refine (HA.out _).mono ?_
 rintro r wc ⟨rfl,hk⟩
 go_wp2_with fail
 have hkk:Z00 w wc :=hD.mods.keep hk
 refine hK.out _ _ (⟨hkk.cell c0 fun h =>h,hkk.cell c18 fun h =>h,hkk.cell c19 fun h =>h⟩) (fun hH1 =>?_)
 clear hK K hH0
 try go_frame
 have HKK :=Hd hkk
 have hx2 :=hkk.at HX.out fun h =>h
 have f2:wc.frozen? ⟨b2,0,none⟩=false :=by simp [World.frozen?,hx2]
 have x2:wc.cell? ⟨b2,0,none⟩=some (.int .u64 x) :=by simp [World.cell?,hx2]
 have HX2 :=Hd hx2
 clear hkk hk hx2
 refine tk 9 rfl hH1 ?_
 try go_frame
 refine tk 10 rfl hH1 ?_
 try go_frame
 refine tk 11 rfl hH1 ?_
 try go_frame
 refine rdy [12] (Z04 rfl (fun K hK =>?_) AllReadyH.nil)
 go_simp
 refine Z14 ?_
 intro wd hwd
 have hm:Mods (fun i =>i=b2) wc wd :=by rw [hwd]; exact (Mods.refl _ _).setCell _ _ fun _ =>rfl
 have hx:wd.heap[b2]? = some (u1B P) :=by rw [hwd]; exact heap_setCell_same wc b2 0 _ _ _ HX2.out
 have hm2:Mods (fun i =>i=b2) w wd :=hm.seq' HKK.out
 refine hK.out _ _ (⟨hm2.cell c0 hne,hm2.cell c18 hne1,hm2.cell c19 hne1⟩) (fun hH2 =>?_)
 clear hK K hH1
 try go_frame
 have HM2 :=Hd hm2
 have HX3 :=Hd hx
 clear hwd hm hm2 hx f2 x2
 refine wpAnyH_done (by kernel_rfl) ?_ _
 have hS :=Hd hH2
 clear hH2
 go_wp2
 have d0:wd.cell? ⟨b,0,none⟩=some (.int .u64 v.bal) :=HM2.out.cell c0 hne
 have d2:wd.cell? ⟨b2,0,none⟩=some (.int .u64 P) :=by have :=HX3.out; simp [World.cell?,this]
 clear c0 c18 c19 hD hS
 have hb3 :=HM2.out.at HB.out hne
 have f0 :=Z06 hb3 0
 have HB3 :=Hd hb3
 clear hb3
 refine Z01 8 (by kernel_rfl) (by kernel_rfl) ?_; simp only [List.take_succ_cons,List.take_zero,List.drop_succ_cons,List.drop_zero]; (repeat (go_big_quiet_step ((fail)))); refine wpQuiet_nil ?_; rintro _ ⟨nq,rfl⟩
 go_wp2
 go_ret
 have mm:Mods (fun i =>i=b) wd ((wd.drewN nq).setCell ⟨b,0,none⟩ (.int .u64 (v.bal - P))) :=((Mods.refl _ wd).drewN nq).setCell _ _ fun _ =>rfl
 exact ⟨rfl,heap_setCell_same (wd.drewN nq) b 0 _ _ _ HB3.out,mm.at HX3.out (fun h =>hne h.symm),(HM2.out.weaken fun _ _ h =>.inr h).seq mm fun _ _ h =>.inl h⟩
end Go.Proofs.YtecapfmmoejikaaGreat
namespace Go.Eg
open Go
def seqN:List (Vd→Int × Vd)→Vd→Int × Vd
 | [],v =>(0,v)
 | f :: r,v =>if (f v).1≠0 then ((f v).1,⟨0,0,false,0,0,0,0⟩) else seqN r (f v).2
end Go.Eg
namespace Go.Proofs.YtecapfmmoejikaaGreat
open Go.RowKit Go.Eg
theorem Z9k (v:Vd) (hv:v.ok) (ep ed sd:Int) (c:Nat→Int) (b1 be c1 c2 cb bb sb:Nat) (w:World) (h1:w.heap[b1]? = some (oneB ep)) (he:w.heap[be]? = some (oneB 7)) (k1:w.heap[c1]? = some (oneB ed)) (k2:w.heap[c2]? = some (oneB sd)) (hc:w.heap[cb]? = some (cfB c)) (hbb:w.heap[bb]? = some (u1B 0))
 (n1:b1≠bb) (n2:be≠bb) (n3:c1≠bb) (n4:c2≠bb) (n5:cb≠bb) (nsb:sb≠bb) (hn:0≤c 18) (hd:c 18≤c 19) (hd1:1≤c 19) (hd2:c 19≤4294967296)
 (hs0:w.cell? ⟨sb,0,none⟩=some (.func (Fn.func 130) #[] #[.pointer (some ⟨b1,0,none⟩)]))
 (hs1:w.cell? ⟨sb,1,none⟩=some (.func (Fn.func 191) #[] #[.pointer (some ⟨be,0,none⟩)]))
 (hs2:w.cell? ⟨sb,2,none⟩=some (.func (Fn.func 192) #[] #[.pointer (some ⟨c1,0,none⟩), .pointer (some ⟨c2,0,none⟩)]))
 (hs3:w.cell? ⟨sb,3,none⟩=some (.func (Fn.func 131) #[] #[.pointer (some ⟨cb,0,none⟩), .pointer (some ⟨bb,0,none⟩)])) :
 Calls Tryz.prog 133 #[v.val, .slice (some ⟨sb,0,none⟩) 4 4] w fun r w' =>r = .returned (.tuple #[(seqN [Z2a ep,evC 7,Z1b ed sd,Z72 (c 18) (c 19)] v).2.val, .int .i64 (seqN [Z2a ep,evC 7,Z1b ed sd,Z72 (c 18) (c 19)] v).1])∧w'.heap[bb]? = some (u1B (if (seqN [Z2a ep,evC 7,Z1b ed sd,Z72 (c 18) (c 19)] v).1=0 then pnl v.bal (c 18) (c 19) else 0))∧Mods (fun i =>i=bb) w w' :=by
 obtain ⟨X,hX⟩:∃ X,X=seqN [Z2a ep,evC 7,Z1b ed sd,Z72 (c 18) (c 19)] v :=⟨_,rfl⟩
 rw [← hX]
 have HX :=Hd hX
 have HS0 :=Hd hs0
 have HS1 :=Hd hs1
 have HS2 :=Hd hs2
 have HS3 :=Hd hs3
 have HV :=Hd hv
 obtain ⟨A,hA⟩:∃ A,A=(Z2a ep) v :=⟨_,rfl⟩
 obtain ⟨B,hB⟩:∃ B,B=(evC 7) A.2 :=⟨_,rfl⟩
 obtain ⟨C,hC⟩:∃ C,C=(Z1b ed sd) B.2 :=⟨_,rfl⟩
 obtain ⟨D,hD⟩:∃ D,D=(Z72 (c 18) (c 19)) C.2 :=⟨_,rfl⟩
 have hXA:X=if A.1≠0 then (A.1,vd0) else if B.1≠0 then (B.1,vd0) else if C.1≠0 then (C.1,vd0) else if D.1≠0 then (D.1,vd0) else (0,D.2) :=by rw [hX,hD,hC,hB,hA]; rfl
 have hokA:A.1=0→A.2.ok∧A.2.bal=v.bal :=fun h =>by
  rw [hA] at h ⊢
  unfold Z2a at h ⊢
  split at h
  ·cases h
  ·rename_i h2
   rw [if_neg h2]
   exact ⟨⟨HV.out.b0,HV.out.b1,HV.out.st⟩,rfl⟩
 have hokB:A.1=0→B.1=0→B.2.ok∧B.2.bal=v.bal :=fun h0 h =>by
  obtain ⟨ha,hb⟩ :=hokA h0
  rw [hB] at h ⊢
  unfold evC at h ⊢
  split at h
  ·cases h
  ·rename_i h2
   rw [if_neg h2]
   exact ⟨⟨ha.b0,ha.b1,show (Lit.int .i64 (Z0j A.2.st 7)).wf=true from Z4b _ _⟩,hb⟩
 have hokC:A.1=0→B.1=0→C.1=0→C.2.ok∧C.2.bal=v.bal :=fun h0 h1 h =>by
  obtain ⟨ha,hb⟩ :=hokB h0 h1
  rw [hC] at h ⊢
  unfold Z1b at h ⊢
  split at h
  ·cases h
  ·exact ⟨⟨ha.b0,ha.b1,ha.st⟩,hb⟩
 have hD1:D.1=0 :=by rw [hD]; rfl
 have hPV:A.1=0→B.1=0→C.1=0→pnl C.2.bal (c 18) (c 19)=pnl v.bal (c 18) (c 19) :=fun a b c' =>by rw [(hokC a b c').2]
 obtain ⟨PV,hpv⟩:∃ PV,PV=pnl v.bal (c 18) (c 19) :=⟨_,rfl⟩
 rw [← hpv]
 rw [← hpv] at hPV
 obtain ⟨PB,hpb⟩:∃ PB,PB=(if X.1=0 then PV else 0) :=⟨_,rfl⟩
 rw [← hpb]
 have HPB :=Hd hpb
 have HXA :=Hd hXA
 have EA :=Hd hA
 have EB :=Hd hB
 have EC :=Hd hC
 have ED :=Hd hD
 have HF0 :=Hd (fun (wr:World) (hk:Mods (fun i =>i=bb) w wr) (hb:wr.heap[w.heap.size]? = some (vdB v)) (hx:wr.heap[bb]? = some (u1B 0)) =>Zgk w.heap.size b1 ep v wr hb (hk.at h1 n1))
 have HF1 :=Hd (fun (wr:World) (hk:Mods (fun i =>i=bb) w wr) (hz:A.1=0) (hb:wr.heap[w.heap.size]? = some (vdB A.2)) (hx:wr.heap[bb]? = some (u1B 0)) =>Z7a w.heap.size be 7 A.2 wr hb (hk.at he n2) (hokA hz).1 (by decide))
 have HF2 :=Hd (fun (wr:World) (hk:Mods (fun i =>i=bb) w wr) (hz:A.1=0∧B.1=0) (hb:wr.heap[w.heap.size]? = some (vdB B.2)) (hx:wr.heap[bb]? = some (u1B 0)) =>Zaf w.heap.size c1 c2 ed sd B.2 wr hb (hk.at k1 n3) (hk.at k2 n4))
 have HF3 :=Hd (fun (wr:World) (hk:Mods (fun i =>i=bb) w wr) (hz:A.1=0∧B.1=0∧C.1=0) (hb:wr.heap[w.heap.size]? = some (vdB C.2)) (hx:wr.heap[bb]? = some (u1B 0)) =>Zjt w.heap.size cb bb C.2 (hokC hz.1 hz.2.1 hz.2.2).1 c 0 wr hb (hk.at hc n5) hx (by have :=Z0a hbb; omega) n5 hn hd hd1 hd2)
 have hbbl :=Z0a hbb
 have HBB :=Hd hbb
 have HPV :=Hd hPV
 have HD1 :=Hd hD1
 have NSB :=Hd nsb
 clear hX hs0 hs1 hs2 hs3 hv hA hB hC hD hXA h1 he k1 k2 hc hbb n1 n2 n3 n4 n5 hn hd hd1 hd2 hokA hokB hokC hPV hpv hpb hD1 nsb
 rw [← EA.out] at HF0
 rw [← EB.out] at HF1
 rw [← EC.out] at HF2
 rw [← ED.out] at HF3
 go_enter Tryz.func133,Tryz.ntmps133
 go_wp2
 go_loopw [11] (fun i wr =>Mods (fun i =>i=bb) w wr∧wr.heap[w.heap.size+1]? = some (vdB vd0)∧((i = .int .i64 0∧wr.heap[w.heap.size]? = some (vdB v)∧wr.heap[bb]? = some (u1B 0))∨(i = .int .i64 1∧(A.1=0)∧wr.heap[w.heap.size]? = some (vdB A.2)∧wr.heap[bb]? = some (u1B 0))∨(i = .int .i64 2∧(A.1=0∧B.1=0)∧wr.heap[w.heap.size]? = some (vdB B.2)∧wr.heap[bb]? = some (u1B 0))∨(i = .int .i64 3∧(A.1=0∧B.1=0∧C.1=0)∧wr.heap[w.heap.size]? = some (vdB C.2)∧wr.heap[bb]? = some (u1B 0))∨(i = .int .i64 4∧(A.1=0∧B.1=0∧C.1=0∧D.1=0)∧wr.heap[w.heap.size]? = some (vdB D.2)∧wr.heap[bb]? = some (u1B PV)))) (fun i _ =>4 - (intOf i).toNat)
 case atStart =>
  have h :=heap_alloc_last (w.alloc (vdB v)) (vdB vd0)
  rw [World.size_alloc] at h
  exact ⟨((Mods.refl _ w).alloc _).alloc _,h, .inl ⟨rfl,Z02 (heap_alloc_last w _) _,Z02 (Z02 HBB.out _) _⟩⟩
 case round =>
  obtain ⟨hk,hz,hi⟩ :=hrel
  have HK :=Hd hk
  have HZ :=Hd hz
  have hbl :=hk.size
  rcases hi with ⟨rfl,hb,hx⟩ | ⟨rfl,hA0,hb,hx⟩ | ⟨rfl,hA0,hb,hx⟩ | ⟨rfl,hA0,hb,hx⟩ | ⟨rfl,hA0,hb,hx⟩
  ·have hcell :=hk.cell HS0.out NSB.out
   have HCALL :=Hd (HF0.out wr hk hb hx)
   have HX0 :=Hd hx
   clear hk hz hb hx
   go_wp2_with fail
   refine HCALL.out.mono ?_
   rintro r w1 ⟨rfl,hb1,hm⟩
   have HB1 :=Hd hb1
   have HK1 :=Hd (show Mods (fun i =>i=bb) w w1 from HK.out.seq hm fun i hi e =>by omega)
   have HX1 :=Hd (hm.at HX0.out (by omega))
   have hz1 :=hm.at HZ.out (by omega)
   have HZ1 :=Hd hz1
   by_cases h0:A.1=0
   ·have E :=Hd h0
    have hne:(A.1 != 0)=false :=by simp [h0]
    clear h0 hb1 hm hz1
    go_wp2
    go_roundw
    case rel =>exact ⟨HK1.out,HZ1.out, .inr (.inl ⟨by first | rfl | trivial,E.out,HB1.out,HX1.out⟩)⟩
    case measure =>simp [intOf]
   ·have E :=Hd (HXA.out.trans (if_pos h0))
    have hne:(A.1 != 0)=true :=by simpa using h0
    have hneg :=Hd (show ¬ A.1=0 from h0)
    obtain ⟨r0,r1,r2,r3,r4,r5,r6⟩ :=Z0o hz1
    have rf0 :=Z06 hz1 0
    have rf1 :=Z06 hz1 1
    have rf2 :=Z06 hz1 2
    have rf3 :=Z06 hz1 3
    have rf4 :=Z06 hz1 4
    have rf5 :=Z06 hz1 5
    have rf6 :=Z06 hz1 6
    clear h0 hb1 hm hz1
    go_wp2
    refine Z1g ?_
    intro W hW
    have hput :=Z33 HZ1.out vd0
    rw [show _=W from hW.symm] at hput
    have mW:Mods (fun i =>i=w.heap.size+1) w1 W :=by rw [hW]; (repeat' first | (with_reducible refine Mods.setCell ?_ _ _ (fun _ =>rfl)) | (with_reducible refine Mods.alloc ?_ _) | (with_reducible refine Mods.drewN ?_ _) | (with_reducible refine Mods.drew ?_) | (with_reducible exact Mods.refl _ _))
    obtain ⟨p0,p1,p2,p3,p4,p5,p6⟩ :=Z0o hput
    refine bodyPost_ret (v := .tuple #[vd0.val, .int .i64 A.1]) (by simp [results,Tryz.results133,go_sem,p0,p1,p2,p3,p4,p5,p6]) rfl ⟨by rw [E.out], ?_,HK1.out.seq mW fun i hi e =>by omega⟩
    rw [HPB.out,E.out,if_neg hneg.out]
    exact mW.at HX1.out (by omega)
  ·have hcell :=hk.cell HS1.out NSB.out
   have HCALL :=Hd (HF1.out wr hk hA0 hb hx)
   have HA0 :=Hd hA0
   have HX0 :=Hd hx
   clear hk hz hb hx hA0
   go_wp2_with fail
   refine HCALL.out.mono ?_
   rintro r w1 ⟨rfl,hb1,hm⟩
   have HB1 :=Hd hb1
   have HK1 :=Hd (show Mods (fun i =>i=bb) w w1 from HK.out.seq hm fun i hi e =>by omega)
   have HX1 :=Hd (hm.at HX0.out (by omega))
   have hz1 :=hm.at HZ.out (by omega)
   have HZ1 :=Hd hz1
   by_cases h0:B.1=0
   ·have E :=Hd h0
    have hne:(B.1 != 0)=false :=by simp [h0]
    clear h0 hb1 hm hz1
    go_wp2
    go_roundw
    case rel =>exact ⟨HK1.out,HZ1.out, .inr (.inr (.inl ⟨by first | rfl | trivial,⟨HA0.out,E.out⟩,HB1.out,HX1.out⟩))⟩
    case measure =>simp [intOf]
   ·have E :=Hd (HXA.out.trans ((if_neg (by have :=HA0.out; simp [this])).trans (if_pos h0)))
    have hne:(B.1 != 0)=true :=by simpa using h0
    have hneg :=Hd (show ¬ B.1=0 from h0)
    obtain ⟨r0,r1,r2,r3,r4,r5,r6⟩ :=Z0o hz1
    have rf0 :=Z06 hz1 0
    have rf1 :=Z06 hz1 1
    have rf2 :=Z06 hz1 2
    have rf3 :=Z06 hz1 3
    have rf4 :=Z06 hz1 4
    have rf5 :=Z06 hz1 5
    have rf6 :=Z06 hz1 6
    clear h0 hb1 hm hz1
    go_wp2
    refine Z1g ?_
    intro W hW
    have hput :=Z33 HZ1.out vd0
    rw [show _=W from hW.symm] at hput
    have mW:Mods (fun i =>i=w.heap.size+1) w1 W :=by rw [hW]; (repeat' first | (with_reducible refine Mods.setCell ?_ _ _ (fun _ =>rfl)) | (with_reducible refine Mods.alloc ?_ _) | (with_reducible refine Mods.drewN ?_ _) | (with_reducible refine Mods.drew ?_) | (with_reducible exact Mods.refl _ _))
    obtain ⟨p0,p1,p2,p3,p4,p5,p6⟩ :=Z0o hput
    refine bodyPost_ret (v := .tuple #[vd0.val, .int .i64 B.1]) (by simp [results,Tryz.results133,go_sem,p0,p1,p2,p3,p4,p5,p6]) rfl ⟨by rw [E.out], ?_,HK1.out.seq mW fun i hi e =>by omega⟩
    rw [HPB.out,E.out,if_neg hneg.out]
    exact mW.at HX1.out (by omega)
  ·have hcell :=hk.cell HS2.out NSB.out
   have HCALL :=Hd (HF2.out wr hk hA0 hb hx)
   have HA0 :=Hd hA0
   have HX0 :=Hd hx
   clear hk hz hb hx hA0
   go_wp2_with fail
   refine HCALL.out.mono ?_
   rintro r w1 ⟨rfl,hb1,hm⟩
   have HB1 :=Hd hb1
   have HK1 :=Hd (show Mods (fun i =>i=bb) w w1 from HK.out.seq hm fun i hi e =>by omega)
   have HX1 :=Hd (hm.at HX0.out (by omega))
   have hz1 :=hm.at HZ.out (by omega)
   have HZ1 :=Hd hz1
   by_cases h0:C.1=0
   ·have E :=Hd h0
    have hne:(C.1 != 0)=false :=by simp [h0]
    clear h0 hb1 hm hz1
    go_wp2
    go_roundw
    case rel =>exact ⟨HK1.out,HZ1.out, .inr (.inr (.inr (.inl ⟨by first | rfl | trivial,⟨HA0.out.1,HA0.out.2,E.out⟩,HB1.out,HX1.out⟩)))⟩
    case measure =>simp [intOf]
   ·have E :=Hd (HXA.out.trans ((if_neg (by have :=HA0.out; simp [this])).trans ((if_neg (by have :=HA0.out; simp [this])).trans (if_pos h0))))
    have hne:(C.1 != 0)=true :=by simpa using h0
    have hneg :=Hd (show ¬ C.1=0 from h0)
    obtain ⟨r0,r1,r2,r3,r4,r5,r6⟩ :=Z0o hz1
    have rf0 :=Z06 hz1 0
    have rf1 :=Z06 hz1 1
    have rf2 :=Z06 hz1 2
    have rf3 :=Z06 hz1 3
    have rf4 :=Z06 hz1 4
    have rf5 :=Z06 hz1 5
    have rf6 :=Z06 hz1 6
    clear h0 hb1 hm hz1
    go_wp2
    refine Z1g ?_
    intro W hW
    have hput :=Z33 HZ1.out vd0
    rw [show _=W from hW.symm] at hput
    have mW:Mods (fun i =>i=w.heap.size+1) w1 W :=by rw [hW]; (repeat' first | (with_reducible refine Mods.setCell ?_ _ _ (fun _ =>rfl)) | (with_reducible refine Mods.alloc ?_ _) | (with_reducible refine Mods.drewN ?_ _) | (with_reducible refine Mods.drew ?_) | (with_reducible exact Mods.refl _ _))
    obtain ⟨p0,p1,p2,p3,p4,p5,p6⟩ :=Z0o hput
    refine bodyPost_ret (v := .tuple #[vd0.val, .int .i64 C.1]) (by simp [results,Tryz.results133,go_sem,p0,p1,p2,p3,p4,p5,p6]) rfl ⟨by rw [E.out], ?_,HK1.out.seq mW fun i hi e =>by omega⟩
    rw [HPB.out,E.out,if_neg hneg.out]
    exact mW.at HX1.out (by omega)
  ·have hcell :=hk.cell HS3.out NSB.out
   have HCALL :=Hd (HF3.out wr hk hA0 hb hx)
   have HA0 :=Hd hA0
   have HX0 :=Hd hx
   clear hk hz hb hx hA0
   go_wp2_with fail
   refine HCALL.out.mono ?_
   rintro r w1 ⟨rfl,hb1,hxx,hm⟩
   have HB1 :=Hd hb1
   have HK1 :=Hd (show Mods (fun i =>i=bb) w w1 from HK.out.seq hm fun i hi e =>by rcases e with e | e <;> omega)
   have HX1 :=Hd hxx
   have hz1 :=hm.at HZ.out (by intro e; rcases e with e | e <;> omega)
   have HZ1 :=Hd hz1
   have hne:(D.1 != 0)=false :=by simp [HD1.out]
   have hd0:(0:Int)=D.1 :=HD1.out.symm
   clear hb1 hm hz1 hxx hd0
   go_wp2
   go_roundw
   case rel =>exact ⟨HK1.out,HZ1.out, .inr (.inr (.inr (.inr ⟨by first | rfl | trivial,⟨HA0.out.1,HA0.out.2.1,HA0.out.2.2,HD1.out⟩,HB1.out,by rw [← HPV.out HA0.out.1 HA0.out.2.1 HA0.out.2.2]; exact HX1.out⟩)))⟩
   case measure =>simp [intOf]
  ·have E :=Hd (HXA.out.trans ((if_neg (by simp [hA0])).trans ((if_neg (by simp [hA0])).trans ((if_neg (by simp [hA0])).trans (if_neg (by simp [hA0]))))))
   obtain ⟨r0,r1,r2,r3,r4,r5,r6⟩ :=Z0o hz
   have rf0 :=Z06 hz 0
   have rf1 :=Z06 hz 1
   have rf2 :=Z06 hz 2
   have rf3 :=Z06 hz 3
   have rf4 :=Z06 hz 4
   have rf5 :=Z06 hz 5
   have rf6 :=Z06 hz 6
   obtain ⟨q0,q1,q2,q3,q4,q5,q6⟩ :=Z0o hb
   have HX0 :=Hd hx
   clear hA0 hb hz hk hx
   go_wp2
   refine Z1g ?_
   intro W hW
   have hput :=Z33 HZ.out D.2
   rw [show _=W from hW.symm] at hput
   have mW:Mods (fun i =>i=w.heap.size+1) wr W :=by rw [hW]; (repeat' first | (with_reducible refine Mods.setCell ?_ _ _ (fun _ =>rfl)) | (with_reducible refine Mods.alloc ?_ _) | (with_reducible refine Mods.drewN ?_ _) | (with_reducible refine Mods.drew ?_) | (with_reducible exact Mods.refl _ _))
   obtain ⟨p0,p1,p2,p3,p4,p5,p6⟩ :=Z0o hput
   refine bodyPost_ret (v := .tuple #[D.2.val, .int .i64 0]) (by simp [results,Tryz.results133,go_sem,p0,p1,p2,p3,p4,p5,p6]) rfl ⟨by rw [E.out], ?_,HK.out.seq mW fun i hi e =>by omega⟩
   rw [HPB.out,E.out,if_pos rfl]
   exact mW.at HX0.out (by omega)
def Z1y (ep:Int) (c:Nat→Int) (v:Vd):Int × Vd :=seqN [Z2a ep,evC 7,Z1b ep (c 11),Z72 (c 18) (c 19)] v
def Z9q (ep:Int) (c:Nat→Int) (v:Vd):Int :=if (Z1y ep c v).1=0 then pnl v.bal (c 18) (c 19) else 0
theorem Zcw (v:Vd) (hv:v.ok) (ep:Int) (c:Nat→Int) (hn:0≤c 18) (hd:c 18≤c 19) (hd1:1≤c 19) (hd2:c 19≤4294967296) (w:World) :
 Calls Tryz.prog 89 #[v.val, .int .i64 ep,cfgV c] w fun r w' =>r = .returned (.tuple #[(Z1y ep c v).2.val, .int .u64 (Z9q ep c v), .int .i64 (Z1y ep c v).1])∧Z00 w w' :=by
 have HAP0 :=fun b1 be c1 c2 cb bb sb w h1 he k1 k2 hc hbb n1 n2 n3 n4 n5 nsb =>Z9k v hv ep ep (c 11) c b1 be c1 c2 cb bb sb w h1 he k1 k2 hc hbb n1 n2 n3 n4 n5 nsb hn hd hd1 hd2
 obtain ⟨X,hX⟩:∃ X,X=Z1y ep c v :=⟨_,rfl⟩
 obtain ⟨PB,hPB⟩:∃ PB,PB=Z9q ep c v :=⟨_,rfl⟩
 rw [← hX,← hPB]
 have HAP :=Hd HAP0
 clear HAP0
 rw [show seqN [Z2a ep,evC 7,Z1b ep (c 11),Z72 (c 18) (c 19)] v=X from hX.symm,show (if X.1=0 then pnl v.bal (c 18) (c 19) else 0)=PB by rw [hPB,Z9q,hX]] at HAP
 have hp11:(cfgC c)[11]? = some (.int .i64 (c 11)) :=rfl
 unfold cfB at HAP
 rw [show cfgV c = .agg (cfgC c) from rfl]
 obtain ⟨s11,hs11⟩:∃ x,x=c 11 :=⟨_,rfl⟩
 rw [← hs11] at HAP hp11
 generalize cfgC c=cs at *
 clear hX hPB hn hd hd1 hd2 hv hs11
 go_enter Tryz.func89,Tryz.ntmps89
 go_wp2
 refine Z0l ?_
 intro wz hwz
 obtain ⟨bv,be,bc,bz,bb,bs,kz⟩ :=Zfm w (vdB v) (oneB ep) (.cells cs 24 (0,0)) (vdB vd0) (u1B 0)
 rw [← (show wz=_ from hwz)] at bv be bc bz bb bs kz
 have ce:wz.cell? ⟨w.heap.size+1,0,none⟩=some (.int .i64 ep) :=by simp [World.cell?,be]
 have cc:wz.cell? ⟨w.heap.size+1+1,11,none⟩=some (.int .i64 s11) :=by rw [cell_of_row _ _ _ _ _ _ bc]; exact hp11
 obtain ⟨n,hn⟩:∃ n,n=w.heap.size+1+1+1+1 :=⟨_,rfl⟩
 have BV :=Hd bv
 have BE :=Hd be
 have BC :=Hd bc
 have BZ :=Hd bz
 have BB :=Hd (show wz.heap[n]? = some (u1B 0) from by rw [hn]; exact bb)
 have KZ :=Hd kz
 have HN :=Hd hn
 have hSS:∀ wx,Mods (fun i =>i=n) wz wx→(Mods (fun i =>i=n) wz wx∧wx.cell? ⟨w.heap.size+1,0,none⟩=some (.int .i64 ep)∧wx.cell? ⟨w.heap.size+1+1,11,none⟩=some (.int .i64 s11)) :=fun wx h =>⟨h,h.cell ce (show w.heap.size+1≠n from by omega),h.cell cc (show w.heap.size+1+1≠n from by omega)⟩
 have HSS :=Hd hSS
 have BS :=Hd (show wz.heap.size=n+1 from by rw [bs,hn])
 clear hwz bv be bc bz bb bs kz hSS hn ce cc
 go_cut [12,13] (fun s8 s9 wx => ∃ z,s8 = .pointer (some ⟨z,0,none⟩)∧s9 = .int .i64 X.1∧wz.heap.size≤z∧wx.heap[z]? = some (vdB X.2)∧wx.heap[n]? = some (u1B PB)∧Mods (fun i =>i=n) wz wx)
 case first =>
  refine Z07 (S :=(fun w' =>Mods (fun i =>i=n) wz w'∧w'.cell? ⟨w.heap.size+1,0,none⟩=some (.int .i64 ep)∧w'.cell? ⟨w.heap.size+1+1,11,none⟩=some (.int .i64 s11))) (by kernel_rfl) (by exact HSS.out _ (Mods.refl _ wz).drew) (fun wc hD hH0 =>?_)
  have HK :=Hd (show Mods (fun i =>i=n) wz wc from hD.mods)
  have HP0 :=Hd ((hD.mods (S :=fun _ =>False)).at BB.out fun h =>h)
  clear hD
  refine tkb 0 rfl hH0 (Z13 (by rfl) (.tmp 3) rfl w.heap.size rfl v (fun _ h =>h.1.at BV.out (by have :=HN.out; omega))) ?_
  try go_frame
  refine tk 1 rfl hH0 ?_
  try go_frame
  refine tk 3 rfl hH0 ?_
  try go_frame
  refine tk 4 rfl hH0 ?_
  try go_frame
  refine tk 5 rfl hH0 ?_
  try go_frame
  refine tk 7 rfl hH0 ?_
  try go_frame
  refine rdy [2,13] (Z04 rfl (fun K hK =>?_) (Z04 rfl (fun K hK =>?_) AllReadyH.nil))
  ·go_simp
   obtain ⟨eb,heb⟩:∃ m,m=wc.heap.size :=⟨_,rfl⟩
   have hebn:n+1≤eb :=by have :=HK.out.size; have :=BS.out; omega
   have HC :=Z3x 7 wc
   rw [← heb] at HC
   clear heb
   refine HC.mono ?_
   rintro r wc ⟨rfl,hb,hk⟩
   go_wp2_with fail
   refine hK.out _ _ ((HSS.out _ (HK.out.keep hk))) (fun hH1 =>?_)
   clear hK K hH0
   try go_frame
   replace HK :=Hd (HK.out.keep hk)
   try replace HP0 :=Hd (hk.at HP0.out fun h =>h)
   try replace HZ :=Hd (hk.at HZ.out fun h =>h)
   have HEB :=Hd hb
   have HEBN :=Hd hebn
   clear hb hk HC hebn
   refine rdy [6,13] (Z04 rfl (fun K hK =>?_) (Z04 rfl (fun K hK =>?_) AllReadyH.nil))
   ·go_simp
    obtain ⟨db,hdb⟩:∃ m,m=wc.heap.size :=⟨_,rfl⟩
    have hdbn:n+1≤db :=by have :=HK.out.size; have :=BS.out; omega
    have HC :=Z4f ep s11 wc
    rw [← hdb] at HC
    clear hdb
    refine HC.mono ?_
    rintro r wc ⟨rfl,hb,hb2,hk⟩
    go_wp2_with fail
    refine hK.out _ _ ((HSS.out _ (HK.out.keep hk))) (fun hH2 =>?_)
    clear hK K hH1
    try go_frame
    replace HK :=Hd (HK.out.keep hk)
    try replace HP0 :=Hd (hk.at HP0.out fun h =>h)
    try replace HZ :=Hd (hk.at HZ.out fun h =>h)
    replace HEB :=Hd (hk.at HEB.out fun h =>h)
    have HDB :=Hd hb
    have HDB2 :=Hd hb2
    have HDBN :=Hd hdbn
    clear hb hb2 hk HC hdbn
    refine rdy [8,13] (Z04 rfl (fun K hK =>?_) (Z04 rfl (fun K hK =>?_) AllReadyH.nil))
    ·go_simp
     have hsbn:n+1≤wc.heap.size :=by have :=HK.out.size; have :=BS.out; omega
     generalize hsz:wc.heap.size=sb at *
     refine Z14 ?_
     intro wc hwd
     have hk :=Z0f hwd
     have hn :=Z0g hwd
     rw [hsz] at hn
     refine hK.out _ _ ((HSS.out _ (HK.out.keep hk))) (fun hH3 =>?_)
     clear hK K hH2
     try go_frame
     replace HK :=Hd (HK.out.keep hk)
     try replace HP0 :=Hd (hk.at HP0.out fun h =>h)
     try replace HZ :=Hd (hk.at HZ.out fun h =>h)
     replace HEB :=Hd (hk.at HEB.out fun h =>h)
     replace HDB :=Hd (hk.at HDB.out fun h =>h)
     replace HDB2 :=Hd (hk.at HDB2.out fun h =>h)
     have HS :=Hd (Z2e hn)
     have HSBN :=Hd hsbn
     clear hwd hk hn hsz hsbn
     refine rdy [9,13] (Z04 rfl (fun K hK =>?_) (Z04 rfl (fun K hK =>?_) AllReadyH.nil))
     ·go_simp
      refine (HAP.out (w.heap.size+1) eb db (db+1) (w.heap.size+1+1) n sb wc (HK.out.at BE.out (by have :=HN.out; omega)) HEB.out HDB.out HDB2.out (HK.out.at BC.out (by have :=HN.out; omega)) ?_ (by have :=HN.out; omega) (by have :=HEBN.out; omega) (by have :=HDBN.out; omega) (by have :=HDBN.out; omega) (by have :=HN.out; omega) (by have :=HSBN.out; omega) HS.out.1 HS.out.2.1 HS.out.2.2.1 (by rw [HN.out]; exact HS.out.2.2.2)).mono ?_
      ·exact HP0.out
      rintro r wc ⟨rfl,hp,hm⟩
      go_wp2_with fail
      refine hK.out _ _ ((HSS.out _ (HK.out.trans hm))) (fun hH4 =>?_)
      clear hK K hH3
      try go_frame
      replace HK :=Hd (HK.out.trans hm)
      try replace HZ :=Hd (hm.at HZ.out (by have :=HZN.out; omega))
      have HP :=Hd hp
      clear hp hm HS HEB HDB HDB2 HP0
      refine tk 10 rfl hH4 ?_
      try go_frame
      refine tk 11 rfl hH4 ?_
      try go_frame
      refine tk 12 rfl hH4 ?_
      try go_frame
      refine rdy [13] (Z04 rfl (fun K hK =>?_) AllReadyH.nil)
      go_simp
      have hzn:n+1≤wc.heap.size :=by have :=HK.out.size; have :=BS.out; omega
      generalize hsz:wc.heap.size=z at *
      refine Z14 ?_
      intro wc hwd
      have hk :=Z0f hwd
      have hn :=Z0g hwd
      rw [hsz] at hn
      refine hK.out _ _ ((HSS.out _ (HK.out.keep hk))) (fun hH5 =>?_)
      clear hK K hH4
      try go_frame
      replace HK :=Hd (HK.out.keep hk)
      try replace HP0 :=Hd (hk.at HP0.out fun h =>h)
      try replace HEB :=Hd (hk.at HEB.out fun h =>h)
      try replace HDB :=Hd (hk.at HDB.out fun h =>h)
      try replace HDB2 :=Hd (hk.at HDB2.out fun h =>h)
      try replace HS :=Hd (Z5c HS.out hk (fun h =>h) (fun h =>h) (fun h =>h) (fun h =>h))
      try replace HP :=Hd (hk.at HP.out fun h =>h)
      have HZ :=Hd (show wc.heap[z]? = some (vdB vd0) from hn)
      have HZN :=Hd hzn
      clear hwd hk hn hsz hzn
      refine rdy [14] (Z04 rfl (fun K hK =>?_) AllReadyH.nil)
      refine Z0d (by rfl) (.tmp 12) (.tmp 27) rfl _ X.2 vd0 (by rfl) (by rfl) HZ.out ?_
      intro wc hz hm
      refine hK.out _ _ ((HSS.out _ (HK.out.seq hm (fun i hi e =>by have :=HZN.out; have :=BS.out; omega)))) (fun hH6 =>?_)
      clear hK K hH5
      try go_frame
      replace HK :=Hd (HK.out.seq hm (fun i hi e =>by have :=HZN.out; have :=BS.out; omega))
      have HF :=Hd hz
      replace HP :=Hd (hm.at HP.out (by have :=HZN.out; omega))
      clear hz hm HZ
      refine tk 15 rfl hH6 ?_
      try go_frame
      refine wpAnyH_done (by kernel_rfl) ?_ _
      have hS :=Hd hH6
      clear hH6
      go_wp2_with fail
      go_meet
      case rel =>exact ⟨_,rfl,rfl,by have :=HZN.out; have :=BS.out; omega,HF.out,HP.out,HK.out⟩
     ·go_simp
      have hzn:n+1≤wc.heap.size :=by have :=HK.out.size; have :=BS.out; omega
      generalize hsz:wc.heap.size=z at *
      refine Z14 ?_
      intro wc hwd
      have hk :=Z0f hwd
      have hn :=Z0g hwd
      rw [hsz] at hn
      refine hK.out _ _ ((HSS.out _ (HK.out.keep hk))) (fun hH4 =>?_)
      clear hK K hH3
      try go_frame
      replace HK :=Hd (HK.out.keep hk)
      try replace HP0 :=Hd (hk.at HP0.out fun h =>h)
      try replace HEB :=Hd (hk.at HEB.out fun h =>h)
      try replace HDB :=Hd (hk.at HDB.out fun h =>h)
      try replace HDB2 :=Hd (hk.at HDB2.out fun h =>h)
      try replace HS :=Hd (Z5c HS.out hk (fun h =>h) (fun h =>h) (fun h =>h) (fun h =>h))
      try replace HP :=Hd (hk.at HP.out fun h =>h)
      have HZ :=Hd (show wc.heap[z]? = some (vdB vd0) from hn)
      have HZN :=Hd hzn
      clear hwd hk hn hsz hzn
      refine rdy [9] (Z04 rfl (fun K hK =>?_) AllReadyH.nil)
      go_simp
      refine (HAP.out (w.heap.size+1) eb db (db+1) (w.heap.size+1+1) n sb wc (HK.out.at BE.out (by have :=HN.out; omega)) HEB.out HDB.out HDB2.out (HK.out.at BC.out (by have :=HN.out; omega)) ?_ (by have :=HN.out; omega) (by have :=HEBN.out; omega) (by have :=HDBN.out; omega) (by have :=HDBN.out; omega) (by have :=HN.out; omega) (by have :=HSBN.out; omega) HS.out.1 HS.out.2.1 HS.out.2.2.1 (by rw [HN.out]; exact HS.out.2.2.2)).mono ?_
      ·exact HP0.out
      rintro r wc ⟨rfl,hp,hm⟩
      go_wp2_with fail
      refine hK.out _ _ ((HSS.out _ (HK.out.trans hm))) (fun hH5 =>?_)
      clear hK K hH4
      try go_frame
      replace HK :=Hd (HK.out.trans hm)
      try replace HZ :=Hd (hm.at HZ.out (by have :=HZN.out; omega))
      have HP :=Hd hp
      clear hp hm HS HEB HDB HDB2 HP0
      refine tk 10 rfl hH5 ?_
      try go_frame
      refine tk 11 rfl hH5 ?_
      try go_frame
      refine tk 12 rfl hH5 ?_
      try go_frame
      refine rdy [14] (Z04 rfl (fun K hK =>?_) AllReadyH.nil)
      refine Z0d (by rfl) (.tmp 12) (.tmp 27) rfl _ X.2 vd0 (by rfl) (by rfl) HZ.out ?_
      intro wc hz hm
      refine hK.out _ _ ((HSS.out _ (HK.out.seq hm (fun i hi e =>by have :=HZN.out; have :=BS.out; omega)))) (fun hH6 =>?_)
      clear hK K hH5
      try go_frame
      replace HK :=Hd (HK.out.seq hm (fun i hi e =>by have :=HZN.out; have :=BS.out; omega))
      have HF :=Hd hz
      replace HP :=Hd (hm.at HP.out (by have :=HZN.out; omega))
      clear hz hm HZ
      refine tk 15 rfl hH6 ?_
      try go_frame
      refine wpAnyH_done (by kernel_rfl) ?_ _
      have hS :=Hd hH6
      clear hH6
      go_wp2_with fail
      go_meet
      case rel =>exact ⟨_,rfl,rfl,by have :=HZN.out; have :=BS.out; omega,HF.out,HP.out,HK.out⟩
    ·go_simp
     have hzn:n+1≤wc.heap.size :=by have :=HK.out.size; have :=BS.out; omega
     generalize hsz:wc.heap.size=z at *
     refine Z14 ?_
     intro wc hwd
     have hk :=Z0f hwd
     have hn :=Z0g hwd
     rw [hsz] at hn
     refine hK.out _ _ ((HSS.out _ (HK.out.keep hk))) (fun hH3 =>?_)
     clear hK K hH2
     try go_frame
     replace HK :=Hd (HK.out.keep hk)
     try replace HP0 :=Hd (hk.at HP0.out fun h =>h)
     try replace HEB :=Hd (hk.at HEB.out fun h =>h)
     try replace HDB :=Hd (hk.at HDB.out fun h =>h)
     try replace HDB2 :=Hd (hk.at HDB2.out fun h =>h)
     try replace HS :=Hd (Z5c HS.out hk (fun h =>h) (fun h =>h) (fun h =>h) (fun h =>h))
     try replace HP :=Hd (hk.at HP.out fun h =>h)
     have HZ :=Hd (show wc.heap[z]? = some (vdB vd0) from hn)
     have HZN :=Hd hzn
     clear hwd hk hn hsz hzn
     refine rdy [8] (Z04 rfl (fun K hK =>?_) AllReadyH.nil)
     go_simp
     have hsbn:n+1≤wc.heap.size :=by have :=HK.out.size; have :=BS.out; omega
     generalize hsz:wc.heap.size=sb at *
     refine Z14 ?_
     intro wc hwd
     have hk :=Z0f hwd
     have hn :=Z0g hwd
     rw [hsz] at hn
     refine hK.out _ _ ((HSS.out _ (HK.out.keep hk))) (fun hH4 =>?_)
     clear hK K hH3
     try go_frame
     replace HK :=Hd (HK.out.keep hk)
     try replace HP0 :=Hd (hk.at HP0.out fun h =>h)
     try replace HZ :=Hd (hk.at HZ.out fun h =>h)
     replace HEB :=Hd (hk.at HEB.out fun h =>h)
     replace HDB :=Hd (hk.at HDB.out fun h =>h)
     replace HDB2 :=Hd (hk.at HDB2.out fun h =>h)
     have HS :=Hd (Z2e hn)
     have HSBN :=Hd hsbn
     clear hwd hk hn hsz hsbn
     refine rdy [9] (Z04 rfl (fun K hK =>?_) AllReadyH.nil)
     go_simp
     refine (HAP.out (w.heap.size+1) eb db (db+1) (w.heap.size+1+1) n sb wc (HK.out.at BE.out (by have :=HN.out; omega)) HEB.out HDB.out HDB2.out (HK.out.at BC.out (by have :=HN.out; omega)) ?_ (by have :=HN.out; omega) (by have :=HEBN.out; omega) (by have :=HDBN.out; omega) (by have :=HDBN.out; omega) (by have :=HN.out; omega) (by have :=HSBN.out; omega) HS.out.1 HS.out.2.1 HS.out.2.2.1 (by rw [HN.out]; exact HS.out.2.2.2)).mono ?_
     ·exact HP0.out
     rintro r wc ⟨rfl,hp,hm⟩
     go_wp2_with fail
     refine hK.out _ _ ((HSS.out _ (HK.out.trans hm))) (fun hH5 =>?_)
     clear hK K hH4
     try go_frame
     replace HK :=Hd (HK.out.trans hm)
     try replace HZ :=Hd (hm.at HZ.out (by have :=HZN.out; omega))
     have HP :=Hd hp
     clear hp hm HS HEB HDB HDB2 HP0
     refine tk 10 rfl hH5 ?_
     try go_frame
     refine tk 11 rfl hH5 ?_
     try go_frame
     refine tk 12 rfl hH5 ?_
     try go_frame
     refine rdy [14] (Z04 rfl (fun K hK =>?_) AllReadyH.nil)
     refine Z0d (by rfl) (.tmp 12) (.tmp 27) rfl _ X.2 vd0 (by rfl) (by rfl) HZ.out ?_
     intro wc hz hm
     refine hK.out _ _ ((HSS.out _ (HK.out.seq hm (fun i hi e =>by have :=HZN.out; have :=BS.out; omega)))) (fun hH6 =>?_)
     clear hK K hH5
     try go_frame
     replace HK :=Hd (HK.out.seq hm (fun i hi e =>by have :=HZN.out; have :=BS.out; omega))
     have HF :=Hd hz
     replace HP :=Hd (hm.at HP.out (by have :=HZN.out; omega))
     clear hz hm HZ
     refine tk 15 rfl hH6 ?_
     try go_frame
     refine wpAnyH_done (by kernel_rfl) ?_ _
     have hS :=Hd hH6
     clear hH6
     go_wp2_with fail
     go_meet
     case rel =>exact ⟨_,rfl,rfl,by have :=HZN.out; have :=BS.out; omega,HF.out,HP.out,HK.out⟩
   ·go_simp
    have hzn:n+1≤wc.heap.size :=by have :=HK.out.size; have :=BS.out; omega
    generalize hsz:wc.heap.size=z at *
    refine Z14 ?_
    intro wc hwd
    have hk :=Z0f hwd
    have hn :=Z0g hwd
    rw [hsz] at hn
    refine hK.out _ _ ((HSS.out _ (HK.out.keep hk))) (fun hH2 =>?_)
    clear hK K hH1
    try go_frame
    replace HK :=Hd (HK.out.keep hk)
    try replace HP0 :=Hd (hk.at HP0.out fun h =>h)
    try replace HEB :=Hd (hk.at HEB.out fun h =>h)
    try replace HDB :=Hd (hk.at HDB.out fun h =>h)
    try replace HDB2 :=Hd (hk.at HDB2.out fun h =>h)
    try replace HS :=Hd (Z5c HS.out hk (fun h =>h) (fun h =>h) (fun h =>h) (fun h =>h))
    try replace HP :=Hd (hk.at HP.out fun h =>h)
    have HZ :=Hd (show wc.heap[z]? = some (vdB vd0) from hn)
    have HZN :=Hd hzn
    clear hwd hk hn hsz hzn
    refine rdy [6] (Z04 rfl (fun K hK =>?_) AllReadyH.nil)
    go_simp
    obtain ⟨db,hdb⟩:∃ m,m=wc.heap.size :=⟨_,rfl⟩
    have hdbn:n+1≤db :=by have :=HK.out.size; have :=BS.out; omega
    have HC :=Z4f ep s11 wc
    rw [← hdb] at HC
    clear hdb
    refine HC.mono ?_
    rintro r wc ⟨rfl,hb,hb2,hk⟩
    go_wp2_with fail
    refine hK.out _ _ ((HSS.out _ (HK.out.keep hk))) (fun hH3 =>?_)
    clear hK K hH2
    try go_frame
    replace HK :=Hd (HK.out.keep hk)
    try replace HP0 :=Hd (hk.at HP0.out fun h =>h)
    try replace HZ :=Hd (hk.at HZ.out fun h =>h)
    replace HEB :=Hd (hk.at HEB.out fun h =>h)
    have HDB :=Hd hb
    have HDB2 :=Hd hb2
    have HDBN :=Hd hdbn
    clear hb hb2 hk HC hdbn
    refine rdy [8] (Z04 rfl (fun K hK =>?_) AllReadyH.nil)
    go_simp
    have hsbn:n+1≤wc.heap.size :=by have :=HK.out.size; have :=BS.out; omega
    generalize hsz:wc.heap.size=sb at *
    refine Z14 ?_
    intro wc hwd
    have hk :=Z0f hwd
    have hn :=Z0g hwd
    rw [hsz] at hn
    refine hK.out _ _ ((HSS.out _ (HK.out.keep hk))) (fun hH4 =>?_)
    clear hK K hH3
    try go_frame
    replace HK :=Hd (HK.out.keep hk)
    try replace HP0 :=Hd (hk.at HP0.out fun h =>h)
    try replace HZ :=Hd (hk.at HZ.out fun h =>h)
    replace HEB :=Hd (hk.at HEB.out fun h =>h)
    replace HDB :=Hd (hk.at HDB.out fun h =>h)
    replace HDB2 :=Hd (hk.at HDB2.out fun h =>h)
    have HS :=Hd (Z2e hn)
    have HSBN :=Hd hsbn
    clear hwd hk hn hsz hsbn
    refine rdy [9] (Z04 rfl (fun K hK =>?_) AllReadyH.nil)
    go_simp
    refine (HAP.out (w.heap.size+1) eb db (db+1) (w.heap.size+1+1) n sb wc (HK.out.at BE.out (by have :=HN.out; omega)) HEB.out HDB.out HDB2.out (HK.out.at BC.out (by have :=HN.out; omega)) ?_ (by have :=HN.out; omega) (by have :=HEBN.out; omega) (by have :=HDBN.out; omega) (by have :=HDBN.out; omega) (by have :=HN.out; omega) (by have :=HSBN.out; omega) HS.out.1 HS.out.2.1 HS.out.2.2.1 (by rw [HN.out]; exact HS.out.2.2.2)).mono ?_
    ·exact HP0.out
    rintro r wc ⟨rfl,hp,hm⟩
    go_wp2_with fail
    refine hK.out _ _ ((HSS.out _ (HK.out.trans hm))) (fun hH5 =>?_)
    clear hK K hH4
    try go_frame
    replace HK :=Hd (HK.out.trans hm)
    try replace HZ :=Hd (hm.at HZ.out (by have :=HZN.out; omega))
    have HP :=Hd hp
    clear hp hm HS HEB HDB HDB2 HP0
    refine tk 10 rfl hH5 ?_
    try go_frame
    refine tk 11 rfl hH5 ?_
    try go_frame
    refine tk 12 rfl hH5 ?_
    try go_frame
    refine rdy [14] (Z04 rfl (fun K hK =>?_) AllReadyH.nil)
    refine Z0d (by rfl) (.tmp 12) (.tmp 27) rfl _ X.2 vd0 (by rfl) (by rfl) HZ.out ?_
    intro wc hz hm
    refine hK.out _ _ ((HSS.out _ (HK.out.seq hm (fun i hi e =>by have :=HZN.out; have :=BS.out; omega)))) (fun hH6 =>?_)
    clear hK K hH5
    try go_frame
    replace HK :=Hd (HK.out.seq hm (fun i hi e =>by have :=HZN.out; have :=BS.out; omega))
    have HF :=Hd hz
    replace HP :=Hd (hm.at HP.out (by have :=HZN.out; omega))
    clear hz hm HZ
    refine tk 15 rfl hH6 ?_
    try go_frame
    refine wpAnyH_done (by kernel_rfl) ?_ _
    have hS :=Hd hH6
    clear hH6
    go_wp2_with fail
    go_meet
    case rel =>exact ⟨_,rfl,rfl,by have :=HZN.out; have :=BS.out; omega,HF.out,HP.out,HK.out⟩
  ·go_simp
   have hzn:n+1≤wc.heap.size :=by have :=HK.out.size; have :=BS.out; omega
   generalize hsz:wc.heap.size=z at *
   refine Z14 ?_
   intro wc hwd
   have hk :=Z0f hwd
   have hn :=Z0g hwd
   rw [hsz] at hn
   refine hK.out _ _ ((HSS.out _ (HK.out.keep hk))) (fun hH1 =>?_)
   clear hK K hH0
   try go_frame
   replace HK :=Hd (HK.out.keep hk)
   try replace HP0 :=Hd (hk.at HP0.out fun h =>h)
   try replace HEB :=Hd (hk.at HEB.out fun h =>h)
   try replace HDB :=Hd (hk.at HDB.out fun h =>h)
   try replace HDB2 :=Hd (hk.at HDB2.out fun h =>h)
   try replace HS :=Hd (Z5c HS.out hk (fun h =>h) (fun h =>h) (fun h =>h) (fun h =>h))
   try replace HP :=Hd (hk.at HP.out fun h =>h)
   have HZ :=Hd (show wc.heap[z]? = some (vdB vd0) from hn)
   have HZN :=Hd hzn
   clear hwd hk hn hsz hzn
   refine rdy [2] (Z04 rfl (fun K hK =>?_) AllReadyH.nil)
   go_simp
   obtain ⟨eb,heb⟩:∃ m,m=wc.heap.size :=⟨_,rfl⟩
   have hebn:n+1≤eb :=by have :=HK.out.size; have :=BS.out; omega
   have HC :=Z3x 7 wc
   rw [← heb] at HC
   clear heb
   refine HC.mono ?_
   rintro r wc ⟨rfl,hb,hk⟩
   go_wp2_with fail
   refine hK.out _ _ ((HSS.out _ (HK.out.keep hk))) (fun hH2 =>?_)
   clear hK K hH1
   try go_frame
   replace HK :=Hd (HK.out.keep hk)
   try replace HP0 :=Hd (hk.at HP0.out fun h =>h)
   try replace HZ :=Hd (hk.at HZ.out fun h =>h)
   have HEB :=Hd hb
   have HEBN :=Hd hebn
   clear hb hk HC hebn
   refine rdy [6] (Z04 rfl (fun K hK =>?_) AllReadyH.nil)
   go_simp
   obtain ⟨db,hdb⟩:∃ m,m=wc.heap.size :=⟨_,rfl⟩
   have hdbn:n+1≤db :=by have :=HK.out.size; have :=BS.out; omega
   have HC :=Z4f ep s11 wc
   rw [← hdb] at HC
   clear hdb
   refine HC.mono ?_
   rintro r wc ⟨rfl,hb,hb2,hk⟩
   go_wp2_with fail
   refine hK.out _ _ ((HSS.out _ (HK.out.keep hk))) (fun hH3 =>?_)
   clear hK K hH2
   try go_frame
   replace HK :=Hd (HK.out.keep hk)
   try replace HP0 :=Hd (hk.at HP0.out fun h =>h)
   try replace HZ :=Hd (hk.at HZ.out fun h =>h)
   replace HEB :=Hd (hk.at HEB.out fun h =>h)
   have HDB :=Hd hb
   have HDB2 :=Hd hb2
   have HDBN :=Hd hdbn
   clear hb hb2 hk HC hdbn
   refine rdy [8] (Z04 rfl (fun K hK =>?_) AllReadyH.nil)
   go_simp
   have hsbn:n+1≤wc.heap.size :=by have :=HK.out.size; have :=BS.out; omega
   generalize hsz:wc.heap.size=sb at *
   refine Z14 ?_
   intro wc hwd
   have hk :=Z0f hwd
   have hn :=Z0g hwd
   rw [hsz] at hn
   refine hK.out _ _ ((HSS.out _ (HK.out.keep hk))) (fun hH4 =>?_)
   clear hK K hH3
   try go_frame
   replace HK :=Hd (HK.out.keep hk)
   try replace HP0 :=Hd (hk.at HP0.out fun h =>h)
   try replace HZ :=Hd (hk.at HZ.out fun h =>h)
   replace HEB :=Hd (hk.at HEB.out fun h =>h)
   replace HDB :=Hd (hk.at HDB.out fun h =>h)
   replace HDB2 :=Hd (hk.at HDB2.out fun h =>h)
   have HS :=Hd (Z2e hn)
   have HSBN :=Hd hsbn
   clear hwd hk hn hsz hsbn
   refine rdy [9] (Z04 rfl (fun K hK =>?_) AllReadyH.nil)
   go_simp
   refine (HAP.out (w.heap.size+1) eb db (db+1) (w.heap.size+1+1) n sb wc (HK.out.at BE.out (by have :=HN.out; omega)) HEB.out HDB.out HDB2.out (HK.out.at BC.out (by have :=HN.out; omega)) ?_ (by have :=HN.out; omega) (by have :=HEBN.out; omega) (by have :=HDBN.out; omega) (by have :=HDBN.out; omega) (by have :=HN.out; omega) (by have :=HSBN.out; omega) HS.out.1 HS.out.2.1 HS.out.2.2.1 (by rw [HN.out]; exact HS.out.2.2.2)).mono ?_
   ·exact HP0.out
   rintro r wc ⟨rfl,hp,hm⟩
   go_wp2_with fail
   refine hK.out _ _ ((HSS.out _ (HK.out.trans hm))) (fun hH5 =>?_)
   clear hK K hH4
   try go_frame
   replace HK :=Hd (HK.out.trans hm)
   try replace HZ :=Hd (hm.at HZ.out (by have :=HZN.out; omega))
   have HP :=Hd hp
   clear hp hm HS HEB HDB HDB2 HP0
   refine tk 10 rfl hH5 ?_
   try go_frame
   refine tk 11 rfl hH5 ?_
   try go_frame
   refine tk 12 rfl hH5 ?_
   try go_frame
   refine rdy [14] (Z04 rfl (fun K hK =>?_) AllReadyH.nil)
   refine Z0d (by rfl) (.tmp 12) (.tmp 27) rfl _ X.2 vd0 (by rfl) (by rfl) HZ.out ?_
   intro wc hz hm
   refine hK.out _ _ ((HSS.out _ (HK.out.seq hm (fun i hi e =>by have :=HZN.out; have :=BS.out; omega)))) (fun hH6 =>?_)
   clear hK K hH5
   try go_frame
   replace HK :=Hd (HK.out.seq hm (fun i hi e =>by have :=HZN.out; have :=BS.out; omega))
   have HF :=Hd hz
   replace HP :=Hd (hm.at HP.out (by have :=HZN.out; omega))
   clear hz hm HZ
   refine tk 15 rfl hH6 ?_
   try go_frame
   refine wpAnyH_done (by kernel_rfl) ?_ _
   have hS :=Hd hH6
   clear hH6
   go_wp2_with fail
   go_meet
   case rel =>exact ⟨_,rfl,rfl,by have :=HZN.out; have :=BS.out; omega,HF.out,HP.out,HK.out⟩
 case rest =>
  obtain ⟨z,rfl,rfl,hzn,hz,hp,hk⟩ :=hcut
  have hnn :=HN.out
  have hss :=BS.out
  have hzne:z≠w.heap.size+1+1+1 :=by omega
  have hnne:n≠w.heap.size+1+1+1 :=by omega
  have hp0:wc.cell? ⟨w.heap.size+1+1+1+1,0,none⟩=some (.int .u64 PB) :=by rw [← hnn]; simp [World.cell?,hp]
  have HZ :=Hd hz
  have HK :=Hd hk
  have BZ' :=Hd (hk.at BZ.out (by omega))
  clear hz hk hzn hnn hss hp
  go_wp2
  refine Z07 (S :=(fun w' =>w'.heap[z]? = some (vdB X.2)∧w'.cell? ⟨w.heap.size+1+1+1+1,0,none⟩=some (.int .u64 PB))) (by kernel_rfl) (by exact ⟨HZ.out,hp0⟩) (fun wc hD hH0 =>?_)
  refine tkb 0 rfl hH0 (Z13 (by rfl) (.tmp 12) rfl z rfl X.2 (fun _ h =>h.1)) ?_
  try go_frame
  refine tk 1 rfl hH0 ?_
  try go_frame
  refine tk 2 rfl hH0 ?_
  try go_frame
  refine rdy [3] (Z04 rfl (fun K hK =>?_) AllReadyH.nil)
  refine Z0d (by rfl) (.tmp 6) (.tmp 29) rfl (w.heap.size+1+1+1) X.2 vd0 (by rfl) (by rfl) (hD.mods (S :=fun _ =>False) |>.at BZ'.out fun h =>h) ?_
  intro wf hf hmf
  refine hK.out _ _ (⟨((hD.mods (S :=fun i =>i=w.heap.size+1+1+1)).trans hmf).at HZ.out hzne,((hD.mods (S :=fun i =>i=w.heap.size+1+1+1)).trans hmf).cell hp0 (show w.heap.size+1+1+1+1≠w.heap.size+1+1+1 from by omega)⟩) (fun hH1 =>?_)
  clear hK K hH0
  try go_frame
  refine tk 4 rfl hH1 ?_
  try go_frame
  refine tk 5 rfl hH1 ?_
  try go_frame
  refine wpAnyH_done (by kernel_rfl) ?_ _
  have hS :=Hd hH1
  clear hH1
  go_wp2
  obtain ⟨p0,p1,p2,p3,p4,p5,p6⟩ :=Z0o hf
  exact bodyPost_ret (v := .tuple #[X.2.val, .int .u64 PB, .int .i64 X.1]) (by simp [results,Tryz.results89,go_sem,p0,p1,p2,p3,p4,p5,p6]) rfl ⟨rfl,(KZ.out.seq HK.out fun i hi e =>by have :=HN.out; omega).seq (hD.mods.trans hmf) fun i hi e =>by omega⟩
def Z40 (c:Nat→Int) (E:En) (i:Int):Int :=
 if ¬ inR E.vs i then 7 else
 if (Z1y (E.b / c 13) c (vAt E.vs i)).1=9∨(Z1y (E.b / c 13) c (vAt E.vs i)).1=8 then (Z1y (E.b / c 13) c (vAt E.vs i)).1 else
 if (vAt E.vs i).st=2∧(c 1).toNat≤E.fo.length then 6 else (Z1y (E.b / c 13) c (vAt E.vs i)).1
def Z3h (c:Nat→Int) (E:En) (i:Int):Int × Int × Int :=if Z40 c E i=0 then (0,i, -1) else (Z40 c E i,0,0)
def Z3f (c:Nat→Int) (E:En) (i:Int):En :=
 let v :=(Z1y (E.b / c 13) c (vAt E.vs i)).2
 let E1:En := { E with vs :=E.vs.set i.toNat v,led :=E.led.burn (Z9q (E.b / c 13) c (vAt E.vs i)) }
 if (vAt E.vs i).st=2 then { E1 with fo :=E.fo ++ [i] } else if (vAt E.vs i).st=5 then { E1 with bk :=putB (c 12).toNat E.bk v.wd i } else E1
def Z1e (c:Nat→Int) (E:En) (i:Int):En :=if Z40 c E i=0 then Z3f c E i else E
theorem Z5u {v:Vd} (hv:v.ok) (ep:Int) (c:Nat→Int) (hw:v.wd≤1099511627776) (hn:0≤c 18) (hd:c 18≤c 19) (hd1:1≤c 19) (h:(Z1y ep c v).1=0) :
 (Z1y ep c v).2.ok∧(Z1y ep c v).2.bal=v.bal - Z9q ep c v∧0≤Z9q ep c v∧Z9q ep c v≤v.bal∧0≤(Z1y ep c v).2.wd∧(Z1y ep c v).2.wd≤1099511627776 :=by
 have hb:Z9q ep c v=pnl v.bal (c 18) (c 19) :=if_pos h
 obtain ⟨p0,p1⟩ :=Z8x hv.b0 hn hd hd1
 rw [hb]
 unfold Z1y at h ⊢
 simp only [seqN] at h ⊢
 by_cases h1:(Z2a ep v).1=0
 ·rw [if_neg (by simp [h1])] at h ⊢
  by_cases h2:(evC 7 (Z2a ep v).2).1=0
  ·rw [if_neg (by simp [h2])] at h ⊢
   by_cases h3:(Z1b ep (c 11) (evC 7 (Z2a ep v).2).2).1=0
   ·rw [if_neg (by simp [h3])] at h ⊢
    rw [if_neg (by simp [Z72])]
    have m1:(Z2a ep v).2.bal=v.bal∧(Z2a ep v).2.st=v.st∧(Z2a ep v).2.wd=v.wd :=by
     unfold Z2a
     split <;> exact ⟨rfl,rfl,rfl⟩
    have m2:(evC 7 (Z2a ep v).2).2.bal=v.bal∧(Lit.int .i64 (evC 7 (Z2a ep v).2).2.st).wf=true∧(evC 7 (Z2a ep v).2).2.wd=v.wd :=by
     unfold evC
     split
     ·exact ⟨m1.1,by rw [m1.2.1]; exact hv.st,m1.2.2⟩
     ·exact ⟨m1.1,Z4b (Z2a ep v).2.st 7,m1.2.2⟩
    have m3:(Z1b ep (c 11) (evC 7 (Z2a ep v).2).2).2.bal=v.bal∧(Lit.int .i64 (Z1b ep (c 11) (evC 7 (Z2a ep v).2).2).2.st).wf=true∧0≤(Z1b ep (c 11) (evC 7 (Z2a ep v).2).2).2.wd∧(Z1b ep (c 11) (evC 7 (Z2a ep v).2).2).2.wd≤1099511627776 :=by
     unfold Z1b at h3 ⊢
     cases hl:Z1z [ep,c 11] 0 with
     | none =>rw [hl] at h3; simp at h3
     | some x =>
      have :=Z7j _ _ _ (by omega) (by omega) hl
      refine ⟨m2.1,m2.2.1, ?_, ?_⟩
      ·dsimp only; omega
      ·dsimp only; have :=m2.2.2; omega
    simp only [Z72]
    have hb0 :=hv.b0
    have hb1 :=hv.b1
    exact ⟨⟨by rw [m3.1]; dsimp only; omega,by rw [m3.1]; dsimp only; omega,m3.2.1⟩,by rw [m3.1],p0,p1,m3.2.2.1,m3.2.2.2⟩
   ·rw [if_pos h3] at h
    exact absurd h h3
  ·rw [if_pos h2] at h
   exact absurd h h2
 ·rw [if_pos h1] at h
  exact absurd h h1
def evV (x:Int) (v:Vd):Vd := { v with st :=if Z0j v.st x=0 then v.st else Z0j v.st x }
theorem Zcj {l:List Vd} {i:Nat} (hi:i<l.length) (x:Int):evL l i x=l.set i (evV x (vAt l i)) :=Zmm hi x
theorem Z5v {l:List Vd} {i:Nat}:inR l (i:Int)↔i<l.length :=⟨fun h =>by have :=h.2; omega,fun h =>⟨by omega,by omega⟩⟩
theorem Z2t {l l':List Vd} (h:l'.length=l.length) (i:Int):inR l' i↔inR l i :=by unfold inR; rw [h]
theorem Z47 {l:List Vd} {i:Int} (h:inR l i):∃ k:Nat,i=k∧k<l.length :=by
 obtain ⟨k,rfl⟩ :=Int.eq_ofNat_of_zero_le h.1
 exact ⟨k,rfl,by have :=h.2; omega⟩
structure Core (mb ep lx:Int) (vs:List Vd) (q lv:List Int):Prop where
 qs:∀ i∈q,inR vs i∧(vAt vs i).st=3∧(vAt vs i).ex = -1
 qn:q.Nodup
 lvs:∀ i,i∈lv↔inR vs i∧(vAt vs i).st=3∧(vAt vs i).ex≠-1
 lve:∀ i∈lv,(vAt vs i).ex=lx
 lvn:lv.Nodup
 fr:∀ i,inR vs i→((vAt vs i).st=1∨(vAt vs i).st=2)→(vAt vs i).ex = -1∧mb≤(vAt vs i).bal
 rp:∀ i,inR vs i→(vAt vs i).st=5→(vAt vs i).wd≤ep
 wd:∀ i,inR vs i→(vAt vs i).wd≤1099511627776
section
variable {mb ep lx:Int} {vs:List Vd} {q lv:List Int}
theorem Core.set (h:Core mb ep lx vs q lv) {i:Nat} (hi:i<vs.length) {v:Vd} (h1:(i:Int)∈q→v.st=3∧v.ex = -1)
 (h2:v.st=3∧v.ex≠-1↔(vAt vs i).st=3∧(vAt vs i).ex≠-1) (h3:v.st=3→v.ex≠-1→v.ex=(vAt vs i).ex)
 (h4:(v.st=1∨v.st=2)→v.ex = -1∧mb≤v.bal) (h5:v.st=5→v.wd≤ep) (h6:v.wd≤1099511627776):Core mb ep lx (vs.set i v) q lv :=by
 have hr:∀ j,inR (vs.set i v) j↔inR vs j :=Z2t (by simp)
 have ha:∀ j,inR vs j→vAt (vs.set i v) j=if j=i then v else vAt vs j :=fun j hj =>Z46 hi j hj.1
 refine ⟨fun j hj =>?_,h.qn,fun j =>?_,fun j hj =>?_,h.lvn,fun j hj =>?_,fun j hj =>?_,fun j hj =>?_⟩
 ·obtain ⟨a,b⟩ :=h.qs j hj
  refine ⟨(hr j).2 a, ?_⟩
  rw [ha j a]
  split
  ·rename_i e; exact h1 (e ▸ hj)
  ·exact b
 ·rw [h.lvs j,hr j]
  by_cases hj:inR vs j
  ·rw [ha j hj]
   split
   ·rename_i e; rw [e]; simp only [← e,hj,true_and]; rw [e]; exact h2.symm
   ·exact Iff.rfl
  ·simp only [hj,false_and]
 ·obtain ⟨a,b,d⟩ :=(h.lvs j).1 hj
  rw [ha j a]
  split
  ·rename_i e
   subst e
   obtain ⟨u,u'⟩ :=h2.2 ⟨b,d⟩
   rw [h3 u u']
   exact h.lve _ hj
  ·exact h.lve j hj
 ·have hj' :=(hr j).1 hj
  rw [ha j hj']
  split
  ·exact h4
  ·exact h.fr j hj'
 ·have hj' :=(hr j).1 hj
  rw [ha j hj']
  split
  ·exact h5
  ·exact h.rp j hj'
 ·have hj' :=(hr j).1 hj
  rw [ha j hj']
  split
  ·exact h6
  ·exact h.wd j hj'
theorem Core.push (h:Core mb ep lx vs q lv) {i:Int} (hi:inR vs i) (h1:(vAt vs i).st=3) (h2:(vAt vs i).ex = -1) (hn:i ∉ q) {q':List Int} (hp:q'.Perm (i :: q)):Core mb ep lx vs q' lv :=by
 refine ⟨fun j hj =>?_,hp.nodup_iff.2 (List.nodup_cons.2 ⟨hn,h.qn⟩),h.lvs,h.lve,h.lvn,h.fr,h.rp,h.wd⟩
 rcases List.mem_cons.1 (hp.mem_iff.1 hj) with rfl | hj
 ·exact ⟨hi,h1,h2⟩
 ·exact h.qs j hj
theorem Zkd (s:Int):Z0j s 1=if s=1 then 2 else 0 :=by unfold Z0j; split <;> (try split) <;> omega
theorem Zkm (s:Int):Z0j s 2=if s=2 then 3 else 0 :=by unfold Z0j; split <;> (try split) <;> omega
theorem Zki (s:Int):Z0j s 3=if s=3 then 4 else 0 :=by unfold Z0j; split <;> (try split) <;> omega
theorem Zl6 (s:Int):Z0j s 4=if s=4 then 5 else 0 :=by unfold Z0j; split <;> (try split) <;> omega
theorem Zlp (s:Int):Z0j s 5=if s=5 then 6 else 0 :=by unfold Z0j; split <;> (try split) <;> omega
theorem Ze8 (x:Int) (v:Vd):(evV x v).bal=v.bal∧(evV x v).ex=v.ex∧(evV x v).wd=v.wd :=⟨rfl,rfl,rfl⟩
theorem Zpa (v:Vd):(evV 1 v).st=if v.st=1 then 2 else v.st :=by unfold evV; rw [Zkd]; split <;> simp_all
theorem Zpr (v:Vd):(evV 3 v).st=if v.st=3 then 4 else v.st :=by unfold evV; rw [Zki]; split <;> simp_all
theorem Zmi (v:Vd):(evV 4 v).st=if v.st=4 then 5 else v.st :=by unfold evV; rw [Zl6]; split <;> simp_all
theorem Core.act (h:Core mb ep lx vs q lv) {i:Nat} (hi:i<vs.length):Core mb ep lx (evL vs i 1) q lv :=by
 have hr :=Z5v.2 hi
 have e1 :=Zpa (vAt vs i)
 obtain ⟨k1,k2,k3⟩ :=Ze8 1 (vAt vs i)
 rw [Zcj hi]
 refine h.set hi (fun hq =>?_) ?_ (fun _ _ =>k2) (fun hs =>?_) (fun hs =>?_) ?_
 ·obtain ⟨-,a,b⟩ :=h.qs _ hq
  rw [k2,e1,if_neg (by omega)]
  exact ⟨a,b⟩
 ·rw [k2,e1]; split <;> omega
 ·rw [k1,k2]
  rw [e1] at hs
  refine h.fr _ hr ?_
  split at hs <;> omega
 ·rw [k3]
  rw [e1] at hs
  refine h.rp _ hr ?_
  split at hs <;> omega
 ·rw [k3]; exact h.wd _ hr
theorem Core.rip (h:Core mb ep lx vs q lv) {i:Nat} (hi:i<vs.length) (hw:(vAt vs i).wd≤ep):Core mb ep lx (evL vs i 4) q lv :=by
 have hr :=Z5v.2 hi
 have e1 :=Zmi (vAt vs i)
 obtain ⟨k1,k2,k3⟩ :=Ze8 4 (vAt vs i)
 rw [Zcj hi]
 refine h.set hi (fun hq =>?_) ?_ (fun _ _ =>k2) (fun hs =>?_) (fun hs =>?_) ?_
 ·obtain ⟨-,a,b⟩ :=h.qs _ hq
  rw [k2,e1,if_neg (by omega)]
  exact ⟨a,b⟩
 ·rw [k2,e1]; split <;> omega
 ·rw [k1,k2]
  rw [e1] at hs
  refine h.fr _ hr ?_
  split at hs <;> omega
 ·rw [k3]; exact hw
 ·rw [k3]; exact h.wd _ hr
theorem Core.leave {i:Int} {r:List Int} (h:Core mb ep lx vs q (i :: r)):Core mb ep lx (evL vs i.toNat 3) q r :=by
 obtain ⟨hin,h3,hx⟩ :=(h.lvs i).1 List.mem_cons_self
 obtain ⟨k,rfl,hk⟩ :=Z47 hin
 rw [Int.toNat_natCast,Zcj hk]
 have e1 :=Zpr (vAt vs k)
 rw [if_pos h3] at e1
 obtain ⟨k1,k2,k3⟩ :=Ze8 3 (vAt vs k)
 have hr:∀ j,inR (vs.set k (evV 3 (vAt vs k))) j↔inR vs j :=Z2t (by simp)
 have ha:∀ j,inR vs j→vAt (vs.set k (evV 3 (vAt vs k))) j=if j=k then evV 3 (vAt vs k) else vAt vs j :=fun j hj =>Z46 hk j hj.1
 have hnr :=(List.nodup_cons.1 h.lvn)
 refine ⟨fun j hj =>?_,h.qn,fun j =>?_,fun j hj =>?_,hnr.2,fun j hj =>?_,fun j hj =>?_,fun j hj =>?_⟩
 ·obtain ⟨a,b,d⟩ :=h.qs j hj
  refine ⟨(hr j).2 a, ?_⟩
  rw [ha j a,if_neg (fun e:j=(k:Int) =>hx (e ▸ d))]
  exact ⟨b,d⟩
 ·rw [hr j]
  constructor
  ·intro hj
   obtain ⟨a,b,d⟩ :=(h.lvs j).1 (List.mem_cons_of_mem _ hj)
   rw [ha j a,if_neg (fun e:j=(k:Int) =>hnr.1 (e ▸ hj))]
   exact ⟨a,b,d⟩
  ·rintro ⟨a,b,d⟩
   rw [ha j a] at b d
   by_cases e:j=k
   ·rw [if_pos e,e1] at b; omega
   ·rw [if_neg e] at b d
    rcases List.mem_cons.1 ((h.lvs j).2 ⟨a,b,d⟩) with e' | hj
    ·exact absurd e' e
    ·exact hj
 ·obtain ⟨a, -, -⟩ :=(h.lvs j).1 (List.mem_cons_of_mem _ hj)
  rw [ha j a,if_neg (fun e:j=(k:Int) =>hnr.1 (e ▸ hj))]
  exact h.lve j (List.mem_cons_of_mem _ hj)
 ·have hj' :=(hr j).1 hj
  rw [ha j hj']
  split
  ·intro hs; rw [e1] at hs; omega
  ·exact h.fr j hj'
 ·have hj' :=(hr j).1 hj
  rw [ha j hj']
  split
  ·intro hs; rw [e1] at hs; omega
  ·exact h.rp j hj'
 ·have hj' :=(hr j).1 hj
  rw [ha j hj']
  split
  ·exact h.wd k hin
  ·exact h.wd j hj'
theorem Core.leaves:∀ (r:List Int) {vs:List Vd},Core mb ep lx vs q r→Core mb ep lx (r.foldl (fun l i =>evL l i.toNat 3) vs) q [] :=by
 intro r
 induction r with
 | nil =>intro vs h; exact h
 | cons i r ih =>intro vs h; exact ih h.leave
theorem Core.lx' (h:Core mb ep lx vs q []) (x:Int):Core mb ep x vs q [] :=⟨h.qs,h.qn,h.lvs,(fun _ hi =>by cases hi),h.lvn,h.fr,h.rp,h.wd⟩
theorem Core.ep' (h:Core mb ep lx vs q lv) {x:Int} (hx:ep≤x):Core mb x lx vs q lv :=⟨h.qs,h.qn,h.lvs,h.lve,h.lvn,h.fr,fun i a b =>Int.le_trans (h.rp i a b) hx,h.wd⟩
theorem Core.acts:∀ (r:List Int) {vs:List Vd},Core mb ep lx vs q lv→(∀ i∈r,inR vs i)→Core mb ep lx (r.foldl (fun l i =>evL l i.toNat 1) vs) q lv :=by
 intro r
 induction r with
 | nil =>intro vs h _; exact h
 | cons i r ih =>
  intro vs h hr
  obtain ⟨k,rfl,hk⟩ :=Z47 (hr i List.mem_cons_self)
  exact ih (h.act hk) fun j hj =>(Z2t (Z8f _ _ _) j).2 (hr j (List.mem_cons_of_mem _ hj))
end
end Go.Proofs.YtecapfmmoejikaaGreat
