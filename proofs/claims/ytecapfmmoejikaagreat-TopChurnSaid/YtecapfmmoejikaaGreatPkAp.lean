/- A part of the proofs of the top laws: PenB PenC. -/
import Derived.Deep.RegionHeld3
import Derived.Test.YtecapfmmoejikaaGreatPkAn
import Derived.Test.YtecapfmmoejikaaGreatPkAq
set_option maxRecDepth 4000
set_option maxHeartbeats 8000000
namespace Go.Eg
open Go
def seq2 (f g:Vd→Int × Vd) (v:Vd):Int × Vd :=if (f v).1≠0 then ((f v).1,⟨0,0,false,0,0,0,0⟩) else if (g (f v).2).1≠0 then ((g (f v).2).1,⟨0,0,false,0,0,0,0⟩) else g (f v).2
end Go.Eg
namespace Go.Proofs.YtecapfmmoejikaaGreat
open Go.RowKit Go.Eg
theorem Z95 (v:Vd) (hv:v.ok) (ep:Int) (b1 be:Nat) (sb:Nat) (w:World) (h1:w.heap[b1]? = some (oneB ep)) (he:w.heap[be]? = some (oneB 2))
 (hs0:w.cell? ⟨sb,0,none⟩=some (.func (Fn.func 185) #[] #[.pointer (some ⟨b1,0,none⟩)])) (hs1:w.cell? ⟨sb,1,none⟩=some (.func (Fn.func 191) #[] #[.pointer (some ⟨be,0,none⟩)])) :
 Calls Tryz.prog 133 #[v.val, .slice (some ⟨sb,0,none⟩) 2 2] w fun r w' =>r = .returned (.tuple #[(seq2 (reqC ep) (evC 2) v).2.val, .int .i64 (seq2 (reqC ep) (evC 2) v).1])∧Z00 w w' :=by
 obtain ⟨X,hX⟩:∃ X,X=seq2 (reqC ep) (evC 2) v :=⟨_,rfl⟩
 rw [← hX]
 have HX :=Hd hX
 have HS0 :=Hd hs0
 have HS1 :=Hd hs1
 have HV :=Hd hv
 obtain ⟨A,hA⟩:∃ A,A=(reqC ep) v :=⟨_,rfl⟩
 obtain ⟨B,hB⟩:∃ B,B=(evC 2) A.2 :=⟨_,rfl⟩
 have hXA:X=if A.1≠0 then (A.1,vd0) else if B.1≠0 then (B.1,vd0) else B :=by rw [hX,seq2,hB,hA]
 have HXA :=Hd hXA
 have HA :=Hd hA
 have HB' :=Hd hB
 have hokA:A.1=0→A.2.ok :=fun h =>by
  rw [hA] at h ⊢
  unfold reqC at h ⊢
  split at h <;> exact ⟨HV.out.b0,HV.out.b1,HV.out.st⟩
 have HF0 :=Hd (fun (wr:World) (hk:Z00 w wr) (hb:wr.heap[w.heap.size]? = some (vdB v)) =>Zed w.heap.size b1 ep v wr hb (hk.at h1 fun h =>h))
 have HF1 :=Hd (fun (wr:World) (hk:Z00 w wr) (hz:A.1=0) (hb:wr.heap[w.heap.size]? = some (vdB A.2)) =>Z7a w.heap.size be 2 A.2 wr hb (hk.at he fun h =>h) (hokA hz) (by decide))
 clear hokA hX hs0 hs1 hv hA hB hXA h1 he
 rw [← HA.out] at HF0
 rw [← HB'.out] at HF1
 go_enter Tryz.func133,Tryz.ntmps133
 go_wp2
 go_loopw [11] (fun i wr =>Z00 w wr∧wr.heap[w.heap.size+1]? = some (vdB vd0)∧((i = .int .i64 0∧wr.heap[w.heap.size]? = some (vdB v))∨(i = .int .i64 1∧A.1=0∧wr.heap[w.heap.size]? = some (vdB A.2))∨(i = .int .i64 2∧A.1=0∧B.1=0∧wr.heap[w.heap.size]? = some (vdB B.2)))) (fun i _ =>2 - (intOf i).toNat)
 case atStart =>
  have h :=heap_alloc_last (w.alloc (vdB v)) (vdB vd0)
  rw [World.size_alloc] at h
  exact ⟨((Mods.refl _ w).alloc _).alloc _,h, .inl ⟨rfl,Z02 (heap_alloc_last w _) _⟩⟩
 case round =>
  obtain ⟨hk,hz,hi⟩ :=hrel
  have HK :=Hd hk
  have HZ :=Hd hz
  have hbl :=hk.size
  rcases hi with ⟨rfl,hb⟩ | ⟨rfl,hA0,hb⟩ | ⟨rfl,hA0,hB0,hb⟩
  ·have hcell :=hk.cell HS0.out fun h =>h
   have HCALL :=Hd (HF0.out wr hk hb)
   clear hk hz hb
   go_wp2_with fail
   refine HCALL.out.mono ?_
   rintro r w1 ⟨rfl,hb1,hm⟩
   have HB1 :=Hd hb1
   have HK1 :=Hd (HK.out.seq hm fun i hi e =>by omega)
   have hz1 :=hm.at HZ.out (by omega)
   have HZ1 :=Hd hz1
   by_cases hA0:A.1=0
   ·have E :=Hd hA0
    have hne:(A.1 != 0)=false :=by simp [hA0]
    clear hA0 hb1 hm hz1
    go_wp2
    go_roundw
    case rel =>exact ⟨HK1.out,HZ1.out, .inr (.inl ⟨by first | rfl | trivial,E.out,HB1.out⟩)⟩
    case measure =>simp [intOf]
   ·have E :=Hd (HXA.out.trans (if_pos hA0))
    have hne:(A.1 != 0)=true :=by simpa using hA0
    obtain ⟨r0,r1,r2,r3,r4,r5,r6⟩ :=Z0o hz1
    have rf0 :=Z06 hz1 0
    have rf1 :=Z06 hz1 1
    have rf2 :=Z06 hz1 2
    have rf3 :=Z06 hz1 3
    have rf4 :=Z06 hz1 4
    have rf5 :=Z06 hz1 5
    have rf6 :=Z06 hz1 6
    clear hA0 hb1 hm hz1
    go_wp2
    refine Z1g ?_
    intro W hW
    have hput :=Z33 HZ1.out vd0
    rw [show _=W from hW.symm] at hput
    have mW:Mods (fun i =>i=w.heap.size+1) w1 W :=by rw [hW]; (repeat' first | (with_reducible refine Mods.setCell ?_ _ _ (fun _ =>rfl)) | (with_reducible refine Mods.alloc ?_ _) | (with_reducible refine Mods.drewN ?_ _) | (with_reducible refine Mods.drew ?_) | (with_reducible exact Mods.refl _ _))
    obtain ⟨p0,p1,p2,p3,p4,p5,p6⟩ :=Z0o hput
    refine bodyPost_ret (v := .tuple #[vd0.val, .int .i64 A.1]) (by simp [results,Tryz.results133,go_sem,p0,p1,p2,p3,p4,p5,p6]) rfl ⟨by rw [E.out],HK1.out.seq mW fun i hi e =>by omega⟩
  ·have hcell :=hk.cell HS1.out fun h =>h
   have HCALL :=Hd (HF1.out wr hk hA0 hb)
   have HA0 :=Hd hA0
   clear hk hz hb hA0
   go_wp2_with fail
   refine HCALL.out.mono ?_
   rintro r w1 ⟨rfl,hb1,hm⟩
   have HB1 :=Hd hb1
   have HK1 :=Hd (HK.out.seq hm fun i hi e =>by omega)
   have hz1 :=hm.at HZ.out (by omega)
   have HZ1 :=Hd hz1
   by_cases hB0:B.1=0
   ·have E :=Hd hB0
    have hne:(B.1 != 0)=false :=by simp [hB0]
    clear hB0 hb1 hm hz1
    go_wp2
    go_roundw
    case rel =>exact ⟨HK1.out,HZ1.out, .inr (.inr ⟨by first | rfl | trivial,HA0.out,E.out,HB1.out⟩)⟩
    case measure =>simp [intOf]
   ·have E :=Hd (HXA.out.trans ((if_neg (by have :=HA0.out; simp [this])).trans (if_pos hB0)))
    have hne:(B.1 != 0)=true :=by simpa using hB0
    obtain ⟨r0,r1,r2,r3,r4,r5,r6⟩ :=Z0o hz1
    have rf0 :=Z06 hz1 0
    have rf1 :=Z06 hz1 1
    have rf2 :=Z06 hz1 2
    have rf3 :=Z06 hz1 3
    have rf4 :=Z06 hz1 4
    have rf5 :=Z06 hz1 5
    have rf6 :=Z06 hz1 6
    clear hB0 hb1 hm hz1
    go_wp2
    refine Z1g ?_
    intro W hW
    have hput :=Z33 HZ1.out vd0
    rw [show _=W from hW.symm] at hput
    have mW:Mods (fun i =>i=w.heap.size+1) w1 W :=by rw [hW]; (repeat' first | (with_reducible refine Mods.setCell ?_ _ _ (fun _ =>rfl)) | (with_reducible refine Mods.alloc ?_ _) | (with_reducible refine Mods.drewN ?_ _) | (with_reducible refine Mods.drew ?_) | (with_reducible exact Mods.refl _ _))
    obtain ⟨p0,p1,p2,p3,p4,p5,p6⟩ :=Z0o hput
    refine bodyPost_ret (v := .tuple #[vd0.val, .int .i64 B.1]) (by simp [results,Tryz.results133,go_sem,p0,p1,p2,p3,p4,p5,p6]) rfl ⟨by rw [E.out],HK1.out.seq mW fun i hi e =>by omega⟩
  ·have E :=Hd (HXA.out.trans ((if_neg (by simp [hA0])).trans (if_neg (by simp [hB0]))))
   have E2 :=Hd hB0
   obtain ⟨r0,r1,r2,r3,r4,r5,r6⟩ :=Z0o hz
   have rf0 :=Z06 hz 0
   have rf1 :=Z06 hz 1
   have rf2 :=Z06 hz 2
   have rf3 :=Z06 hz 3
   have rf4 :=Z06 hz 4
   have rf5 :=Z06 hz 5
   have rf6 :=Z06 hz 6
   obtain ⟨q0,q1,q2,q3,q4,q5,q6⟩ :=Z0o hb
   clear hA0 hB0 hb hz hk
   go_wp2
   refine Z1g ?_
   intro W hW
   have hput :=Z33 HZ.out B.2
   rw [show _=W from hW.symm] at hput
   have mW:Mods (fun i =>i=w.heap.size+1) wr W :=by rw [hW]; (repeat' first | (with_reducible refine Mods.setCell ?_ _ _ (fun _ =>rfl)) | (with_reducible refine Mods.alloc ?_ _) | (with_reducible refine Mods.drewN ?_ _) | (with_reducible refine Mods.drew ?_) | (with_reducible exact Mods.refl _ _))
   obtain ⟨p0,p1,p2,p3,p4,p5,p6⟩ :=Z0o hput
   refine bodyPost_ret (v := .tuple #[B.2.val, .int .i64 0]) (by simp [results,Tryz.results133,go_sem,p0,p1,p2,p3,p4,p5,p6]) rfl ⟨by rw [E.out,E2.out],HK.out.seq mW fun i hi e =>by omega⟩
theorem Zc9 (v:Vd) (hv:v.ok) (ep:Int) (b1 be:Nat) (sb:Nat) (w:World) (h1:w.heap[b1]? = some (oneB ep)) (he:w.heap[be]? = some (oneB 5))
 (hs0:w.cell? ⟨sb,0,none⟩=some (.func (Fn.func 191) #[] #[.pointer (some ⟨be,0,none⟩)])) (hs1:w.cell? ⟨sb,1,none⟩=some (.func (Fn.func 183) #[] #[.pointer (some ⟨b1,0,none⟩)])) :
 Calls Tryz.prog 133 #[v.val, .slice (some ⟨sb,0,none⟩) 2 2] w fun r w' =>r = .returned (.tuple #[(seq2 (evC 5) (dueC ep) v).2.val, .int .i64 (seq2 (evC 5) (dueC ep) v).1])∧Z00 w w' :=by
 obtain ⟨X,hX⟩:∃ X,X=seq2 (evC 5) (dueC ep) v :=⟨_,rfl⟩
 rw [← hX]
 have HX :=Hd hX
 have HS0 :=Hd hs0
 have HS1 :=Hd hs1
 have HV :=Hd hv
 obtain ⟨A,hA⟩:∃ A,A=(evC 5) v :=⟨_,rfl⟩
 obtain ⟨B,hB⟩:∃ B,B=(dueC ep) A.2 :=⟨_,rfl⟩
 have hXA:X=if A.1≠0 then (A.1,vd0) else if B.1≠0 then (B.1,vd0) else B :=by rw [hX,seq2,hB,hA]
 have HXA :=Hd hXA
 have HA :=Hd hA
 have HB' :=Hd hB
 have HF0 :=Hd (fun (wr:World) (hk:Z00 w wr) (hb:wr.heap[w.heap.size]? = some (vdB v)) =>Z7a w.heap.size be 5 v wr hb (hk.at he fun h =>h) HV.out (by decide))
 have HF1 :=Hd (fun (wr:World) (hk:Z00 w wr) (hz:A.1=0) (hb:wr.heap[w.heap.size]? = some (vdB A.2)) =>Zk9 w.heap.size b1 ep A.2 wr hb (hk.at h1 fun h =>h))
 clear hX hs0 hs1 hv hA hB hXA h1 he
 rw [← HA.out] at HF0
 rw [← HB'.out] at HF1
 go_enter Tryz.func133,Tryz.ntmps133
 go_wp2
 go_loopw [11] (fun i wr =>Z00 w wr∧wr.heap[w.heap.size+1]? = some (vdB vd0)∧((i = .int .i64 0∧wr.heap[w.heap.size]? = some (vdB v))∨(i = .int .i64 1∧A.1=0∧wr.heap[w.heap.size]? = some (vdB A.2))∨(i = .int .i64 2∧A.1=0∧B.1=0∧wr.heap[w.heap.size]? = some (vdB B.2)))) (fun i _ =>2 - (intOf i).toNat)
 case atStart =>
  have h :=heap_alloc_last (w.alloc (vdB v)) (vdB vd0)
  rw [World.size_alloc] at h
  exact ⟨((Mods.refl _ w).alloc _).alloc _,h, .inl ⟨rfl,Z02 (heap_alloc_last w _) _⟩⟩
 case round =>
  obtain ⟨hk,hz,hi⟩ :=hrel
  have HK :=Hd hk
  have HZ :=Hd hz
  have hbl :=hk.size
  rcases hi with ⟨rfl,hb⟩ | ⟨rfl,hA0,hb⟩ | ⟨rfl,hA0,hB0,hb⟩
  ·have hcell :=hk.cell HS0.out fun h =>h
   have HCALL :=Hd (HF0.out wr hk hb)
   clear hk hz hb
   go_wp2_with fail
   refine HCALL.out.mono ?_
   rintro r w1 ⟨rfl,hb1,hm⟩
   have HB1 :=Hd hb1
   have HK1 :=Hd (HK.out.seq hm fun i hi e =>by omega)
   have hz1 :=hm.at HZ.out (by omega)
   have HZ1 :=Hd hz1
   by_cases hA0:A.1=0
   ·have E :=Hd hA0
    have hne:(A.1 != 0)=false :=by simp [hA0]
    clear hA0 hb1 hm hz1
    go_wp2
    go_roundw
    case rel =>exact ⟨HK1.out,HZ1.out, .inr (.inl ⟨by first | rfl | trivial,E.out,HB1.out⟩)⟩
    case measure =>simp [intOf]
   ·have E :=Hd (HXA.out.trans (if_pos hA0))
    have hne:(A.1 != 0)=true :=by simpa using hA0
    obtain ⟨r0,r1,r2,r3,r4,r5,r6⟩ :=Z0o hz1
    have rf0 :=Z06 hz1 0
    have rf1 :=Z06 hz1 1
    have rf2 :=Z06 hz1 2
    have rf3 :=Z06 hz1 3
    have rf4 :=Z06 hz1 4
    have rf5 :=Z06 hz1 5
    have rf6 :=Z06 hz1 6
    clear hA0 hb1 hm hz1
    go_wp2
    refine Z1g ?_
    intro W hW
    have hput :=Z33 HZ1.out vd0
    rw [show _=W from hW.symm] at hput
    have mW:Mods (fun i =>i=w.heap.size+1) w1 W :=by rw [hW]; (repeat' first | (with_reducible refine Mods.setCell ?_ _ _ (fun _ =>rfl)) | (with_reducible refine Mods.alloc ?_ _) | (with_reducible refine Mods.drewN ?_ _) | (with_reducible refine Mods.drew ?_) | (with_reducible exact Mods.refl _ _))
    obtain ⟨p0,p1,p2,p3,p4,p5,p6⟩ :=Z0o hput
    refine bodyPost_ret (v := .tuple #[vd0.val, .int .i64 A.1]) (by simp [results,Tryz.results133,go_sem,p0,p1,p2,p3,p4,p5,p6]) rfl ⟨by rw [E.out],HK1.out.seq mW fun i hi e =>by omega⟩
  ·have hcell :=hk.cell HS1.out fun h =>h
   have HCALL :=Hd (HF1.out wr hk hA0 hb)
   have HA0 :=Hd hA0
   clear hk hz hb hA0
   go_wp2_with fail
   refine HCALL.out.mono ?_
   rintro r w1 ⟨rfl,hb1,hm⟩
   have HB1 :=Hd hb1
   have HK1 :=Hd (HK.out.seq hm fun i hi e =>by omega)
   have hz1 :=hm.at HZ.out (by omega)
   have HZ1 :=Hd hz1
   by_cases hB0:B.1=0
   ·have E :=Hd hB0
    have hne:(B.1 != 0)=false :=by simp [hB0]
    clear hB0 hb1 hm hz1
    go_wp2
    go_roundw
    case rel =>exact ⟨HK1.out,HZ1.out, .inr (.inr ⟨by first | rfl | trivial,HA0.out,E.out,HB1.out⟩)⟩
    case measure =>simp [intOf]
   ·have E :=Hd (HXA.out.trans ((if_neg (by have :=HA0.out; simp [this])).trans (if_pos hB0)))
    have hne:(B.1 != 0)=true :=by simpa using hB0
    obtain ⟨r0,r1,r2,r3,r4,r5,r6⟩ :=Z0o hz1
    have rf0 :=Z06 hz1 0
    have rf1 :=Z06 hz1 1
    have rf2 :=Z06 hz1 2
    have rf3 :=Z06 hz1 3
    have rf4 :=Z06 hz1 4
    have rf5 :=Z06 hz1 5
    have rf6 :=Z06 hz1 6
    clear hB0 hb1 hm hz1
    go_wp2
    refine Z1g ?_
    intro W hW
    have hput :=Z33 HZ1.out vd0
    rw [show _=W from hW.symm] at hput
    have mW:Mods (fun i =>i=w.heap.size+1) w1 W :=by rw [hW]; (repeat' first | (with_reducible refine Mods.setCell ?_ _ _ (fun _ =>rfl)) | (with_reducible refine Mods.alloc ?_ _) | (with_reducible refine Mods.drewN ?_ _) | (with_reducible refine Mods.drew ?_) | (with_reducible exact Mods.refl _ _))
    obtain ⟨p0,p1,p2,p3,p4,p5,p6⟩ :=Z0o hput
    refine bodyPost_ret (v := .tuple #[vd0.val, .int .i64 B.1]) (by simp [results,Tryz.results133,go_sem,p0,p1,p2,p3,p4,p5,p6]) rfl ⟨by rw [E.out],HK1.out.seq mW fun i hi e =>by omega⟩
  ·have E :=Hd (HXA.out.trans ((if_neg (by simp [hA0])).trans (if_neg (by simp [hB0]))))
   have E2 :=Hd hB0
   obtain ⟨r0,r1,r2,r3,r4,r5,r6⟩ :=Z0o hz
   have rf0 :=Z06 hz 0
   have rf1 :=Z06 hz 1
   have rf2 :=Z06 hz 2
   have rf3 :=Z06 hz 3
   have rf4 :=Z06 hz 4
   have rf5 :=Z06 hz 5
   have rf6 :=Z06 hz 6
   obtain ⟨q0,q1,q2,q3,q4,q5,q6⟩ :=Z0o hb
   clear hA0 hB0 hb hz hk
   go_wp2
   refine Z1g ?_
   intro W hW
   have hput :=Z33 HZ.out B.2
   rw [show _=W from hW.symm] at hput
   have mW:Mods (fun i =>i=w.heap.size+1) wr W :=by rw [hW]; (repeat' first | (with_reducible refine Mods.setCell ?_ _ _ (fun _ =>rfl)) | (with_reducible refine Mods.alloc ?_ _) | (with_reducible refine Mods.drewN ?_ _) | (with_reducible refine Mods.drew ?_) | (with_reducible exact Mods.refl _ _))
   obtain ⟨p0,p1,p2,p3,p4,p5,p6⟩ :=Z0o hput
   refine bodyPost_ret (v := .tuple #[B.2.val, .int .i64 0]) (by simp [results,Tryz.results133,go_sem,p0,p1,p2,p3,p4,p5,p6]) rfl ⟨by rw [E.out,E2.out],HK.out.seq mW fun i hi e =>by omega⟩
theorem Z8c (v:Vd) (hv:v.ok) (ex un:Int) (b1 c1 c2:Nat) (sb:Nat) (w:World) (h1:w.heap[b1]? = some (oneB ex)) (k1:w.heap[c1]? = some (oneB ex)) (k2:w.heap[c2]? = some (oneB un))
 (hs0:w.cell? ⟨sb,0,none⟩=some (.func (Fn.func 208) #[] #[.pointer (some ⟨b1,0,none⟩)])) (hs1:w.cell? ⟨sb,1,none⟩=some (.func (Fn.func 192) #[] #[.pointer (some ⟨c1,0,none⟩), .pointer (some ⟨c2,0,none⟩)])) :
 Calls Tryz.prog 133 #[v.val, .slice (some ⟨sb,0,none⟩) 2 2] w fun r w' =>r = .returned (.tuple #[(seq2 (Z4d ex) (Z1b ex un) v).2.val, .int .i64 (seq2 (Z4d ex) (Z1b ex un) v).1])∧Z00 w w' :=by
 obtain ⟨X,hX⟩:∃ X,X=seq2 (Z4d ex) (Z1b ex un) v :=⟨_,rfl⟩
 rw [← hX]
 have HX :=Hd hX
 have HS0 :=Hd hs0
 have HS1 :=Hd hs1
 have HV :=Hd hv
 obtain ⟨A,hA⟩:∃ A,A=(Z4d ex) v :=⟨_,rfl⟩
 obtain ⟨B,hB⟩:∃ B,B=(Z1b ex un) A.2 :=⟨_,rfl⟩
 have hXA:X=if A.1≠0 then (A.1,vd0) else if B.1≠0 then (B.1,vd0) else B :=by rw [hX,seq2,hB,hA]
 have HXA :=Hd hXA
 have HA :=Hd hA
 have HB' :=Hd hB
 have HF0 :=Hd (fun (wr:World) (hk:Z00 w wr) (hb:wr.heap[w.heap.size]? = some (vdB v)) =>Zek w.heap.size b1 ex v wr hb (hk.at h1 fun h =>h))
 have HF1 :=Hd (fun (wr:World) (hk:Z00 w wr) (hz:A.1=0) (hb:wr.heap[w.heap.size]? = some (vdB A.2)) =>Zaf w.heap.size c1 c2 ex un A.2 wr hb (hk.at k1 fun h =>h) (hk.at k2 fun h =>h))
 clear hX hs0 hs1 hv hA hB hXA h1 k1 k2
 rw [← HA.out] at HF0
 rw [← HB'.out] at HF1
 go_enter Tryz.func133,Tryz.ntmps133
 go_wp2
 go_loopw [11] (fun i wr =>Z00 w wr∧wr.heap[w.heap.size+1]? = some (vdB vd0)∧((i = .int .i64 0∧wr.heap[w.heap.size]? = some (vdB v))∨(i = .int .i64 1∧A.1=0∧wr.heap[w.heap.size]? = some (vdB A.2))∨(i = .int .i64 2∧A.1=0∧B.1=0∧wr.heap[w.heap.size]? = some (vdB B.2)))) (fun i _ =>2 - (intOf i).toNat)
 case atStart =>
  have h :=heap_alloc_last (w.alloc (vdB v)) (vdB vd0)
  rw [World.size_alloc] at h
  exact ⟨((Mods.refl _ w).alloc _).alloc _,h, .inl ⟨rfl,Z02 (heap_alloc_last w _) _⟩⟩
 case round =>
  obtain ⟨hk,hz,hi⟩ :=hrel
  have HK :=Hd hk
  have HZ :=Hd hz
  have hbl :=hk.size
  rcases hi with ⟨rfl,hb⟩ | ⟨rfl,hA0,hb⟩ | ⟨rfl,hA0,hB0,hb⟩
  ·have hcell :=hk.cell HS0.out fun h =>h
   have HCALL :=Hd (HF0.out wr hk hb)
   clear hk hz hb
   go_wp2_with fail
   refine HCALL.out.mono ?_
   rintro r w1 ⟨rfl,hb1,hm⟩
   have HB1 :=Hd hb1
   have HK1 :=Hd (HK.out.seq hm fun i hi e =>by omega)
   have hz1 :=hm.at HZ.out (by omega)
   have HZ1 :=Hd hz1
   by_cases hA0:A.1=0
   ·have E :=Hd hA0
    have hne:(A.1 != 0)=false :=by simp [hA0]
    clear hA0 hb1 hm hz1
    go_wp2
    go_roundw
    case rel =>exact ⟨HK1.out,HZ1.out, .inr (.inl ⟨by first | rfl | trivial,E.out,HB1.out⟩)⟩
    case measure =>simp [intOf]
   ·have E :=Hd (HXA.out.trans (if_pos hA0))
    have hne:(A.1 != 0)=true :=by simpa using hA0
    obtain ⟨r0,r1,r2,r3,r4,r5,r6⟩ :=Z0o hz1
    have rf0 :=Z06 hz1 0
    have rf1 :=Z06 hz1 1
    have rf2 :=Z06 hz1 2
    have rf3 :=Z06 hz1 3
    have rf4 :=Z06 hz1 4
    have rf5 :=Z06 hz1 5
    have rf6 :=Z06 hz1 6
    clear hA0 hb1 hm hz1
    go_wp2
    refine Z1g ?_
    intro W hW
    have hput :=Z33 HZ1.out vd0
    rw [show _=W from hW.symm] at hput
    have mW:Mods (fun i =>i=w.heap.size+1) w1 W :=by rw [hW]; (repeat' first | (with_reducible refine Mods.setCell ?_ _ _ (fun _ =>rfl)) | (with_reducible refine Mods.alloc ?_ _) | (with_reducible refine Mods.drewN ?_ _) | (with_reducible refine Mods.drew ?_) | (with_reducible exact Mods.refl _ _))
    obtain ⟨p0,p1,p2,p3,p4,p5,p6⟩ :=Z0o hput
    refine bodyPost_ret (v := .tuple #[vd0.val, .int .i64 A.1]) (by simp [results,Tryz.results133,go_sem,p0,p1,p2,p3,p4,p5,p6]) rfl ⟨by rw [E.out],HK1.out.seq mW fun i hi e =>by omega⟩
  ·have hcell :=hk.cell HS1.out fun h =>h
   have HCALL :=Hd (HF1.out wr hk hA0 hb)
   have HA0 :=Hd hA0
   clear hk hz hb hA0
   go_wp2_with fail
   refine HCALL.out.mono ?_
   rintro r w1 ⟨rfl,hb1,hm⟩
   have HB1 :=Hd hb1
   have HK1 :=Hd (HK.out.seq hm fun i hi e =>by omega)
   have hz1 :=hm.at HZ.out (by omega)
   have HZ1 :=Hd hz1
   by_cases hB0:B.1=0
   ·have E :=Hd hB0
    have hne:(B.1 != 0)=false :=by simp [hB0]
    clear hB0 hb1 hm hz1
    go_wp2
    go_roundw
    case rel =>exact ⟨HK1.out,HZ1.out, .inr (.inr ⟨by first | rfl | trivial,HA0.out,E.out,HB1.out⟩)⟩
    case measure =>simp [intOf]
   ·have E :=Hd (HXA.out.trans ((if_neg (by have :=HA0.out; simp [this])).trans (if_pos hB0)))
    have hne:(B.1 != 0)=true :=by simpa using hB0
    obtain ⟨r0,r1,r2,r3,r4,r5,r6⟩ :=Z0o hz1
    have rf0 :=Z06 hz1 0
    have rf1 :=Z06 hz1 1
    have rf2 :=Z06 hz1 2
    have rf3 :=Z06 hz1 3
    have rf4 :=Z06 hz1 4
    have rf5 :=Z06 hz1 5
    have rf6 :=Z06 hz1 6
    clear hB0 hb1 hm hz1
    go_wp2
    refine Z1g ?_
    intro W hW
    have hput :=Z33 HZ1.out vd0
    rw [show _=W from hW.symm] at hput
    have mW:Mods (fun i =>i=w.heap.size+1) w1 W :=by rw [hW]; (repeat' first | (with_reducible refine Mods.setCell ?_ _ _ (fun _ =>rfl)) | (with_reducible refine Mods.alloc ?_ _) | (with_reducible refine Mods.drewN ?_ _) | (with_reducible refine Mods.drew ?_) | (with_reducible exact Mods.refl _ _))
    obtain ⟨p0,p1,p2,p3,p4,p5,p6⟩ :=Z0o hput
    refine bodyPost_ret (v := .tuple #[vd0.val, .int .i64 B.1]) (by simp [results,Tryz.results133,go_sem,p0,p1,p2,p3,p4,p5,p6]) rfl ⟨by rw [E.out],HK1.out.seq mW fun i hi e =>by omega⟩
  ·have E :=Hd (HXA.out.trans ((if_neg (by simp [hA0])).trans (if_neg (by simp [hB0]))))
   have E2 :=Hd hB0
   obtain ⟨r0,r1,r2,r3,r4,r5,r6⟩ :=Z0o hz
   have rf0 :=Z06 hz 0
   have rf1 :=Z06 hz 1
   have rf2 :=Z06 hz 2
   have rf3 :=Z06 hz 3
   have rf4 :=Z06 hz 4
   have rf5 :=Z06 hz 5
   have rf6 :=Z06 hz 6
   obtain ⟨q0,q1,q2,q3,q4,q5,q6⟩ :=Z0o hb
   clear hA0 hB0 hb hz hk
   go_wp2
   refine Z1g ?_
   intro W hW
   have hput :=Z33 HZ.out B.2
   rw [show _=W from hW.symm] at hput
   have mW:Mods (fun i =>i=w.heap.size+1) wr W :=by rw [hW]; (repeat' first | (with_reducible refine Mods.setCell ?_ _ _ (fun _ =>rfl)) | (with_reducible refine Mods.alloc ?_ _) | (with_reducible refine Mods.drewN ?_ _) | (with_reducible refine Mods.drew ?_) | (with_reducible exact Mods.refl _ _))
   obtain ⟨p0,p1,p2,p3,p4,p5,p6⟩ :=Z0o hput
   refine bodyPost_ret (v := .tuple #[B.2.val, .int .i64 0]) (by simp [results,Tryz.results133,go_sem,p0,p1,p2,p3,p4,p5,p6]) rfl ⟨by rw [E.out,E2.out],HK.out.seq mW fun i hi e =>by omega⟩
theorem Z3x (e:Int) (w:World):Calls Tryz.prog 134 #[.int .i64 e] w fun r w' =>r = .returned (.func (Fn.func 191) #[] #[.pointer (some ⟨w.heap.size,0,none⟩)])∧w'.heap[w.heap.size]? = some (oneB e)∧Z00 w w' :=by
 go_enter Tryz.func134,Tryz.ntmps134
 go_wp2
 go_ret
 exact ⟨rfl,heap_alloc_last w _,(Mods.refl _ w).alloc _⟩
theorem Z4f (e d:Int) (w:World):Calls Tryz.prog 135 #[.int .i64 e, .int .i64 d] w fun r w' =>r = .returned (.func (Fn.func 192) #[] #[.pointer (some ⟨w.heap.size,0,none⟩), .pointer (some ⟨w.heap.size+1,0,none⟩)])∧w'.heap[w.heap.size]? = some (oneB e)∧w'.heap[w.heap.size+1]? = some (oneB d)∧Z00 w w' :=by
 go_enter Tryz.func135,Tryz.ntmps135
 go_wp2
 go_ret
 have h :=heap_alloc_last (w.alloc (oneB e)) (oneB d)
 rw [World.size_alloc] at h
 exact ⟨rfl,Z02 (heap_alloc_last w _) _,h,((Mods.refl _ w).alloc _).alloc _⟩
theorem Zpg {w0 w':World} {b:Nat} {v:Vd} (h:w0.heap[b]? = some (vdB v)) (hk:Z00 w0 w'):w'.cell? ⟨b,0,none⟩=some (.int .u64 v.bal)∧w'.cell? ⟨b,1,none⟩=some (.int .i64 v.st)∧w'.cell? ⟨b,2,none⟩=some (.bool v.sl)∧w'.cell? ⟨b,3,none⟩=some (.int .i64 v.rq)∧w'.cell? ⟨b,4,none⟩=some (.int .i64 v.ex)∧w'.cell? ⟨b,5,none⟩=some (.int .i64 v.wd)∧w'.cell? ⟨b,6,none⟩=some (.int .i64 v.dl) :=Z0o (hk.at h fun h =>h)
theorem Zo6 {w0 w':World} {b n:Nat} {v:Vd} (h:w0.heap[b]? = some (vdB v)) (hk:Mods (fun i =>i=n) w0 w') (hn:b≠n):w'.cell? ⟨b,0,none⟩=some (.int .u64 v.bal)∧w'.cell? ⟨b,1,none⟩=some (.int .i64 v.st)∧w'.cell? ⟨b,2,none⟩=some (.bool v.sl)∧w'.cell? ⟨b,3,none⟩=some (.int .i64 v.rq)∧w'.cell? ⟨b,4,none⟩=some (.int .i64 v.ex)∧w'.cell? ⟨b,5,none⟩=some (.int .i64 v.wd)∧w'.cell? ⟨b,6,none⟩=some (.int .i64 v.dl) :=Z0o (hk.at h hn)
theorem Zg1 {wz w1:World} {e0 z:Nat} {t:TypeId} (v:Vd) (hv:v.ok) {ep:Int} (BE:wz.heap[e0]? = some (oneB ep)) (BZ:wz.heap[z]? = some (vdB vd0)) (hb1:w1.heap[wz.drew.heap.size]? = some (oneB 2)) (hk1:Z00 wz.drew w1) :
 Calls Tryz.prog 133 #[v.val, .slice (some ⟨w1.heap.size,0,none⟩) 2 2] (w1.alloc (.cells #[.func (Fn.func 185) #[] #[.pointer (some ⟨e0,0,none⟩)], .func (Fn.func 191) #[] #[.pointer (some ⟨wz.drew.heap.size,0,none⟩)]] t)) fun r w' =>r = .returned (.tuple #[(seq2 (reqC ep) (evC 2) v).2.val, .int .i64 (seq2 (reqC ep) (evC 2) v).1])∧w'.heap[z]? = some (vdB vd0)∧Z00 wz w' :=by
 refine (Z95 v hv ep e0 wz.drew.heap.size w1.heap.size _ (Z02 (hk1.at (show wz.drew.heap[e0]? = _ from BE) fun h =>h) _) (Z02 hb1 _) (Z3v _ _ _ _).1 (Z3v _ _ _ _).2).mono ?_
 rintro r w' ⟨rfl,hk⟩
 have hkz:Z00 wz w' :=(((Mods.refl _ wz).drew.keep hk1).alloc _).keep hk
 exact ⟨rfl,hkz.at BZ (fun h =>h),hkz⟩
theorem Zew {w:World} {b:Nat} {v:Vd} (h:w.heap[b]? = some (vdB v)):w.frozen? ⟨b,0,none⟩=false∧w.frozen? ⟨b,1,none⟩=false∧w.frozen? ⟨b,2,none⟩=false∧w.frozen? ⟨b,3,none⟩=false∧w.frozen? ⟨b,4,none⟩=false∧w.frozen? ⟨b,5,none⟩=false∧w.frozen? ⟨b,6,none⟩=false :=⟨Z06 h 0,Z06 h 1,Z06 h 2,Z06 h 3,Z06 h 4,Z06 h 5,Z06 h 6⟩
def Z2n (ep:Int) (v:Vd):Int × Vd :=seq2 (reqC ep) (evC 2) v
theorem Zbv (v:Vd) (hv:v.ok) (ep:Int) (w:World):Calls Tryz.prog 126 #[v.val, .int .i64 ep] w fun r w' =>r = .returned (.tuple #[(Z2n ep v).2.val, .int .i64 (Z2n ep v).1])∧Z00 w w' :=by
 obtain ⟨X,hX⟩:∃ X,X=Z2n ep v :=⟨_,rfl⟩
 rw [← hX]
 have HX :=Hd hX
 have HV :=Hd hv
 clear hX hv
 obtain ⟨bal,st,sl,rq,ex,wd,dl⟩ :=v
 go_enter Tryz.func126,Tryz.ntmps126
 go_wp2
 refine Z0l ?_
 intro wz hwz
 have kz:Z00 w wz :=by rw [hwz]; (repeat' first | (with_reducible refine Mods.setCell ?_ _ _ (fun _ =>rfl)) | (with_reducible refine Mods.alloc ?_ _) | (with_reducible refine Mods.drewN ?_ _) | (with_reducible refine Mods.drew ?_) | (with_reducible exact Mods.refl _ _))
 have bv:wz.heap[w.heap.size]? = some (vdB ⟨bal,st,sl,rq,ex,wd,dl⟩) :=by rw [hwz]; exact Z02 (Z02 (heap_alloc_last w _) _) _
 have be:wz.heap[w.heap.size+1]? = some (oneB ep) :=by
  rw [hwz]
  have h :=heap_alloc_last (w.alloc (vdB ⟨bal,st,sl,rq,ex,wd,dl⟩)) (oneB ep)
  rw [World.size_alloc] at h
  exact Z02 h _
 have bz:wz.heap[w.heap.size+2]? = some (vdB vd0) :=by
  rw [hwz]
  have h :=heap_alloc_last ((w.alloc (vdB ⟨bal,st,sl,rq,ex,wd,dl⟩)).alloc (oneB ep)) (vdB vd0)
  rw [World.size_alloc,World.size_alloc] at h
  exact h
 have KZ :=Hd kz
 have BV :=Hd bv
 have BE :=Hd be
 have BZ :=Hd bz
 obtain ⟨c0,c1,c2,c3,c4,c5,c6⟩ :=Z0o bv
 simp only at c0 c1 c2 c3 c4 c5 c6
 clear hwz kz be bz bv
 go_region_held3 (fun w' =>w'.cell? ⟨w.heap.size,0,none⟩=some (.int .u64 bal)∧w'.cell? ⟨w.heap.size,1,none⟩=some (.int .i64 st)∧w'.cell? ⟨w.heap.size,2,none⟩=some (.bool sl)∧w'.cell? ⟨w.heap.size,3,none⟩=some (.int .i64 rq)∧w'.cell? ⟨w.heap.size,4,none⟩=some (.int .i64 ex)∧w'.cell? ⟨w.heap.size,5,none⟩=some (.int .i64 wd)∧w'.cell? ⟨w.heap.size,6,none⟩=some (.int .i64 dl))
  (first
   | (refine Zpg BV.out ?_; with_reducible first | exact (Mods.refl _ wz).drew | assumption | exact (Mods.refl _ wz).drew.keep (by assumption) | exact ((Mods.refl _ wz).drew.keep (by assumption)).alloc _)
   | (refine Zo6 (n :=w.heap.size+2) BV.out ?_ (by omega); refine Mods.trans (Mods.weaken (show Z00 wz _ from HKZ.out) fun _ _ h =>h.elim) ?_; (repeat' first | (with_reducible refine Mods.setCell ?_ _ _ (fun _ =>rfl)) | (with_reducible refine Mods.alloc ?_ _) | (with_reducible refine Mods.drewN ?_ _) | (with_reducible refine Mods.drew ?_) | (with_reducible exact Mods.refl _ _))))
  (first
   | (go_at_call 134; refine (Z3x 2 _).mono ?_; rintro r w1 ⟨rfl,hb1,hk1⟩)
   | (go_at_call 133; refine (Zg1 ⟨bal,st,sl,rq,ex,wd,dl⟩ HV.out BE.out BZ.out (by assumption) (by assumption)).mono ?_; rw [show seq2 (reqC ep) (evC 2) ⟨bal,st,sl,rq,ex,wd,dl⟩=X from HX.out.symm]; rintro r w2 ⟨rfl,hz2,hkz⟩; have HKZ :=Hd hkz; obtain ⟨r0,r1,r2,r3,r4,r5,r6⟩ :=Z0o hz2; obtain ⟨g0,g1,g2,g3,g4,g5,g6⟩ :=Zew hz2))
 rename_i hh
 have HZ2 :=Hd hz2
 clear hh r0 r1 r2 r3 r4 r5 r6 g0 g1 g2 g3 g4 g5 g6 hz2 hkz hb1 hk1 c0 c1 c2 c3 c4 c5 c6
 go_wp2
 refine Z1g ?_
 intro W hW
 have hput :=Z33 HZ2.out X.2
 rw [show _=W from hW.symm] at hput
 have mW:Mods (fun i =>i=w.heap.size+2) w2 W :=by rw [hW]; (repeat' first | (with_reducible refine Mods.setCell ?_ _ _ (fun _ =>rfl)) | (with_reducible refine Mods.alloc ?_ _) | (with_reducible refine Mods.drewN ?_ _) | (with_reducible refine Mods.drew ?_) | (with_reducible exact Mods.refl _ _))
 obtain ⟨p0,p1,p2,p3,p4,p5,p6⟩ :=Z0o hput
 exact bodyPost_ret (v := .tuple #[X.2.val, .int .i64 X.1]) (by simp [results,Tryz.results126,go_sem,p0,p1,p2,p3,p4,p5,p6]) rfl ⟨rfl,(KZ.out.keep HKZ.out).seq mW fun i hi e =>by omega⟩
theorem Zjm {w0 w':World} {b n:Nat} {v:Vd} {p q:Addr} {x y:Value} (h:w0.heap[b]? = some (vdB v)) (hp:w0.cell? p=some x) (hq:w0.cell? q=some y) (hk:Mods (fun i =>i=n) w0 w') (hn:b≠n) (hn2:p.block≠n) (hn3:q.block≠n):w'.cell? ⟨b,0,none⟩=some (.int .u64 v.bal)∧w'.cell? ⟨b,1,none⟩=some (.int .i64 v.st)∧w'.cell? ⟨b,2,none⟩=some (.bool v.sl)∧w'.cell? ⟨b,3,none⟩=some (.int .i64 v.rq)∧w'.cell? ⟨b,4,none⟩=some (.int .i64 v.ex)∧w'.cell? ⟨b,5,none⟩=some (.int .i64 v.wd)∧w'.cell? ⟨b,6,none⟩=some (.int .i64 v.dl)∧w'.cell? p=some x∧w'.cell? q=some y :=by
 obtain ⟨c0,c1,c2,c3,c4,c5,c6⟩ :=Z0o (hk.at h hn)
 exact ⟨c0,c1,c2,c3,c4,c5,c6,hk.cell hp hn2,hk.cell hq hn3⟩
theorem Zfu {wz w1:World} {e0 z:Nat} {t:TypeId} (v:Vd) (hv:v.ok) {ex un:Int} (BE:wz.heap[e0]? = some (oneB ex)) (BZ:wz.heap[z]? = some (vdB vd0)) (hb1:w1.heap[wz.drew.heap.size]? = some (oneB ex)) (hb2:w1.heap[wz.drew.heap.size+1]? = some (oneB un)) (hk1:Z00 wz.drew w1) :
 Calls Tryz.prog 133 #[v.val, .slice (some ⟨w1.heap.size,0,none⟩) 2 2] (w1.alloc (.cells #[.func (Fn.func 208) #[] #[.pointer (some ⟨e0,0,none⟩)], .func (Fn.func 192) #[] #[.pointer (some ⟨wz.drew.heap.size,0,none⟩), .pointer (some ⟨wz.drew.heap.size+1,0,none⟩)]] t)) fun r w' =>r = .returned (.tuple #[(seq2 (Z4d ex) (Z1b ex un) v).2.val, .int .i64 (seq2 (Z4d ex) (Z1b ex un) v).1])∧w'.heap[z]? = some (vdB vd0)∧Z00 wz w' :=by
 refine (Z8c v hv ex un e0 wz.drew.heap.size (wz.drew.heap.size+1) w1.heap.size _ (Z02 (hk1.at (show wz.drew.heap[e0]? = _ from BE) fun h =>h) _) (Z02 hb1 _) (Z02 hb2 _) (Z3v _ _ _ _).1 (Z3v _ _ _ _).2).mono ?_
 rintro r w' ⟨rfl,hk⟩
 have hkz:Z00 wz w' :=(((Mods.refl _ wz).drew.keep hk1).alloc _).keep hk
 exact ⟨rfl,hkz.at BZ (fun h =>h),hkz⟩
def Z2m (ex un:Int) (v:Vd):Int × Vd :=seq2 (Z4d ex) (Z1b ex un) v
theorem Zbo (v:Vd) (hv:v.ok) (ex:Int) (c:Nat→Int) (w:World):Calls Tryz.prog 173 #[v.val, .int .i64 ex,cfgV c] w fun r w' =>r = .returned (.tuple #[(Z2m ex (c 10) v).2.val, .int .i64 (Z2m ex (c 10) v).1])∧Z00 w w' :=by
 obtain ⟨X,hX⟩:∃ X,X=Z2m ex (c 10) v :=⟨_,rfl⟩
 rw [← hX]
 have HX :=Hd hX
 have HV :=Hd hv
 clear hX hv
 obtain ⟨bal,st,sl,rq,xx,wd,dl⟩ :=v
 go_enter Tryz.func173,Tryz.ntmps173
 go_wp2
 refine Z0l ?_
 intro wz hwz
 have kz:Z00 w wz :=by rw [hwz]; (repeat' first | (with_reducible refine Mods.setCell ?_ _ _ (fun _ =>rfl)) | (with_reducible refine Mods.alloc ?_ _) | (with_reducible refine Mods.drewN ?_ _) | (with_reducible refine Mods.drew ?_) | (with_reducible exact Mods.refl _ _))
 have bv:wz.heap[w.heap.size]? = some (vdB ⟨bal,st,sl,rq,xx,wd,dl⟩) :=by rw [hwz]; exact Z02 (Z02 (Z02 (heap_alloc_last w _) _) _) _
 have be:wz.heap[w.heap.size+1]? = some (oneB ex) :=by
  rw [hwz]
  have h :=heap_alloc_last (w.alloc (vdB ⟨bal,st,sl,rq,xx,wd,dl⟩)) (oneB ex)
  rw [World.size_alloc] at h
  exact Z02 (Z02 h _) _
 have bc:wz.heap[w.heap.size+2]? = some (.cells (cfgC c) 24 (0,0)) :=by
  rw [hwz]
  have h :=heap_alloc_last ((w.alloc (vdB ⟨bal,st,sl,rq,xx,wd,dl⟩)).alloc (oneB ex)) (.cells (cfgC c) 24)
  rw [World.size_alloc,World.size_alloc] at h
  exact Z02 h _
 have bz:wz.heap[w.heap.size+3]? = some (vdB vd0) :=by
  rw [hwz]
  have h :=heap_alloc_last (((w.alloc (vdB ⟨bal,st,sl,rq,xx,wd,dl⟩)).alloc (oneB ex)).alloc (.cells (cfgC c) 24)) (vdB vd0)
  rw [World.size_alloc,World.size_alloc,World.size_alloc] at h
  exact h
 have KZ :=Hd kz
 have BV :=Hd bv
 have BE :=Hd be
 have BZ :=Hd bz
 have CE :=Hd (show wz.cell? ⟨w.heap.size+1,0,none⟩=some (.int .i64 ex) from by simp [World.cell?,be])
 have CC :=Hd (show wz.cell? ⟨w.heap.size+2,10,none⟩=some (.int .i64 (c 10)) from by simp [World.cell?,bc])
 clear hwz kz be bz bv bc
 go_region_held3 (fun w' =>w'.cell? ⟨w.heap.size,0,none⟩=some (.int .u64 bal)∧w'.cell? ⟨w.heap.size,1,none⟩=some (.int .i64 st)∧w'.cell? ⟨w.heap.size,2,none⟩=some (.bool sl)∧w'.cell? ⟨w.heap.size,3,none⟩=some (.int .i64 rq)∧w'.cell? ⟨w.heap.size,4,none⟩=some (.int .i64 xx)∧w'.cell? ⟨w.heap.size,5,none⟩=some (.int .i64 wd)∧w'.cell? ⟨w.heap.size,6,none⟩=some (.int .i64 dl)∧w'.cell? ⟨w.heap.size+1,0,none⟩=some (.int .i64 ex)∧w'.cell? ⟨w.heap.size+2,10,none⟩=some (.int .i64 (c 10)))
  (first
   | (refine Zjm (n :=w.heap.size+3) BV.out CE.out CC.out (Mods.weaken (S :=fun _ =>False) ?_ fun _ _ h =>h.elim) (by omega) (by simp) (by simp); with_reducible first | exact (Mods.refl _ wz).drew | assumption | exact (Mods.refl _ wz).drew.keep (by assumption) | exact ((Mods.refl _ wz).drew.keep (by assumption)).alloc _)
   | (refine Zjm (n :=w.heap.size+3) BV.out CE.out CC.out ?_ (by omega) (by simp) (by simp); refine Mods.trans (Mods.weaken (show Z00 wz _ from HKZ.out) fun _ _ h =>h.elim) ?_; (repeat' first | (with_reducible refine Mods.setCell ?_ _ _ (fun _ =>rfl)) | (with_reducible refine Mods.alloc ?_ _) | (with_reducible refine Mods.drewN ?_ _) | (with_reducible refine Mods.drew ?_) | (with_reducible exact Mods.refl _ _))))
  (first
   | (go_at_call 135; refine (Z4f ex (c 10) _).mono ?_; rintro r w1 ⟨rfl,hb1,hb2,hk1⟩)
   | (go_at_call 133; refine (Zfu ⟨bal,st,sl,rq,xx,wd,dl⟩ HV.out BE.out BZ.out (by assumption) (by assumption) (by assumption)).mono ?_; rw [show seq2 (Z4d ex) (Z1b ex (c 10)) ⟨bal,st,sl,rq,xx,wd,dl⟩=X from HX.out.symm]; rintro r w2 ⟨rfl,hz2,hkz⟩; have HKZ :=Hd hkz; obtain ⟨r0,r1,r2,r3,r4,r5,r6⟩ :=Z0o hz2; obtain ⟨g0,g1,g2,g3,g4,g5,g6⟩ :=Zew hz2))
 rename_i hh
 have HZ2 :=Hd hz2
 clear hh r0 r1 r2 r3 r4 r5 r6 g0 g1 g2 g3 g4 g5 g6 hz2 hkz hb1 hb2 hk1
 go_wp2
 refine Z1g ?_
 intro W hW
 have hput :=Z33 HZ2.out X.2
 rw [show _=W from hW.symm] at hput
 have mW:Mods (fun i =>i=w.heap.size+3) w2 W :=by rw [hW]; (repeat' first | (with_reducible refine Mods.setCell ?_ _ _ (fun _ =>rfl)) | (with_reducible refine Mods.alloc ?_ _) | (with_reducible refine Mods.drewN ?_ _) | (with_reducible refine Mods.drew ?_) | (with_reducible exact Mods.refl _ _))
 obtain ⟨p0,p1,p2,p3,p4,p5,p6⟩ :=Z0o hput
 exact bodyPost_ret (v := .tuple #[X.2.val, .int .i64 X.1]) (by simp [results,Tryz.results173,go_sem,p0,p1,p2,p3,p4,p5,p6]) rfl ⟨rfl,(KZ.out.keep HKZ.out).seq mW fun i hi e =>by omega⟩
end Go.Proofs.YtecapfmmoejikaaGreat
