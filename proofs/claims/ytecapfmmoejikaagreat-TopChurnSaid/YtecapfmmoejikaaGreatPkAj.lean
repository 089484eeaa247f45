/- A part of the proofs of the top laws: RingI RinBI LanA. -/
import Derived.Test.YtecapfmmoejikaaGreatPkAh
set_option maxRecDepth 4000
set_option maxHeartbeats 8000000
namespace Go.Proofs.YtecapfmmoejikaaGreat
open Go.RowKit Go.Eg
abbrev encI (e:Int) (_:Nat):Value := .int .i64 e
abbrev elI (e:Int):Value := .int .i64 e
abbrev zI:Int :=0
theorem Zju:(Tryz.prog.info? 3).map (fun i =>(i.zero,i.size,i.bytes))=some (some (elI zI),1,8) :=by kernel_rfl
theorem Zp9:(Tryz.prog.info? 3).map (fun i =>(i.zero,i.size,i.bytes))=some (some (elI zI),1,8) :=Zju
theorem Zr1:(Tryz.prog.info? 3).map (·.size)=some 1 :=by kernel_rfl
abbrev slFI (sl:Nat→Int) (j:Nat):Value :=encI (sl (j / 1)) (j % 1)
abbrev Z66 (lv:Value) (sz:Int) (f n:Nat):Obj := .cells #[lv, .int .i64 sz, .int .i64 (f:Int), .int .i64 (n:Int)] 151 (0,0)
def Z1n (S:Nat→Prop) (w:World) (g:Nat) (sz:Nat) (l:List Int):Prop :=
 (∀ i,S i→i<w.heap.size)∧1≤sz∧sz≤4096∧l.length≤sz∧S g∧∃ lv sl m f,w.heap[g]? = some (Z66 lv sz f l.length)∧Rep sl m f l∧m≤sz ∧
  ((m=0∧lv = .slice none 0 0)∨(0<m∧∃ b,lv = .slice (some ⟨b,0,none⟩) m m∧S b∧b≠g∧w.heap[b]? = some (rowC (slFI sl) (m * 1) 3)))
theorem Z1n.mods {S T:Nat→Prop} {w w':World} {g sz:Nat} {l:List Int} (h:Z1n S w g sz l) (hm:Mods T w w') (hd:∀ i,S i→¬ T i):Z1n S w' g sz l :=by
 obtain ⟨a0,a1,a2,a3,a4,lv,sl,m,f,b1,b2,b3,b4⟩ :=h
 refine ⟨fun i hi =>Nat.lt_of_lt_of_le (a0 i hi) hm.size,a1,a2,a3,a4,lv,sl,m,f,hm.at b1 (hd _ a4),b2,b3, ?_⟩
 rcases b4 with b4 | ⟨c1,b,c2,c3,c4,c5⟩
 ·exact .inl b4
 ·exact .inr ⟨c1,b,c2,c3,c4,hm.at c5 (hd _ c3)⟩
theorem Z1n.weak {S T:Nat→Prop} {w:World} {g sz:Nat} {l:List Int} (h:Z1n S w g sz l) (hd:∀ i,S i→T i) (hT:∀ i,T i→i<w.heap.size):Z1n T w g sz l :=by
 obtain ⟨a0,a1,a2,a3,a4,lv,sl,m,f,b1,b2,b3,b4⟩ :=h
 refine ⟨hT,a1,a2,a3,hd _ a4,lv,sl,m,f,b1,b2,b3, ?_⟩
 rcases b4 with b4 | ⟨c1,b,c2,c3,c4,c5⟩
 ·exact .inl b4
 ·exact .inr ⟨c1,b,c2,hd _ c3,c4,c5⟩
theorem Z3k {w:World} {g:Nat} {lv:Value} {sz:Int} {f n:Nat} (h:w.heap[g]? = some (Z66 lv sz f n)):w.cell? ⟨g,0,none⟩=some lv∧w.cell? ⟨g,1,none⟩=some (.int .i64 sz)∧w.cell? ⟨g,2,none⟩=some (.int .i64 f)∧w.cell? ⟨g,3,none⟩=some (.int .i64 n) :=
 ⟨by simp [World.cell?,h],by simp [World.cell?,h],by simp [World.cell?,h],by simp [World.cell?,h]⟩
theorem Z59 {w:World} {g:Nat} {lv:Value} {sz:Int} {f n:Nat} (h:w.heap[g]? = some (Z66 lv sz f n)) (j:Nat):w.frozen? ⟨g,j,none⟩=false :=by simp [World.frozen?,h]
theorem Z7v (sz:Nat) (w:World) (h1:1≤sz) (h2:sz≤4096):Calls Tryz.prog 32 #[.int .i64 (sz:Int)] w fun r w' =>r = .returned (.pointer (some ⟨w.heap.size,0,none⟩))∧Z1n (fun i =>i=w.heap.size) w' w.heap.size sz []∧Z00 w w'∧w'.heap.size=w.heap.size+1 :=by
 go_enter Tryz.func32,Tryz.ntmps32
 go_wp2
 go_ret
 exact ⟨rfl,⟨fun i hi =>by rw [hi]; simp,h1,h2,by simp,rfl, .slice none 0 0,fun _ =>zI,0,0,heap_alloc_last w _,Rep.empty _,by omega, .inl ⟨rfl,rfl⟩⟩,(Mods.refl _ w).alloc _,by simp⟩
theorem Z32 {S:Nat→Prop} {w:World} {g sz:Nat} {l:List Int} (h:Z1n S w g sz l):Calls Tryz.prog 70 #[.pointer (some ⟨g,0,none⟩)] w fun r w' =>r = .returned (.int .i64 l.length)∧w=w' :=by
 obtain ⟨a0,a1,a2,a3,a4,lv,sl,m,f,b1,b2,b3,b4⟩ :=h
 obtain ⟨c0,c1,c2,c3⟩ :=Z3k b1
 clear b1 b4
 go_enter Tryz.func70,Tryz.ntmps70
 go_wp2
 go_ret
 exact ⟨rfl,rfl⟩
theorem Z3e {S:Nat→Prop} {w:World} {g sz:Nat} {l:List Int} (h:Z1n S w g sz l):Calls Tryz.prog 82 #[.pointer (some ⟨g,0,none⟩)] w fun r w' =>r = .returned (.int .i64 ((sz:Int) - l.length))∧Z1w w w' :=by
 obtain ⟨a0,a1,a2,a3,a4,lv,sl,m,f,b1,b2,b3,b4⟩ :=h
 obtain ⟨c0,c1,c2,c3⟩ :=Z3k b1
 have E :=Hd (show wrap64 ((sz:Int) - l.length)=(sz:Int) - l.length from IntWalk.wrap64_in _ ⟨by omega,by omega⟩)
 clear b1 b4
 go_enter Tryz.func82,Tryz.ntmps82
 go_wp2
 go_quiet (fail)
 go_wp2
 go_ret
 exact ⟨Z0p (by first | rfl | exact E.out),Z1w.mk _ _⟩
theorem Zbt {S:Nat→Prop} {w:World} {g sz:Nat} {l:List Int} (h:Z1n S w g sz l) (i:Int) (hi:i<0∨l.length≤i):Calls Tryz.prog 71 #[.pointer (some ⟨g,0,none⟩), .int .i64 i] w fun r w' =>r = .returned (.tuple #[elI zI, .bool false])∧w=w' :=by
 have HL :=Hd (Z32 h)
 clear h
 rcases hi with hi | hi
 ·go_enter Tryz.func71,Tryz.ntmps71
  go_wp2
  go_ret2
  exact ⟨rfl,rfl⟩
 ·have hi0 : ¬ i<0 :=by omega
  go_enter Tryz.func71,Tryz.ntmps71
  go_wp2_with fail
  refine HL.out.mono ?_
  rintro r w1 ⟨rfl,rfl⟩
  go_wp2
  go_ret2
  exact ⟨rfl,rfl⟩
theorem Z2j {S:Nat→Prop} {w:World} {g sz:Nat} {l:List Int} (h:Z1n S w g sz l) (i:Nat) (hi:i<l.length):Calls Tryz.prog 71 #[.pointer (some ⟨g,0,none⟩), .int .i64 (i:Int)] w fun r w' =>r = .returned (.tuple #[elI l[i], .bool true])∧Z1w w w' :=by
 have HL :=Hd (Z32 h)
 obtain ⟨a0,a1,a2,a3,a4,lv,sl,m,f,b1,b2,b3,b4⟩ :=h
 obtain ⟨c0,c1,c2,c3⟩ :=Z3k b1
 have hle :=b2.le
 rcases b4 with ⟨rfl,_⟩ | ⟨hm0,b,rfl,sb,bg,hb⟩
 ·omega
 have hx :=b2.peek i hi
 have hf:f<m :=by rcases b2.pos with h | h <;> omega
 obtain ⟨q,hq⟩:∃ q,q=(f+i) % m :=⟨_,rfl⟩
 have hqm:q<m :=hq ▸ Nat.mod_lt _ hm0
 rw [← hq] at hx
 have HX :=Hd hx
 have hc0:w.cell? ⟨b,q,none⟩=some (.int .i64 (sl q)) :=by
  have :=Z0t hb q (by omega)
  rwa [show slFI sl q = .int .i64 (sl q) from by simp [slFI,encI]] at this
 have hil:(i:Int)<(l.length:Int) :=Int.ofNat_lt.2 hi
 have hqi:(q:Int)<(m:Int) :=Int.ofNat_lt.2 hqm
 have i0 : ¬ (i:Int)<0 :=by omega
 have e1:wrap64 ((f:Int)+i)=(f:Int)+i :=IntWalk.wrap64_in _ ⟨by omega,by omega⟩
 have e2:((f:Int)+i).tmod (m:Int)=(q:Int) :=by rw [hq]; exact (Int.tmod_eq_emod_of_nonneg (by omega)).trans (by push_cast; rfl)
 have e3:((m:Int) == 0)=false :=by simp; omega
 have e4:wrap64 (q:Int)=(q:Int) :=IntWalk.wrap64_in _ ⟨by omega,by omega⟩
 clear b1 b2 hb hx hq hm0
 go_enter Tryz.func71,Tryz.ntmps71
 go_wp2_with fail
 refine HL.out.mono ?_
 rintro r w1 ⟨rfl,rfl⟩
 go_wp2
 go_quiet (fail)
 go_wp2
 go_ret2
 refine ⟨?_,Z1w.mk _ _⟩
 rw [← HX.out]
 rfl
def Zpv (S:Nat→Prop) (w0 w:World) (g:Nat) (sz:Nat) (l:List Int):Prop :=
 ∃ b sl m f,w.heap[g]? = some (Z66 (.slice (some ⟨b,0,none⟩) m m) sz f l.length)∧Rep sl m f l∧l.length<m∧m≤sz∧(S b∨w0.heap.size≤b)∧b≠g∧w.heap[b]? = some (rowC (slFI sl) (m * 1) 3)
theorem Z4x (sl:Nat→Int) (j:Nat):(slFI sl j).oneCell'=true :=by
 unfold slFI encI
 rfl
theorem zcI (j:Nat):(elI zI).cells[j % (elI zI).cells.size]! = slFI (fun _ =>zI) j :=by
 simp [Value.cells,Nat.mod_one]
theorem Z6e {S:Nat→Prop} {w w4:World} {g sz n M f:Nat} {l:List Int} {sl:Nat→Int} {lv:Value} {F:Nat→Value} (B1:w.heap[g]? = some (Z66 lv sz f n)) (HN:l.length=n) (B2:Rep sl n f l) (A4:S g) (hm:n<M) (hM:M≤sz)
 (hb:w4.heap[w.heap.size]? = some (rowC F (M * 1) 3)) (hF:∀ j,j<M * 1→F j=slFI (Zc2 sl zI n f) j) (hk:Mods (fun i =>i=w.heap.size) w w4) (k:Nat) :
 Zpv S w (((w4.setCell ⟨g,0,none⟩ (.slice (some ⟨w.heap.size,0,none⟩) M M)).setCell ⟨g,2,none⟩ (.int .i64 0)).drewN k) g sz l∧Mods S w (((w4.setCell ⟨g,0,none⟩ (.slice (some ⟨w.heap.size,0,none⟩) M M)).setCell ⟨g,2,none⟩ (.int .i64 0)).drewN k) :=by
 have hg :=Z0a B1
 have e0 :=hk.at B1 (by omega)
 have e1:(w4.setCell ⟨g,0,none⟩ (.slice (some ⟨w.heap.size,0,none⟩) M M)).heap[g]? = some (Z66 (.slice (some ⟨w.heap.size,0,none⟩) M M) sz f n) :=heap_setCell_same w4 g 0 _ _ _ e0
 have e2:((w4.setCell ⟨g,0,none⟩ (.slice (some ⟨w.heap.size,0,none⟩) M M)).setCell ⟨g,2,none⟩ (.int .i64 0)).heap[g]? = some (Z66 (.slice (some ⟨w.heap.size,0,none⟩) M M) sz 0 n) :=heap_setCell_same _ g 2 _ _ _ e1
 have hm2:Mods (fun i =>i=g) w4 ((w4.setCell ⟨g,0,none⟩ (.slice (some ⟨w.heap.size,0,none⟩) M M)).setCell ⟨g,2,none⟩ (.int .i64 0)) :=((Mods.refl (fun i =>i=g) w4).setCell _ _ fun _ =>rfl).setCell _ _ fun _ =>rfl
 have e3 :=hm2.at hb (by omega)
 refine ⟨⟨w.heap.size,Zc2 sl zI n f,M,0,by rw [HN]; exact e2,B2.grow M hm _,by omega,hM, .inr (Nat.le_refl _),by omega,e3.trans (congrArg some (Z1c hF))⟩, ?_⟩
 refine Mods.drewN ?_ k
 refine Mods.seq (T :=fun i =>i=g) (Mods.of_below (hk.below fun i hi e =>by omega)) hm2 fun i _ e =>by rw [e]; exact A4
theorem Zay {S:Nat→Prop} {w:World} {g sz:Nat} {l:List Int} (h:Z1n S w g sz l) (hl:l.length<sz):Calls Tryz.prog 125 #[.pointer (some ⟨g,0,none⟩)] w fun r w' =>r = .returned (.tuple #[])∧Zpv S w w' g sz l∧Mods S w w' :=by
 obtain ⟨a0,a1,a2,a3,a4,lv,sl,m,f,b1,b2,b3,b4⟩ :=h
 obtain ⟨c0,c1,c2,c3⟩ :=Z3k b1
 have f0 :=Z59 b1 0
 have f2 :=Z59 b1 2
 have hle :=b2.le
 have hgl :=Z0a b1
 have B1 :=Hd b1
 have B2 :=Hd b2
 have A4 :=Hd a4
 have hpos :=b2.pos
 clear b1 b2 a4 a0
 obtain ⟨n,hn⟩:∃ n,l.length=n :=⟨_,rfl⟩
 rw [hn] at hl a3 c3 hle B1
 have HN :=Hd hn
 clear hn
 by_cases hfull:n<m
 ·rcases b4 with ⟨rfl,_⟩ | ⟨hm0,b,rfl,sb,bg,hb⟩
  ·omega
  have HB :=Hd hb
  have SB :=Hd sb
  clear hb sb hpos
  have hlm:(n:Int)<(m:Int) :=Int.ofNat_lt.2 hfull
  go_enter Tryz.func125,Tryz.ntmps125
  go_wp2
  go_quiet (fail)
  go_wp2
  exact bodyPost_ret (v := .tuple #[]) (by simp [results,Tryz.results125,go_sem]) rfl ⟨rfl,⟨b,sl,m,f,by rw [HN.out]; exact B1.out,B2.out,by rw [HN.out]; exact hfull,b3, .inl SB.out,bg,HB.out⟩,(Mods.refl _ w).drewN _⟩
 ·obtain rfl:m=n :=by omega
  clear hle hfull b3 a3
  have hinf :=Zp9
  have hsz :=Zr1
  obtain ⟨M,hM⟩:∃ M,M=min sz (2 * m+1) :=⟨_,rfl⟩
  have hmM:m<M :=by omega
  have hMz:M≤sz :=by omega
  have hM4:M≤4096 :=by omega
  have HMZ :=Hd hMz
  have HMM :=Hd hmM
  by_cases hM2:2 * m+1<sz
  ·have hMv:2 * (m:Int)+1=(M:Int) :=by omega
   have hMi:2 * (m:Int)+1<(sz:Int) :=by omega
   have e1:wrap64 (2 * (m:Int))=2 * (m:Int) :=IntWalk.wrap64_in _ ⟨by omega,by omega⟩
   have e2:wrap64 (2 * (m:Int)+1)=2 * (m:Int)+1 :=IntWalk.wrap64_in _ ⟨by omega,by omega⟩
   clear hM hM2
   rcases b4 with ⟨rfl,rfl⟩ | ⟨hm0,b,rfl,sb,bg,hb⟩
   ·obtain rfl:f=0 :=by omega
    obtain rfl:M=1 :=by omega
    have hs1:1<(sz:Int) :=by omega
    clear e1 e2 hMv hmM hl hMi
    go_enter Tryz.func125,Tryz.ntmps125
    go_wp2
    go_quiet (fail)
    go_wp2
    refine Z01 12 (by kernel_rfl) (by kernel_rfl) ?_; simp only [List.take_succ_cons,List.take_zero,List.drop_succ_cons,List.drop_zero]; (repeat (go_big_quiet_step ((fail)))); refine wpQuiet_nil ?_; rintro _ ⟨nq,rfl⟩
    refine Z0v _ rfl _ _ _ rfl 3 (elI zI) 1 8 Tryz.underlying37 hinf 1 rfl rfl (by omega) (by omega) ?_
    intro w2 hb2 hk2 hs2
    have hb2:w2.heap[w.heap.size]? = some (rowC (fun j =>(elI zI).cells[j % (elI zI).cells.size]!) (1 * 1) 3) :=hb2
    have hk2:Z00 w w2 :=(((Mods.refl _ w).drewN _).drewN _).keep hk2
    have hs2:w2.heap.size=w.heap.size+1 :=hs2
    have HB2 :=Hd hb2
    have HK2 :=Hd hk2
    have y0 :=hk2.cell c0 fun h =>h
    have y2 :=hk2.cell c2 fun h =>h
    clear hb2 hk2
    go_wp2
    refine Z01 10 (by kernel_rfl) (by kernel_rfl) ?_; simp only [List.take_succ_cons,List.take_zero,List.drop_succ_cons,List.drop_zero]; (repeat (go_big_quiet_step ((fail)))); refine wpQuiet_nil ?_; rintro _ ⟨nq,rfl⟩
    refine Z0h rfl _ _ _ _ rfl 3 1 Tryz.underlying37 hsz _ _ _ _ _ _ rfl rfl w.heap.size 0 (1 * 1) 0 _ (fun j =>slFI sl j) _ HB2.out (by rfl) (fun h =>by omega) (by omega) (fun j _ =>Z4x _ _) ?_
    intro w3 hb3 hm3
    have HB3 :=Hd hb3
    have HM3 :=Hd hm3
    have y0 :=hm3.cell (show (w2.drewN nq).cell? _=_ from y0) (Nat.ne_of_lt hgl)
    have y2 :=hm3.cell (show (w2.drewN nq).cell? _=_ from y2) (Nat.ne_of_lt hgl)
    clear hb3 hm3
    go_wp2
    refine Z01 12 (by kernel_rfl) (by kernel_rfl) ?_; simp only [List.take_succ_cons,List.take_zero,List.drop_succ_cons,List.drop_zero]; (repeat (go_big_quiet_step ((fail)))); refine wpQuiet_nil ?_; rintro _ ⟨nq,rfl⟩
    refine Z0h rfl _ _ _ _ rfl 3 1 Tryz.underlying37 hsz _ _ _ _ _ _ rfl rfl w.heap.size 0 (1 * 1) 0 _ (fun j =>slFI sl j) _ HB3.out (by rfl) (fun h =>by omega) (by omega) (fun j _ =>Z4x _ _) ?_
    intro w4 hb4 hm4
    have HB4 :=Hd hb4
    have hm34:Mods (fun i =>i=w.heap.size) w w4 :=(((HK2.out.weaken fun _ _ h =>h.elim).drewN _).trans HM3.out).drewN _ |>.trans hm4
    have HM4 :=Hd hm34
    have y0 :=hm4.cell (show (w3.drewN nq).cell? _=_ from y0) (Nat.ne_of_lt hgl)
    have y2 :=hm4.cell (show (w3.drewN nq).cell? _=_ from y2) (Nat.ne_of_lt hgl)
    have z0 :=hm34.frozen (p :=⟨g,0,none⟩) hgl (Nat.ne_of_lt hgl)
    have z2 :=hm34.frozen (p :=⟨g,2,none⟩) hgl (Nat.ne_of_lt hgl)
    rw [f0] at z0
    rw [f2] at z2
    clear hb4 hm4 hm34
    go_wp2
    go_end0
    exact ⟨rfl,Z6e B1.out HN.out B2.out A4.out HMM.out HMZ.out HB4.out (fun j _ =>by rw [if_neg (by omega),if_neg (by omega),zcI]; rfl) HM4.out 0⟩
   ·have hf:f<m :=by omega
    have hfi:(f:Int)<(m:Int) :=by omega
    have HB :=Hd hb
    have SB :=Hd sb
    have hbl :=Z0a hb
    clear hb sb hpos
    go_enter Tryz.func125,Tryz.ntmps125
    go_wp2
    go_quiet (fail)
    go_wp2
    refine Z01 12 (by kernel_rfl) (by kernel_rfl) ?_; simp only [List.take_succ_cons,List.take_zero,List.drop_succ_cons,List.drop_zero]; (repeat (go_big_quiet_step ((fail)))); refine wpQuiet_nil ?_; rintro _ ⟨nq,rfl⟩
    refine Z0v _ rfl _ _ _ rfl 3 (elI zI) 1 8 Tryz.underlying37 hinf M (by go_num) (by go_num) (by omega) (by omega) ?_
    intro w2 hb2 hk2 hs2
    have hb2:w2.heap[w.heap.size]? = some (rowC (fun j =>(elI zI).cells[j % (elI zI).cells.size]!) (M * 1) 3) :=hb2
    have hk2:Z00 w w2 :=(((Mods.refl _ w).drewN _).drewN _).keep hk2
    have hs2:w2.heap.size=w.heap.size+1 :=hs2
    have HB2 :=Hd hb2
    have HK2 :=Hd hk2
    have y0 :=hk2.cell c0 fun h =>h
    have y2 :=hk2.cell c2 fun h =>h
    clear hb2 hk2
    go_wp2
    refine Z01 10 (by kernel_rfl) (by kernel_rfl) ?_; simp only [List.take_succ_cons,List.take_zero,List.drop_succ_cons,List.drop_zero]; (repeat (go_big_quiet_step ((fail)))); refine wpQuiet_nil ?_; rintro _ ⟨nq,rfl⟩
    refine Z0h rfl _ _ _ _ rfl 3 1 Tryz.underlying37 hsz _ _ _ _ _ _ rfl rfl w.heap.size 0 (M * 1) (m - f) _ (fun j =>slFI sl (f * 1+j)) _ HB2.out (Nat.min_eq_left (by omega)).symm (fun _ =>⟨rfl,b,f * 1,by simp,fun j hj =>?_⟩) (by omega) (fun j _ =>Z4x _ _) ?_
    ·exact HK2.out.cell (Z0t HB.out (f * 1+j) (by omega)) fun h =>h
    intro w3 hb3 hm3
    have HB3 :=Hd hb3
    have HM3 :=Hd hm3
    have y0 :=hm3.cell (show (w2.drewN nq).cell? _=_ from y0) (Nat.ne_of_lt hgl)
    have y2 :=hm3.cell (show (w2.drewN nq).cell? _=_ from y2) (Nat.ne_of_lt hgl)
    have hkm:((m - f:Nat):Int)≤(M:Int) :=by omega
    have hkm0:(0:Int)≤((m - f:Nat):Int) :=by omega
    clear hb3 hm3
    go_wp2
    refine Z01 12 (by kernel_rfl) (by kernel_rfl) ?_; simp only [List.take_succ_cons,List.take_zero,List.drop_succ_cons,List.drop_zero]; (repeat (go_big_quiet_step ((fail)))); refine wpQuiet_nil ?_; rintro _ ⟨nq,rfl⟩
    refine Z0h rfl _ _ _ _ rfl 3 1 Tryz.underlying37 hsz _ _ _ _ _ _ rfl rfl w.heap.size ((m - f) * 1) (M * 1) f _ (fun j =>slFI sl j) _ HB3.out (Nat.min_eq_left (by omega)).symm (fun _ =>⟨by simp,b,0,by simp,fun j hj =>?_⟩) (by omega) (fun j _ =>Z4x _ _) ?_
    ·rw [Nat.zero_add]
     exact (HM3.out.cell (HK2.out.cell (Z0t HB.out j (by omega)) fun h =>h) (Nat.ne_of_lt hbl))
    intro w4 hb4 hm4
    have HB4 :=Hd hb4
    have hm34:Mods (fun i =>i=w.heap.size) w w4 :=(((HK2.out.weaken fun _ _ h =>h.elim).drewN _).trans HM3.out).drewN _ |>.trans hm4
    have HM4 :=Hd hm34
    have y0 :=hm4.cell (show (w3.drewN nq).cell? _=_ from y0) (Nat.ne_of_lt hgl)
    have y2 :=hm4.cell (show (w3.drewN nq).cell? _=_ from y2) (Nat.ne_of_lt hgl)
    have z0 :=hm34.frozen (p :=⟨g,0,none⟩) hgl (Nat.ne_of_lt hgl)
    have z2 :=hm34.frozen (p :=⟨g,2,none⟩) hgl (Nat.ne_of_lt hgl)
    rw [f0] at z0
    rw [f2] at z2
    clear hb4 hm4 hm34
    go_wp2
    go_end0
    exact ⟨rfl,Z6e B1.out HN.out B2.out A4.out HMM.out HMZ.out HB4.out (fun j _ =>by rw [zcI]; exact Z5f 1 (by omega) encI sl zI m f j) HM4.out 0⟩
  ·have hMv:(sz:Int)=(M:Int) :=by omega
   have hMi : ¬ 2 * (m:Int)+1<(sz:Int) :=by omega
   have e1:wrap64 (2 * (m:Int))=2 * (m:Int) :=IntWalk.wrap64_in _ ⟨by omega,by omega⟩
   have e2:wrap64 (2 * (m:Int)+1)=2 * (m:Int)+1 :=IntWalk.wrap64_in _ ⟨by omega,by omega⟩
   clear hM hM2
   rcases b4 with ⟨rfl,rfl⟩ | ⟨hm0,b,rfl,sb,bg,hb⟩
   ·obtain rfl:f=0 :=by omega
    obtain rfl:M=1 :=by omega
    obtain rfl:sz=1 :=by omega
    clear e1 e2 hMv hmM hl hMi
    go_enter Tryz.func125,Tryz.ntmps125
    go_wp2
    go_quiet (fail)
    go_wp2
    refine Z01 12 (by kernel_rfl) (by kernel_rfl) ?_; simp only [List.take_succ_cons,List.take_zero,List.drop_succ_cons,List.drop_zero]; (repeat (go_big_quiet_step ((fail)))); refine wpQuiet_nil ?_; rintro _ ⟨nq,rfl⟩
    refine Z0v _ rfl _ _ _ rfl 3 (elI zI) 1 8 Tryz.underlying37 hinf 1 rfl rfl (by omega) (by omega) ?_
    intro w2 hb2 hk2 hs2
    have hb2:w2.heap[w.heap.size]? = some (rowC (fun j =>(elI zI).cells[j % (elI zI).cells.size]!) (1 * 1) 3) :=hb2
    have hk2:Z00 w w2 :=(((Mods.refl _ w).drewN _).drewN _).keep hk2
    have hs2:w2.heap.size=w.heap.size+1 :=hs2
    have HB2 :=Hd hb2
    have HK2 :=Hd hk2
    have y0 :=hk2.cell c0 fun h =>h
    have y2 :=hk2.cell c2 fun h =>h
    clear hb2 hk2
    go_wp2
    refine Z01 10 (by kernel_rfl) (by kernel_rfl) ?_; simp only [List.take_succ_cons,List.take_zero,List.drop_succ_cons,List.drop_zero]; (repeat (go_big_quiet_step ((fail)))); refine wpQuiet_nil ?_; rintro _ ⟨nq,rfl⟩
    refine Z0h rfl _ _ _ _ rfl 3 1 Tryz.underlying37 hsz _ _ _ _ _ _ rfl rfl w.heap.size 0 (1 * 1) 0 _ (fun j =>slFI sl j) _ HB2.out (by rfl) (fun h =>by omega) (by omega) (fun j _ =>Z4x _ _) ?_
    intro w3 hb3 hm3
    have HB3 :=Hd hb3
    have HM3 :=Hd hm3
    have y0 :=hm3.cell (show (w2.drewN nq).cell? _=_ from y0) (Nat.ne_of_lt hgl)
    have y2 :=hm3.cell (show (w2.drewN nq).cell? _=_ from y2) (Nat.ne_of_lt hgl)
    clear hb3 hm3
    go_wp2
    refine Z01 12 (by kernel_rfl) (by kernel_rfl) ?_; simp only [List.take_succ_cons,List.take_zero,List.drop_succ_cons,List.drop_zero]; (repeat (go_big_quiet_step ((fail)))); refine wpQuiet_nil ?_; rintro _ ⟨nq,rfl⟩
    refine Z0h rfl _ _ _ _ rfl 3 1 Tryz.underlying37 hsz _ _ _ _ _ _ rfl rfl w.heap.size 0 (1 * 1) 0 _ (fun j =>slFI sl j) _ HB3.out (by rfl) (fun h =>by omega) (by omega) (fun j _ =>Z4x _ _) ?_
    intro w4 hb4 hm4
    have HB4 :=Hd hb4
    have hm34:Mods (fun i =>i=w.heap.size) w w4 :=(((HK2.out.weaken fun _ _ h =>h.elim).drewN _).trans HM3.out).drewN _ |>.trans hm4
    have HM4 :=Hd hm34
    have y0 :=hm4.cell (show (w3.drewN nq).cell? _=_ from y0) (Nat.ne_of_lt hgl)
    have y2 :=hm4.cell (show (w3.drewN nq).cell? _=_ from y2) (Nat.ne_of_lt hgl)
    have z0 :=hm34.frozen (p :=⟨g,0,none⟩) hgl (Nat.ne_of_lt hgl)
    have z2 :=hm34.frozen (p :=⟨g,2,none⟩) hgl (Nat.ne_of_lt hgl)
    rw [f0] at z0
    rw [f2] at z2
    clear hb4 hm4 hm34
    go_wp2
    go_end0
    exact ⟨rfl,Z6e B1.out HN.out B2.out A4.out HMM.out HMZ.out HB4.out (fun j _ =>by rw [if_neg (by omega),if_neg (by omega),zcI]; rfl) HM4.out 0⟩
   ·have hf:f<m :=by omega
    have hfi:(f:Int)<(m:Int) :=by omega
    have HB :=Hd hb
    have SB :=Hd sb
    have hbl :=Z0a hb
    clear hb sb hpos
    go_enter Tryz.func125,Tryz.ntmps125
    go_wp2
    go_quiet (fail)
    go_wp2
    refine Z01 12 (by kernel_rfl) (by kernel_rfl) ?_; simp only [List.take_succ_cons,List.take_zero,List.drop_succ_cons,List.drop_zero]; (repeat (go_big_quiet_step ((fail)))); refine wpQuiet_nil ?_; rintro _ ⟨nq,rfl⟩
    refine Z0v _ rfl _ _ _ rfl 3 (elI zI) 1 8 Tryz.underlying37 hinf M (by go_num) (by go_num) (by omega) (by omega) ?_
    intro w2 hb2 hk2 hs2
    have hb2:w2.heap[w.heap.size]? = some (rowC (fun j =>(elI zI).cells[j % (elI zI).cells.size]!) (M * 1) 3) :=hb2
    have hk2:Z00 w w2 :=(((Mods.refl _ w).drewN _).drewN _).keep hk2
    have hs2:w2.heap.size=w.heap.size+1 :=hs2
    have HB2 :=Hd hb2
    have HK2 :=Hd hk2
    have y0 :=hk2.cell c0 fun h =>h
    have y2 :=hk2.cell c2 fun h =>h
    clear hb2 hk2
    go_wp2
    refine Z01 10 (by kernel_rfl) (by kernel_rfl) ?_; simp only [List.take_succ_cons,List.take_zero,List.drop_succ_cons,List.drop_zero]; (repeat (go_big_quiet_step ((fail)))); refine wpQuiet_nil ?_; rintro _ ⟨nq,rfl⟩
    refine Z0h rfl _ _ _ _ rfl 3 1 Tryz.underlying37 hsz _ _ _ _ _ _ rfl rfl w.heap.size 0 (M * 1) (m - f) _ (fun j =>slFI sl (f * 1+j)) _ HB2.out (Nat.min_eq_left (by omega)).symm (fun _ =>⟨rfl,b,f * 1,by simp,fun j hj =>?_⟩) (by omega) (fun j _ =>Z4x _ _) ?_
    ·exact HK2.out.cell (Z0t HB.out (f * 1+j) (by omega)) fun h =>h
    intro w3 hb3 hm3
    have HB3 :=Hd hb3
    have HM3 :=Hd hm3
    have y0 :=hm3.cell (show (w2.drewN nq).cell? _=_ from y0) (Nat.ne_of_lt hgl)
    have y2 :=hm3.cell (show (w2.drewN nq).cell? _=_ from y2) (Nat.ne_of_lt hgl)
    have hkm:((m - f:Nat):Int)≤(M:Int) :=by omega
    have hkm0:(0:Int)≤((m - f:Nat):Int) :=by omega
    clear hb3 hm3
    go_wp2
    refine Z01 12 (by kernel_rfl) (by kernel_rfl) ?_; simp only [List.take_succ_cons,List.take_zero,List.drop_succ_cons,List.drop_zero]; (repeat (go_big_quiet_step ((fail)))); refine wpQuiet_nil ?_; rintro _ ⟨nq,rfl⟩
    refine Z0h rfl _ _ _ _ rfl 3 1 Tryz.underlying37 hsz _ _ _ _ _ _ rfl rfl w.heap.size ((m - f) * 1) (M * 1) f _ (fun j =>slFI sl j) _ HB3.out (Nat.min_eq_left (by omega)).symm (fun _ =>⟨by simp,b,0,by simp,fun j hj =>?_⟩) (by omega) (fun j _ =>Z4x _ _) ?_
    ·rw [Nat.zero_add]
     exact (HM3.out.cell (HK2.out.cell (Z0t HB.out j (by omega)) fun h =>h) (Nat.ne_of_lt hbl))
    intro w4 hb4 hm4
    have HB4 :=Hd hb4
    have hm34:Mods (fun i =>i=w.heap.size) w w4 :=(((HK2.out.weaken fun _ _ h =>h.elim).drewN _).trans HM3.out).drewN _ |>.trans hm4
    have HM4 :=Hd hm34
    have y0 :=hm4.cell (show (w3.drewN nq).cell? _=_ from y0) (Nat.ne_of_lt hgl)
    have y2 :=hm4.cell (show (w3.drewN nq).cell? _=_ from y2) (Nat.ne_of_lt hgl)
    have z0 :=hm34.frozen (p :=⟨g,0,none⟩) hgl (Nat.ne_of_lt hgl)
    have z2 :=hm34.frozen (p :=⟨g,2,none⟩) hgl (Nat.ne_of_lt hgl)
    rw [f0] at z0
    rw [f2] at z2
    clear hb4 hm4 hm34
    go_wp2
    go_end0
    exact ⟨rfl,Z6e B1.out HN.out B2.out A4.out HMM.out HMZ.out HB4.out (fun j _ =>by rw [zcI]; exact Z5f 1 (by omega) encI sl zI m f j) HM4.out 0⟩
theorem Zi6 {S:Nat→Prop} {w w2 w3:World} {g sz b m f q:Nat} {l:List Int} {sl:Nat→Int} (H:Z1n S w g sz l) (hl:l.length<sz) (x:Int) (b1:w2.heap[g]? = some (Z66 (.slice (some ⟨b,0,none⟩) m m) sz f l.length)) (b2:Rep sl m f l) (b3:l.length<m) (b4:m≤sz) (b5:S b∨w.heap.size≤b) (b6:b≠g)
 (hm:Mods S w w2) (hq:q=(f+l.length) % m) (h3:w3.heap[b]? = some (rowC (slFI (fun j =>if j=q then x else sl j)) (m * 1) 3)) (m3:Mods (fun i =>i=b) w2 w3) (k:Nat) :
 Z1n (fun i =>S i∨w.heap.size≤i∧i<((w3.setCell ⟨g,3,none⟩ (.int .i64 ((l.length:Int)+1))).drewN k).heap.size) ((w3.setCell ⟨g,3,none⟩ (.int .i64 ((l.length:Int)+1))).drewN k) g sz (l ++ [x])∧Mods S w ((w3.setCell ⟨g,3,none⟩ (.int .i64 ((l.length:Int)+1))).drewN k) :=by
 obtain ⟨a0,a1,a2,a3,a4,_⟩ :=H
 have e2:w3.heap[g]? = some (Z66 (.slice (some ⟨b,0,none⟩) m m) sz f l.length) :=m3.at b1 fun e =>b6 e.symm
 have e3:(w3.setCell ⟨g,3,none⟩ (.int .i64 ((l.length:Int)+1))).heap[g]? = some (Z66 (.slice (some ⟨b,0,none⟩) m m) sz f (l.length+1)) :=heap_setCell_same _ g 3 _ _ _ e2
 have mg :=(Mods.refl (fun i =>i=g) w3).setCell ⟨g,3,none⟩ (.int .i64 ((l.length:Int)+1)) fun _ =>rfl
 have e4 :=mg.at h3 b6
 have hbl :=Z0a e4
 have hmS:Mods S w (w3.setCell ⟨g,3,none⟩ (.int .i64 ((l.length:Int)+1))) :=(hm.seq m3 fun i hi e =>by rcases b5 with h5 | h5; exact e ▸ h5; omega).seq mg fun i _ e =>by rw [e]; exact a4
 refine ⟨⟨fun i hi =>?_,a1,a2,by simp; omega, .inl a4,_,fun j =>if j=q then x else sl j,m,f,by rw [List.length_append]; exact e3,hq ▸ b2.push b3 x,b4, .inr ⟨by omega,b,rfl, ?_,b6,e4⟩⟩,hmS.drewN k⟩
 ·rcases hi with hi | hi
  ·exact Nat.lt_of_lt_of_le (a0 i hi) hmS.size
  ·exact hi.2
 ·rcases b5 with h5 | h5
  ·exact .inl h5
  ·exact .inr ⟨h5,hbl⟩
theorem Z4g {S:Nat→Prop} {w:World} {g sz:Nat} {l:List Int} (h:Z1n S w g sz l) (hl:l.length<sz) (x:Int) (vb:Nat) (hv:w.cell? ⟨vb,0,none⟩=some (.int .i64 x)) (hvS : ¬ S vb) :
 Calls Tryz.prog 85 #[.pointer (some ⟨g,0,none⟩), .slice (some ⟨vb,0,none⟩) 1 1] w fun r w' =>r = .returned (.int .i64 1)∧Z1n (fun i =>S i∨w.heap.size≤i∧i<w'.heap.size) w' g sz (l ++ [x])∧Mods S w w' :=by
 have HFR :=Hd (Z3e h)
 have HGR :=Hd (fun (w':World) (h':Z1n S w' g sz l) =>Zay h' hl)
 have H :=Hd h
 have HV :=Hd hv
 have hvb :=cell_lt hv
 have hsz:(1:Int)≤(sz:Int) - l.length :=by omega
 have HSV :=Hd hvS
 clear h hv hvS
 go_enter Tryz.func85,Tryz.ntmps85
 go_wp2_with fail
 refine HFR.out.mono ?_
 rintro r w1 ⟨rfl,q1,rfl⟩
 go_wp2_with fail
 go_loopw [17] (fun i wr =>(i = .int .i64 0∧∃ q,wr=w.drewN q)∨(i = .int .i64 1∧Z1n (fun i =>S i∨w.heap.size≤i∧i<wr.heap.size) wr g sz (l ++ [x])∧Mods S w wr)) (fun i _ =>1 - (intOf i).toNat)
 case atStart =>exact .inl ⟨rfl,q1,rfl⟩
 case round =>
  rcases hrel with ⟨rfl,q,rfl⟩ | ⟨rfl,hr,hm⟩
  ·have HV2 :=HV.out
   go_wp2_with fail
   refine (HGR.out (w.drewN q) (H.out.mods (T :=fun _ =>False) ((Mods.refl _ w).drewN q) fun _ _ h =>h)).mono ?_
   rintro r w2 ⟨rfl,⟨b,sl,m,f,b1,b2,b3,b4,b5,b6,b7⟩,hm2⟩
   obtain ⟨c0,c1,c2,c3⟩ :=Z3k b1
   have f3 :=Z59 b1 3
   have hfm:f<m :=by rcases b2.pos with h | h <;> omega
   have hm0:0<m :=by omega
   have hm4:m≤4096 :=by have :=H.out.2.2.1; omega
   have hl4:l.length≤4096 :=by omega
   obtain ⟨p,hp⟩:∃ p,p=(f+l.length) % m :=⟨_,rfl⟩
   have hbg:g≠b :=fun e =>b6 e.symm
   have hr3:(w2.setCell ⟨b,p,none⟩ (.int .i64 x)).heap[b]? = some (rowC (slFI (fun j =>if j=p then x else sl j)) (m * 1) 3) :=by
    rw [Z41 (.int .i64 x) b7]
    exact congrArg some (Z1c fun j _ =>by simp only [slFI,encI,Nat.div_one]; split <;> rfl)
   have HEND :=Hd (Zi6 H.out hl x b1 b2 b3 b4 (b5.imp id fun h =>h) b6 (((Mods.refl S w).drewN q).trans hm2) hp hr3 ((Mods.refl (fun i =>i=b) w2).setCell _ _ fun _ =>rfl))
   obtain ⟨hpm,hpi,e1,e2,e3,e4,e5⟩ :=Z30 hfm hm4 hl4 hp
   have hq0:w2.cell? ⟨b,p,none⟩=some (.int .i64 (sl p)) :=by
    have :=Z0t b7 p (by rw [Nat.mul_one]; exact hpm)
    rwa [show slFI sl p = .int .i64 (sl p) from by simp [slFI,encI]] at this
   have fq:w2.frozen? ⟨b,p,none⟩=false :=Z28 b7 p
   clear b1 b2 b3 b4 b5 b7 hm2 hp hfm hr3
   go_wp2
   refine Z01 21 (by kernel_rfl) (by kernel_rfl) ?_; simp only [List.take_succ_cons,List.take_zero,List.drop_succ_cons,List.drop_zero]; (repeat (go_big_quiet_step ((fail)))); refine wpQuiet_nil ?_; rintro _ ⟨nq,rfl⟩
   clear c0 c1 c2 e1 e2 e3 e4 hpi hpm hl4 hm4 hm0
   go_wp2
   go_roundw
   case rel =>exact .inr ⟨rfl,HEND.out _⟩
   case measure =>simp [intOf]
  ·have HR :=Hd hr
   have HM :=Hd hm
   clear hr hm
   go_wp2
   go_ret
   exact ⟨rfl,HR.out,HM.out⟩
theorem Zkl {S:Nat→Prop} {w w0 w1:World} {g sz b m f:Nat} {l:List Int} {x:Int} {sl:Nat→Int} (a0:∀ i,S i→i<w.heap.size) (a1:1≤sz) (a2:sz≤4096) (a3:(x :: l).length≤sz) (a4:S g) (b1:w.heap[g]? = some (Z66 (.slice (some ⟨b,0,none⟩) m m) sz f (x :: l).length)) (b2:Rep sl m f (x :: l)) (b4:m≤sz) (sb:S b) (b6:b≠g)
 (hk:Z00 w w0) (h1:w1.heap[b]? = some (rowC (slFI (fun i =>if i=f then zI else sl i)) (m * 1) 3)) (m1:Mods (fun i =>i=b) w0 w1) (q:Nat) (hq:q=(f+1) % m) :
 Z1n S ((w1.setCell ⟨g,2,none⟩ (.int .i64 (q:Int))).setCell ⟨g,3,none⟩ (.int .i64 (l.length:Int))) g sz l∧Mods S w ((w1.setCell ⟨g,2,none⟩ (.int .i64 (q:Int))).setCell ⟨g,3,none⟩ (.int .i64 (l.length:Int))) :=by
 have e2:w1.heap[g]? = some (Z66 (.slice (some ⟨b,0,none⟩) m m) sz f (x :: l).length) :=m1.at (hk.at b1 fun h =>h) fun e =>b6 e.symm
 have e3:(w1.setCell ⟨g,2,none⟩ (.int .i64 (q:Int))).heap[g]? = some (Z66 (.slice (some ⟨b,0,none⟩) m m) sz q (x :: l).length) :=heap_setCell_same _ g 2 _ _ _ e2
 have e4:((w1.setCell ⟨g,2,none⟩ (.int .i64 (q:Int))).setCell ⟨g,3,none⟩ (.int .i64 (l.length:Int))).heap[g]? = some (Z66 (.slice (some ⟨b,0,none⟩) m m) sz q l.length) :=heap_setCell_same _ g 3 _ _ _ e3
 have m2:Mods (fun i =>i=g) w1 ((w1.setCell ⟨g,2,none⟩ (.int .i64 (q:Int))).setCell ⟨g,3,none⟩ (.int .i64 (l.length:Int))) :=((Mods.refl (fun i =>i=g) w1).setCell _ _ fun _ =>rfl).setCell _ _ fun _ =>rfl
 have hm0:0<m :=by have :=b2.le; simp at this; omega
 have hmS:Mods S w ((w1.setCell ⟨g,2,none⟩ (.int .i64 (q:Int))).setCell ⟨g,3,none⟩ (.int .i64 (l.length:Int))) :=((show Mods S w w1 from ((hk.weaken fun _ _ h =>h.elim).seq m1 fun i _ e =>by rw [e]; exact sb))).seq m2 fun i _ e =>by rw [e]; exact a4
 exact ⟨⟨fun i hi =>Nat.lt_of_lt_of_le (a0 i hi) hmS.size,a1,a2,by simp at a3; omega,a4,_,fun i =>if i=f then zI else sl i,m,q,e4,hq ▸ b2.pop zI,b4, .inr ⟨hm0,b,rfl,sb,b6,m2.at h1 b6⟩⟩,hmS⟩
theorem Z57 {S:Nat→Prop} {w:World} {g sz:Nat} {l:List Int} {x:Int} (h:Z1n S w g sz (x :: l)) :
 Calls Tryz.prog 175 #[.pointer (some ⟨g,0,none⟩)] w fun r w' =>r = .returned (.tuple #[elI x, .bool true])∧Z1n S w' g sz l∧Mods S w w' :=by
 have HPK :=Hd (Z2j h 0 (by simp))
 obtain ⟨a0,a1,a2,a3,a4,lv,sl,m,f,b1,b2,b3,b4⟩ :=h
 have hle :=b2.le
 rcases b4 with ⟨rfl,_⟩ | ⟨hm0,b,rfl,sb,bg,hb⟩
 ·simp at hle
 obtain ⟨c0,c1,c2,c3⟩ :=Z3k b1
 have f2 :=Z59 b1 2
 have f3 :=Z59 b1 3
 have hfm:f<m :=by rcases b2.pos with h | h <;> omega
 have hm4:m≤4096 :=Nat.le_trans b3 a2
 obtain ⟨p,hp⟩:∃ p,p=(f+1) % m :=⟨_,rfl⟩
 have hend:∀ j k,Z1n S (((((w.drewN j).setCell ⟨b,f,none⟩ (.int .i64 0)).drewN k).setCell ⟨g,2,none⟩ (.int .i64 (p:Int))).setCell ⟨g,3,none⟩ (.int .i64 (l.length:Int))) g sz l∧Mods S w (((((w.drewN j).setCell ⟨b,f,none⟩ (.int .i64 0)).drewN k).setCell ⟨g,2,none⟩ (.int .i64 (p:Int))).setCell ⟨g,3,none⟩ (.int .i64 (l.length:Int))) :=fun j k =>
  Zkl a0 a1 a2 a3 a4 b1 b2 b3 sb bg ((Mods.refl _ w).drewN j) (w1 :=((w.drewN j).setCell ⟨b,f,none⟩ (.int .i64 0)).drewN k) (by
   show ((w.drewN j).setCell ⟨b,f,none⟩ (.int .i64 0)).heap[b]? = _
   rw [Z41 (w :=w.drewN j) (.int .i64 0) hb]
   exact congrArg some (Z1c fun j _ =>by simp only [slFI,encI,Nat.div_one]; split <;> rfl)) (((Mods.refl (fun i =>i=b) (w.drewN j)).setCell _ _ fun _ =>rfl).drewN k) p hp
 have HEND :=Hd hend
 obtain ⟨hpm,hpi,e1,e2,e3,e4,e5⟩ :=Z30 hfm hm4 (show 1≤4096 by omega) hp
 have e1:wrap64 ((f:Int)+1)=(f:Int)+1 :=e1
 have e2:((f:Int)+1).tmod (m:Int)=(p:Int) :=e2
 have E1 :=Hd e1
 have E2 :=Hd e2
 have e6:wrap64 (((x :: l).length:Int) - 1)=(l.length:Int) :=by rw [List.length_cons]; exact (Z1m (by omega) (by simp at a3; omega)).trans (by omega)
 have hfi:(f:Int)<(m:Int) :=Int.ofNat_lt.2 hfm
 have hq0:w.cell? ⟨b,f,none⟩=some (.int .i64 (sl f)) :=by
  have :=Z0t hb f (by rw [Nat.mul_one]; exact hfm)
  rwa [show slFI sl f = .int .i64 (sl f) from by simp [slFI,encI]] at this
 have fq:w.frozen? ⟨b,f,none⟩=false :=Z28 hb f
 have hgb:g≠b :=fun e =>bg e.symm
 obtain ⟨n,hn⟩:∃ n,n=(x :: l).length :=⟨_,rfl⟩
 rw [← hn] at c3 e6
 have E6 :=Hd e6
 clear b1 b2 b3 hb hp hfm hle a0 a1 a2 a3 hm4 hn hend
 go_enter Tryz.func175,Tryz.ntmps175
 go_wp2_with fail
 refine HPK.out.mono ?_
 rintro r w1 ⟨rfl,q1,rfl⟩
 go_wp2
 refine Z01 10 (by kernel_rfl) (by kernel_rfl) ?_; simp only [List.take_succ_cons,List.take_zero,List.drop_succ_cons,List.drop_zero]; (repeat (go_big_quiet_step ((fail)))); refine wpQuiet_nil ?_; rintro _ ⟨nq,rfl⟩
 go_wp2
 refine Z01 14 (by kernel_rfl) (by kernel_rfl) ?_; simp only [List.take_succ_cons,List.take_zero,List.drop_succ_cons,List.drop_zero]; (repeat (go_big_quiet_step ((fail)))); refine wpQuiet_nil ?_; rintro _ ⟨nq,rfl⟩
 clear e1 e2 e3 e4 e5 hfi hpi hpm hm0
 go_wp2
 go_ret2
 refine ⟨rfl, ?_⟩
 first
  | exact HEND.out _ _
  | (rw [E1.out,E2.out]; first | exact HEND.out _ _ | (rw [E6.out]; exact HEND.out _ _))
  | (rw [E6.out]; exact HEND.out _ _)
theorem Z4y {S:Nat→Prop} {w:World} {g sz:Nat} {l:List Int} (h:Z1n S w g sz l) :
 Calls Tryz.prog 41 #[.pointer (some ⟨g,0,none⟩)] w fun r w' => ∃ v,r = .returned v∧w'.ownsRow w.heap.size 3 1 v l.length (l.map fun x =>.int .i64 x)∧Z00 w w' :=by
 have HLN :=Hd (Z32 h)
 have HPK :=Hd (fun (w':World) (hk:Z00 w w') (i:Nat) (hi:i<l.length) =>Z2j (h.mods hk fun _ _ h =>h) i hi)
 have hl4:l.length≤4096 :=Nat.le_trans h.2.2.2.1 h.2.2.1
 obtain ⟨i0,hi,hz0,hz1,hz2⟩ :=info_parts Zju
 obtain ⟨n,hn⟩:∃ n,n=l.length :=⟨_,rfl⟩
 rw [← hn] at HLN hl4
 have HN :=Hd hn
 clear h hn
 go_enter Tryz.func41,Tryz.ntmps41
 go_wp2_with fail
 refine HLN.out.mono ?_
 rintro r w1 ⟨rfl,rfl⟩
 go_wp2_with fail
 go_loopw [3,9] (fun v i wr => ∃ k:Nat,k≤n∧i = .int .i64 k∧wr.ownsRow w.heap.size 3 1 v k ((l.map fun x =>Value.int .i64 x).take k)∧Z00 w wr) (fun _ i _ =>n - (intOf i).toNat)
 case atStart =>exact ⟨0,Nat.zero_le _,rfl,World.ownsRow_nil _ _ _ _,Mods.refl _ _⟩
 case round =>
  obtain ⟨k,hk,rfl,hown,hkp⟩ :=hrel
  by_cases hlt:k<n
  ·have hki:(k:Int)<(n:Int) :=Int.ofNat_lt.2 hlt
   have HK :=Hd hkp
   have HO :=Hd hown
   obtain ⟨va,vc,rfl⟩ :=Z0c hown
   have hkl:k<l.length :=HN.out ▸ hlt
   have hsz :=hkp.size
   clear hkp hown
   go_wp2_with fail
   refine (HPK.out _ HK.out k hkl).mono ?_
   rintro r w2 ⟨rfl,q,rfl⟩
   have hown2:((wr.drewN q)).ownsRow w.heap.size 3 1 (.slice va k vc) k ((l.map fun x =>Value.int .i64 x).take k) :=(Mods.refl (fun _ =>False) wr |>.drewN q).owns HO.out fun _ _ h =>h
   go_wp2_with (at_builtin; refine wpList_append_own _ rfl _ _ 37 rfl w.heap.size 3 i0 (.int .i64 0) 1 8 Tryz.underlying37 hi hz0 hz1 hz2 rfl (by decide) _ _ _ rfl (hown2.alloc _) ⟨wr.heap.size,0,none⟩ 1 1 [.int .i64 l[k]] rfl rfl (Z4a _ _ _) (fun u hu =>by simp at hu; subst hu; rfl) (by unfold maxLen; omega) (by omega) (by simp; omega) ?_)
   intro v' w3 hown3 hgrow _
   have HG :=Hd (Z3r ((HK.out).drewN q) hown2 (Nat.le_refl _) hgrow)
   have HO3 :=Hd (Eq.mp (congrArg (fun L =>w3.ownsRow w.heap.size 3 1 v' (k+1) L) (take_snoc (fun x =>Value.int .i64 x) hkl)) hown3)
   clear hgrow hown3 hown2
   go_wp2
   go_roundw
   case rel =>exact ⟨k+1,by omega,by go_num,HO3.out,HG.out⟩
   case measure =>simp [intOf]; omega
  ·obtain rfl:k=n :=by omega
   have HK :=Hd hkp
   have HO :=Hd hown
   clear hkp hown
   go_wp2
   go_ret
   exact ⟨_,rfl,by have :=HO.out; rw [HN.out,show l.length=(l.map fun x =>Value.int .i64 x).length from by simp,List.take_length] at this; simpa using this,HK.out⟩
abbrev lanB (p q:Nat):Obj := .cells #[.pointer (some ⟨p,0,none⟩), .pointer (some ⟨q,0,none⟩)] 149 (0,0)
def Z31 (S:Nat→Prop) (w:World) (g sz:Nat) (fo vo:List Int):Prop :=
 (∀ i,S i→i<w.heap.size)∧S g∧∃ S0 S1 p q,w.heap[g]? = some (lanB p q)∧Z1n S0 w p sz fo∧Z1n S1 w q sz vo∧(∀ i,S0 i→S i)∧(∀ i,S1 i→S i)∧(∀ i,S0 i→¬ S1 i)∧¬ S0 g∧¬ S1 g
theorem Z31.mods {S T:Nat→Prop} {w w':World} {g sz:Nat} {fo vo:List Int} (h:Z31 S w g sz fo vo) (hm:Mods T w w') (hd:∀ i,S i→¬ T i):Z31 S w' g sz fo vo :=by
 obtain ⟨a0,a1,S0,S1,p,q,b,r0,r1,s0,s1,d,n0,n1⟩ :=h
 exact ⟨fun i hi =>Nat.lt_of_lt_of_le (a0 i hi) hm.size,a1,S0,S1,p,q,hm.at b (hd _ a1),r0.mods hm fun i hi =>hd i (s0 i hi),r1.mods hm fun i hi =>hd i (s1 i hi),s0,s1,d,n0,n1⟩
theorem Z31.weak {S T:Nat→Prop} {w:World} {g sz:Nat} {fo vo:List Int} (h:Z31 S w g sz fo vo) (hd:∀ i,S i→T i) (hT:∀ i,T i→i<w.heap.size):Z31 T w g sz fo vo :=by
 obtain ⟨a0,a1,S0,S1,p,q,b,r0,r1,s0,s1,d,n0,n1⟩ :=h
 exact ⟨hT,hd _ a1,S0,S1,p,q,b,r0,r1,fun i hi =>hd i (s0 i hi),fun i hi =>hd i (s1 i hi),d,n0,n1⟩
theorem Zjn {w:World} {g p q:Nat} (h:w.heap[g]? = some (lanB p q)):w.cell? ⟨g,0,none⟩=some (.pointer (some ⟨p,0,none⟩))∧w.cell? ⟨g,1,none⟩=some (.pointer (some ⟨q,0,none⟩)) :=⟨by simp [World.cell?,h],by simp [World.cell?,h]⟩
def lanP (p q:Nat) (c:Int):Option Addr :=if c=0 then some ⟨p,0,none⟩ else if c=1 then some ⟨q,0,none⟩ else none
theorem Zjd (g p q:Nat) (c:Int) (w:World) (h:w.heap[g]? = some (lanB p q)) (h0 : -1≤c) (h1:c≤1):Calls Tryz.prog 108 #[.pointer (some ⟨g,0,none⟩), .int .i64 c] w fun r w' =>r = .returned (.pointer (lanP p q c))∧w=w' :=by
 obtain ⟨c0,c1⟩ :=Zjn h
 clear h
 have hc:c = -1∨c=0∨c=1 :=by omega
 rcases hc with rfl | rfl | rfl
 all_goals
  clear h0 h1
  go_enter Tryz.func108,Tryz.ntmps108
  go_wp2
  go_ret
  exact ⟨rfl,rfl⟩
theorem Z1q (g p q:Nat) (c:Int) (w:World) (h:w.heap[g]? = some (lanB p q)) (h0 : -1≤c) (h1:c≤1):Calls Tryz.prog 72 #[.pointer (some ⟨g,0,none⟩), .int .i64 c] w fun r w' =>r = .returned (.pointer (lanP p q c))∧w=w' :=by
 have HO :=Hd (Zjd g p q c w h h0 h1)
 obtain ⟨P,hP⟩:∃ P,P=lanP p q c :=⟨_,rfl⟩
 rw [← hP] at HO ⊢
 clear h h0 h1 hP
 go_enter Tryz.func72,Tryz.ntmps72
 go_wp2_with fail
 refine HO.out.mono ?_
 rintro r w1 ⟨rfl,rfl⟩
 go_wp2
 go_ret
 exact ⟨rfl,rfl⟩
theorem Zct (w:World):Calls Tryz.prog 70 #[.pointer none] w fun r w' =>r = .returned (.int .i64 0)∧w=w' :=by
 go_enter Tryz.func70,Tryz.ntmps70
 go_wp2
 go_ret
 exact ⟨rfl,rfl⟩
theorem Zbr (w:World):Calls Tryz.prog 71 #[.pointer none, .int .i64 0] w fun r w' =>r = .returned (.tuple #[.int .i64 0, .bool false])∧w=w' :=by
 have HL :=Hd (Zct w)
 go_enter Tryz.func71,Tryz.ntmps71
 go_wp2_with fail
 refine HL.out.mono ?_
 rintro r w1 ⟨rfl,rfl⟩
 go_wp2
 go_ret2
 exact ⟨rfl,rfl⟩
theorem Zfn {w wr w2:World} {z j:Nat} {x0 x1:Value} (hz:w.heap.size≤z) (hb:wr.heap[z]? = some (.cells #[x0,x1] 149 (0,0))) (hK:Z00 w wr) (k2:Z00 wr.drew w2) :
 w2.heap[z]? = some (.cells #[x0,x1] 149 (0,0))∧w2.cell? ⟨z,0,none⟩=some x0∧w2.cell? ⟨z,1,none⟩=some x1∧(∀ j,w2.frozen? ⟨z,j,none⟩=false)∧∀ v,Mods (fun i =>i=z) w2 (w2.setCell ⟨z,j,none⟩ v)∧Z00 w (w2.setCell ⟨z,j,none⟩ v) :=by
 have hb2 :=k2.at (show wr.drew.heap[z]? = _ from hb) fun h =>h
 refine ⟨hb2,by simp [World.cell?,hb2],by simp [World.cell?,hb2],fun j =>by simp [World.frozen?,hb2],fun v =>?_⟩
 have hm :=(Mods.refl (fun i =>i=z) w2).setCell ⟨z,j,none⟩ v fun _ =>rfl
 exact ⟨hm,(hK.drew.keep k2).seq hm fun i hi e =>by omega⟩
theorem Zha (sz:Nat) (w:World) (h1:1≤sz) (h2:sz≤4096):Calls Tryz.prog 31 #[.int .i64 (sz:Int)] w fun r w' => ∃ g,r = .returned (.pointer (some ⟨g,0,none⟩))∧Z31 (fun i =>w.heap.size≤i∧i<w'.heap.size) w' g sz [] []∧Z00 w w' :=by
 have HN :=Hd (fun w =>Z7v sz w h1 h2)
 have hz1 : ¬ (sz:Int)<1 :=by omega
 have hz2 : ¬ 4096<(sz:Int) :=by omega
 clear h1 h2
 go_enter Tryz.func31,Tryz.ntmps31
 go_wp2_with fail
 go_loopw [13] (fun i wr =>(i = .int .i64 0∧wr.heap[w.heap.size]? = some (.cells #[.pointer none, .pointer none] 149 (0,0))∧Z00 w wr) ∨
  (i = .int .i64 1∧∃ p,w.heap.size<p∧wr.heap[w.heap.size]? = some (.cells #[.pointer (some ⟨p,0,none⟩), .pointer none] 149 (0,0))∧Z1n (fun i =>i=p) wr p sz []∧Z00 w wr) ∨
  (i = .int .i64 2∧∃ p q,w.heap.size<p∧p<q∧wr.heap[w.heap.size]? = some (lanB p q)∧Z1n (fun i =>i=p) wr p sz []∧Z1n (fun i =>i=q) wr q sz []∧Z00 w wr)) (fun i _ =>2 - (intOf i).toNat)
 case atStart =>exact .inl ⟨rfl,heap_alloc_last w _,(Mods.refl _ w).alloc _⟩
 case round =>
  rcases hrel with ⟨rfl,hb,hk⟩ | ⟨rfl,p,hzp,hb,hr,hk⟩ | ⟨rfl,p,q,hzp,hpq,hb,hr,hr2,hk⟩
  ·have HB :=Hd hb
   have HK :=Hd hk
   have hzl :=Z0a hb
   clear hb hk
   go_wp2
   go_region_with ((go_at_call 32; refine (HN.out _).mono ?_; rintro r w2 ⟨rfl,hr2,hk2,hs2⟩; obtain ⟨d0,y0,y1,yf,ym⟩ :=Zfn (j :=0) (Nat.le_refl _) HB.out HK.out hk2; have yf0 :=yf 0; have YM :=Hd ym; have D0 :=Hd d0; have HR2 :=Hd hr2; clear hr2 hk2 d0 yf ym y1 hs2))
   all_goals
    go_wp2
    go_roundw
    case rel =>
     rename_i YM D0 HR2
     have hY :=YM.out (.pointer (some ⟨wr.heap.size,0,none⟩))
     exact .inr (.inl ⟨rfl,wr.heap.size,hzl,heap_setCell_same _ w.heap.size 0 _ _ _ D0.out,HR2.out.mods hY.1 (fun i hi e =>by have hi:i=wr.heap.size :=hi; omega),hY.2⟩)
    case measure =>simp [intOf]
  ·have HB :=Hd hb
   have HK :=Hd hk
   have HR :=Hd hr
   have hzl :=Z0a hb
   have hpl :=HR.out.1 p rfl
   clear hb hk hr
   go_wp2
   go_region_with ((go_at_call 32; refine (HN.out _).mono ?_; rintro r w2 ⟨rfl,hr2,hk2,hs2⟩; obtain ⟨d0,y0,y1,yf,ym⟩ :=Zfn (j :=1) (Nat.le_refl _) HB.out HK.out hk2; have yf0 :=yf 1; have YM :=Hd ym; have D0 :=Hd d0; have HR2 :=Hd hr2; have HRP :=Hd (HR.out.mods (T :=fun _ =>False) ((Mods.refl _ wr).drew.keep hk2) (fun _ _ h =>h)); clear hr2 hk2 d0 yf ym y0 hs2))
   all_goals
    go_wp2
    go_roundw
    case rel =>
     have hY :=YM.out (.pointer (some ⟨wr.heap.size,0,none⟩))
     exact .inr (.inr ⟨rfl,p,wr.heap.size,hzp,hpl,heap_setCell_same _ w.heap.size 1 _ _ _ D0.out,HRP.out.mods hY.1 (fun i hi e =>by have hi:i=p :=hi; omega),HR2.out.mods hY.1 (fun i hi e =>by have hi:i=wr.heap.size :=hi; omega),hY.2⟩)
    case measure =>simp [intOf]
  ·have HB :=Hd hb
   have HK :=Hd hk
   have HR :=Hd hr
   have HR2 :=Hd hr2
   have hzl :=Z0a hb
   clear hb hk hr hr2
   go_wp2
   go_ret
   have hs :=HK.out.size
   refine ⟨_,rfl,⟨fun i hi =>hi.2,⟨by omega,hzl⟩,fun i =>i=p,fun i =>i=q,p,q,HB.out,HR.out,HR2.out,fun i hi =>?_,fun i hi =>?_,fun i hi hj =>by omega,by omega,by omega⟩,HK.out⟩
   ·exact ⟨by omega,HR.out.1 i hi⟩
   ·exact ⟨by omega,HR2.out.1 i hi⟩
theorem Z8m {S:Nat→Prop} {w:World} {g sz:Nat} {fo vo:List Int} (h:Z31 S w g sz fo vo) (c:Int) (hc:c=0∨c=1):Calls Tryz.prog 90 #[.pointer (some ⟨g,0,none⟩), .int .i64 c] w fun r w' =>r = .returned (.int .i64 ((sz:Int) - (if c=0 then fo else vo).length))∧Z1w w w' :=by
 obtain ⟨a0,a1,S0,S1,p,q,b,r0,r1,s0,s1,d,n0,n1⟩ :=h
 have HC :=Hd (Z1q g p q c w b (by omega) (by omega))
 rcases hc with rfl | rfl
 ·have HF :=Hd (Z3e r0)
  clear a0 a1 b r0 r1 s0 s1 d n0 n1
  rw [if_pos rfl]
  go_enter Tryz.func90,Tryz.ntmps90
  go_wp2_with fail
  refine HC.out.mono ?_
  rintro r w1 ⟨rfl,rfl⟩
  go_wp2_with fail
  refine HF.out.mono ?_
  rintro r w1 ⟨rfl,hd⟩
  have HD :=Hd hd
  clear hd
  go_wp2
  go_ret
  exact ⟨rfl,HD.out⟩
 ·have HF :=Hd (Z3e r1)
  clear a0 a1 b r0 r1 s0 s1 d n0 n1
  rw [if_neg (by decide)]
  go_enter Tryz.func90,Tryz.ntmps90
  go_wp2_with fail
  refine HC.out.mono ?_
  rintro r w1 ⟨rfl,rfl⟩
  go_wp2_with fail
  refine HF.out.mono ?_
  rintro r w1 ⟨rfl,hd⟩
  have HD :=Hd hd
  clear hd
  go_wp2
  go_ret
  exact ⟨rfl,HD.out⟩
theorem Z77 {S:Nat→Prop} {w:World} {g sz:Nat} {fo vo:List Int} (h:Z31 S w g sz fo vo) (c:Int) (hc:c=0∨c=1):Calls Tryz.prog 42 #[.pointer (some ⟨g,0,none⟩), .int .i64 c] w fun r w' => ∃ v,r = .returned v∧w'.ownsRow w.heap.size 3 1 v (if c=0 then fo else vo).length ((if c=0 then fo else vo).map fun x =>.int .i64 x)∧Z00 w w' :=by
 obtain ⟨a0,a1,S0,S1,p,q,b,r0,r1,s0,s1,d,n0,n1⟩ :=h
 have HC :=Hd (Z1q g p q c w b (by omega) (by omega))
 rcases hc with rfl | rfl
 ·have HF :=Hd (Z4y r0)
  clear a0 a1 b r0 r1 s0 s1 d n0 n1
  rw [if_pos rfl]
  go_enter Tryz.func42,Tryz.ntmps42
  go_wp2_with fail
  refine HC.out.mono ?_
  rintro r w1 ⟨rfl,rfl⟩
  go_wp2_with fail
  refine HF.out.mono ?_
  rintro r w1 ⟨v,rfl,ho,hk⟩
  have HO :=Hd ho
  have HK :=Hd hk
  clear ho hk
  go_wp2
  go_ret
  exact ⟨_,rfl,HO.out,HK.out⟩
 ·have HF :=Hd (Z4y r1)
  clear a0 a1 b r0 r1 s0 s1 d n0 n1
  rw [if_neg (by decide)]
  go_enter Tryz.func42,Tryz.ntmps42
  go_wp2_with fail
  refine HC.out.mono ?_
  rintro r w1 ⟨rfl,rfl⟩
  go_wp2_with fail
  refine HF.out.mono ?_
  rintro r w1 ⟨v,rfl,ho,hk⟩
  have HO :=Hd ho
  have HK :=Hd hk
  clear ho hk
  go_wp2
  go_ret
  exact ⟨_,rfl,HO.out,HK.out⟩
end Go.Proofs.YtecapfmmoejikaaGreat
