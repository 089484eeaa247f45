/- A part of the proofs of the top laws: RingP RinBP BucA. -/
import Derived.Maps.AppendAt
import Derived.Test.YtecapfmmoejikaaGreatPkAd
import Derived.Test.YtecapfmmoejikaaGreatPkAg
set_option maxRecDepth 4000
set_option maxHeartbeats 8000000
namespace Go.Proofs.YtecapfmmoejikaaGreat
open Go.RowKit Go.Eg
abbrev encP (e:(Int × Int)) (j:Nat):Value :=if j=0 then .int .i64 e.1 else .int .i64 e.2
abbrev elP (e:(Int × Int)):Value := .agg #[.int .i64 e.1, .int .i64 e.2]
abbrev zP:(Int × Int) :=(0,0)
theorem Zqg:(Tryz.prog.info? 92).map (fun i =>(i.zero,i.size,i.bytes))=some (some (elP zP),2,16) :=by kernel_rfl
theorem Zqc:(Tryz.prog.info? 92).map (fun i =>(i.zero,i.size,i.bytes))=some (some (elP zP),2,16) :=Zqg
theorem Zqt:(Tryz.prog.info? 92).map (·.size)=some 2 :=by kernel_rfl
abbrev slFP (sl:Nat→(Int × Int)) (j:Nat):Value :=encP (sl (j / 2)) (j % 2)
abbrev Z6m (lv:Value) (sz:Int) (f n:Nat):Obj := .cells #[lv, .int .i64 sz, .int .i64 (f:Int), .int .i64 (n:Int)] 153 (0,0)
def Z3a (S:Nat→Prop) (w:World) (g:Nat) (sz:Nat) (l:List (Int × Int)):Prop :=
 (∀ i,S i→i<w.heap.size)∧1≤sz∧sz≤4096∧l.length≤sz∧S g∧∃ lv sl m f,w.heap[g]? = some (Z6m lv sz f l.length)∧Rep sl m f l∧m≤sz ∧
  ((m=0∧lv = .slice none 0 0)∨(0<m∧∃ b,lv = .slice (some ⟨b,0,none⟩) m m∧S b∧b≠g∧w.heap[b]? = some (rowC (slFP sl) (m * 2) 92)))
theorem Z3a.mods {S T:Nat→Prop} {w w':World} {g sz:Nat} {l:List (Int × Int)} (h:Z3a S w g sz l) (hm:Mods T w w') (hd:∀ i,S i→¬ T i):Z3a S w' g sz l :=by
 obtain ⟨a0,a1,a2,a3,a4,lv,sl,m,f,b1,b2,b3,b4⟩ :=h
 refine ⟨fun i hi =>Nat.lt_of_lt_of_le (a0 i hi) hm.size,a1,a2,a3,a4,lv,sl,m,f,hm.at b1 (hd _ a4),b2,b3, ?_⟩
 rcases b4 with b4 | ⟨c1,b,c2,c3,c4,c5⟩
 ·exact .inl b4
 ·exact .inr ⟨c1,b,c2,c3,c4,hm.at c5 (hd _ c3)⟩
theorem Z3a.weak {S T:Nat→Prop} {w:World} {g sz:Nat} {l:List (Int × Int)} (h:Z3a S w g sz l) (hd:∀ i,S i→T i) (hT:∀ i,T i→i<w.heap.size):Z3a T w g sz l :=by
 obtain ⟨a0,a1,a2,a3,a4,lv,sl,m,f,b1,b2,b3,b4⟩ :=h
 refine ⟨hT,a1,a2,a3,hd _ a4,lv,sl,m,f,b1,b2,b3, ?_⟩
 rcases b4 with b4 | ⟨c1,b,c2,c3,c4,c5⟩
 ·exact .inl b4
 ·exact .inr ⟨c1,b,c2,hd _ c3,c4,c5⟩
theorem Z3j {w:World} {g:Nat} {lv:Value} {sz:Int} {f n:Nat} (h:w.heap[g]? = some (Z6m lv sz f n)):w.cell? ⟨g,0,none⟩=some lv∧w.cell? ⟨g,1,none⟩=some (.int .i64 sz)∧w.cell? ⟨g,2,none⟩=some (.int .i64 f)∧w.cell? ⟨g,3,none⟩=some (.int .i64 n) :=
 ⟨by simp [World.cell?,h],by simp [World.cell?,h],by simp [World.cell?,h],by simp [World.cell?,h]⟩
theorem Z6l {w:World} {g:Nat} {lv:Value} {sz:Int} {f n:Nat} (h:w.heap[g]? = some (Z6m lv sz f n)) (j:Nat):w.frozen? ⟨g,j,none⟩=false :=by simp [World.frozen?,h]
theorem Zc8 (sz:Nat) (w:World) (h1:1≤sz) (h2:sz≤4096):Calls Tryz.prog 33 #[.int .i64 (sz:Int)] w fun r w' =>r = .returned (.pointer (some ⟨w.heap.size,0,none⟩))∧Z3a (fun i =>i=w.heap.size) w' w.heap.size sz []∧Z00 w w'∧w'.heap.size=w.heap.size+1 :=by
 go_enter Tryz.func33,Tryz.ntmps33
 go_wp2
 go_ret
 exact ⟨rfl,⟨fun i hi =>by rw [hi]; simp,h1,h2,by simp,rfl, .slice none 0 0,fun _ =>zP,0,0,heap_alloc_last w _,Rep.empty _,by omega, .inl ⟨rfl,rfl⟩⟩,(Mods.refl _ w).alloc _,by simp⟩
theorem Z7y {S:Nat→Prop} {w:World} {g sz:Nat} {l:List (Int × Int)} (h:Z3a S w g sz l):Calls Tryz.prog 73 #[.pointer (some ⟨g,0,none⟩)] w fun r w' =>r = .returned (.int .i64 l.length)∧w=w' :=by
 obtain ⟨a0,a1,a2,a3,a4,lv,sl,m,f,b1,b2,b3,b4⟩ :=h
 obtain ⟨c0,c1,c2,c3⟩ :=Z3j b1
 clear b1 b4
 go_enter Tryz.func73,Tryz.ntmps73
 go_wp2
 go_ret
 exact ⟨rfl,rfl⟩
theorem Z6o {S:Nat→Prop} {w:World} {g sz:Nat} {l:List (Int × Int)} (h:Z3a S w g sz l):Calls Tryz.prog 141 #[.pointer (some ⟨g,0,none⟩)] w fun r w' =>r = .returned (.int .i64 ((sz:Int) - l.length))∧Z1w w w' :=by
 obtain ⟨a0,a1,a2,a3,a4,lv,sl,m,f,b1,b2,b3,b4⟩ :=h
 obtain ⟨c0,c1,c2,c3⟩ :=Z3j b1
 have E :=Hd (show wrap64 ((sz:Int) - l.length)=(sz:Int) - l.length from IntWalk.wrap64_in _ ⟨by omega,by omega⟩)
 clear b1 b4
 go_enter Tryz.func141,Tryz.ntmps141
 go_wp2
 go_quiet (fail)
 go_wp2
 go_ret
 exact ⟨Z0p (by first | rfl | exact E.out),Z1w.mk _ _⟩
theorem Z6a {S:Nat→Prop} {w:World} {g sz:Nat} {l:List (Int × Int)} (h:Z3a S w g sz l) (i:Nat) (hi:i<l.length):Calls Tryz.prog 74 #[.pointer (some ⟨g,0,none⟩), .int .i64 (i:Int)] w fun r w' =>r = .returned (.tuple #[elP l[i], .bool true])∧Z00 w w' :=by
 have HL :=Hd (fun (w':World) (hk:Z00 w w') =>Z7y (h.mods hk fun _ _ h =>h))
 obtain ⟨a0,a1,a2,a3,a4,lv,sl,m,f,b1,b2,b3,b4⟩ :=h
 obtain ⟨c0,c1,c2,c3⟩ :=Z3j b1
 have hle :=b2.le
 rcases b4 with ⟨rfl,_⟩ | ⟨hm0,b,rfl,sb,bg,hb⟩
 ·omega
 have hx :=b2.peek i hi
 have hf:f<m :=by rcases b2.pos with h | h <;> omega
 obtain ⟨q,hq⟩:∃ q,q=(f+i) % m :=⟨_,rfl⟩
 rw [← hq] at hx
 have HX :=Hd hx
 have hm4:m≤4096 :=Nat.le_trans b3 a2
 obtain ⟨hqm,hqi,e1,e2,e3,e4,e5⟩ :=Z30 hf hm4 (show i≤4096 by omega) hq
 have hc0:w.cell? ⟨b,q * 2,none⟩=some (.int .i64 (sl q).1) :=by
  have :=Z0t hb (q * 2) (by omega)
  rwa [show slFP sl (q * 2) = .int .i64 (sl q).1 from by simp [slFP,encP]] at this
 have hc1:w.cell? ⟨b,q * 2+1,none⟩=some (.int .i64 (sl q).2) :=by
  have :=Z0t hb (q * 2+1) (by omega)
  rwa [show slFP sl (q * 2+1) = .int .i64 (sl q).2 from by simp [slFP,encP,show (q * 2+1) / 2=q from by omega,show (q * 2+1) % 2=1 from by omega]] at this
 have hil:(i:Int)<(l.length:Int) :=Int.ofNat_lt.2 hi
 have i0 : ¬ (i:Int)<0 :=by clear hq; omega
 have hgl :=cell_lt c0
 have hbl :=cell_lt hc0
 clear b1 b2 hb hx hq hm0 e5 a1 a2 a3 hm4 hle hf
 go_enter Tryz.func74,Tryz.ntmps74
 go_wp2_with fail
 refine (HL.out _ (((Mods.refl _ w).alloc _).alloc _)).mono ?_
 rintro r w1 ⟨rfl,rfl⟩
 go_wp2
 refine Z01 18 (by kernel_rfl) (by kernel_rfl) ?_; simp only [List.take_succ_cons,List.take_zero,List.drop_succ_cons,List.drop_zero]; (repeat (go_big_quiet_step ((fail)))); refine wpQuiet_nil ?_; rintro _ ⟨nq,rfl⟩
 go_wp2
 refine bodyPost_ret (v := .tuple #[elP (sl q), .bool true]) (by simp [results,Tryz.results74,go_sem]) rfl ⟨by rw [HX.out], ?_⟩
 exact ((((((Mods.refl (fun _ =>False) w).alloc _).alloc _).drewN _).setCell _ _ (fun h =>absurd h (Nat.lt_irrefl _))).setCell _ _ (fun h =>absurd h (Nat.lt_irrefl _)))
def Zpw (S:Nat→Prop) (w0 w:World) (g:Nat) (sz:Nat) (l:List (Int × Int)):Prop :=
 ∃ b sl m f,w.heap[g]? = some (Z6m (.slice (some ⟨b,0,none⟩) m m) sz f l.length)∧Rep sl m f l∧l.length<m∧m≤sz∧(S b∨w0.heap.size≤b)∧b≠g∧w.heap[b]? = some (rowC (slFP sl) (m * 2) 92)
theorem Z51 (sl:Nat→(Int × Int)) (j:Nat):(slFP sl j).oneCell'=true :=by
 unfold slFP encP
 split <;> rfl
theorem zcP (j:Nat):(elP zP).cells[j % (elP zP).cells.size]! = slFP (fun _ =>zP) j :=by
 have:j % 2=0∨j % 2=1 :=by omega
 rcases this with h | h <;> simp [Value.cells,h,slFP,encP]
theorem Z6j {S:Nat→Prop} {w w4:World} {g sz n M f:Nat} {l:List (Int × Int)} {sl:Nat→(Int × Int)} {lv:Value} {F:Nat→Value} (B1:w.heap[g]? = some (Z6m lv sz f n)) (HN:l.length=n) (B2:Rep sl n f l) (A4:S g) (hm:n<M) (hM:M≤sz)
 (hb:w4.heap[w.heap.size]? = some (rowC F (M * 2) 92)) (hF:∀ j,j<M * 2→F j=slFP (Zc2 sl zP n f) j) (hk:Mods (fun i =>i=w.heap.size) w w4) (k:Nat) :
 Zpw S w (((w4.setCell ⟨g,0,none⟩ (.slice (some ⟨w.heap.size,0,none⟩) M M)).setCell ⟨g,2,none⟩ (.int .i64 0)).drewN k) g sz l∧Mods S w (((w4.setCell ⟨g,0,none⟩ (.slice (some ⟨w.heap.size,0,none⟩) M M)).setCell ⟨g,2,none⟩ (.int .i64 0)).drewN k) :=by
 have hg :=Z0a B1
 have e0 :=hk.at B1 (by omega)
 have e1:(w4.setCell ⟨g,0,none⟩ (.slice (some ⟨w.heap.size,0,none⟩) M M)).heap[g]? = some (Z6m (.slice (some ⟨w.heap.size,0,none⟩) M M) sz f n) :=heap_setCell_same w4 g 0 _ _ _ e0
 have e2:((w4.setCell ⟨g,0,none⟩ (.slice (some ⟨w.heap.size,0,none⟩) M M)).setCell ⟨g,2,none⟩ (.int .i64 0)).heap[g]? = some (Z6m (.slice (some ⟨w.heap.size,0,none⟩) M M) sz 0 n) :=heap_setCell_same _ g 2 _ _ _ e1
 have hm2:Mods (fun i =>i=g) w4 ((w4.setCell ⟨g,0,none⟩ (.slice (some ⟨w.heap.size,0,none⟩) M M)).setCell ⟨g,2,none⟩ (.int .i64 0)) :=((Mods.refl (fun i =>i=g) w4).setCell _ _ fun _ =>rfl).setCell _ _ fun _ =>rfl
 have e3 :=hm2.at hb (by omega)
 refine ⟨⟨w.heap.size,Zc2 sl zP n f,M,0,by rw [HN]; exact e2,B2.grow M hm _,by omega,hM, .inr (Nat.le_refl _),by omega,e3.trans (congrArg some (Z1c hF))⟩, ?_⟩
 refine Mods.drewN ?_ k
 refine Mods.seq (T :=fun i =>i=g) (Mods.of_below (hk.below fun i hi e =>by omega)) hm2 fun i _ e =>by rw [e]; exact A4
theorem Zb1 {S:Nat→Prop} {w:World} {g sz:Nat} {l:List (Int × Int)} (h:Z3a S w g sz l) (hl:l.length<sz):Calls Tryz.prog 142 #[.pointer (some ⟨g,0,none⟩)] w fun r w' =>r = .returned (.tuple #[])∧Zpw S w w' g sz l∧Mods S w w' :=by
 obtain ⟨a0,a1,a2,a3,a4,lv,sl,m,f,b1,b2,b3,b4⟩ :=h
 obtain ⟨c0,c1,c2,c3⟩ :=Z3j b1
 have f0 :=Z6l b1 0
 have f2 :=Z6l b1 2
 have hle :=b2.le
 have hgl :=Z0a b1
 have B1 :=Hd b1
 have B2 :=Hd b2
 have A4 :=Hd a4
 have hpos :=b2.pos
 clear b1 b2 a4 a0
 obtain ⟨n,hn⟩:∃ n,l.length=n :=⟨_,rfl⟩
 rw [hn] at hl a3 c3 hle B1
 have HN :=Hd hn
 clear hn
 by_cases hfull:n<m
 ·rcases b4 with ⟨rfl,_⟩ | ⟨hm0,b,rfl,sb,bg,hb⟩
  ·omega
  have HB :=Hd hb
  have SB :=Hd sb
  clear hb sb hpos
  have hlm:(n:Int)<(m:Int) :=Int.ofNat_lt.2 hfull
  go_enter Tryz.func142,Tryz.ntmps142
  go_wp2
  go_quiet (fail)
  go_wp2
  exact bodyPost_ret (v := .tuple #[]) (by simp [results,Tryz.results142,go_sem]) rfl ⟨rfl,⟨b,sl,m,f,by rw [HN.out]; exact B1.out,B2.out,by rw [HN.out]; exact hfull,b3, .inl SB.out,bg,HB.out⟩,(Mods.refl _ w).drewN _⟩
 ·obtain rfl:m=n :=by omega
  clear hle hfull b3 a3
  have hinf :=Zqc
  have hsz :=Zqt
  obtain ⟨M,hM⟩:∃ M,M=min sz (2 * m+1) :=⟨_,rfl⟩
  have hmM:m<M :=by omega
  have hMz:M≤sz :=by omega
  have hM4:M≤4096 :=by omega
  have HMZ :=Hd hMz
  have HMM :=Hd hmM
  by_cases hM2:2 * m+1<sz
  ·have hMv:2 * (m:Int)+1=(M:Int) :=by omega
   have hMi:2 * (m:Int)+1<(sz:Int) :=by omega
   have e1:wrap64 (2 * (m:Int))=2 * (m:Int) :=IntWalk.wrap64_in _ ⟨by omega,by omega⟩
   have e2:wrap64 (2 * (m:Int)+1)=2 * (m:Int)+1 :=IntWalk.wrap64_in _ ⟨by omega,by omega⟩
   clear hM hM2
   rcases b4 with ⟨rfl,rfl⟩ | ⟨hm0,b,rfl,sb,bg,hb⟩
   ·obtain rfl:f=0 :=by omega
    obtain rfl:M=1 :=by omega
    have hs1:1<(sz:Int) :=by omega
    clear e1 e2 hMv hmM hl hMi
    go_enter Tryz.func142,Tryz.ntmps142
    go_wp2
    go_quiet (fail)
    go_wp2
    refine Z01 12 (by kernel_rfl) (by kernel_rfl) ?_; simp only [List.take_succ_cons,List.take_zero,List.drop_succ_cons,List.drop_zero]; (repeat (go_big_quiet_step ((fail)))); refine wpQuiet_nil ?_; rintro _ ⟨nq,rfl⟩
    refine Z0v _ rfl _ _ _ rfl 92 (elP zP) 2 16 Tryz.underlying38 hinf 1 rfl rfl (by omega) (by omega) ?_
    intro w2 hb2 hk2 hs2
    have hb2:w2.heap[w.heap.size]? = some (rowC (fun j =>(elP zP).cells[j % (elP zP).cells.size]!) (1 * 2) 92) :=hb2
    have hk2:Z00 w w2 :=(((Mods.refl _ w).drewN _).drewN _).keep hk2
    have hs2:w2.heap.size=w.heap.size+1 :=hs2
    have HB2 :=Hd hb2
    have HK2 :=Hd hk2
    have y0 :=hk2.cell c0 fun h =>h
    have y2 :=hk2.cell c2 fun h =>h
    clear hb2 hk2
    go_wp2
    refine Z01 10 (by kernel_rfl) (by kernel_rfl) ?_; simp only [List.take_succ_cons,List.take_zero,List.drop_succ_cons,List.drop_zero]; (repeat (go_big_quiet_step ((fail)))); refine wpQuiet_nil ?_; rintro _ ⟨nq,rfl⟩
    refine Z0h rfl _ _ _ _ rfl 92 2 Tryz.underlying38 hsz _ _ _ _ _ _ rfl rfl w.heap.size 0 (1 * 2) 0 _ (fun j =>slFP sl j) _ HB2.out (by rfl) (fun h =>by omega) (by omega) (fun j _ =>Z51 _ _) ?_
    intro w3 hb3 hm3
    have HB3 :=Hd hb3
    have HM3 :=Hd hm3
    have y0 :=hm3.cell (show (w2.drewN nq).cell? _=_ from y0) (Nat.ne_of_lt hgl)
    have y2 :=hm3.cell (show (w2.drewN nq).cell? _=_ from y2) (Nat.ne_of_lt hgl)
    clear hb3 hm3
    go_wp2
    refine Z01 12 (by kernel_rfl) (by kernel_rfl) ?_; simp only [List.take_succ_cons,List.take_zero,List.drop_succ_cons,List.drop_zero]; (repeat (go_big_quiet_step ((fail)))); refine wpQuiet_nil ?_; rintro _ ⟨nq,rfl⟩
    refine Z0h rfl _ _ _ _ rfl 92 2 Tryz.underlying38 hsz _ _ _ _ _ _ rfl rfl w.heap.size 0 (1 * 2) 0 _ (fun j =>slFP sl j) _ HB3.out (by rfl) (fun h =>by omega) (by omega) (fun j _ =>Z51 _ _) ?_
    intro w4 hb4 hm4
    have HB4 :=Hd hb4
    have hm34:Mods (fun i =>i=w.heap.size) w w4 :=(((HK2.out.weaken fun _ _ h =>h.elim).drewN _).trans HM3.out).drewN _ |>.trans hm4
    have HM4 :=Hd hm34
    have y0 :=hm4.cell (show (w3.drewN nq).cell? _=_ from y0) (Nat.ne_of_lt hgl)
    have y2 :=hm4.cell (show (w3.drewN nq).cell? _=_ from y2) (Nat.ne_of_lt hgl)
    have z0 :=hm34.frozen (p :=⟨g,0,none⟩) hgl (Nat.ne_of_lt hgl)
    have z2 :=hm34.frozen (p :=⟨g,2,none⟩) hgl (Nat.ne_of_lt hgl)
    rw [f0] at z0
    rw [f2] at z2
    clear hb4 hm4 hm34
    go_wp2
    go_end0
    exact ⟨rfl,Z6j B1.out HN.out B2.out A4.out HMM.out HMZ.out HB4.out (fun j _ =>by rw [if_neg (by omega),if_neg (by omega),zcP]; rfl) HM4.out 0⟩
   ·have hf:f<m :=by omega
    have hfi:(f:Int)<(m:Int) :=by omega
    have HB :=Hd hb
    have SB :=Hd sb
    have hbl :=Z0a hb
    clear hb sb hpos
    go_enter Tryz.func142,Tryz.ntmps142
    go_wp2
    go_quiet (fail)
    go_wp2
    refine Z01 12 (by kernel_rfl) (by kernel_rfl) ?_; simp only [List.take_succ_cons,List.take_zero,List.drop_succ_cons,List.drop_zero]; (repeat (go_big_quiet_step ((fail)))); refine wpQuiet_nil ?_; rintro _ ⟨nq,rfl⟩
    refine Z0v _ rfl _ _ _ rfl 92 (elP zP) 2 16 Tryz.underlying38 hinf M (by go_num) (by go_num) (by omega) (by omega) ?_
    intro w2 hb2 hk2 hs2
    have hb2:w2.heap[w.heap.size]? = some (rowC (fun j =>(elP zP).cells[j % (elP zP).cells.size]!) (M * 2) 92) :=hb2
    have hk2:Z00 w w2 :=(((Mods.refl _ w).drewN _).drewN _).keep hk2
    have hs2:w2.heap.size=w.heap.size+1 :=hs2
    have HB2 :=Hd hb2
    have HK2 :=Hd hk2
    have y0 :=hk2.cell c0 fun h =>h
    have y2 :=hk2.cell c2 fun h =>h
    clear hb2 hk2
    go_wp2
    refine Z01 10 (by kernel_rfl) (by kernel_rfl) ?_; simp only [List.take_succ_cons,List.take_zero,List.drop_succ_cons,List.drop_zero]; (repeat (go_big_quiet_step ((fail)))); refine wpQuiet_nil ?_; rintro _ ⟨nq,rfl⟩
    refine Z0h rfl _ _ _ _ rfl 92 2 Tryz.underlying38 hsz _ _ _ _ _ _ rfl rfl w.heap.size 0 (M * 2) (m - f) _ (fun j =>slFP sl (f * 2+j)) _ HB2.out (Nat.min_eq_left (by omega)).symm (fun _ =>⟨rfl,b,f * 2,by simp,fun j hj =>?_⟩) (by omega) (fun j _ =>Z51 _ _) ?_
    ·exact HK2.out.cell (Z0t HB.out (f * 2+j) (by omega)) fun h =>h
    intro w3 hb3 hm3
    have HB3 :=Hd hb3
    have HM3 :=Hd hm3
    have y0 :=hm3.cell (show (w2.drewN nq).cell? _=_ from y0) (Nat.ne_of_lt hgl)
    have y2 :=hm3.cell (show (w2.drewN nq).cell? _=_ from y2) (Nat.ne_of_lt hgl)
    have hkm:((m - f:Nat):Int)≤(M:Int) :=by omega
    have hkm0:(0:Int)≤((m - f:Nat):Int) :=by omega
    clear hb3 hm3
    go_wp2
    refine Z01 12 (by kernel_rfl) (by kernel_rfl) ?_; simp only [List.take_succ_cons,List.take_zero,List.drop_succ_cons,List.drop_zero]; (repeat (go_big_quiet_step ((fail)))); refine wpQuiet_nil ?_; rintro _ ⟨nq,rfl⟩
    refine Z0h rfl _ _ _ _ rfl 92 2 Tryz.underlying38 hsz _ _ _ _ _ _ rfl rfl w.heap.size ((m - f) * 2) (M * 2) f _ (fun j =>slFP sl j) _ HB3.out (Nat.min_eq_left (by omega)).symm (fun _ =>⟨by simp,b,0,by simp,fun j hj =>?_⟩) (by omega) (fun j _ =>Z51 _ _) ?_
    ·rw [Nat.zero_add]
     exact (HM3.out.cell (HK2.out.cell (Z0t HB.out j (by omega)) fun h =>h) (Nat.ne_of_lt hbl))
    intro w4 hb4 hm4
    have HB4 :=Hd hb4
    have hm34:Mods (fun i =>i=w.heap.size) w w4 :=(((HK2.out.weaken fun _ _ h =>h.elim).drewN _).trans HM3.out).drewN _ |>.trans hm4
    have HM4 :=Hd hm34
    have y0 :=hm4.cell (show (w3.drewN nq).cell? _=_ from y0) (Nat.ne_of_lt hgl)
    have y2 :=hm4.cell (show (w3.drewN nq).cell? _=_ from y2) (Nat.ne_of_lt hgl)
    have z0 :=hm34.frozen (p :=⟨g,0,none⟩) hgl (Nat.ne_of_lt hgl)
    have z2 :=hm34.frozen (p :=⟨g,2,none⟩) hgl (Nat.ne_of_lt hgl)
    rw [f0] at z0
    rw [f2] at z2
    clear hb4 hm4 hm34
    go_wp2
    go_end0
    exact ⟨rfl,Z6j B1.out HN.out B2.out A4.out HMM.out HMZ.out HB4.out (fun j _ =>by rw [zcP]; exact Z5f 2 (by omega) encP sl zP m f j) HM4.out 0⟩
  ·have hMv:(sz:Int)=(M:Int) :=by omega
   have hMi : ¬ 2 * (m:Int)+1<(sz:Int) :=by omega
   have e1:wrap64 (2 * (m:Int))=2 * (m:Int) :=IntWalk.wrap64_in _ ⟨by omega,by omega⟩
   have e2:wrap64 (2 * (m:Int)+1)=2 * (m:Int)+1 :=IntWalk.wrap64_in _ ⟨by omega,by omega⟩
   clear hM hM2
   rcases b4 with ⟨rfl,rfl⟩ | ⟨hm0,b,rfl,sb,bg,hb⟩
   ·obtain rfl:f=0 :=by omega
    obtain rfl:M=1 :=by omega
    obtain rfl:sz=1 :=by omega
    clear e1 e2 hMv hmM hl hMi
    go_enter Tryz.func142,Tryz.ntmps142
    go_wp2
    go_quiet (fail)
    go_wp2
    refine Z01 12 (by kernel_rfl) (by kernel_rfl) ?_; simp only [List.take_succ_cons,List.take_zero,List.drop_succ_cons,List.drop_zero]; (repeat (go_big_quiet_step ((fail)))); refine wpQuiet_nil ?_; rintro _ ⟨nq,rfl⟩
    refine Z0v _ rfl _ _ _ rfl 92 (elP zP) 2 16 Tryz.underlying38 hinf 1 rfl rfl (by omega) (by omega) ?_
    intro w2 hb2 hk2 hs2
    have hb2:w2.heap[w.heap.size]? = some (rowC (fun j =>(elP zP).cells[j % (elP zP).cells.size]!) (1 * 2) 92) :=hb2
    have hk2:Z00 w w2 :=(((Mods.refl _ w).drewN _).drewN _).keep hk2
    have hs2:w2.heap.size=w.heap.size+1 :=hs2
    have HB2 :=Hd hb2
    have HK2 :=Hd hk2
    have y0 :=hk2.cell c0 fun h =>h
    have y2 :=hk2.cell c2 fun h =>h
    clear hb2 hk2
    go_wp2
    refine Z01 10 (by kernel_rfl) (by kernel_rfl) ?_; simp only [List.take_succ_cons,List.take_zero,List.drop_succ_cons,List.drop_zero]; (repeat (go_big_quiet_step ((fail)))); refine wpQuiet_nil ?_; rintro _ ⟨nq,rfl⟩
    refine Z0h rfl _ _ _ _ rfl 92 2 Tryz.underlying38 hsz _ _ _ _ _ _ rfl rfl w.heap.size 0 (1 * 2) 0 _ (fun j =>slFP sl j) _ HB2.out (by rfl) (fun h =>by omega) (by omega) (fun j _ =>Z51 _ _) ?_
    intro w3 hb3 hm3
    have HB3 :=Hd hb3
    have HM3 :=Hd hm3
    have y0 :=hm3.cell (show (w2.drewN nq).cell? _=_ from y0) (Nat.ne_of_lt hgl)
    have y2 :=hm3.cell (show (w2.drewN nq).cell? _=_ from y2) (Nat.ne_of_lt hgl)
    clear hb3 hm3
    go_wp2
    refine Z01 12 (by kernel_rfl) (by kernel_rfl) ?_; simp only [List.take_succ_cons,List.take_zero,List.drop_succ_cons,List.drop_zero]; (repeat (go_big_quiet_step ((fail)))); refine wpQuiet_nil ?_; rintro _ ⟨nq,rfl⟩
    refine Z0h rfl _ _ _ _ rfl 92 2 Tryz.underlying38 hsz _ _ _ _ _ _ rfl rfl w.heap.size 0 (1 * 2) 0 _ (fun j =>slFP sl j) _ HB3.out (by rfl) (fun h =>by omega) (by omega) (fun j _ =>Z51 _ _) ?_
    intro w4 hb4 hm4
    have HB4 :=Hd hb4
    have hm34:Mods (fun i =>i=w.heap.size) w w4 :=(((HK2.out.weaken fun _ _ h =>h.elim).drewN _).trans HM3.out).drewN _ |>.trans hm4
    have HM4 :=Hd hm34
    have y0 :=hm4.cell (show (w3.drewN nq).cell? _=_ from y0) (Nat.ne_of_lt hgl)
    have y2 :=hm4.cell (show (w3.drewN nq).cell? _=_ from y2) (Nat.ne_of_lt hgl)
    have z0 :=hm34.frozen (p :=⟨g,0,none⟩) hgl (Nat.ne_of_lt hgl)
    have z2 :=hm34.frozen (p :=⟨g,2,none⟩) hgl (Nat.ne_of_lt hgl)
    rw [f0] at z0
    rw [f2] at z2
    clear hb4 hm4 hm34
    go_wp2
    go_end0
    exact ⟨rfl,Z6j B1.out HN.out B2.out A4.out HMM.out HMZ.out HB4.out (fun j _ =>by rw [if_neg (by omega),if_neg (by omega),zcP]; rfl) HM4.out 0⟩
   ·have hf:f<m :=by omega
    have hfi:(f:Int)<(m:Int) :=by omega
    have HB :=Hd hb
    have SB :=Hd sb
    have hbl :=Z0a hb
    clear hb sb hpos
    go_enter Tryz.func142,Tryz.ntmps142
    go_wp2
    go_quiet (fail)
    go_wp2
    refine Z01 12 (by kernel_rfl) (by kernel_rfl) ?_; simp only [List.take_succ_cons,List.take_zero,List.drop_succ_cons,List.drop_zero]; (repeat (go_big_quiet_step ((fail)))); refine wpQuiet_nil ?_; rintro _ ⟨nq,rfl⟩
    refine Z0v _ rfl _ _ _ rfl 92 (elP zP) 2 16 Tryz.underlying38 hinf M (by go_num) (by go_num) (by omega) (by omega) ?_
    intro w2 hb2 hk2 hs2
    have hb2:w2.heap[w.heap.size]? = some (rowC (fun j =>(elP zP).cells[j % (elP zP).cells.size]!) (M * 2) 92) :=hb2
    have hk2:Z00 w w2 :=(((Mods.refl _ w).drewN _).drewN _).keep hk2
    have hs2:w2.heap.size=w.heap.size+1 :=hs2
    have HB2 :=Hd hb2
    have HK2 :=Hd hk2
    have y0 :=hk2.cell c0 fun h =>h
    have y2 :=hk2.cell c2 fun h =>h
    clear hb2 hk2
    go_wp2
    refine Z01 10 (by kernel_rfl) (by kernel_rfl) ?_; simp only [List.take_succ_cons,List.take_zero,List.drop_succ_cons,List.drop_zero]; (repeat (go_big_quiet_step ((fail)))); refine wpQuiet_nil ?_; rintro _ ⟨nq,rfl⟩
    refine Z0h rfl _ _ _ _ rfl 92 2 Tryz.underlying38 hsz _ _ _ _ _ _ rfl rfl w.heap.size 0 (M * 2) (m - f) _ (fun j =>slFP sl (f * 2+j)) _ HB2.out (Nat.min_eq_left (by omega)).symm (fun _ =>⟨rfl,b,f * 2,by simp,fun j hj =>?_⟩) (by omega) (fun j _ =>Z51 _ _) ?_
    ·exact HK2.out.cell (Z0t HB.out (f * 2+j) (by omega)) fun h =>h
    intro w3 hb3 hm3
    have HB3 :=Hd hb3
    have HM3 :=Hd hm3
    have y0 :=hm3.cell (show (w2.drewN nq).cell? _=_ from y0) (Nat.ne_of_lt hgl)
    have y2 :=hm3.cell (show (w2.drewN nq).cell? _=_ from y2) (Nat.ne_of_lt hgl)
    have hkm:((m - f:Nat):Int)≤(M:Int) :=by omega
    have hkm0:(0:Int)≤((m - f:Nat):Int) :=by omega
    clear hb3 hm3
    go_wp2
    refine Z01 12 (by kernel_rfl) (by kernel_rfl) ?_; simp only [List.take_succ_cons,List.take_zero,List.drop_succ_cons,List.drop_zero]; (repeat (go_big_quiet_step ((fail)))); refine wpQuiet_nil ?_; rintro _ ⟨nq,rfl⟩
    refine Z0h rfl _ _ _ _ rfl 92 2 Tryz.underlying38 hsz _ _ _ _ _ _ rfl rfl w.heap.size ((m - f) * 2) (M * 2) f _ (fun j =>slFP sl j) _ HB3.out (Nat.min_eq_left (by omega)).symm (fun _ =>⟨by simp,b,0,by simp,fun j hj =>?_⟩) (by omega) (fun j _ =>Z51 _ _) ?_
    ·rw [Nat.zero_add]
     exact (HM3.out.cell (HK2.out.cell (Z0t HB.out j (by omega)) fun h =>h) (Nat.ne_of_lt hbl))
    intro w4 hb4 hm4
    have HB4 :=Hd hb4
    have hm34:Mods (fun i =>i=w.heap.size) w w4 :=(((HK2.out.weaken fun _ _ h =>h.elim).drewN _).trans HM3.out).drewN _ |>.trans hm4
    have HM4 :=Hd hm34
    have y0 :=hm4.cell (show (w3.drewN nq).cell? _=_ from y0) (Nat.ne_of_lt hgl)
    have y2 :=hm4.cell (show (w3.drewN nq).cell? _=_ from y2) (Nat.ne_of_lt hgl)
    have z0 :=hm34.frozen (p :=⟨g,0,none⟩) hgl (Nat.ne_of_lt hgl)
    have z2 :=hm34.frozen (p :=⟨g,2,none⟩) hgl (Nat.ne_of_lt hgl)
    rw [f0] at z0
    rw [f2] at z2
    clear hb4 hm4 hm34
    go_wp2
    go_end0
    exact ⟨rfl,Z6j B1.out HN.out B2.out A4.out HMM.out HMZ.out HB4.out (fun j _ =>by rw [zcP]; exact Z5f 2 (by omega) encP sl zP m f j) HM4.out 0⟩
theorem Zjz {S:Nat→Prop} {w w2 w3:World} {g sz b m f q:Nat} {l:List (Int × Int)} {sl:Nat→(Int × Int)} (H:Z3a S w g sz l) (hl:l.length<sz) (x:(Int × Int)) (b1:w2.heap[g]? = some (Z6m (.slice (some ⟨b,0,none⟩) m m) sz f l.length)) (b2:Rep sl m f l) (b3:l.length<m) (b4:m≤sz) (b5:S b∨w.heap.size≤b) (b6:b≠g)
 (hm:Mods S w w2) (hq:q=(f+l.length) % m) (h3:w3.heap[b]? = some (rowC (slFP (fun j =>if j=q then x else sl j)) (m * 2) 92)) (m3:Mods (fun i =>i=b) w2 w3) (k:Nat) :
 Z3a (fun i =>S i∨w.heap.size≤i∧i<((w3.setCell ⟨g,3,none⟩ (.int .i64 ((l.length:Int)+1))).drewN k).heap.size) ((w3.setCell ⟨g,3,none⟩ (.int .i64 ((l.length:Int)+1))).drewN k) g sz (l ++ [x])∧Mods S w ((w3.setCell ⟨g,3,none⟩ (.int .i64 ((l.length:Int)+1))).drewN k) :=by
 obtain ⟨a0,a1,a2,a3,a4,_⟩ :=H
 have e2:w3.heap[g]? = some (Z6m (.slice (some ⟨b,0,none⟩) m m) sz f l.length) :=m3.at b1 fun e =>b6 e.symm
 have e3:(w3.setCell ⟨g,3,none⟩ (.int .i64 ((l.length:Int)+1))).heap[g]? = some (Z6m (.slice (some ⟨b,0,none⟩) m m) sz f (l.length+1)) :=heap_setCell_same _ g 3 _ _ _ e2
 have mg :=(Mods.refl (fun i =>i=g) w3).setCell ⟨g,3,none⟩ (.int .i64 ((l.length:Int)+1)) fun _ =>rfl
 have e4 :=mg.at h3 b6
 have hbl :=Z0a e4
 have hmS:Mods S w (w3.setCell ⟨g,3,none⟩ (.int .i64 ((l.length:Int)+1))) :=(hm.seq m3 fun i hi e =>by rcases b5 with h5 | h5; exact e ▸ h5; omega).seq mg fun i _ e =>by rw [e]; exact a4
 refine ⟨⟨fun i hi =>?_,a1,a2,by simp; omega, .inl a4,_,fun j =>if j=q then x else sl j,m,f,by rw [List.length_append]; exact e3,hq ▸ b2.push b3 x,b4, .inr ⟨by omega,b,rfl, ?_,b6,e4⟩⟩,hmS.drewN k⟩
 ·rcases hi with hi | hi
  ·exact Nat.lt_of_lt_of_le (a0 i hi) hmS.size
  ·exact hi.2
 ·rcases b5 with h5 | h5
  ·exact .inl h5
  ·exact .inr ⟨h5,hbl⟩
theorem Zmh {w:World} {b N q:Nat} {sl:Nat→(Int × Int)} (h:w.heap[b]? = some (rowC (slFP sl) N 92)) (e:(Int × Int)) :
 ((w.setCell ⟨b,q * 2,none⟩ (.int .i64 e.1)).setCell ⟨b,q * 2+1,none⟩ (.int .i64 e.2)).heap[b]? = some (rowC (slFP (fun j =>if j=q then e else sl j)) N 92) :=by
 rw [Z41 (.int .i64 e.2) (Z41 (.int .i64 e.1) h)]
 refine congrArg some (Z1c fun j _ =>?_)
 have hj :=Nat.div_add_mod j 2
 have hm :=Nat.mod_lt j (show 0<2 by omega)
 simp only [slFP,encP]
 by_cases hq:j / 2=q
 ·by_cases h0:j % 2=0
  ·rw [if_neg (by omega),if_pos (by omega),if_pos h0,if_pos hq]
  ·rw [if_pos (by omega),if_neg h0,if_pos hq]
 ·rw [if_neg (by omega),if_neg (by omega),if_neg hq]
theorem at2P {w:World} {b N q:Nat} {sl:Nat→(Int × Int)} (h:w.heap[b]? = some (rowC (slFP sl) N 92)) (hq:q * 2+1<N) :
 w.cell? ⟨b,q * 2,none⟩=some (.int .i64 (sl q).1)∧w.cell? ⟨b,q * 2+1,none⟩=some (.int .i64 (sl q).2) :=by
 have h0 :=Z0t h (q * 2) (by omega)
 have h1 :=Z0t h (q * 2+1) hq
 rw [show slFP sl (q * 2) = .int .i64 (sl q).1 from by simp [slFP,encP]] at h0
 rw [show slFP sl (q * 2+1) = .int .i64 (sl q).2 from by simp [slFP,encP,show (q * 2+1) / 2=q from by omega,show (q * 2+1) % 2=1 from by omega]] at h1
 exact ⟨h0,h1⟩
theorem Zb9 {S:Nat→Prop} {w:World} {g sz:Nat} {l:List (Int × Int)} (h:Z3a S w g sz l) (hl:l.length<sz) (x:(Int × Int)) (vb:Nat) (hv:w.cell? ⟨vb,0,none⟩=some (.int .i64 x.1)) (hv2:w.cell? ⟨vb,1,none⟩=some (.int .i64 x.2)) :
 Calls Tryz.prog 96 #[.pointer (some ⟨g,0,none⟩), .slice (some ⟨vb,0,none⟩) 1 1] w fun r w' =>r = .returned (.int .i64 1)∧Z3a (fun i =>S i∨w.heap.size≤i∧i<w'.heap.size) w' g sz (l ++ [x])∧Mods S w w' :=by
 have HFR :=Hd (Z6o h)
 have HGR :=Hd (fun (w':World) (h':Z3a S w' g sz l) =>Zb1 h' hl)
 have H :=Hd h
 have HV :=Hd hv
 have HV2 :=Hd hv2
 have hvb :=cell_lt hv
 have hsz:(1:Int)≤(sz:Int) - l.length :=by omega
 clear h hv hv2
 obtain ⟨x1,x2⟩ :=x
 go_enter Tryz.func96,Tryz.ntmps96
 go_wp2_with fail
 refine HFR.out.mono ?_
 rintro r w1 ⟨rfl,q1,rfl⟩
 go_wp2_with fail
 go_loopw [17] (fun i wr =>(i = .int .i64 0∧Z00 w wr)∨(i = .int .i64 1∧Z3a (fun i =>S i∨w.heap.size≤i∧i<wr.heap.size) wr g sz (l ++ [(x1,x2)])∧Mods S w wr)) (fun i _ =>1 - (intOf i).toNat)
 case atStart =>exact .inl ⟨rfl,(Mods.refl _ w).drewN q1⟩
 case round =>
  rcases hrel with ⟨rfl,hk⟩ | ⟨rfl,hr,hm⟩
  ·have HV1 :=hk.cell HV.out fun h =>h
   have HV2 :=hk.cell HV2.out fun h =>h
   have hks :=hk.size
   have hvw :=cell_lt HV1
   obtain ⟨wx,hwx⟩:∃ wx,wx=wr.alloc (.cells #[.int .i64 x1, .int .i64 x2] 92) :=⟨_,rfl⟩
   have HX :=Hd (show Z00 w wx from hwx ▸ hk.alloc _)
   have bx:wx.heap[wr.heap.size]? = some (.cells #[.int .i64 x1, .int .i64 x2] 92 (0,0)) :=hwx ▸ heap_alloc_last wr _
   have BX :=Hd bx
   have HWX :=Hd hwx
   clear bx hwx hk
   go_wp2_with fail
   rw [← HWX.out]
   refine (HGR.out wx (H.out.mods (T :=fun _ =>False) HX.out fun _ _ h =>h)).mono ?_
   rintro r w2 ⟨rfl,⟨b,sl,m,f,b1,b2,b3,b4,b5,b6,b7⟩,hm2⟩
   have bx2 :=hm2.at BX.out fun h =>Nat.lt_irrefl _ (Nat.lt_of_lt_of_le (H.out.1 _ h) hks)
   have x0:w2.cell? ⟨wr.heap.size,0,none⟩=some (.int .i64 x1) :=by simp [World.cell?,bx2]
   have x2':w2.cell? ⟨wr.heap.size,1,none⟩=some (.int .i64 x2) :=by simp [World.cell?,bx2]
   obtain ⟨c0,c1,c2,c3⟩ :=Z3j b1
   have f3 :=Z6l b1 3
   have hfm:f<m :=by rcases b2.pos with h | h <;> omega
   have hm0:0<m :=by omega
   have hm4:m≤4096 :=by have :=H.out.2.2.1; omega
   have hl4:l.length≤4096 :=by omega
   obtain ⟨p,hp⟩:∃ p,p=(f+l.length) % m :=⟨_,rfl⟩
   have hbg:g≠b :=fun e =>b6 e.symm
   have hsx :=HX.out.size
   have HEND :=Hd (Zjz H.out hl (x1,x2) b1 b2 b3 b4 (b5.imp id fun h =>by omega) b6 ((HX.out.weaken fun _ _ h =>h.elim).trans hm2) hp (Zmh b7 (x1,x2)) (((Mods.refl (fun i =>i=b) w2).setCell _ _ fun _ =>rfl).setCell _ _ fun _ =>rfl))
   obtain ⟨hq0,hq1⟩ :=at2P (q :=p) b7 (by have h:p<m :=hp ▸ Nat.mod_lt _ hm0; clear hp; omega)
   obtain ⟨hpm,hpi,e1,e2,e3,e4,e5⟩ :=Z30 hfm hm4 hl4 hp
   have fq:w2.frozen? ⟨b,p * 2,none⟩=false :=Z28 b7 _
   have fq1:w2.frozen? ⟨b,p * 2+1,none⟩=false :=Z28 b7 _
   clear b1 b2 b3 b4 b5 b7 hm2 hp hfm bx2 hsx
   go_wp2
   refine Z01 21 (by kernel_rfl) (by kernel_rfl) ?_; simp only [List.take_succ_cons,List.take_zero,List.drop_succ_cons,List.drop_zero]; (repeat (go_big_quiet_step ((fail)))); refine wpQuiet_nil ?_; rintro _ ⟨nq,rfl⟩
   clear c0 c1 c2 e1 e2 e3 e4 hpi hpm hl4 hm4 hm0 x0 x2'
   go_wp2
   go_roundw
   case rel =>exact .inr ⟨rfl,HEND.out _⟩
   case measure =>simp [intOf]
  ·have HR :=Hd hr
   have HM :=Hd hm
   clear hr hm
   go_wp2
   go_ret
   exact ⟨rfl,HR.out,HM.out⟩
theorem Zl2 {S:Nat→Prop} {w w0 w1:World} {g sz b m f:Nat} {l:List (Int × Int)} {x:(Int × Int)} {sl:Nat→(Int × Int)} (a0:∀ i,S i→i<w.heap.size) (a1:1≤sz) (a2:sz≤4096) (a3:(x :: l).length≤sz) (a4:S g) (b1:w.heap[g]? = some (Z6m (.slice (some ⟨b,0,none⟩) m m) sz f (x :: l).length)) (b2:Rep sl m f (x :: l)) (b4:m≤sz) (sb:S b) (b6:b≠g)
 (hk:Z00 w w0) (h1:w1.heap[b]? = some (rowC (slFP (fun i =>if i=f then zP else sl i)) (m * 2) 92)) (m1:Mods (fun i =>i=b) w0 w1) (q:Nat) (hq:q=(f+1) % m) :
 Z3a S ((w1.setCell ⟨g,2,none⟩ (.int .i64 (q:Int))).setCell ⟨g,3,none⟩ (.int .i64 (l.length:Int))) g sz l∧Mods S w ((w1.setCell ⟨g,2,none⟩ (.int .i64 (q:Int))).setCell ⟨g,3,none⟩ (.int .i64 (l.length:Int))) :=by
 have e2:w1.heap[g]? = some (Z6m (.slice (some ⟨b,0,none⟩) m m) sz f (x :: l).length) :=m1.at (hk.at b1 fun h =>h) fun e =>b6 e.symm
 have e3:(w1.setCell ⟨g,2,none⟩ (.int .i64 (q:Int))).heap[g]? = some (Z6m (.slice (some ⟨b,0,none⟩) m m) sz q (x :: l).length) :=heap_setCell_same _ g 2 _ _ _ e2
 have e4:((w1.setCell ⟨g,2,none⟩ (.int .i64 (q:Int))).setCell ⟨g,3,none⟩ (.int .i64 (l.length:Int))).heap[g]? = some (Z6m (.slice (some ⟨b,0,none⟩) m m) sz q l.length) :=heap_setCell_same _ g 3 _ _ _ e3
 have m2:Mods (fun i =>i=g) w1 ((w1.setCell ⟨g,2,none⟩ (.int .i64 (q:Int))).setCell ⟨g,3,none⟩ (.int .i64 (l.length:Int))) :=((Mods.refl (fun i =>i=g) w1).setCell _ _ fun _ =>rfl).setCell _ _ fun _ =>rfl
 have hm0:0<m :=by have :=b2.le; simp at this; omega
 have hmS:Mods S w ((w1.setCell ⟨g,2,none⟩ (.int .i64 (q:Int))).setCell ⟨g,3,none⟩ (.int .i64 (l.length:Int))) :=((show Mods S w w1 from ((hk.weaken fun _ _ h =>h.elim).seq m1 fun i _ e =>by rw [e]; exact sb))).seq m2 fun i _ e =>by rw [e]; exact a4
 exact ⟨⟨fun i hi =>Nat.lt_of_lt_of_le (a0 i hi) hmS.size,a1,a2,by simp at a3; omega,a4,_,fun i =>if i=f then zP else sl i,m,q,e4,hq ▸ b2.pop zP,b4, .inr ⟨hm0,b,rfl,sb,b6,m2.at h1 b6⟩⟩,hmS⟩
theorem Zd7 {S:Nat→Prop} {w:World} {g sz:Nat} {l:List (Int × Int)} {x:(Int × Int)} (h:Z3a S w g sz (x :: l)) :
 Calls Tryz.prog 177 #[.pointer (some ⟨g,0,none⟩)] w fun r w' =>r = .returned (.tuple #[elP x, .bool true])∧Z3a S w' g sz l∧Mods S w w' :=by
 have HPK :=Hd (fun (w':World) (hk:Z00 w w') =>Z6a (h.mods hk fun _ _ h =>h) 0 (by simp))
 obtain ⟨a0,a1,a2,a3,a4,lv,sl,m,f,b1,b2,b3,b4⟩ :=h
 have hle :=b2.le
 rcases b4 with ⟨rfl,_⟩ | ⟨hm0,b,rfl,sb,bg,hb⟩
 ·simp at hle
 have hfm:f<m :=by rcases b2.pos with h | h <;> omega
 have hm4:m≤4096 :=Nat.le_trans b3 a2
 obtain ⟨p,hp⟩:∃ p,p=(f+1) % m :=⟨_,rfl⟩
 have hgl :=Z0a b1
 have hbl :=Z0a hb
 have hend:∀ w0,Z00 w w0→∀ j k,Z3a S ((((((w0.drewN j).setCell ⟨b,f * 2,none⟩ (.int .i64 0)).setCell ⟨b,f * 2+1,none⟩ (.int .i64 0)).drewN k).setCell ⟨g,2,none⟩ (.int .i64 (p:Int))).setCell ⟨g,3,none⟩ (.int .i64 (l.length:Int))) g sz l∧Mods S w ((((((w0.drewN j).setCell ⟨b,f * 2,none⟩ (.int .i64 0)).setCell ⟨b,f * 2+1,none⟩ (.int .i64 0)).drewN k).setCell ⟨g,2,none⟩ (.int .i64 (p:Int))).setCell ⟨g,3,none⟩ (.int .i64 (l.length:Int))) :=fun w0 hk j k =>
  Zl2 a0 a1 a2 a3 a4 b1 b2 b3 sb bg (hk.drewN j) (w1 :=(((w0.drewN j).setCell ⟨b,f * 2,none⟩ (.int .i64 0)).setCell ⟨b,f * 2+1,none⟩ (.int .i64 0)).drewN k) (Zmh (w :=w0.drewN j) ((hk.drewN j).at hb fun h =>h) (0,0)) ((((Mods.refl (fun i =>i=b) (w0.drewN j)).setCell _ _ fun _ =>rfl).setCell _ _ fun _ =>rfl).drewN k) p hp
 have HEND :=Hd hend
 have hfree:∀ w0,Z00 w w0→w0.cell? ⟨g,0,none⟩=some (.slice (some ⟨b,0,none⟩) m m)∧w0.cell? ⟨g,2,none⟩=some (.int .i64 (f:Int))∧w0.cell? ⟨g,3,none⟩=some (.int .i64 ((x :: l).length:Int))∧(∀ j,w0.frozen? ⟨g,j,none⟩=false)∧w0.cell? ⟨b,f * 2,none⟩=some (.int .i64 (sl f).1)∧w0.cell? ⟨b,f * 2+1,none⟩=some (.int .i64 (sl f).2)∧∀ j,w0.frozen? ⟨b,j,none⟩=false :=by
  intro w0 hk
  have y1 :=hk.at b1 fun h =>h
  have y2 :=hk.at hb fun h =>h
  obtain ⟨c0,_,c2,c3⟩ :=Z3j y1
  obtain ⟨q0,q1⟩ :=at2P (q :=f) y2 (by omega)
  exact ⟨c0,c2,c3,Z6l y1,q0,q1,Z28 y2⟩
 have HF :=Hd hfree
 obtain ⟨hpm,hpi,e1',e2',e3,e4,e5⟩ :=Z30 hfm hm4 (show 1≤4096 by omega) hp
 have e1:wrap64 ((f:Int)+1)=(f:Int)+1 :=e1'
 have e2:((f:Int)+1).tmod (m:Int)=(p:Int) :=e2'
 clear e1' e2'
 have E1 :=Hd e1
 have E2 :=Hd e2
 have E6 :=Hd (show wrap64 (((x :: l).length:Int) - 1)=(l.length:Int) from by
  clear e1 e2 e3 e4 e5 hp
  rw [List.length_cons]; exact (Z1m (by omega) (by simp at a3; omega)).trans (by omega))
 have hfi:(f:Int)<(m:Int) :=Int.ofNat_lt.2 hfm
 have hgb:g≠b :=fun e =>bg e.symm
 obtain ⟨n,hn⟩:∃ n,n=(x :: l).length :=⟨_,rfl⟩
 rw [← hn] at HF E6
 have SB :=Hd sb
 have A0 :=Hd a0
 have A4 :=Hd a4
 clear b1 b2 b3 hb hp hfm hle a0 a1 a2 a3 a4 sb hm4 hn hend hfree
 go_enter Tryz.func177,Tryz.ntmps177
 go_wp2_with fail
 refine (HPK.out _ ((Mods.refl _ w).alloc _)).mono ?_
 rintro r w1 ⟨rfl,hk1⟩
 have hw1:w1.heap[w.heap.size]? = some (.cells #[.int .i64 0, .int .i64 0] 92 (0,0)) :=hk1.at (heap_alloc_last w (.cells (elP zP).cells 92)) fun h =>h
 obtain ⟨x1,x2⟩ :=x
 have HK1 :=Hd (((Mods.refl (fun _ =>False) w).alloc (.cells (elP zP).cells 92)).keep hk1)
 have hs1 :=Z0a hw1
 go_wp2
 refine Z0l ?_
 intro wz hwz
 have kz:Z00 w1 wz :=by rw [hwz]; (repeat' first | (with_reducible refine Mods.setCell ?_ _ _ (fun _ =>rfl)) | (with_reducible refine Mods.alloc ?_ _) | (with_reducible refine Mods.drewN ?_ _) | (with_reducible refine Mods.drew ?_) | (with_reducible exact Mods.refl _ _))
 have bx:wz.heap[w1.heap.size]? = some (.cells #[.int .i64 x1, .int .i64 x2] 92 (0,0)) :=by
  rw [hwz]
  first
   | exact Z02 (heap_alloc_last w1 _) _
   | exact heap_alloc_last w1 _
 have bz:wz.heap[w1.heap.size+1]? = some (.cells #[.int .i64 0, .int .i64 0] 92 (0,0)) :=by
  rw [hwz]
  have h :=heap_alloc_last (w1.alloc (.cells #[.int .i64 x1, .int .i64 x2] 92)) (.cells #[.int .i64 0, .int .i64 0] 92)
  rw [World.size_alloc] at h
  exact h
 have HKZ :=Hd (HK1.out.keep kz)
 obtain ⟨y0,y2,y3,yf,q0,q1,qf⟩ :=HF.out wz HKZ.out
 have qf0 :=qf (f * 2)
 have qf1 :=qf (f * 2+1)
 have z0:wz.cell? ⟨w1.heap.size+1,0,none⟩=some (.int .i64 0) :=by simp [World.cell?,bz]
 have z1:wz.cell? ⟨w1.heap.size+1,1,none⟩=some (.int .i64 0) :=by simp [World.cell?,bz]
 have BX :=Hd bx
 have BR :=Hd (kz.at hw1 fun h =>h)
 have YF :=Hd yf
 clear yf qf bx bz hk1 hw1 kz hwz
 refine Z01 10 (by kernel_rfl) (by kernel_rfl) ?_; simp only [List.take_succ_cons,List.take_zero,List.drop_succ_cons,List.drop_zero]; (repeat (go_big_quiet_step ((fail)))); refine wpQuiet_nil ?_; rintro _ ⟨nq,rfl⟩
 go_wp2
 refine Z0l ?_
 intro wq hwq
 obtain ⟨j0,hj0⟩:∃ j,wq=((wz.drewN j).setCell ⟨b,f * 2,none⟩ (.int .i64 0)).setCell ⟨b,f * 2+1,none⟩ (.int .i64 0) :=⟨_,hwq⟩
 have mq:Mods (fun i =>i=b) wz wq :=by rw [hj0]; (repeat' first | (with_reducible refine Mods.setCell ?_ _ _ (fun _ =>rfl)) | (with_reducible refine Mods.alloc ?_ _) | (with_reducible refine Mods.drewN ?_ _) | (with_reducible refine Mods.drew ?_) | (with_reducible exact Mods.refl _ _))
 have y0 :=mq.cell y0 hgb
 have y2 :=mq.cell y2 hgb
 have y3 :=mq.cell y3 hgb
 have f2:wq.frozen? ⟨g,2,none⟩=false :=(mq.frozen (p :=⟨g,2,none⟩) (show g<wz.heap.size from cell_lt (HF.out wz HKZ.out).1) hgb).trans (YF.out 2)
 have f3:wq.frozen? ⟨g,3,none⟩=false :=(mq.frozen (p :=⟨g,3,none⟩) (show g<wz.heap.size from cell_lt (HF.out wz HKZ.out).1) hgb).trans (YF.out 3)
 have bx :=mq.at BX.out fun e =>by omega
 have br :=mq.at BR.out fun e =>by omega
 have x0:wq.cell? ⟨w1.heap.size,0,none⟩=some (.int .i64 x1) :=by simp [World.cell?,bx]
 have x1':wq.cell? ⟨w1.heap.size,1,none⟩=some (.int .i64 x2) :=by simp [World.cell?,bx]
 have r0:wq.cell? ⟨w.heap.size,0,none⟩=some (.int .i64 0) :=by simp [World.cell?,br]
 have r1:wq.cell? ⟨w.heap.size,1,none⟩=some (.int .i64 0) :=by simp [World.cell?,br]
 have rf0:wq.frozen? ⟨w.heap.size,0,none⟩=false :=by simp [World.frozen?,br]
 have rf1:wq.frozen? ⟨w.heap.size,1,none⟩=false :=by simp [World.frozen?,br]
 have ngz:g≠w.heap.size :=Nat.ne_of_lt hgl
 have ngx:g≠w1.heap.size :=by omega
 have nxz:w.heap.size≠w1.heap.size :=by omega
 have HFIN :=Hd (show ∀ W:World,Mods (fun i =>i=g) wq W→((W.setCell ⟨w.heap.size,0,none⟩ (.int .i64 x1)).setCell ⟨w.heap.size,1,none⟩ (.int .i64 x2)).cell? ⟨w.heap.size,0,none⟩=some (.int .i64 x1)∧((W.setCell ⟨w.heap.size,0,none⟩ (.int .i64 x1)).setCell ⟨w.heap.size,1,none⟩ (.int .i64 x2)).cell? ⟨w.heap.size,1,none⟩=some (.int .i64 x2) from by
  intro W m
  have d0 :=m.at br fun e =>ngz e.symm
  have d1:(W.setCell ⟨w.heap.size,0,none⟩ (.int .i64 x1)).heap[w.heap.size]? = some (.cells #[.int .i64 x1, .int .i64 0] 92 (0,0)) :=heap_setCell_same W w.heap.size 0 _ _ _ d0
  have d2:((W.setCell ⟨w.heap.size,0,none⟩ (.int .i64 x1)).setCell ⟨w.heap.size,1,none⟩ (.int .i64 x2)).heap[w.heap.size]? = some (.cells #[.int .i64 x1, .int .i64 x2] 92 (0,0)) :=heap_setCell_same _ w.heap.size 1 _ _ _ d1
  generalize (W.setCell ⟨w.heap.size,0,none⟩ (.int .i64 x1)).setCell ⟨w.heap.size,1,none⟩ (.int .i64 x2)=W2 at d2 ⊢
  exact ⟨by simp [World.cell?,d2],by simp [World.cell?,d2]⟩)
 have HJ :=Hd hj0
 clear q0 q1 qf0 qf1 z0 z1 bx br mq hj0 hwq
 refine Z01 14 (by kernel_rfl) (by kernel_rfl) ?_; simp only [List.take_succ_cons,List.take_zero,List.drop_succ_cons,List.drop_zero]; (repeat (go_big_quiet_step ((fail)))); refine wpQuiet_nil ?_; rintro _ ⟨nq,rfl⟩
 clear e1 e2 e3 e4 e5 hfi hpi hpm hm0
 go_wp2
 obtain ⟨p0,p1⟩ :=HFIN.out (((wq.drewN nq).setCell ⟨g,2,none⟩ (.int .i64 (p:Int))).setCell ⟨g,3,none⟩ (.int .i64 (wrap64 ((n:Int) - 1)))) (by (repeat' first | (with_reducible refine Mods.setCell ?_ _ _ (fun _ =>rfl)) | (with_reducible refine Mods.alloc ?_ _) | (with_reducible refine Mods.drewN ?_ _) | (with_reducible refine Mods.drew ?_) | (with_reducible exact Mods.refl _ _)))
 refine bodyPost_ret (v := .tuple #[elP (x1,x2), .bool true]) (by simp [results,Tryz.results177,go_sem,p0,p1]) rfl ⟨rfl, ?_⟩
 rw [E6.out]
 have hh :=HEND.out wz HKZ.out j0 nq
 rw [← HJ.out] at hh
 exact ⟨hh.1.mods (T :=fun i =>i=w.heap.size) (by (repeat' first | (with_reducible refine Mods.setCell ?_ _ _ (fun _ =>rfl)) | (with_reducible refine Mods.alloc ?_ _) | (with_reducible refine Mods.drewN ?_ _) | (with_reducible refine Mods.drew ?_) | (with_reducible exact Mods.refl _ _))) (fun i hi e =>Nat.lt_irrefl _ (e ▸ A0.out i hi)),hh.2.seq (T :=fun i =>i=w.heap.size) (by (repeat' first | (with_reducible refine Mods.setCell ?_ _ _ (fun _ =>rfl)) | (with_reducible refine Mods.alloc ?_ _) | (with_reducible refine Mods.drewN ?_ _) | (with_reducible refine Mods.drew ?_) | (with_reducible exact Mods.refl _ _))) fun i hi e =>absurd hi (by omega)⟩
def Z16 (l:List (Int × Int)):List Value :=l.flatMap fun e => [.int .i64 e.1, .int .i64 e.2]
theorem Za9 (l:List (Int × Int)) (e:(Int × Int)):Z16 (l ++ [e])=Z16 l ++ [.int .i64 e.1, .int .i64 e.2] :=by simp [Z16]
theorem Ziv (l:List (Int × Int)):(Z16 l).length=l.length * 2 :=by
 induction l with
 | nil =>rfl
 | cons a l ih =>simp [Z16] at ih ⊢; omega
theorem Zqf (w:World) (o:Obj) (a b:Value) (t:TypeId):∀ (j:Nat) (v:Value),[a,b][j]? = some v→((w.alloc o).alloc (.cells #[a,b] t)).cell? ((⟨w.heap.size+1,0,none⟩:Addr).add j)=some v :=by
 intro j v hj
 have h :=heap_alloc_last (w.alloc o) (.cells #[a,b] t)
 rw [World.size_alloc] at h
 rw [addr_add]
 unfold World.cell?
 rw [h]
 simpa using hj
theorem Z7n {S:Nat→Prop} {w:World} {g sz:Nat} {l:List (Int × Int)} (h:Z3a S w g sz l) :
 Calls Tryz.prog 43 #[.pointer (some ⟨g,0,none⟩)] w fun r w' => ∃ v,r = .returned v∧w'.ownsRow w.heap.size 92 2 v l.length (Z16 l)∧Z00 w w' :=by
 have HLN :=Hd (Z7y h)
 have HPK :=Hd (fun (w':World) (hk:Z00 w w') (i:Nat) (hi:i<l.length) =>Z6a (h.mods hk fun _ _ h =>h) i hi)
 have hl4:l.length≤4096 :=Nat.le_trans h.2.2.2.1 h.2.2.1
 obtain ⟨i0,hi,hz0,hz1,hz2⟩ :=info_parts Zqg
 obtain ⟨n,hn⟩:∃ n,n=l.length :=⟨_,rfl⟩
 rw [← hn] at HLN hl4
 have HN :=Hd hn
 clear h hn
 go_enter Tryz.func43,Tryz.ntmps43
 go_wp2_with fail
 refine HLN.out.mono ?_
 rintro r w1 ⟨rfl,rfl⟩
 go_wp2_with fail
 go_loopw [3,9] (fun v i wr => ∃ k:Nat,k≤n∧i = .int .i64 k∧wr.ownsRow w.heap.size 92 2 v k (Z16 (l.take k))∧Z00 w wr) (fun _ i _ =>n - (intOf i).toNat)
 case atStart =>exact ⟨0,Nat.zero_le _,rfl,World.ownsRow_nil _ _ _ _,Mods.refl _ _⟩
 case round =>
  obtain ⟨k,hk,rfl,hown,hkp⟩ :=hrel
  by_cases hlt:k<n
  ·have hki:(k:Int)<(n:Int) :=Int.ofNat_lt.2 hlt
   have HK :=Hd hkp
   have HO :=Hd hown
   obtain ⟨va,vc,rfl⟩ :=Z0c hown
   have hkl:k<l.length :=HN.out ▸ hlt
   have hsz :=hkp.size
   clear hkp hown
   go_wp2_with fail
   refine (HPK.out _ HK.out k hkl).mono ?_
   rintro r w2 ⟨rfl,hk2⟩
   have htk:l.take (k+1)=l.take k ++ [l[k]] :=by simp
   obtain ⟨⟨x1,x2⟩,hx⟩:∃ x,l[k]=x :=⟨_,rfl⟩
   rw [hx] at htk ⊢
   have HTK :=Hd htk
   have hown2:w2.ownsRow w.heap.size 92 2 (.slice va k vc) k (Z16 (l.take k)) :=hk2.owns HO.out fun _ _ h =>h
   have hkw :=HK.out.keep hk2
   have hs2 :=hkw.size
   have HO2 :=Hd hown2
   have HK2 :=Hd hkw
   clear hx htk hk2 hown2 hkw
   go_wp2_with (at_builtin; refine wpList_append_own _ rfl _ _ 38 rfl w.heap.size 92 i0 (elP zP) 2 16 Tryz.underlying38 hi hz0 hz1 hz2 rfl (by decide) _ _ _ rfl ((HO2.out.alloc _).alloc _) ⟨w2.heap.size+1,0,none⟩ 1 1 [.int .i64 x1, .int .i64 x2] rfl rfl (Zqf _ _ _ _ _) (fun u hu =>by simp at hu; rcases hu with hu | hu <;> (subst hu; rfl)) (by unfold maxLen; omega) (by omega) (by simp; omega) ?_)
   intro v' w3 hown3 hgrow _
   have HG :=Hd (Z3r (HK2.out.alloc (.cells #[.int .i64 x1, .int .i64 x2] 92)) (HO2.out.alloc _) (Nat.le_refl _) hgrow)
   have HO3 :=Hd (show w3.ownsRow w.heap.size 92 2 v' (k+1) (Z16 (l.take (k+1))) from by rw [HTK.out,Za9]; exact hown3)
   clear hgrow hown3
   go_wp2
   go_roundw
   case rel =>exact ⟨k+1,by omega,by go_num,HO3.out,HG.out⟩
   case measure =>simp [intOf]; omega
  ·obtain rfl:k=n :=by omega
   have HK :=Hd hkp
   have HO :=Hd hown
   clear hkp hown
   go_wp2
   go_ret
   exact ⟨_,rfl,by have :=HO.out; rw [HN.out,List.take_length] at this; rw [HN.out] ; exact this,HK.out⟩
abbrev bucB (b L:Nat) (n:Int):Obj := .cells #[.slice (some ⟨b,0,none⟩) L L, .int .i64 n] 136 (0,0)
def Z58 (S:Nat→Prop) (w:World) (g L:Nat) (bk:Nat→List (Int × Int)):Prop :=
 (∀ i,S i→i<w.heap.size)∧S g∧1≤L∧L≤4096∧∃ b n bv,w.heap[g]? = some (bucB b L n)∧-9223372036854775808≤n∧n≤9223372036854775807∧S b∧b≠g∧w.heap[b]? = some (rowC bv L 236) ∧
  (∀ j,j<L→w.ownsRow 0 238 2 (bv j) (bk j).length (Z16 (bk j))∧∀ k,(bv j).ownBlock=some k→S k∧k≠g∧k≠b) ∧
  (∀ i j,i<L→j<L→i≠j→∀ k,(bv i).ownBlock=some k→(bv j).ownBlock≠some k)
theorem Z58.mods {S T:Nat→Prop} {w w':World} {g L:Nat} {bk:Nat→List (Int × Int)} (h:Z58 S w g L bk) (hm:Mods T w w') (hd:∀ i,S i→¬ T i):Z58 S w' g L bk :=by
 obtain ⟨a0,a1,a2,a3,b,n,bv,b1,n0,n1,b2,b3,b4,b5,b6⟩ :=h
 exact ⟨fun i hi =>Nat.lt_of_lt_of_le (a0 i hi) hm.size,a1,a2,a3,b,n,bv,hm.at b1 (hd _ a1),n0,n1,b2,b3,hm.at b4 (hd _ b2),fun j hj =>⟨hm.owns (b5 j hj).1 fun k hk =>hd k ((b5 j hj).2 k hk).1,(b5 j hj).2⟩,b6⟩
theorem Z58.weak {S T:Nat→Prop} {w:World} {g L:Nat} {bk:Nat→List (Int × Int)} (h:Z58 S w g L bk) (hd:∀ i,S i→T i) (hT:∀ i,T i→i<w.heap.size):Z58 T w g L bk :=by
 obtain ⟨a0,a1,a2,a3,b,n,bv,b1,n0,n1,b2,b3,b4,b5,b6⟩ :=h
 exact ⟨hT,hd _ a1,a2,a3,b,n,bv,b1,n0,n1,hd _ b2,b3,b4,fun j hj =>⟨(b5 j hj).1,fun k hk =>⟨hd k ((b5 j hj).2 k hk).1,((b5 j hj).2 k hk).2⟩⟩,b6⟩
theorem Z61 {w:World} {g b L:Nat} {n:Int} (h:w.heap[g]? = some (bucB b L n)):w.cell? ⟨g,0,none⟩=some (.slice (some ⟨b,0,none⟩) L L)∧w.cell? ⟨g,1,none⟩=some (.int .i64 n)∧w.frozen? ⟨g,1,none⟩=false :=
 ⟨by simp [World.cell?,h],by simp [World.cell?,h],by simp [World.frozen?,h]⟩
theorem Zou:(Tryz.prog.info? 236).map (fun i =>(i.zero,i.size,i.bytes))=some (some (.slice none 0 0),1,24) :=by kernel_rfl
theorem Zre:(Tryz.prog.info? 238).map (fun i =>(i.zero,i.size,i.bytes))=some (some (elP zP),2,16) :=by kernel_rfl
theorem Zge (L:Nat) (w:World) (h1:1≤L) (h2:L≤4096):Calls Tryz.prog 28 #[.int .i64 (L:Int)] w fun r w' => ∃ g,r = .returned (.pointer (some ⟨g,0,none⟩))∧Z58 (fun i =>w.heap.size≤i∧i<w'.heap.size) w' g L (fun _ => [])∧Z00 w w' :=by
 have hz1 : ¬ (L:Int)<1 :=by omega
 have hz2 : ¬ 4096<(L:Int) :=by omega
 have hinf :=Zou
 go_enter Tryz.func28,Tryz.ntmps28
 go_wp2_with (at_make; refine Z0v _ rfl _ _ _ rfl 236 (.slice none 0 0) 1 24 Tryz.underlying134 hinf L rfl rfl (by omega) (by omega) ?_)
 intro w2 hb2 hk2 hs2
 have hb2:w2.heap[w.heap.size]? = some (rowC (fun _ =>.slice none 0 0) L 236) :=by
  rw [hb2]
  exact congrArg some (Z1c fun j _ =>by simp [Nat.mod_one])
 have HB :=Hd hb2
 have HK :=Hd hk2
 have HS :=Hd hs2
 clear hb2 hk2 hz1 hz2
 go_wp2
 go_ret
 have hl :=heap_alloc_last w2 (bucB w.heap.size L 0)
 have hs :=HS.out
 rw [hs] at hl
 refine ⟨_,rfl,⟨fun i hi =>hi.2,⟨by omega,by rw [World.size_alloc]; omega⟩,h1,h2,w.heap.size,0,fun _ =>.slice none 0 0,hl,by omega,by omega,⟨Nat.le_refl _,by rw [World.size_alloc]; omega⟩,by omega,Z02 HB.out _,fun j hj =>⟨World.ownsRow_nil _ _ _ _,fun k hk =>by cases hk⟩,fun i j _ _ _ k hk =>by cases hk⟩,HK.out.alloc _⟩
theorem Zgc {S:Nat→Prop} {w:World} {g L:Nat} {bk:Nat→List (Int × Int)} (h:Z58 S w g L bk):Calls Tryz.prog 47 #[.pointer (some ⟨g,0,none⟩)] w fun r w' =>(∃ n,r = .returned (.int .i64 n))∧w=w' :=by
 obtain ⟨a0,a1,a2,a3,b,n,bv,b1,n0,n1,b2,b3,b4,b5,b6⟩ :=h
 obtain ⟨c0,c1,f1⟩ :=Z61 b1
 clear b1 b4 b5 b6
 go_enter Tryz.func47,Tryz.ntmps47
 go_wp2
 go_ret
 exact ⟨⟨_,rfl⟩,rfl⟩
theorem Z7r (g:Nat) (ep:Int) (w:World) (h0:0≤ep) (h1:ep≤1099511627776):Calls Tryz.prog 138 #[.pointer (some ⟨g,0,none⟩), .int .i64 ep] w fun r w' =>r = .returned (.bool true)∧w=w' :=by
 go_enter Tryz.func138,Tryz.ntmps138
 go_wp2
 go_ret
 exact ⟨rfl,rfl⟩
theorem Zcz (g b L:Nat) (n ep:Int) (w:World) (hb:w.heap[g]? = some (bucB b L n)) (h1:1≤L) (h2:L≤4096) (he:0≤ep):Calls Tryz.prog 139 #[.pointer (some ⟨g,0,none⟩), .int .i64 ep] w fun r w' =>r = .returned (.pointer (some ⟨b,(ep % (L:Int)).toNat,none⟩))∧Z1w w w' :=by
 obtain ⟨c0,c1,f1⟩ :=Z61 hb
 obtain ⟨p,hp⟩:∃ p:Nat,ep % (L:Int)=p :=⟨(ep % (L:Int)).toNat,by have :=Int.emod_nonneg ep (show (L:Int)≠0 by omega); omega⟩
 have hpL:(p:Int)<(L:Int) :=by rw [← hp]; exact Int.emod_lt_of_pos _ (by omega)
 have e2:ep.tmod (L:Int)=(p:Int) :=by rw [← hp]; exact Int.tmod_eq_emod_of_nonneg he
 have e3:((L:Int) == 0)=false :=by simp; omega
 rw [hp,Int.toNat_natCast]
 clear hb hp h1 h2
 go_enter Tryz.func139,Tryz.ntmps139
 go_wp2
 go_quiet (fail)
 go_wp2
 go_ret
 exact ⟨rfl,Z1w.mk _ _⟩
def putB (L:Nat) (bk:Nat→List (Int × Int)) (ep it:Int):Nat→List (Int × Int) :=fun j =>if j=(ep % (L:Int)).toNat then bk j ++ [(ep,it)] else bk j
theorem Znn {S:Nat→Prop} {w w3:World} {g b L p:Nat} {n n':Int} {bk:Nat→List (Int × Int)} {bv:Nat→Value} {v':Value} {x:Int × Int} {o:Obj} (a0:∀ i,S i→i<w.heap.size) (a1:S g) (a2:1≤L) (a3:L≤4096) (b1:w.heap[g]? = some (bucB b L n)) (m0 : -9223372036854775808≤n') (m1:n'≤9223372036854775807) (b2:S b) (b3:b≠g) (b4:w.heap[b]? = some (rowC bv L 236))
 (b5:∀ j,j<L→w.ownsRow 0 238 2 (bv j) (bk j).length (Z16 (bk j))∧∀ k,(bv j).ownBlock=some k→S k∧k≠g∧k≠b) (b6:∀ i j,i<L→j<L→i≠j→∀ k,(bv i).ownBlock=some k→(bv j).ownBlock≠some k)
 (hp:p<L) (q:Nat) (h1:w3.ownsRow 0 238 2 v' ((bk p).length+1) (Z16 (bk p ++ [x]))) (hg:((w.drewN q).alloc o).grownBy w3 (bv p).ownBlock) (hat:v'.ownBlock=(bv p).ownBlock∨v'.ownBlock=some ((w.drewN q).alloc o).heap.size) :
 Z58 (fun i =>S i∨w.heap.size≤i∧i<((w3.setCell ⟨b,p,none⟩ v').setCell ⟨g,1,none⟩ (.int .i64 n')).heap.size) ((w3.setCell ⟨b,p,none⟩ v').setCell ⟨g,1,none⟩ (.int .i64 n')) g L (fun j =>if j=p then bk j ++ [x] else bk j)∧Mods S w ((w3.setCell ⟨b,p,none⟩ v').setCell ⟨g,1,none⟩ (.int .i64 n')) :=by
 have hmS3:Mods (fun i =>(bv p).ownBlock=some i) w w3 :=(((Mods.refl _ w).drewN q).alloc o).grown hg fun k _ hk =>hk
 have hown:∀ k,(bv p).ownBlock=some k→S k∧k≠g∧k≠b :=(b5 p hp).2
 have e1 :=hmS3.at b1 fun h =>(hown g h).2.1 rfl
 have e4 :=hmS3.at b4 fun h =>(hown b h).2.2 rfl
 have e5 :=Z41 (i :=p) v' e4
 have mb:Mods (fun i =>i=b) w3 (w3.setCell ⟨b,p,none⟩ v') :=(Mods.refl (fun i =>i=b) w3).setCell _ _ fun _ =>rfl
 have e6 :=mb.at e1 fun e =>b3 e.symm
 have e7:((w3.setCell ⟨b,p,none⟩ v').setCell ⟨g,1,none⟩ (.int .i64 n')).heap[g]? = some (bucB b L n') :=heap_setCell_same _ g 1 _ _ _ e6
 have mg:Mods (fun i =>i=g) (w3.setCell ⟨b,p,none⟩ v') ((w3.setCell ⟨b,p,none⟩ v').setCell ⟨g,1,none⟩ (.int .i64 n')) :=(Mods.refl (fun i =>i=g) _).setCell _ _ fun _ =>rfl
 have e8 :=mg.at e5 b3
 have m3:Mods (fun i =>i=b∨i=g) w3 ((w3.setCell ⟨b,p,none⟩ v').setCell ⟨g,1,none⟩ (.int .i64 n')) :=(mb.weaken fun _ _ h =>.inl h).seq mg fun _ _ h =>.inr h
 have hmS:Mods S w ((w3.setCell ⟨b,p,none⟩ v').setCell ⟨g,1,none⟩ (.int .i64 n')) :=(hmS3.weaken fun i _ h =>(hown i h).1).seq m3 fun i _ h =>by rcases h with h | h <;> rw [h] <;> assumption
 have hsz:((w.drewN q).alloc o).heap.size=w.heap.size+1 :=by rw [World.size_alloc]; rfl
 have hv':∀ k,v'.ownBlock=some k→(bv p).ownBlock=some k∨w.heap.size<k :=fun k hk =>by
  rcases hat with h | h
  ·exact .inl (h ▸ hk)
  ·rw [h] at hk
   simp only [Option.some.injEq] at hk
   exact .inr (by omega)
 have hbl :=Z0a b4
 have hgl :=Z0a b1
 refine ⟨⟨fun i hi =>?_, .inl a1,a2,a3,b,n',fun j =>if j=p then v' else bv j,e7,m0,m1, .inl b2,b3,e8,fun j hj =>?_,fun i j hi hj hij k hk =>?_⟩,hmS⟩
 ·rcases hi with hi | hi
  ·exact Nat.lt_of_lt_of_le (a0 i hi) hmS.size
  ·exact hi.2
 ·by_cases e:j=p
  ·subst e
   simp only [if_true]
   have hlt :=h1.lt
   refine ⟨?_,fun k hk =>?_⟩
   ·rw [List.length_append]
    exact m3.owns h1 fun k hk h =>by
     rcases hv' k hk with h2 | h2
     ·rcases h with h | h
      ·exact (hown k h2).2.2 h
      ·exact (hown k h2).2.1 h
     ·rcases h with h | h <;> omega
   ·rcases hv' k hk with h2 | h2
    ·exact ⟨.inl (hown k h2).1,(hown k h2).2⟩
    ·exact ⟨.inr ⟨by omega,Nat.lt_of_lt_of_le (hlt k hk).2 m3.size⟩,by omega,by omega⟩
  ·simp only [if_neg e]
   refine ⟨?_,fun k hk =>⟨.inl ((b5 j hj).2 k hk).1,((b5 j hj).2 k hk).2⟩⟩
   have h2 :=hmS3.owns (b5 j hj).1 fun k hk h =>b6 p j hp hj (Ne.symm e) k h hk
   exact m3.owns h2 fun k hk h =>by
    rcases h with h | h
    ·exact ((b5 j hj).2 k hk).2.2 h
    ·exact ((b5 j hj).2 k hk).2.1 h
 ·have hbj:∀ j,j<L→∀ k,(bv j).ownBlock=some k→k<w.heap.size :=fun j hj k hk =>a0 k ((b5 j hj).2 k hk).1
  by_cases e:i=p
  ·simp only [if_pos e] at hk
   have e':j≠p :=fun h =>hij (e.trans h.symm)
   simp only [if_neg e']
   intro hk2
   rcases hv' k hk with h2 | h2
   ·exact b6 p j hp hj (fun h =>e' h.symm) k h2 hk2
   ·have :=hbj j hj k hk2
    omega
  ·simp only [if_neg e] at hk
   by_cases e':j=p
   ·simp only [if_pos e']
    intro hk2
    rcases hv' k hk2 with h2 | h2
    ·exact b6 i p hi hp e k hk h2
    ·have :=hbj i hi k hk
     omega
   ·simp only [if_neg e']
    exact b6 i j hi hj hij k hk
theorem Zoh (w:World) (a b:Value) (t:TypeId):∀ (j:Nat) (v:Value),[a,b][j]? = some v→(w.alloc (.cells #[a,b] t)).cell? ((⟨w.heap.size,0,none⟩:Addr).add j)=some v :=by
 intro j v hj
 have h :=heap_alloc_last w (.cells #[a,b] t)
 rw [addr_add]
 unfold World.cell?
 rw [h]
 simpa using hj
theorem Zgl {S:Nat→Prop} {w:World} {g L:Nat} {bk:Nat→List (Int × Int)} (h:Z58 S w g L bk) (ep it:Int) (h0:0≤ep) (h1:ep≤1099511627776) (hlen:∀ j,(bk j).length≤1000000) :
 Calls Tryz.prog 94 #[.pointer (some ⟨g,0,none⟩), .int .i64 ep, .int .i64 it] w fun r w' =>r = .returned (.bool true)∧Z58 (fun i =>S i∨w.heap.size≤i∧i<w'.heap.size) w' g L (putB L bk ep it)∧Mods S w w' :=by
 obtain ⟨a0,a1,a2,a3,b,n,bv,b1,n0,n1,b2,b3,b4,b5,b6⟩ :=h
 have HV :=Hd (fun w =>Z7r g ep w h0 h1)
 have HAT :=Hd (Zcz g b L n ep w b1 a2 a3 h0)
 obtain ⟨i0,hi,hz0,hz1,hz2⟩ :=info_parts Zre
 unfold putB
 obtain ⟨p,hp⟩:∃ p,p=(ep % (L:Int)).toNat :=⟨_,rfl⟩
 rw [← hp] at HAT ⊢
 have hpL:p<L :=by
  have h2 :=Int.emod_lt_of_pos ep (show (0:Int)<(L:Int) by omega)
  have h3 :=Int.emod_nonneg ep (show (L:Int)≠0 by omega)
  omega
 have hO :=(b5 p hpL).1
 have hcell:w.cell? ⟨b,p,none⟩=some (bv p) :=Z0t b4 p hpL
 have hl :=hlen p
 have HEND :=Hd (fun (n':Int) (m0 : -9223372036854775808≤n') (m1:n'≤9223372036854775807) (q:Nat) (w3:World) (v':Value) (o:Obj) (k1:w3.ownsRow 0 238 2 v' ((bk p).length+1) (Z16 (bk p ++ [(ep,it)]))) (k2:((w.drewN q).alloc o).grownBy w3 (bv p).ownBlock) (k3:v'.ownBlock=(bv p).ownBlock∨v'.ownBlock=some ((w.drewN q).alloc o).heap.size) =>Znn a0 a1 a2 a3 b1 m0 m1 b2 b3 b4 b5 b6 hpL q k1 k2 k3)
 have HOW :=Hd (fun k hk =>(b5 p hpL).2 k hk)
 have HO :=Hd hO
 have B1 :=Hd b1
 have B4 :=Hd b4
 have N0 :=Hd n0
 obtain ⟨va,vc,hbv⟩ :=Z0c hO
 have hwr : -9223372036854775808≤wrap64 (n+1)∧wrap64 (n+1)≤9223372036854775807 :=by
  unfold wrap64
  omega
 have HWR :=Hd hwr
 rw [hbv] at hcell
 clear b1 b4 b5 b6 a0 a1 b2 hO h0 h1 hlen hp hwr
 go_enter Tryz.func94,Tryz.ntmps94
 go_wp2_with fail
 refine (HV.out _).mono ?_
 rintro r w1 ⟨rfl,rfl⟩
 go_wp2_with fail
 refine HAT.out.mono ?_
 rintro r w1 ⟨rfl,q,rfl⟩
 go_wp2_with (at_builtin; refine wpList_append_own_at _ rfl _ _ 236 rfl 0 238 i0 (elP zP) 2 16 Tryz.underlying236 hi hz0 hz1 hz2 rfl (by decide) _ _ _ rfl (hbv ▸ ((Mods.refl (fun _ =>False) w).drewN q |>.alloc _).owns HO.out (fun _ _ h =>h)) ⟨w.heap.size,0,none⟩ 1 1 [.int .i64 ep, .int .i64 it] rfl rfl (Zoh (w.drewN q) _ _ _) (fun u hu =>by simp at hu; rcases hu with hu | hu <;> (subst hu; rfl)) (by unfold maxLen; omega) (by omega) (Nat.zero_le _) ?_)
 intro v' w3 k1 k2 _ k3
 rw [← Za9 (bk p) (ep,it)] at k1
 have hm3:Mods (fun i =>(bv p).ownBlock=some i) w w3 :=(((Mods.refl _ w).drewN q).alloc _).grown (hbv ▸ k2) fun k _ hk =>hk
 have nb : ¬ (bv p).ownBlock=some b :=fun h =>(HOW.out b h).2.2 rfl
 have ng : ¬ (bv p).ownBlock=some g :=fun h =>(HOW.out g h).2.1 rfl
 have hcell3 :=hm3.cell (p :=⟨b,p,none⟩) hcell nb
 have hb4 :=hm3.at B4.out nb
 have hb1 :=hm3.at B1.out ng
 have f3 :=Z28 hb4 p
 obtain ⟨_,d1,f1⟩ :=Z61 hb1
 have hgb:g≠b :=fun e =>b3 e.symm
 have HE :=Hd (HEND.out _ HWR.out.1 HWR.out.2 q w3 v' _ k1 (hbv ▸ k2) (by
  rw [hbv]
  rcases k3 with h | h
  ·exact .inl h
  ·exact .inr (by rw [h,World.size_alloc]; rfl)))
 obtain ⟨sa,sc,rfl⟩ :=Z0c k1
 clear k1 k2 k3 hm3 nb ng hb4 hb1 hcell hbv
 go_wp2
 go_ret
 exact ⟨rfl,HE.out⟩
end Go.Proofs.YtecapfmmoejikaaGreat
