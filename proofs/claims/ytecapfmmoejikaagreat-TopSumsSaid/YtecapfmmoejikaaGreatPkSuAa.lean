/- A part of the proof of TopSums: SumL Amt Tsu. -/
import Derived.Test.YtecapfmmoejikaaGreatPkBq
set_option maxRecDepth 4000
set_option maxHeartbeats 8000000
namespace Go.Proofs.YtecapfmmoejikaaGreat
open Go.RowKit Go.Eg
def depO (c:Nat→Int) (E:En) (o:Od):Int :=if o.kd=1∧(apX c E o).1=0 then o.am else 0
theorem enTk1_led (c:Nat→Int) (E:En):(Z4s c E).led=E.led :=by
 unfold Z4s
 split <;> rfl
theorem burn_d (s:Led) (x:Int):(s.burn x).d=s.d∧(s.burn x).p=s.p :=by
 unfold Led.burn
 split <;> exact ⟨rfl,rfl⟩
theorem slash_led (c:Nat→Int) (E:En) (i:Int):(Z1e c E i).led.d=E.led.d∧(Z1e c E i).led.p=E.led.p :=by
 have hb :=burn_d E.led (Z9q (E.b / c 13) c (vAt E.vs i))
 unfold Z1e Z3f
 split
 ·split
  ·exact hb
  ·split
   ·exact hb
   ·exact hb
 ·exact ⟨rfl,rfl⟩
theorem leave_led (c:Nat→Int) (E:En) (k i:Int):(Z18 c E k i).led=E.led :=by
 unfold Z18
 split <;> rfl
theorem led_apply {c:Nat→Int} (hV:Vld c) {E:En} {n:Nat} (h:Inv c E n) (hn:n≤9000) (o:Od) :
 (Z3w c E o).led.d=E.led.d+depO c E o∧(Z3w c E o).led.p=E.led.p+pmS (apP c E o) :=by
 unfold depO
 by_cases h7:o.kd=7
 ·have hP :=((h.tk1 hV (by omega)).pay hV).led
  rw [enTk1_led] at hP
  have h1 : ¬ (o.kd=1∧(apX c E o).1=0) :=fun h =>by omega
  rw [if_neg h1]
  unfold Z3w apP
  rw [if_pos h7,if_pos h7]
  unfold Zan
  rw [hP]
  exact ⟨by dsimp only; omega,rfl⟩
 ·have hp:pmS (apP c E o)=0 :=by unfold apP; rw [if_neg h7]; rfl
  rw [hp]
  have he:Z3w c E o=actE c E o :=by unfold Z3w; rw [if_neg h7]
  rw [he]
  unfold actE
  by_cases h1:o.kd=1
  ·rw [if_pos h1]
   by_cases hc:Z3b c E o.am=0
   ·have ha:(apX c E o).1=0 :=by
     unfold apX actR
     rw [if_neg h7,if_pos h1]
     unfold Z4r
     rw [if_pos hc]
     rfl
    have hdc:E.led.depC o.am=0 :=by
     have h :=hc
     unfold Z3b at h
     split at h
     ·cases h
     ·split at h
      ·cases h
      ·split at h
       ·cases h
       ·exact h
    rw [if_pos ⟨h1,ha⟩]
    unfold Z73
    rw [if_pos hc]
    unfold Led.dep
    rw [if_pos hdc]
    exact ⟨rfl,(Int.add_zero _).symm⟩
   ·have ha : ¬ (apX c E o).1=0 :=by
     unfold apX actR
     rw [if_neg h7,if_pos h1]
     unfold Z4r
     rw [if_neg hc]
     simp [hc]
    rw [if_neg (fun h =>ha h.2)]
    unfold Z73
    rw [if_neg hc]
    exact ⟨(Int.add_zero _).symm,(Int.add_zero _).symm⟩
  ·rw [if_neg h1,if_neg (show ¬ (o.kd=1∧(apX c E o).1=0) from fun h =>h1 h.1)]
   have hz:∀ X:En,X.led.d=E.led.d∧X.led.p=E.led.p→X.led.d=E.led.d+0∧X.led.p=E.led.p+0 :=fun X hX =>⟨by rw [hX.1]; omega,by rw [hX.2]; omega⟩
   refine hz _ ?_
   split
   ·rw [leave_led]; exact ⟨rfl,rfl⟩
   ·split
    ·rw [leave_led]; exact ⟨rfl,rfl⟩
    ·split
     ·exact slash_led c E o.ix
     ·split
      ·unfold Z4p
       split <;> exact ⟨rfl,rfl⟩
      ·split
       ·unfold Z4q
        split <;> exact ⟨rfl,rfl⟩
       ·exact ⟨rfl,rfl⟩
theorem apP_nn {c:Nat→Int} (hV:Vld c) {E:En} {n:Nat} (h:Inv c E n) (hn:n≤9000) (o:Od):∀ p∈apP c E o,0≤p.2.1 :=by
 unfold apP
 split
 ·exact ((h.tk1 hV (by omega)).pay hV).pm
 ·intro p hp; cases hp
theorem apP_len {c:Nat→Int} (hV:Vld c) {E:En} {n:Nat} (h:Inv c E n) (hn:n≤9000) (o:Od):((apP c E o).length:Int)≤c 15 :=by
 have :=hV.c15
 unfold apP
 split
 ·exact ((h.tk1 hV (by omega)).pay hV).pl
 ·show ((0:Nat):Int)≤c 15; omega
theorem pmS_take_le:∀ (l:List Pm) (j:Nat),(∀ p∈l,0≤p.2.1)→0≤pmS (l.take j)∧pmS (l.take j)≤pmS l
 | [],j,_ =>by rw [List.take_nil]; exact ⟨Int.le_refl _,Int.le_refl _⟩
 | p :: r,0,h =>by
  have h1 :=pmS_take_le r 0 (fun x hx =>h x (List.mem_cons_of_mem _ hx))
  have h2 :=h p (List.mem_cons_self ..)
  rw [List.take_zero] at h1 ⊢
  simp only [pmS] at h1 ⊢
  omega
 | p :: r,j+1,h =>by
  have h1 :=pmS_take_le r j (fun x hx =>h x (List.mem_cons_of_mem _ hx))
  have h2 :=h p (List.mem_cons_self ..)
  rw [List.take_succ_cons]
  simp only [pmS]
  omega
theorem pmS_step {l:List Pm} {j:Nat} (hj:j<l.length):pmS (l.take (j+1))=pmS (l.take j)+l[j].2.1 :=by
 rw [List.take_succ_eq_append_getElem hj,Z76]
 simp [pmS]
end Go.Proofs.YtecapfmmoejikaaGreat
namespace Go.Eg
open Go Go.RowKit
def lsF (xs:List Int) (j:Nat):Int :=(xs[j]?).getD 0
def lsS:List Int→Int
 | [] =>0
 | x :: r =>x+lsS r
theorem lsS_append:∀ (a b:List Int),lsS (a ++ b)=lsS a+lsS b
 | [],b =>by simp [lsS]
 | x :: r,b =>by simp only [List.cons_append,lsS,lsS_append r b]; omega
theorem sum_lsF (xs:List Int):∀ k,k≤xs.length→sumF (lsF xs) k=lsS (xs.take k)
 | 0,_ =>by simp [sumF,lsS]
 | k+1,hk =>by
  rw [sumF,sum_lsF xs k (by omega),List.take_succ_eq_append_getElem (show k<xs.length by omega),lsS_append]
  simp [lsF,lsS,List.getElem?_eq_getElem (show k<xs.length by omega)]
theorem amts_ls {w:World} {B:Nat} {e:TypeId} {v:Value} {xs:List Int} (h:w.ownsRow B e 1 v xs.length (xs.map fun x =>Value.int .u64 x)) (hx:∀ x∈xs,0≤x∧x≤maxU):Amts w v xs.length (lsF xs) :=by
 have hf:∀ j,j<xs.length→0≤lsF xs j∧lsF xs j≤maxU :=fun j hj =>by
  have :=hx xs[j] (List.getElem_mem hj)
  simpa only [lsF,List.getElem?_eq_getElem hj,Option.getD_some] using this
 refine ⟨?_,hf⟩
 rcases Sl.of_owns h with ⟨rfl,hx⟩ | ⟨b,off,cap,rfl,hc,hx⟩
 ·have:xs.length=0 :=by simpa using congrArg List.length hx
  exact ⟨none,0,by rw [this],fun h =>by omega⟩
 ·refine ⟨_,cap,by rw [List.length_map],fun _ =>⟨b,off,rfl,fun j hj =>hx j _ ?_⟩⟩
  simp [lsF,List.getElem?_eq_getElem hj]
theorem lsS_bal:∀ l:List Vd,lsS (l.map Vd.bal)=totS l
 | [] =>rfl
 | v :: r =>by rw [List.map_cons,lsS,lsS_bal r]; rfl
end Go.Eg
namespace Go.Proofs.YtecapfmmoejikaaGreat
open Go.RowKit Go.Eg
theorem topSums_walk (c:Nat→Int) (v:Value) (w:World) (w0:∀ (i:Nat) (k:IntKind),Zlu[i]? = some k→(Lit.int k (c i)).wf=true) (w1:∃ l,OdL w v l∧l.length≤9223372036854775807∧∀ x∈l,x.ok) :
 Calls Tryz.prog 4 #[cfgV c,v] w fun r w' =>r = .returned (.bool true)∧Below w.heap.size w w' :=by
 obtain ⟨h9,h18⟩ :=Zpz w0
 obtain ⟨l,hl,hll,hok⟩ :=w1
 have HL :=Hd hl
 have HOK :=Hd hok
 obtain ⟨va,vc,rfl⟩ :=hl.slice
 have HF :=Hd (fun w =>Zod c va l.length vc w hll)
 have HR :=Hd (fun w =>Zqh w)
 have hx :=heap_alloc_last w (.cells (cfgC c) 24)
 clear hl hok w0
 go_enter Tryz.func4,Tryz.ntmps4
 go_wp2_with ((with_reducible refine Z1a ?_); (refine Z03 rfl 24 _ rfl w.heap.size rfl 24 (cfgC c) (0,0) _ Tryz.underlying24 rfl Z0m hx ?_))
 refine (HF.out _).mono ?_
 rintro r w1 ⟨hr,hk1⟩
 have hk:Z00 w w1 :=((Mods.refl _ w).alloc _).keep hk1
 have hz1 :=hk1.at hx fun h =>h
 obtain ⟨z,hz⟩:∃ z,z=w.heap.size :=⟨_,rfl⟩
 rw [← hz] at hz1 ⊢
 have HZ :=Hd hz
 have HK :=Hd hk
 have HZ1 :=Hd hz1
 rcases hr with rfl | ⟨rfl,hfit⟩
 ·clear hk1 hx hk hz1 hz
  go_wp2_with fail
  refine (HR.out _).mono ?_
  rintro r w2 ⟨rfl,hk2⟩
  have HKK :=Hd (HK.out.keep hk2)
  clear hk2
  go_wp2
  go_ret
  exact ⟨rfl,HKK.out.below'⟩
 ·have hV :=Zog hfit.chk
  have HV :=Hd hV
  have HN :=Hd (fun w =>eNew c w hV hfit.chk)
  have hn4 :=hfit.n
  have HI :=Hd (Inv.run hV h18 l (by omega) HOK.out)
  clear hk1 hx hk hz1 hz hV hfit
  have hz1 :=HZ1.out
  go_wp2_with ((with_reducible refine Z1a ?_); (refine Z03 rfl 24 _ rfl z rfl 24 (cfgC c) (0,0) _ Tryz.underlying24 rfl Z0m hz1 ?_))
  refine (HN.out _).mono ?_
  rintro r w2 ⟨e,p,own,rfl,hE,hX⟩
  have HE :=Hd hE
  have ST :=Hd (show (w2.heap[z]? = some (.cells (cfgC c) 24 (0,0))∧own z=0)∧Z00 w w2∧∀ i,i<z→own i=0 from
   ⟨hX.at HZ1.out rfl,HK.out.seq hX.mods fun i _ h =>absurd rfl h,fun i hi =>hX.old i (Nat.lt_trans hi (Z0a HZ1.out))⟩)
  clear hE hX hz1
  go_wp2
  go_loopw [7,8,32] (fun sd sp i wr => ∃ (k:Nat) (own:Nat→Nat),i = .int .i64 (k:Int)∧k≤l.length∧sd = .int .u64 (Z05 c (l.take k)).led.d∧sp = .int .u64 (Z05 c (l.take k)).led.p∧Z0i own wr e c (Z05 c (l.take k)) p (400000 * k)∧Z00 w wr∧∀ i,i<z→own i=0) (fun _ _ i _ =>l.length - (intOf i).toNat)
  case atStart =>
   obtain ⟨s1,s2,s3⟩ :=ST.out
   exact ⟨0,own,rfl,Nat.zero_le _,rfl,rfl,HE.out,s2,s3⟩
  case round =>
   obtain ⟨k,ow,rfl,hkl,rfl,rfl,hE,hM,hZ0⟩ :=hrel
   have HM :=Hd hM
   have HZ0 :=Hd hZ0
   by_cases hlt:k<l.length
   ·have hki:(k:Int)<l.length :=by omega
    obtain ⟨b,off,rfl,c0,c1,c2,c3⟩ :=(HL.out.keeps hM).at k hlt
    have hoo :=HOK.out l[k] (List.getElem_mem hlt)
    have HST :=Hd (Zab c hlt)
    generalize l[k]=o at *
    have HAP :=Hd (Zpe (hE.keeps ((Mods.refl (fun _ =>False) wr).alloc (odB o))) HV.out h9 h18 o hoo (HI.out k hkl) (by omega) (by omega))
    have HI0 :=Hd (HI.out k hkl)
    have HI1 :=Hd (HI.out (k+1) hlt)
    have hob0:ow wr.heap.size=0 :=hE.new _ (Nat.le_refl _)
    have HNN :=Hd (apP_nn HV.out (HI.out k hkl) (by omega) o)
    have HLL :=Hd (apP_len HV.out (HI.out k hkl) (by omega) o)
    obtain ⟨hld,hlp⟩ :=led_apply HV.out (HI.out k hkl) (by omega) o
    rw [← HST.out] at HAP hld hlp
    obtain ⟨EN,hEN⟩:∃ EN,EN=Z05 c (l.take (k+1)) :=⟨_,rfl⟩
    rw [← hEN] at HAP HI1 hld hlp
    have HEN :=Hd hEN
    obtain ⟨E0,hE0⟩:∃ E0,E0=Z05 c (l.take k) :=⟨_,rfl⟩
    rw [← hE0] at HAP HI0 HNN HLL hld hlp ⊢
    have HLD :=Hd hld
    have HLP :=Hd hlp
    obtain ⟨kd,ix,tg,am⟩ :=o
    clear hE hM hZ0 hoo HST hEN hE0 hld hlp
    go_wp2_with fail
    refine HAP.out.mono ?_
    rintro r w4 ⟨aa,ac,pa,pc,rfl,own2,hE2,hX2, -,hpr⟩
    obtain ⟨hbo,hbz⟩ :=hX2.at (heap_alloc_last wr (odB ⟨kd,ix,tg,am⟩)) hob0
    obtain ⟨d0,d1,d2,d3⟩ :=Z2q hbo
    have hm4:Z00 w w4 :=(HM.out.alloc (odB ⟨kd,ix,tg,am⟩)).seq hX2.mods fun i hi h =>absurd (HZ0.out i (by rw [HZ.out]; exact hi)) h
    have hzz:∀ i,i<z→own2 i=0 :=fun i hi =>(hX2.old i (by have :=hm4.size; have :=HM.out.size; have :=HZ.out; rw [World.size_alloc]; omega)).trans (HZ0.out i hi)
    obtain ⟨L,hL⟩:∃ L,L=apP c E0 ⟨kd,ix,tg,am⟩ :=⟨_,rfl⟩
    rw [← hL] at hpr HNN HLL HLP ⊢
    have hdep:depO c E0 ⟨kd,ix,tg,am⟩=if kd=1∧(apX c E0 ⟨kd,ix,tg,am⟩).1=0 then am else 0 :=rfl
    rw [hdep] at HLD
    generalize (apX c E0 ⟨kd,ix,tg,am⟩)=AX at *
    generalize (apA c E0 ⟨kd,ix,tg,am⟩).length=AN at *
    generalize (apN c E0 ⟨kd,ix,tg,am⟩)=VN at *
    obtain ⟨x1,x2,x3⟩ :=AX
    have HE2 :=Hd hE2
    have HM4 :=Hd hm4
    have HZZ :=Hd hzz
    have HPR :=Hd hpr
    have hbr :=heap_alloc_last w4 (.cells (rcC kd x1 x2 EN.b (EN.b / c 13) x3 (.slice aa AN ac) (.slice pa L.length pc) VN) 46)
    have f1:(w4.alloc (.cells (rcC kd x1 x2 EN.b (EN.b / c 13) x3 (.slice aa AN ac) (.slice pa L.length pc) VN) 46)).cell? ⟨w4.heap.size,1,none⟩=some (.int .i64 x1) :=by rw [cell_of_row _ _ _ _ _ _ hbr]; rfl
    have f7:(w4.alloc (.cells (rcC kd x1 x2 EN.b (EN.b / c 13) x3 (.slice aa AN ac) (.slice pa L.length pc) VN) 46)).cell? ⟨w4.heap.size,7,none⟩=some (.slice pa L.length pc) :=by rw [cell_of_row _ _ _ _ _ _ hbr]; rfl
    have hbl :=Z0a hbo
    clear hE2 hm4 hzz hpr hX2 hL hdep hbo hbr c0 c1 c2 c3
    go_upto_region 11 with ((with_reducible refine Z1a ?_); (refine Z2c (t :=46) (old :=rcC 0 0 0 0 0 0 (.slice none 0 0) (.slice none 0 0) 0) (cs :=rcC kd x1 x2 EN.b (EN.b / c 13) x3 (.slice aa AN ac) (.slice pa L.length pc) VN) rfl 46 _ _ rfl rfl rfl Z9u rfl rfl ?_))
    obtain ⟨WB,hWB⟩:∃ x,x=w4.alloc (.cells (rcC kd x1 x2 EN.b (EN.b / c 13) x3 (.slice aa AN ac) (.slice pa L.length pc) VN) 46) :=⟨_,rfl⟩
    rw [← hWB] at f1 f7 ⊢
    have hkB:Z00 w4 WB :=Z0f hWB
    have hg3 :=hkB.cell d3 fun h =>h
    have hg0 :=hkB.cell d0 fun h =>h
    have HKB :=Hd hkB
    have hld1:EN.led.d≤maxU :=HI1.out.lok.d1
    clear hkB hWB d0 d1 d2 d3
    try go_frame
    have hs0:0≤EN.led.d :=by have h :=HI1.out.lok; have :=h.p0; have :=h.b0; have :=h.s0; omega
    have HS0 :=Hd (And.intro hs0 hld1)
    clear hs0 hld1
    go_cut [46] (fun s46 wd =>s46 = .bool (kd == 1 && x1 == 0)∧wd=WB)
    case first =>
     by_cases h1:kd=1
     ·subst h1
      by_cases hx1:x1=0
      ·subst hx1
       go_wp2
       go_meet
       case rel =>exact ⟨rfl,rfl⟩
      ·have hxb:(x1 == 0)=false :=by simpa using hx1
       go_wp2
       go_meet
       case rel =>exact ⟨by simp [hx1],rfl⟩
     ·have hkb:(kd == 1)=false :=by simpa using h1
      go_wp2
      go_meet
      case rel =>exact ⟨by simp [h1],rfl⟩
    case rest =>
    obtain ⟨rfl,rfl⟩ :=hcut
    go_upto_if 46 with (fail)
    go_cut [7] (fun s7 wd =>s7 = .int .u64 EN.led.d∧wd=wc)
    case first =>
     by_cases h1:kd=1∧x1=0
     ·obtain ⟨rfl,rfl⟩ :=h1
      have hw:IntKind.u64.wrap (E0.led.d+am)=EN.led.d :=by
       have h :=HS0.out
       rw [HLD.out,if_pos ⟨rfl,rfl⟩] at h ⊢
       rw [IntKind.wrap_u64]
       unfold maxU at h
       omega
      have HW :=Hd hw
      clear hw
      go_wp2
      go_meet
      case rel =>exact ⟨congrArg (Value.int .u64) HW.out,rfl⟩
     ·have hw:EN.led.d=E0.led.d :=by rw [HLD.out,if_neg h1]; omega
      have HW :=Hd hw
      have hb:(kd == 1 && x1 == 0)=false :=by
       cases hq:(kd == 1 && x1 == 0)
       ·rfl
       ·exact absurd (by simpa using hq) h1
      rw [hb]
      clear hw hb
      go_wp2
      go_meet
      case rel =>exact ⟨congrArg (Value.int .u64) HW.out.symm,rfl⟩
    case rest =>
     obtain ⟨rfl,rfl⟩ :=hcut
     go_wp2_with fail
     go_loopw [8,54] (fun s i wi => ∃ j:Nat,i = .int .i64 (j:Int)∧j≤L.length∧s = .int .u64 (E0.led.p+pmS (L.take j))∧Z00 wc wi) (fun _ i _ =>L.length - (intOf i).toNat)
     case atStart =>exact ⟨0,rfl,Nat.zero_le _,by rw [List.take_zero]; exact congrArg (Value.int .u64) (Int.add_zero _).symm,Mods.refl _ _⟩
     case round =>
      obtain ⟨j,rfl,hj,rfl,hkj⟩ :=hrel
      have HKJ :=Hd hkj
      have hln:L.length≤4096 :=by have :=HLL.out; have :=HV.out.c15; omega
      by_cases hjl:j<L.length
      ·have hji:(j:Int)<L.length :=by omega
       have hown :=(HKB.out.keep hkj).owns HPR.out fun _ _ h =>h
       obtain ⟨g,gcap,hpe, -, -⟩ :=hown.form (by omega)
       simp only [Value.slice.injEq] at hpe
       obtain ⟨rfl, -,rfl⟩ :=hpe
       obtain ⟨m0,m1,m2⟩ :=Zlm L j hjl
       have g0 :=(hown.cellAt (j * 3) (by omega)).trans m0
       have g1 :=(hown.cellAt (j * 3+1) (by omega)).trans m1
       have g2 :=(hown.cellAt (j * 3+2) (by omega)).trans m2
       have hst :=pmS_step hjl
       have hnn :=pmS_take_le L j HNN.out
       have hnn2 :=pmS_take_le L (j+1) HNN.out
       have hlp :=HLP.out
       have hp0:0≤E0.led.p :=HI0.out.lok.p0
       have hp1:EN.led.p≤maxU :=by have h :=HI1.out.lok; have :=h.b0; have :=h.s0; have :=h.d1; omega
       generalize L[j]=y at *
       obtain ⟨y0,y1,y2⟩ :=y
       simp only at g0 g1 g2 hst
       have hw:IntKind.u64.wrap (E0.led.p+pmS (L.take j)+y1)=E0.led.p+pmS (L.take (j+1)) :=by
        rw [IntKind.wrap_u64]
        unfold maxU at hp1
        omega
       have HW :=Hd hw
       have HKA :=Hd (fun o =>hkj.alloc o)
       have hgl :=cell_lt g0
       have HJL :=Hd hjl
       clear hown m0 m1 m2 hst hnn hnn2 hlp hp0 hp1 hw hkj
       go_wp2
       go_round
       case rel =>exact ⟨j+1,by go_num,HJL.out,congrArg (Value.int .u64) HW.out,HKA.out _⟩
       case measure =>have :=HJL.out; simp only [intOf]; omega
      ·obtain rfl:j=L.length :=by omega
       have hji : ¬ ((L.length:Int)<L.length) :=by omega
       rw [List.take_length,← HLP.out]
       have hk :=HKB.out.keep hkj
       have HEW :=Hd (HE2.out.keeps hk)
       have HMW :=Hd (HM4.out.keep hk)
       have HSN :=Hd (Zrg HEW.out HI1.out.b0 (by have :=HI1.out.b1; omega) HV.out.c13.1)
       clear hkj hk
       go_wp2_with fail
       refine HSN.out.mono ?_
       rintro r w5 ⟨a1,c1',a2,c2',a3,c3',a4,c4',a5,n5,c5',a6,n6,c6',un,rfl,hvl, -, -,hk5⟩
       obtain ⟨AC,hAC⟩:∃ x,x=actS EN.vs :=⟨_,rfl⟩
       rw [← hAC]
       have hbs :=heap_alloc_last w5 (.cells (snC EN.b (EN.b / c 13) (.slice a1 EN.vs.length c1') EN.led.d EN.led.p EN.led.b AC (.slice a2 EN.pe.length c2') (.slice a3 EN.fo.length c3') (.slice a4 EN.vo.length c4') (.slice a5 n5 c5') (.slice a6 n6 c6') EN.cur EN.car un) 41)
       have HBS :=Hd hbs
       have HVL :=Hd (VL.of_owns hvl)
       have HK5 :=Hd hk5
       clear hbs hvl hk5 hAC
       go_upto_region 19 with ((with_reducible refine Z1a ?_); (refine Z2c (t :=41) (old :=snZ) (cs :=snC EN.b (EN.b / c 13) (.slice a1 EN.vs.length c1') EN.led.d EN.led.p EN.led.b AC (.slice a2 EN.pe.length c2') (.slice a3 EN.fo.length c3') (.slice a4 EN.vo.length c4') (.slice a5 n5 c5') (.slice a6 n6 c6') EN.cur EN.car un) rfl 41 _ _ rfl rfl rfl Z96 rfl rfl ?_))
       try go_frame
       refine Z0l ?_
       intro wb hwb
       have hbsw:wb.heap[w5.heap.size]? = some (.cells (snC EN.b (EN.b / c 13) (.slice a1 EN.vs.length c1') EN.led.d EN.led.p EN.led.b AC (.slice a2 EN.pe.length c2') (.slice a3 EN.fo.length c3') (.slice a4 EN.vo.length c4') (.slice a5 n5 c5') (.slice a6 n6 c6') EN.cur EN.car un) 41 (0,0)) :=Z0g hwb
       obtain ⟨sb,hsb⟩:∃ x,x=w5.heap.size :=⟨_,rfl⟩
       rw [← hsb] at hbsw ⊢
       have HSB :=Hd hsb
       clear hsb
       have HKW :=Hd (HK5.out.keep (Z0f hwb))
       have HVW :=Hd (HVL.out.keeps (Z0f hwb))
       have HS :=Hd (fun (w':World) (hk:Z00 wb w') =>(⟨by rw [cell_of_row _ _ _ _ _ _ (hk.at hbsw fun h =>h)]; rfl,by rw [cell_of_row _ _ _ _ _ _ (hk.at hbsw fun h =>h)]; rfl⟩:w'.cell? ⟨sb,2,none⟩=some (.slice a1 EN.vs.length c1')∧w'.cell? ⟨sb,5,none⟩=some (.int .u64 EN.led.b)))
       have HBA :=Hd (fun w' (hk:Z00 wb w') =>Zmg (.slice a1 EN.vs.length c1') EN.vs w' (HVW.out.keeps hk) (by have :=HI1.out.len; have :=HV.out.c0; omega))
       have HSL :=Hd (Z0a hbsw)
       clear hwb hbsw HBS
       obtain ⟨u0,hu0,hu1,hu2,hu3⟩ :=info_parts Zo0
       have hvn:EN.vs.length≤4096 :=by have :=HI1.out.len; have :=HV.out.c0; omega
       refine Z07 (S :=(fun w' =>w'.cell? ⟨sb,2,none⟩=some (.slice a1 EN.vs.length c1')∧w'.cell? ⟨sb,5,none⟩=some (.int .u64 EN.led.b))) (by kernel_rfl) (by exact HS.out _ (Mods.refl _ wb).drew) (fun wc hD hH0 =>?_)
       have HKC :=Hd (show Z00 wb wc from hD.mods)
       clear hD
       refine tk 0 rfl hH0 ?_
       try go_frame
       refine tk 1 rfl hH0 ?_
       try go_frame
       refine tk 3 rfl hH0 ?_
       try go_frame
       refine tk 4 rfl hH0 ?_
       try go_frame
       refine tk 5 rfl hH0 ?_
       try go_frame
       refine rdy [2,6] (Z04 rfl (fun K hK =>?_) (Z04 rfl (fun K hK =>?_) AllReadyH.nil))
       ·go_simp
        refine (HBA.out _ HKC.out).mono ?_
        rintro r wc ⟨v2,rfl,ho2,hk2⟩
        go_wp2_with fail
        refine hK.out _ _ (HS.out _ (HKC.out.keep hk2)) (fun hH1 =>?_)
        clear hK K hH0
        try go_frame
        have HO2 :=Hd (own_base ho2 HKC.out.size)
        replace HKC :=Hd (HKC.out.keep hk2)
        (try replace HLT :=Hd (hk2.at HLT.out fun h =>h))
        clear ho2 hk2
        refine rdy [6] (Z04 rfl (fun K hK =>?_) AllReadyH.nil)
        go_simp
        generalize hlb:wc.heap.size=lb at *
        refine Z14 ?_
        intro wc hwd
        have hk :=Z0f hwd
        have hn :=Z0g hwd
        rw [hlb] at hn
        replace HKC :=Hd (HKC.out.keep hk)
        have HLT :=Hd (show wc.heap[lb]? = some (.cells #[.int .u64 EN.led.p, .int .u64 EN.led.b] 22 (0,0)) from hn)
        (try replace HO2 :=Hd (hk.owns HO2.out fun _ _ h =>h))
        clear hwd hk hn hlb
        refine hK.out _ _ (HS.out _ HKC.out) (fun hH2 =>?_)
        clear hK K hH1
        try go_frame
        refine rdy [7] (Z04 rfl (fun K hK =>?_) AllReadyH.nil)
        refine Z99 _ rfl _ _ 59 rfl wb.heap.size 22 u0 (.int .u64 0) 1 8 Tryz.underlying59 hu0 hu1 hu2 hu3 rfl (by decide) v2 EN.vs.length (EN.vs.map fun x =>.int .u64 x.bal) rfl HO2.out 0 (.slice (some ⟨lb,0,none⟩) 2 2) 2 [.int .u64 EN.led.p, .int .u64 EN.led.b] rfl ⟨rfl, .inr ⟨lb,2,_,rfl,Nat.zero_le _,HLT.out,Nat.le_refl _,by unfold maxLen; omega,rfl,rfl⟩⟩ (by simp [Value.oneCell']) (by unfold maxLen; omega) (by omega) HKC.out.size ?_
        intro v3 wc ho3 hm3
        have hS7 :=HS.out _ HKC.out
        have hnb:∀ k,k<wb.heap.size→¬ v2.ownBlock=some k :=fun k hk h =>by have :=(HO2.out.lt k h).1; omega
        refine hK.out _ _ (⟨hm3.cell hS7.1 (hnb _ HSL.out),hm3.cell hS7.2 (hnb _ HSL.out)⟩) (fun hH3 =>?_)
        clear hK K hH2
        try go_frame
        have HKF :=Hd (show Z00 wb wc from HKC.out.seq hm3 fun i hi h =>hnb i hi h)
        have HO3 :=Hd ho3
        clear hS7 hnb ho3 hm3
        refine tk 8 rfl hH3 ?_
        try go_frame
        refine wpAnyH_done (by kernel_rfl) ?_ _
        have hS :=Hd hH3
        clear hH3
        clear hS
        obtain ⟨xs,hxs⟩:∃ xs:List Int,xs=EN.vs.map Vd.bal ++ [EN.led.p,EN.led.b] :=⟨_,rfl⟩
        have hxl:xs.length=EN.vs.length+2 :=by rw [hxs]; simp
        have hlok :=HI1.out.lok
        have hsum:lsS xs=EN.led.d :=by
         have h1 :=HI1.out.sum
         rw [hxs,lsS_append,lsS_bal,h1]
         simp only [lsS,Led.sup]
         omega
        have hrow:wc.ownsRow wb.heap.size 22 1 v3 xs.length (xs.map fun x =>Value.int .u64 x) :=by
         rw [hxl]
         have h :=HO3.out
         rw [hxs]
         simpa [List.map_append,List.map_map,Function.comp_def] using h
        have hrange:∀ x∈xs,0≤x∧x≤maxU :=by
         intro x hx
         have q1 :=hlok.p0; have q2 :=hlok.b0; have q3 :=hlok.s0; have q4 :=hlok.d1
         rw [hxs] at hx
         rcases List.mem_append.1 hx with h | h
         ·obtain ⟨y,hy,rfl⟩ :=List.mem_map.1 h
          have hvo :=(HEW.out.vsok).1 y hy
          exact ⟨hvo.b0,hvo.b1⟩
         ·simp at h
          rcases h with rfl | rfl <;> omega
        have HAD :=Hd (Z1r v3 xs.length (lsF xs) wc (amts_ls hrow hrange) (by omega))
        have hs2:sumF (lsF xs) xs.length=EN.led.d :=by rw [sum_lsF xs _ (Nat.le_refl _),List.take_length,hsum]
        have ha1:addV (lsF xs) xs.length=EN.led.d :=by unfold addV; rw [hs2,if_pos hlok.d1]
        have ha2:Z3p (lsF xs) xs.length=true :=by unfold Z3p; rw [hs2]; simpa using hlok.d1
        rw [ha1,ha2] at HAD
        clear hxs hxl hlok hsum hrow hrange hs2 ha1 ha2
        go_wp2_with fail
        refine HAD.out.mono ?_
        rintro r w7 ⟨rfl,rfl⟩
        have hkk :=HKW.out.keep HKF.out
        have HF1 :=Hd (HEW.out.keeps hkk)
        have HF2 :=Hd (HMW.out.keep hkk)
        have HLT :=Hd hlt
        clear hkk
        go_wp2
        go_round
        case rel =>exact ⟨k+1,own2,by go_num,HLT.out,by rw [← HEN.out],by rw [← HEN.out],(by rw [Nat.mul_succ,← HEN.out]; exact HF1.out),HF2.out,HZZ.out⟩
        case measure =>have :=HLT.out; simp only [intOf]; omega
       ·go_simp
        generalize hlb:wc.heap.size=lb at *
        refine Z14 ?_
        intro wc hwd
        have hk :=Z0f hwd
        have hn :=Z0g hwd
        rw [hlb] at hn
        replace HKC :=Hd (HKC.out.keep hk)
        have HLT :=Hd (show wc.heap[lb]? = some (.cells #[.int .u64 EN.led.p, .int .u64 EN.led.b] 22 (0,0)) from hn)
        (try replace HO2 :=Hd (hk.owns HO2.out fun _ _ h =>h))
        clear hwd hk hn hlb
        refine hK.out _ _ (HS.out _ HKC.out) (fun hH1 =>?_)
        clear hK K hH0
        try go_frame
        refine rdy [2] (Z04 rfl (fun K hK =>?_) AllReadyH.nil)
        go_simp
        refine (HBA.out _ HKC.out).mono ?_
        rintro r wc ⟨v2,rfl,ho2,hk2⟩
        go_wp2_with fail
        refine hK.out _ _ (HS.out _ (HKC.out.keep hk2)) (fun hH2 =>?_)
        clear hK K hH1
        try go_frame
        have HO2 :=Hd (own_base ho2 HKC.out.size)
        replace HKC :=Hd (HKC.out.keep hk2)
        (try replace HLT :=Hd (hk2.at HLT.out fun h =>h))
        clear ho2 hk2
        refine rdy [7] (Z04 rfl (fun K hK =>?_) AllReadyH.nil)
        refine Z99 _ rfl _ _ 59 rfl wb.heap.size 22 u0 (.int .u64 0) 1 8 Tryz.underlying59 hu0 hu1 hu2 hu3 rfl (by decide) v2 EN.vs.length (EN.vs.map fun x =>.int .u64 x.bal) rfl HO2.out 0 (.slice (some ⟨lb,0,none⟩) 2 2) 2 [.int .u64 EN.led.p, .int .u64 EN.led.b] rfl ⟨rfl, .inr ⟨lb,2,_,rfl,Nat.zero_le _,HLT.out,Nat.le_refl _,by unfold maxLen; omega,rfl,rfl⟩⟩ (by simp [Value.oneCell']) (by unfold maxLen; omega) (by omega) HKC.out.size ?_
        intro v3 wc ho3 hm3
        have hS7 :=HS.out _ HKC.out
        have hnb:∀ k,k<wb.heap.size→¬ v2.ownBlock=some k :=fun k hk h =>by have :=(HO2.out.lt k h).1; omega
        refine hK.out _ _ (⟨hm3.cell hS7.1 (hnb _ HSL.out),hm3.cell hS7.2 (hnb _ HSL.out)⟩) (fun hH3 =>?_)
        clear hK K hH2
        try go_frame
        have HKF :=Hd (show Z00 wb wc from HKC.out.seq hm3 fun i hi h =>hnb i hi h)
        have HO3 :=Hd ho3
        clear hS7 hnb ho3 hm3
        refine tk 8 rfl hH3 ?_
        try go_frame
        refine wpAnyH_done (by kernel_rfl) ?_ _
        have hS :=Hd hH3
        clear hH3
        clear hS
        obtain ⟨xs,hxs⟩:∃ xs:List Int,xs=EN.vs.map Vd.bal ++ [EN.led.p,EN.led.b] :=⟨_,rfl⟩
        have hxl:xs.length=EN.vs.length+2 :=by rw [hxs]; simp
        have hlok :=HI1.out.lok
        have hsum:lsS xs=EN.led.d :=by
         have h1 :=HI1.out.sum
         rw [hxs,lsS_append,lsS_bal,h1]
         simp only [lsS,Led.sup]
         omega
        have hrow:wc.ownsRow wb.heap.size 22 1 v3 xs.length (xs.map fun x =>Value.int .u64 x) :=by
         rw [hxl]
         have h :=HO3.out
         rw [hxs]
         simpa [List.map_append,List.map_map,Function.comp_def] using h
        have hrange:∀ x∈xs,0≤x∧x≤maxU :=by
         intro x hx
         have q1 :=hlok.p0; have q2 :=hlok.b0; have q3 :=hlok.s0; have q4 :=hlok.d1
         rw [hxs] at hx
         rcases List.mem_append.1 hx with h | h
         ·obtain ⟨y,hy,rfl⟩ :=List.mem_map.1 h
          have hvo :=(HEW.out.vsok).1 y hy
          exact ⟨hvo.b0,hvo.b1⟩
         ·simp at h
          rcases h with rfl | rfl <;> omega
        have HAD :=Hd (Z1r v3 xs.length (lsF xs) wc (amts_ls hrow hrange) (by omega))
        have hs2:sumF (lsF xs) xs.length=EN.led.d :=by rw [sum_lsF xs _ (Nat.le_refl _),List.take_length,hsum]
        have ha1:addV (lsF xs) xs.length=EN.led.d :=by unfold addV; rw [hs2,if_pos hlok.d1]
        have ha2:Z3p (lsF xs) xs.length=true :=by unfold Z3p; rw [hs2]; simpa using hlok.d1
        rw [ha1,ha2] at HAD
        clear hxs hxl hlok hsum hrow hrange hs2 ha1 ha2
        go_wp2_with fail
        refine HAD.out.mono ?_
        rintro r w7 ⟨rfl,rfl⟩
        have hkk :=HKW.out.keep HKF.out
        have HF1 :=Hd (HEW.out.keeps hkk)
        have HF2 :=Hd (HMW.out.keep hkk)
        have HLT :=Hd hlt
        clear hkk
        go_wp2
        go_round
        case rel =>exact ⟨k+1,own2,by go_num,HLT.out,by rw [← HEN.out],by rw [← HEN.out],(by rw [Nat.mul_succ,← HEN.out]; exact HF1.out),HF2.out,HZZ.out⟩
        case measure =>have :=HLT.out; simp only [intOf]; omega
   ·obtain rfl:k=l.length :=by omega
    have hki : ¬ ((l.length:Int)<l.length) :=by omega
    clear hE hM hZ0
    go_wp2_with fail
    refine (HR.out _).mono ?_
    rintro r w5 ⟨rfl,hk5⟩
    have HKK :=Hd (HM.out.keep hk5)
    clear hk5
    go_wp2
    go_ret
    exact ⟨rfl,HKK.out.below'⟩
end Go.Proofs.YtecapfmmoejikaaGreat
