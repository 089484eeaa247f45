/- A part of the proof of TopMinimum: Tmi. -/
import Derived.Test.YtecapfmmoejikaaGreatPkBq
set_option maxRecDepth 4000
set_option maxHeartbeats 8000000
namespace Go.Proofs.YtecapfmmoejikaaGreat
open Go.RowKit Go.Eg
theorem topMinimum_walk (c:Nat→Int) (v:Value) (w:World) (w0:∀ (i:Nat) (k:IntKind),Zlu[i]? = some k→(Lit.int k (c i)).wf=true) (w1:∃ l,OdL w v l∧l.length≤9223372036854775807∧∀ x∈l,x.ok) :
 Calls Tryz.prog 5 #[cfgV c,v] w fun r w' =>r = .returned (.bool true)∧Below w.heap.size w w' :=by
 obtain ⟨h9,h18⟩ :=Zpz w0
 obtain ⟨l,hl,hll,hok⟩ :=w1
 have HL :=Hd hl
 have HOK :=Hd hok
 obtain ⟨va,vc,rfl⟩ :=hl.slice
 have HF :=Hd (fun w =>Zod c va l.length vc w hll)
 have HR :=Hd (fun w =>Zqh w)
 have hx :=heap_alloc_last w (.cells (cfgC c) 24)
 clear hl hok w0
 go_enter Tryz.func5,Tryz.ntmps5
 go_wp2_with ((with_reducible refine Z1a ?_); (refine Z03 rfl 24 _ rfl w.heap.size rfl 24 (cfgC c) (0,0) _ Tryz.underlying24 rfl Z0m hx ?_))
 refine (HF.out _).mono ?_
 rintro r w1 ⟨hr,hk1⟩
 have hk:Z00 w w1 :=((Mods.refl _ w).alloc _).keep hk1
 have hz1 :=hk1.at hx fun h =>h
 obtain ⟨z,hz⟩:∃ z,z=w.heap.size :=⟨_,rfl⟩
 rw [← hz] at hz1 ⊢
 have HZ :=Hd hz
 have HK :=Hd hk
 have HZ1 :=Hd hz1
 rcases hr with rfl | ⟨rfl,hfit⟩
 ·clear hk1 hx hk hz1 hz
  go_wp2_with fail
  refine (HR.out _).mono ?_
  rintro r w2 ⟨rfl,hk2⟩
  have HKK :=Hd (HK.out.keep hk2)
  clear hk2
  go_wp2
  go_ret
  exact ⟨rfl,HKK.out.below'⟩
 ·have hV :=Zog hfit.chk
  have HV :=Hd hV
  have HN :=Hd (fun w =>eNew c w hV hfit.chk)
  have hn4 :=hfit.n
  have HI :=Hd (Inv.run hV h18 l (by omega) HOK.out)
  clear hk1 hx hk hz1 hz hV hfit
  have hz1 :=HZ1.out
  go_wp2_with ((with_reducible refine Z1a ?_); (refine Z03 rfl 24 _ rfl z rfl 24 (cfgC c) (0,0) _ Tryz.underlying24 rfl Z0m hz1 ?_))
  refine (HN.out _).mono ?_
  rintro r w2 ⟨e,p,own,rfl,hE,hX⟩
  have HE :=Hd hE
  have ST :=Hd (show (w2.heap[z]? = some (.cells (cfgC c) 24 (0,0))∧own z=0)∧Z00 w w2∧∀ i,i<z→own i=0 from
   ⟨hX.at HZ1.out rfl,HK.out.seq hX.mods fun i _ h =>absurd rfl h,fun i hi =>hX.old i (Nat.lt_trans hi (Z0a HZ1.out))⟩)
  clear hE hX hz1
  go_wp2
  go_loopw [25] (fun i wr => ∃ (k:Nat) (own:Nat→Nat),i = .int .i64 (k:Int)∧k≤l.length∧Z0i own wr e c (Z05 c (l.take k)) p (400000 * k)∧(wr.heap[z]? = some (.cells (cfgC c) 24 (0,0))∧own z=0)∧Z00 w wr∧∀ i,i<z→own i=0) (fun i _ =>l.length - (intOf i).toNat)
  case atStart =>
   obtain ⟨s1,s2,s3⟩ :=ST.out
   exact ⟨0,own,rfl,Nat.zero_le _,HE.out,s1,s2,s3⟩
  case round =>
   obtain ⟨k,ow,rfl,hkl,hE,s1,hM,hZ0⟩ :=hrel
   have HM :=Hd hM
   have S1 :=Hd s1
   have HZ0 :=Hd hZ0
   by_cases hlt:k<l.length
   ·have hki:(k:Int)<l.length :=by omega
    obtain ⟨b,off,rfl,c0,c1,c2,c3⟩ :=(HL.out.keeps hM).at k hlt
    have hoo :=HOK.out l[k] (List.getElem_mem hlt)
    have HST :=Hd (Zab c hlt)
    generalize l[k]=o at *
    have HAP :=Hd (Zpe (hE.keeps ((Mods.refl (fun _ =>False) wr).alloc (odB o))) HV.out h9 h18 o hoo (HI.out k hkl) (by omega) (by omega))
    have HI1 :=Hd (HI.out (k+1) hlt)
    rw [← HST.out] at HAP
    obtain ⟨EN,hEN⟩:∃ EN,EN=Z05 c (l.take (k+1)) :=⟨_,rfl⟩
    rw [← hEN] at HAP HI1
    have HEN :=Hd hEN
    clear hEN
    obtain ⟨kd,ix,tg,am⟩ :=o
    clear hE s1 hM hZ0 hoo HST
    go_wp2_with fail
    refine HAP.out.mono ?_
    rintro r w4 ⟨aa,ac,pa,pc,rfl,own2,hE2,hX2, -, -⟩
    obtain ⟨hs2,hz2⟩ :=hX2.at (Z02 S1.out.1 _) S1.out.2
    have hm4:Z00 w w4 :=(HM.out.alloc (odB ⟨kd,ix,tg,am⟩)).seq hX2.mods fun i hi h =>absurd (HZ0.out i (by rw [HZ.out]; exact hi)) h
    have hzz:∀ i,i<z→own2 i=0 :=fun i hi =>(hX2.old i (by have :=Z0a S1.out.1; rw [World.size_alloc]; omega)).trans (HZ0.out i hi)
    have HSN :=Hd (Zrg hE2 HI1.out.b0 (by have :=HI1.out.b1; omega) HV.out.c13.1)
    have HE2 :=Hd hE2
    have HS2 :=Hd hs2
    have HZ2 :=Hd hz2
    have HM4 :=Hd hm4
    have HZZ :=Hd hzz
    generalize (apX c (Z05 c (l.take k)) ⟨kd,ix,tg,am⟩)=AX at *
    generalize (apA c (Z05 c (l.take k)) ⟨kd,ix,tg,am⟩).length=AN at *
    generalize (apP c (Z05 c (l.take k)) ⟨kd,ix,tg,am⟩).length=PN at *
    generalize (apN c (Z05 c (l.take k)) ⟨kd,ix,tg,am⟩)=VN at *
    obtain ⟨x1,x2,x3⟩ :=AX
    clear hE2 hs2 hz2 hm4 hzz hX2
    go_wp2_with fail
    refine HSN.out.mono ?_
    rintro r w5 ⟨a1,c1',a2,c2',a3,c3',a4,c4',a5,n5,c5',a6,n6,c6',un,rfl,hvl, -, -,hk5⟩
    have HVL :=Hd (VL.of_owns hvl)
    have HFR :=Hd HI1.out.core.fr
    have HLN :=Hd (show EN.vs.length≤4096 from by have :=HI1.out.len; have :=HV.out.c0; omega)
    have HK5 :=Hd hk5
    have HZ5 :=Hd (hk5.at HS2.out fun h =>h)
    clear hvl hk5
    have hfl :=Zok EN.b (EN.b / c 13) (.slice a1 EN.vs.length c1') EN.led.d EN.led.p EN.led.b (actS EN.vs) (.slice a2 EN.pe.length c2') (.slice a3 EN.fo.length c3') (.slice a4 EN.vo.length c4') (.slice a5 n5 c5') (.slice a6 n6 c6') EN.cur EN.car un w5 rfl
    clear c0 c1 c2 c3
    go_wp2_with fail
    go_loopw [36] (fun i wi => ∃ j:Nat,i = .int .i64 (j:Int)∧j≤EN.vs.length∧Z00 w5 wi) (fun i _ =>EN.vs.length - (intOf i).toNat)
    case atStart =>exact ⟨0,rfl,Nat.zero_le _,Mods.refl _ _⟩
    case round =>
     obtain ⟨j,rfl,hj,hkj⟩ :=hrel
     have HKJ :=Hd hkj
     have hln :=HLN.out
     by_cases hjl:j<EN.vs.length
     ·have hji:(j:Int)<EN.vs.length :=by omega
      obtain ⟨bv,ov,rfl,d0,d1,d2,d3,d4,d5,d6⟩ :=(HVL.out.keeps hkj).at j hjl
      have hfr:((EN.vs[j]).st=1∨(EN.vs[j]).st=2)→c 5≤(EN.vs[j]).bal :=fun h =>by
       have :=(HFR.out (j:Int) (Zrj hjl) (by rw [Zrk hjl]; exact h)).2
       rwa [Zrk hjl] at this
      generalize EN.vs[j]=x at *
      obtain ⟨bal,st,sl,rq,ex,wd,dl⟩ :=x
      have hz5 :=hkj.at HZ5.out fun h =>h
      have z5:wr.cell? ⟨z,5,none⟩=some (.int .u64 (c 5)) :=by rw [cell_of_row _ _ _ _ _ _ hz5]; rfl
      have hzl :=Z0a hz5
      have HKA :=Hd (fun o =>hkj.alloc o)
      simp only at d0 d1 d2 d3 d4 d5 d6 hfr
      clear hkj hz5 hfl
      by_cases hst:st=1∨st=2
      ·have hge : ¬ bal<c 5 :=by have :=hfr hst; omega
       clear hfr
       rcases hst with rfl | rfl
       ·go_wp2
        go_round
        case rel =>exact ⟨j+1,by go_num,by omega,HKA.out _⟩
        case measure =>simp only [intOf]; omega
       ·go_wp2
        go_round
        case rel =>exact ⟨j+1,by go_num,by omega,HKA.out _⟩
        case measure =>simp only [intOf]; omega
      ·have hs1 : ¬ st=1 :=fun h =>hst (.inl h)
       have hs2 : ¬ st=2 :=fun h =>hst (.inr h)
       clear hfr hst
       go_wp2
       go_round
       case rel =>exact ⟨j+1,by go_num,by omega,HKA.out _⟩
       case measure =>simp only [intOf]; omega
     ·obtain rfl:j=EN.vs.length :=by omega
      have hji : ¬ ((EN.vs.length:Int)<EN.vs.length) :=by omega
      have hk :=HK5.out.keep hkj
      have HF1 :=Hd (HE2.out.keeps hk)
      have HF2 :=Hd (hk.at HS2.out fun h =>h)
      have HF3 :=Hd (HM4.out.keep hk)
      clear hkj hk hfl
      go_wp2
      go_round
      case rel =>exact ⟨k+1,own2,by go_num,by omega,(by rw [Nat.mul_succ,← HEN.out]; exact HF1.out),⟨HF2.out,HZ2.out⟩,HF3.out,HZZ.out⟩
      case measure =>simp only [intOf]; omega
   ·obtain rfl:k=l.length :=by omega
    have hki : ¬ ((l.length:Int)<l.length) :=by omega
    clear hE s1 hM hZ0
    go_wp2_with fail
    refine (HR.out _).mono ?_
    rintro r w5 ⟨rfl,hk5⟩
    have HKK :=Hd (HM.out.keep hk5)
    clear hk5
    go_wp2
    go_ret
    exact ⟨rfl,HKK.out.below'⟩
end Go.Proofs.YtecapfmmoejikaaGreat
