/- A part of the proofs of the top laws: EnNew OpRow Tks ScrA ScrB. -/
import Derived.Test.YtecapfmmoejikaaGreatPkBl
import Derived.Test.YtecapfmmoejikaaGreatPkBn
set_option maxRecDepth 4000
set_option maxHeartbeats 8000000
namespace Go.Proofs.YtecapfmmoejikaaGreat
open Go.RowKit Go.Eg
theorem Zd6 (sz:Nat) (w:World) (h1:1≤sz) (h2:sz≤4096):Calls Tryz.prog 34 #[.int .i64 (sz:Int)] w fun r w' =>r = .returned (.pointer (some ⟨w.heap.size,0,none⟩))∧Z36 (fun i =>i=w.heap.size) w' w.heap.size sz []∧Z00 w w'∧w'.heap.size=w.heap.size+1 :=by
 go_enter Tryz.func34,Tryz.ntmps34
 go_wp2
 go_ret
 exact ⟨rfl,⟨fun i hi =>by rw [hi]; simp,h1,h2,by simp,rfl, .slice none 0 0,fun _ =>zQ,0,0,heap_alloc_last w _,Rep.empty _,by omega, .inl ⟨rfl,rfl⟩⟩,(Mods.refl _ w).alloc _,by simp⟩
theorem Z9z {P:Program} {ops:Array Oper} {S:World→Prop} {o:Oper} {a:Act} (hw:Region.wanted o (yielded ops a.tmps)=true) (t:TypeId) (parts:Array (Nat × Operand)) (cs:Array Value) (ho:o.op = .build t parts)
 (hf:P.built t (parts.map fun (i,x) =>(i,a.eval x)).toList=some cs):YieldsIf P ops S o (.agg cs) a :=
 .inl ⟨hw,fun w _ =>by
  unfold execOp
  simp only [ho,Sem.run_bind,run_build w t _ cs hf,Result.andThen_ok]
  rfl⟩
theorem Zpb {w:World} {g:Nat} {x:Int} (h:Z3s w g x):g<w.heap.size :=by
 obtain ⟨m,hb,_⟩ :=h
 exact Z0a hb
def en0 (c:Nat→Int):En :=⟨0,⟨0,0,0,c 4⟩,[],fun _ => [],[],0,0,[],[],[],[],[]⟩
def own0 (s1 s2 s3 s4 s6 s7 s8 s9 s10 s11 s12 s13:Nat) (i:Nat):Nat :=
 if i<s1 then 0 else if i<s2 then 1 else if i<s3 then 2 else if i<s4 then 3 else if i<s6 then 4 else if i<s7 then 6 else if i<s8 then 7 else if i<s9 then 8 else if i<s10 then 9 else if i<s11 then 10 else if i<s12 then 11 else if i<s13 then 12 else 0
theorem Zob {s1 s2 s3 s4 s6 s7 s8 s9 s10 s11 s12 s13:Nat} (h1:s1≤s2) (h2:s2≤s3) (h3:s3≤s4) (h4:s4≤s6) (h6:s6≤s7) (h7:s7≤s8) (h8:s8≤s9) (h9:s9≤s10) (h10:s10≤s11) (h11:s11≤s12) (h12:s12≤s13) :
 (∀ i,i<s1→own0 s1 s2 s3 s4 s6 s7 s8 s9 s10 s11 s12 s13 i=0)∧(∀ i,s1≤i→i<s2→own0 s1 s2 s3 s4 s6 s7 s8 s9 s10 s11 s12 s13 i=1)∧(∀ i,s2≤i→i<s3→own0 s1 s2 s3 s4 s6 s7 s8 s9 s10 s11 s12 s13 i=2)∧(∀ i,s3≤i→i<s4→own0 s1 s2 s3 s4 s6 s7 s8 s9 s10 s11 s12 s13 i=3)∧(∀ i,s4≤i→i<s6→own0 s1 s2 s3 s4 s6 s7 s8 s9 s10 s11 s12 s13 i=4) ∧
 (∀ i,s6≤i→i<s7→own0 s1 s2 s3 s4 s6 s7 s8 s9 s10 s11 s12 s13 i=6)∧(∀ i,s7≤i→i<s8→own0 s1 s2 s3 s4 s6 s7 s8 s9 s10 s11 s12 s13 i=7)∧(∀ i,s8≤i→i<s9→own0 s1 s2 s3 s4 s6 s7 s8 s9 s10 s11 s12 s13 i=8)∧(∀ i,s9≤i→i<s10→own0 s1 s2 s3 s4 s6 s7 s8 s9 s10 s11 s12 s13 i=9)∧(∀ i,s10≤i→i<s11→own0 s1 s2 s3 s4 s6 s7 s8 s9 s10 s11 s12 s13 i=10) ∧
 (∀ i,s11≤i→i<s12→own0 s1 s2 s3 s4 s6 s7 s8 s9 s10 s11 s12 s13 i=11)∧(∀ i,s12≤i→i<s13→own0 s1 s2 s3 s4 s6 s7 s8 s9 s10 s11 s12 s13 i=12)∧(∀ i,s13≤i→own0 s1 s2 s3 s4 s6 s7 s8 s9 s10 s11 s12 s13 i=0) :=by
 unfold own0
 refine ⟨?_, ?_, ?_, ?_, ?_, ?_, ?_, ?_, ?_, ?_, ?_, ?_, ?_⟩
 all_goals intros
 all_goals (repeat (first | rw [if_pos (by omega)] | rw [if_neg (by omega)]))
theorem Zg2 {B:Nat} {w:World} {g m:Nat} {lv:Value} {cap:Int} {l:List Vd} {n:Nat} (h:Z1x B w g m lv cap l n):Z1x 0 w g m lv cap l n :=
 ⟨h.blk,own_base h.row (Nat.zero_le _),h.map,Nat.zero_le _,Nat.zero_le _,h.gm,h.og,h.om,h.ok,h.tot,h.len,h.cap⟩
theorem eNew (c:Nat→Int) (w:World) (hV:Vld c) (hk:chk c=0) :
 Calls Tryz.prog 9 #[cfgV c] w fun r w' => ∃ e p own,r = .returned (.tuple #[.pointer (some ⟨e,0,none⟩), .int .i64 0])∧Z0i own w' e c (en0 c) p 0∧Ext (fun _ =>0) w own w' :=by
 have HVA :=Hd (fun (w:World) =>Zj8 c w 0 (fun w =>by have :=check_any c w; rwa [hk] at this))
 have HREG :=Hd (fun (w:World) =>Zfx (c 0) w hV.c0.1 hV.c0.2)
 have HCK :=Hd (fun (w:World) =>Zd0 (c 13) w hV.c13.1)
 have HLD :=Hd (fun (w:World) =>Zgq (c 4) w)
 have e12:((c 12).toNat:Int)=c 12 :=Int.toNat_of_nonneg (by have :=hV.c12; omega)
 have e1:((c 1).toNat:Int)=c 1 :=Int.toNat_of_nonneg (by have :=hV.c1; omega)
 have HBO :=Hd (fun (w:World) =>Zge (c 12).toNat w (by have :=hV.c12; omega) (by have :=hV.c12; omega))
 have HLA :=Hd (fun (w:World) =>Zha (c 1).toNat w (by have :=hV.c1; omega) (by have :=hV.c1; omega))
 have HPE :=Hd (fun (w:World) =>Z7v (c 1).toNat w (by have :=hV.c1; omega) (by have :=hV.c1; omega))
 have HMG :=Hd (fun (w:World) =>Zc8 (c 1).toNat w (by have :=hV.c1; omega) (by have :=hV.c1; omega))
 have HPR :=Hd (fun (w:World) =>Zd6 (c 1).toNat w (by have :=hV.c1; omega) (by have :=hV.c1; omega))
 rw [e12] at HBO
 rw [e1] at HLA HPE HMG HPR
 clear e12 e1
 have HC4 :=Hd (show 0≤c 4∧c 4≤1152921504606846976 from ⟨by have :=hV.c2; have :=hV.c3; have :=hV.c4; omega,hV.c4.2⟩)
 obtain ⟨z,hz⟩:∃ z,z=w.heap.size :=⟨_,rfl⟩
 have HZ :=Hd hz
 obtain ⟨w0,hw0⟩:∃ x,x=w.alloc (cfB c) :=⟨_,rfl⟩
 have Z0 :=Hd (show w0.heap[z]? = some (cfB c) from by rw [hw0,hz]; exact heap_alloc_last w _)
 have HK0 :=Hd (show Z00 w w0 from by rw [hw0]; exact (Mods.refl _ w).alloc _)
 have HW0 :=Hd hw0
 clear hz hw0
 go_enter Tryz.func9,Tryz.ntmps9
 go_upto_region 1 with (fail)
 refine Z0l ?_
 intro wx hwx
 obtain rfl:w0=wx :=HW0.out.trans hwx.symm
 clear hwx
 rw [← HZ.out]
 go_wp2_with (refine Z03 rfl 24 _ rfl z rfl 24 (cfgC c) (0,0) _ Tryz.underlying24 rfl Z0m Z0.out ?_)
 refine (HVA.out _).mono ?_
 rintro r w1 ⟨rfl,hb⟩
 have hk1:Z00 w0 w1 :=Mods.of_below hb
 have HK1 :=Hd hk1
 have Z1 :=Hd (hk1.at Z0.out fun h =>h)
 clear hb hk1
 have HS :=Hd (fun (w':World) (hk:Z00 w1 w') =>(⟨Z2l (hk.at Z1.out fun h =>h),by rw [cell_of_row _ _ _ _ _ _ (hk.at Z1.out fun h =>h)]; rfl,by rw [cell_of_row _ _ _ _ _ _ (hk.at Z1.out fun h =>h)]; rfl,by rw [cell_of_row _ _ _ _ _ _ (hk.at Z1.out fun h =>h)]; rfl,by rw [cell_of_row _ _ _ _ _ _ (hk.at Z1.out fun h =>h)]; rfl,by rw [cell_of_row _ _ _ _ _ _ (hk.at Z1.out fun h =>h)]; rfl⟩:w'.rangeAt z 0 (cfgC c).toList∧w'.cell? ⟨z,0,none⟩=some (.int .i64 (c 0))∧w'.cell? ⟨z,1,none⟩=some (.int .i64 (c 1))∧w'.cell? ⟨z,4,none⟩=some (.int .u64 (c 4))∧w'.cell? ⟨z,12,none⟩=some (.int .i64 (c 12))∧w'.cell? ⟨z,13,none⟩=some (.int .i64 (c 13))))
 go_wp2_with fail
 refine Z07 (S :=(fun w' =>w'.rangeAt z 0 (cfgC c).toList∧w'.cell? ⟨z,0,none⟩=some (.int .i64 (c 0))∧w'.cell? ⟨z,1,none⟩=some (.int .i64 (c 1))∧w'.cell? ⟨z,4,none⟩=some (.int .u64 (c 4))∧w'.cell? ⟨z,12,none⟩=some (.int .i64 (c 12))∧w'.cell? ⟨z,13,none⟩=some (.int .i64 (c 13)))) (by kernel_rfl) (by exact HS.out _ (Mods.refl _ w1).drew) (fun wc hD hH0 =>?_)
 have HZ1 :=Hd (show z+1≤wc.heap.size from by rw [hD.heap]; exact Z0a Z1.out)
 have HK :=Hd (show Z00 w1 wc from hD.mods)
 clear hD
 refine tk 0 rfl hH0 ?_
 try go_frame
 refine tk 1 rfl hH0 ?_
 try go_frame
 refine tkb 4 rfl hH0 (yieldsIf_load_mid (by rfl) 24 (.tmp 1) rfl z 0 rfl (cfgC c).toList _ (fun _ h =>h.1) Tryz.underlying24 rfl Z0m) ?_
 try go_frame
 refine tk 5 rfl hH0 ?_
 try go_frame
 refine tk 6 rfl hH0 ?_
 try go_frame
 refine tk 8 rfl hH0 ?_
 try go_frame
 refine tk 9 rfl hH0 ?_
 try go_frame
 refine tk 11 rfl hH0 ?_
 try go_frame
 refine tk 12 rfl hH0 ?_
 try go_frame
 refine tk 16 rfl hH0 ?_
 try go_frame
 refine tk 17 rfl hH0 ?_
 try go_frame
 refine tk 19 rfl hH0 ?_
 try go_frame
 refine tk 20 rfl hH0 ?_
 try go_frame
 refine tk 22 rfl hH0 ?_
 try go_frame
 refine tk 23 rfl hH0 ?_
 try go_frame
 refine tk 25 rfl hH0 ?_
 try go_frame
 refine tk 26 rfl hH0 ?_
 try go_frame
 refine rdy [2] (Z04 rfl (fun K hK =>?_) AllReadyH.nil)
 go_simp
 obtain ⟨a1,ha⟩:∃ a,a=wc.heap.size :=⟨_,rfl⟩
 refine (HREG.out _).mono ?_
 rintro r wn ⟨rfl,hf,hk⟩
 rw [← ha] at hf ⊢
 have hlt :=Z0a hf.blk
 have Hzreg :=Hd (show a1≤a1+1∧a1+1<wn.heap.size from ⟨by omega,hlt⟩)
 have HA1 :=Hd ha
 clear ha
 go_wp2_with fail
 refine hK.out _ _ (HS.out _ (HK.out.keep hk)) (fun hH1 =>?_)
 clear hK K hH0
 try go_frame
 replace HK :=Hd (HK.out.keep hk)
 have Freg :=Hd hf
 obtain ⟨wc,hwc⟩:∃ x,x=wn :=⟨_,rfl⟩
 subst hwc
 clear hk hf hlt
 refine tk 3 rfl hH1 ?_
 try go_frame
 refine rdy [7] (Z04 rfl (fun K hK =>?_) AllReadyH.nil)
 go_simp
 obtain ⟨a2,ha⟩:∃ a,a=wc.heap.size :=⟨_,rfl⟩
 refine (HCK.out _).mono ?_
 rintro r wn ⟨rfl,hf,hk⟩
 rw [← ha] at hf ⊢
 have hlt :=Z0a hf
 have Hzck :=Hd (show a2≤a2∧a2<wn.heap.size from ⟨by omega,hlt⟩)
 have HA2 :=Hd ha
 clear ha
 go_wp2_with fail
 refine hK.out _ _ (HS.out _ (HK.out.keep hk)) (fun hH2 =>?_)
 clear hK K hH1
 try go_frame
 replace HK :=Hd (HK.out.keep hk)
 replace Freg :=Hd (Freg.out.keeps hk)
 have Fck :=Hd hf
 obtain ⟨wc,hwc⟩:∃ x,x=wn :=⟨_,rfl⟩
 subst hwc
 clear hk hf hlt
 refine rdy [10] (Z04 rfl (fun K hK =>?_) AllReadyH.nil)
 go_simp
 obtain ⟨a3,ha⟩:∃ a,a=wc.heap.size :=⟨_,rfl⟩
 refine (HLD.out _).mono ?_
 rintro r wn ⟨rfl,hwe⟩
 have hf:wn.heap[wc.heap.size]? = some (ledB ⟨0,0,0,c 4⟩) :=by rw [hwe]; exact heap_alloc_last wc _
 have hk:Z00 wc wn :=by rw [hwe]; exact (Mods.refl _ wc).alloc _
 clear hwe
 rw [← ha] at hf ⊢
 have hlt :=Z0a hf
 have Hzld :=Hd (show a3≤a3∧a3<wn.heap.size from ⟨by omega,hlt⟩)
 have HA3 :=Hd ha
 clear ha
 go_wp2_with fail
 refine hK.out _ _ (HS.out _ (HK.out.keep hk)) (fun hH3 =>?_)
 clear hK K hH2
 try go_frame
 replace HK :=Hd (HK.out.keep hk)
 replace Freg :=Hd (Freg.out.keeps hk)
 replace Fck :=Hd (hk.at Fck.out fun h =>h)
 have Fld :=Hd hf
 obtain ⟨wc,hwc⟩:∃ x,x=wn :=⟨_,rfl⟩
 subst hwc
 clear hk hf hlt
 refine rdy [13] (Z04 rfl (fun K hK =>?_) AllReadyH.nil)
 go_simp
 obtain ⟨a4,ha⟩:∃ a,a=wc.heap.size :=⟨_,rfl⟩
 refine (HBO.out _).mono ?_
 rintro r wn ⟨gb,rfl,hf,hk⟩
 rw [← ha] at hf
 have hlt :=(hf.2.1).2
 have Hzbo :=Hd (show a4≤gb∧gb<wn.heap.size from ⟨(hf.2.1).1,hlt⟩)
 have HA4 :=Hd ha
 clear ha
 go_wp2_with fail
 refine hK.out _ _ (HS.out _ (HK.out.keep hk)) (fun hH4 =>?_)
 clear hK K hH3
 try go_frame
 replace HK :=Hd (HK.out.keep hk)
 replace Freg :=Hd (Freg.out.keeps hk)
 replace Fck :=Hd (hk.at Fck.out fun h =>h)
 replace Fld :=Hd (hk.at Fld.out fun h =>h)
 have Fbo :=Hd hf
 obtain ⟨wc,hwc⟩:∃ x,x=wn :=⟨_,rfl⟩
 subst hwc
 clear hk hf hlt
 refine rdy [14] (Z04 rfl (fun K hK =>?_) AllReadyH.nil)
 go_simp
 obtain ⟨a5,ha⟩:∃ a,a=wc.heap.size :=⟨_,rfl⟩
 refine (Zfw _).mono ?_
 rintro r wn ⟨rfl,hwe⟩
 have hf:wn.heap[wc.heap.size]? = some (curB 0) :=by rw [hwe]; exact heap_alloc_last wc _
 have hk:Z00 wc wn :=by rw [hwe]; exact (Mods.refl _ wc).alloc _
 clear hwe
 rw [← ha] at hf ⊢
 have hlt :=Z0a hf
 have Hzcu :=Hd (show a5≤a5∧a5<wn.heap.size from ⟨by omega,hlt⟩)
 have HA5 :=Hd ha
 clear ha
 go_wp2_with fail
 refine hK.out _ _ (HS.out _ (HK.out.keep hk)) (fun hH5 =>?_)
 clear hK K hH4
 try go_frame
 replace HK :=Hd (HK.out.keep hk)
 replace Freg :=Hd (Freg.out.keeps hk)
 replace Fck :=Hd (hk.at Fck.out fun h =>h)
 replace Fld :=Hd (hk.at Fld.out fun h =>h)
 replace Fbo :=Hd (Fbo.out.mods hk fun _ _ h =>h)
 have Fcu :=Hd hf
 obtain ⟨wc,hwc⟩:∃ x,x=wn :=⟨_,rfl⟩
 subst hwc
 clear hk hf hlt
 refine rdy [15] (Z04 rfl (fun K hK =>?_) AllReadyH.nil)
 go_simp
 obtain ⟨a6,ha⟩:∃ a,a=wc.heap.size :=⟨_,rfl⟩
 refine (Zc7 _).mono ?_
 rintro r wn ⟨rfl,hf,hk⟩
 rw [← ha] at hf ⊢
 have hlt :=Zpb hf
 have Hzme :=Hd (show a6≤a6∧a6<wn.heap.size from ⟨by omega,hlt⟩)
 have HA6 :=Hd ha
 clear ha
 go_wp2_with fail
 refine hK.out _ _ (HS.out _ (HK.out.keep hk)) (fun hH6 =>?_)
 clear hK K hH5
 try go_frame
 replace HK :=Hd (HK.out.keep hk)
 replace Freg :=Hd (Freg.out.keeps hk)
 replace Fck :=Hd (hk.at Fck.out fun h =>h)
 replace Fld :=Hd (hk.at Fld.out fun h =>h)
 replace Fbo :=Hd (Fbo.out.mods hk fun _ _ h =>h)
 replace Fcu :=Hd (hk.at Fcu.out fun h =>h)
 have Fme :=Hd hf
 obtain ⟨wc,hwc⟩:∃ x,x=wn :=⟨_,rfl⟩
 subst hwc
 clear hk hf hlt
 refine rdy [18] (Z04 rfl (fun K hK =>?_) AllReadyH.nil)
 go_simp
 obtain ⟨a7,ha⟩:∃ a,a=wc.heap.size :=⟨_,rfl⟩
 refine (HLA.out _).mono ?_
 rintro r wn ⟨gl,rfl,hf,hk⟩
 rw [← ha] at hf
 have hlt :=(hf.2.1).2
 have Hzla :=Hd (show a7≤gl∧gl<wn.heap.size from ⟨(hf.2.1).1,hlt⟩)
 have HA7 :=Hd ha
 clear ha
 go_wp2_with fail
 refine hK.out _ _ (HS.out _ (HK.out.keep hk)) (fun hH7 =>?_)
 clear hK K hH6
 try go_frame
 replace HK :=Hd (HK.out.keep hk)
 replace Freg :=Hd (Freg.out.keeps hk)
 replace Fck :=Hd (hk.at Fck.out fun h =>h)
 replace Fld :=Hd (hk.at Fld.out fun h =>h)
 replace Fbo :=Hd (Fbo.out.mods hk fun _ _ h =>h)
 replace Fcu :=Hd (hk.at Fcu.out fun h =>h)
 replace Fme :=Hd (Fme.out.mods hk fun h =>h)
 have Fla :=Hd hf
 obtain ⟨wc,hwc⟩:∃ x,x=wn :=⟨_,rfl⟩
 subst hwc
 clear hk hf hlt
 refine rdy [21] (Z04 rfl (fun K hK =>?_) AllReadyH.nil)
 go_simp
 obtain ⟨a8,ha⟩:∃ a,a=wc.heap.size :=⟨_,rfl⟩
 refine (HPE.out _).mono ?_
 rintro r wn ⟨rfl,hf,hk, -⟩
 rw [← ha] at hf ⊢
 have hlt :=hf.1 _ rfl
 have Hzpe :=Hd (show a8≤a8∧a8<wn.heap.size from ⟨by omega,hlt⟩)
 have HA8 :=Hd ha
 clear ha
 go_wp2_with fail
 refine hK.out _ _ (HS.out _ (HK.out.keep hk)) (fun hH8 =>?_)
 clear hK K hH7
 try go_frame
 replace HK :=Hd (HK.out.keep hk)
 replace Freg :=Hd (Freg.out.keeps hk)
 replace Fck :=Hd (hk.at Fck.out fun h =>h)
 replace Fld :=Hd (hk.at Fld.out fun h =>h)
 replace Fbo :=Hd (Fbo.out.mods hk fun _ _ h =>h)
 replace Fcu :=Hd (hk.at Fcu.out fun h =>h)
 replace Fme :=Hd (Fme.out.mods hk fun h =>h)
 replace Fla :=Hd (Fla.out.mods hk fun _ _ h =>h)
 have Fpe :=Hd hf
 obtain ⟨wc,hwc⟩:∃ x,x=wn :=⟨_,rfl⟩
 subst hwc
 clear hk hf hlt
 refine rdy [24] (Z04 rfl (fun K hK =>?_) AllReadyH.nil)
 go_simp
 obtain ⟨a9,ha⟩:∃ a,a=wc.heap.size :=⟨_,rfl⟩
 refine (HMG.out _).mono ?_
 rintro r wn ⟨rfl,hf,hk, -⟩
 rw [← ha] at hf ⊢
 have hlt :=hf.1 _ rfl
 have Hzmg :=Hd (show a9≤a9∧a9<wn.heap.size from ⟨by omega,hlt⟩)
 have HA9 :=Hd ha
 clear ha
 go_wp2_with fail
 refine hK.out _ _ (HS.out _ (HK.out.keep hk)) (fun hH9 =>?_)
 clear hK K hH8
 try go_frame
 replace HK :=Hd (HK.out.keep hk)
 replace Freg :=Hd (Freg.out.keeps hk)
 replace Fck :=Hd (hk.at Fck.out fun h =>h)
 replace Fld :=Hd (hk.at Fld.out fun h =>h)
 replace Fbo :=Hd (Fbo.out.mods hk fun _ _ h =>h)
 replace Fcu :=Hd (hk.at Fcu.out fun h =>h)
 replace Fme :=Hd (Fme.out.mods hk fun h =>h)
 replace Fla :=Hd (Fla.out.mods hk fun _ _ h =>h)
 replace Fpe :=Hd (Fpe.out.mods hk fun _ _ h =>h)
 have Fmg :=Hd hf
 obtain ⟨wc,hwc⟩:∃ x,x=wn :=⟨_,rfl⟩
 subst hwc
 clear hk hf hlt
 refine rdy [27] (Z04 rfl (fun K hK =>?_) AllReadyH.nil)
 go_simp
 obtain ⟨a10,ha⟩:∃ a,a=wc.heap.size :=⟨_,rfl⟩
 refine (HPR.out _).mono ?_
 rintro r wn ⟨rfl,hf,hk, -⟩
 rw [← ha] at hf ⊢
 have hlt :=hf.1 _ rfl
 have Hzpr :=Hd (show a10≤a10∧a10<wn.heap.size from ⟨by omega,hlt⟩)
 have HA10 :=Hd ha
 clear ha
 go_wp2_with fail
 refine hK.out _ _ (HS.out _ (HK.out.keep hk)) (fun hH10 =>?_)
 clear hK K hH9
 try go_frame
 replace HK :=Hd (HK.out.keep hk)
 replace Freg :=Hd (Freg.out.keeps hk)
 replace Fck :=Hd (hk.at Fck.out fun h =>h)
 replace Fld :=Hd (hk.at Fld.out fun h =>h)
 replace Fbo :=Hd (Fbo.out.mods hk fun _ _ h =>h)
 replace Fcu :=Hd (hk.at Fcu.out fun h =>h)
 replace Fme :=Hd (Fme.out.mods hk fun h =>h)
 replace Fla :=Hd (Fla.out.mods hk fun _ _ h =>h)
 replace Fpe :=Hd (Fpe.out.mods hk fun _ _ h =>h)
 replace Fmg :=Hd (Fmg.out.mods hk fun _ _ h =>h)
 have Fpr :=Hd hf
 obtain ⟨wc,hwc⟩:∃ x,x=wn :=⟨_,rfl⟩
 subst hwc
 clear hk hf hlt
 refine tkb 28 rfl hH10 (Z9z (by rfl) 98 _ (engC c ⟨a1+1,a2,a3,gb,a5,a6,gl,a8,a9,a10⟩ (.slice none 0 0)) rfl (by kernel_rfl)) ?_
 try go_frame
 refine rdy [29] (Z04 rfl (fun K hK =>?_) AllReadyH.nil)
 go_simp
 obtain ⟨a11,ha⟩:∃ a,a=wc.heap.size :=⟨_,rfl⟩
 rw [← ha]
 refine Z14 ?_
 intro wn hwn
 have hf:wn.heap[a11]? = some (engB c ⟨a1+1,a2,a3,gb,a5,a6,gl,a8,a9,a10⟩ (.slice none 0 0)) :=by rw [hwn,ha]; exact heap_alloc_last wc _
 have hk:Z00 wc wn :=by rw [hwn]; exact (Mods.refl _ wc).alloc _
 have hlt :=Z0a hf
 have HA11 :=Hd ha
 clear ha hwn
 refine hK.out _ _ (HS.out _ (HK.out.keep hk)) (fun hH11 =>?_)
 clear hK K hH10
 try go_frame
 replace HK :=Hd (HK.out.keep hk)
 replace Freg :=Hd (Freg.out.keeps hk)
 replace Fck :=Hd (hk.at Fck.out fun h =>h)
 replace Fld :=Hd (hk.at Fld.out fun h =>h)
 replace Fbo :=Hd (Fbo.out.mods hk fun _ _ h =>h)
 replace Fcu :=Hd (hk.at Fcu.out fun h =>h)
 replace Fme :=Hd (Fme.out.mods hk fun h =>h)
 replace Fla :=Hd (Fla.out.mods hk fun _ _ h =>h)
 replace Fpe :=Hd (Fpe.out.mods hk fun _ _ h =>h)
 replace Fmg :=Hd (Fmg.out.mods hk fun _ _ h =>h)
 replace Fpr :=Hd (Fpr.out.mods hk fun _ _ h =>h)
 have Fe :=Hd hf
 have Hze :=Hd (show a11<wn.heap.size from hlt)
 obtain ⟨wc,hwc⟩:∃ x,x=wn :=⟨_,rfl⟩
 subst hwc
 clear hk hf hlt
 refine tk 30 rfl hH11 ?_
 try go_frame
 refine tk 31 rfl hH11 ?_
 try go_frame
 refine wpAnyH_done (by kernel_rfl) ?_ _
 have hS :=Hd hH11
 clear hH11
 clear hS
 go_wp2
 go_ret2
 have m1:z+1≤a1 :=by have :=HZ1.out; have :=HA1.out; omega
 have m2:a1+1<a2 :=by have :=Hzreg.out; have :=HA2.out; omega
 have m3:a2<a3 :=by have :=Hzck.out; have :=HA3.out; omega
 have m4:a3<a4 :=by have :=Hzld.out; have :=HA4.out; omega
 have m5:a4≤gb∧gb<a5 :=by have :=Hzbo.out; have :=HA5.out; omega
 have m6:a5<a6 :=by have :=Hzcu.out; have :=HA6.out; omega
 have m7:a6<a7 :=by have :=Hzme.out; have :=HA7.out; omega
 have m8:a7≤gl∧gl<a8 :=by have :=Hzla.out; have :=HA8.out; omega
 have m9:a8<a9 :=by have :=Hzpe.out; have :=HA9.out; omega
 have m10:a9<a10 :=by have :=Hzmg.out; have :=HA10.out; omega
 have m11:a10<a11 :=by have :=Hzpr.out; have :=HA11.out; omega
 have m12:a11<wc.heap.size :=Hze.out
 have fbo :=Fbo.out
 have fla :=Fla.out
 rw [← HA5.out] at fbo
 rw [← HA8.out] at fla
 have hkf:Z00 w wc :=HK0.out.keep (HK1.out.keep HK.out)
 have ho :=Zob (s1 :=a1) (s2 :=a2) (s3 :=a3) (s4 :=a4) (s6 :=a5) (s7 :=a6) (s8 :=a7) (s9 :=a8) (s10 :=a9) (s11 :=a10) (s12 :=a11) (s13 :=wc.heap.size) (by omega) (by omega) (by omega) (by omega) (by omega) (by omega) (by omega) (by omega) (by omega) (by omega) (by omega)
 obtain ⟨o0,o1,o2,o3,o4,o6,o7,o8,o9,o10,o11,o12,o13⟩ :=ho
 generalize own0 a1 a2 a3 a4 a5 a6 a7 a8 a9 a10 a11 wc.heap.size=own at *
 refine ⟨a11,⟨a1+1,a2,a3,gb,a5,a6,gl,a8,a9,a10⟩,own,rfl,⟨fun i hi =>o13 i hi,o12 a11 (Nat.le_refl _) m12,fun _ =>⟨_,Fe.out,World.ownsRow_nil _ _ _ _,fun k hk =>by cases hk⟩,fun _ =>⟨_,_,_,Zg2 Freg.out,Nat.le_refl _,fun i hi =>?_⟩,fun _ =>Fck.out,o2 a2 (Nat.le_refl _) m3,fun _ =>⟨Fld.out, ?_⟩,o3 a3 (Nat.le_refl _) m4,fun _ =>?_,fun _ =>Fcu.out,o6 a5 (Nat.le_refl _) m6,fun _ =>Fme.out,o7 a6 (Nat.le_refl _) m7,fun _ =>?_,fun _ =>?_,fun _ =>?_,fun _ =>?_⟩,⟨fun i hi =>o0 i (by have :=HZ.out; omega),hkf.weaken fun _ _ h =>h.elim⟩⟩
 ·have h1:i=a1+1∨i=a1 :=by
   rcases hi with hi | hi | hi
   ·exact .inl hi
   ·exact .inr hi
   ·cases hi
  exact o1 i (by omega) (by omega)
 ·have :=HC4.out
  exact ⟨by simp [en0],by simp [en0],by simp [en0],by simp [en0,maxU],by simp only [en0]; omega,by simp only [en0,maxU]; omega⟩
 ·exact fbo.weak (fun i hi =>⟨o4 i hi.1 hi.2,by omega⟩) fun i hi =>hi.2
 ·exact fla.weak (fun i hi =>⟨o8 i hi.1 hi.2,by omega⟩) fun i hi =>hi.2
 ·exact Fpe.out.weak (fun i hi =>⟨by rw [hi]; exact o9 _ (by omega) (by omega),by omega⟩) fun i hi =>hi.2
 ·exact Fmg.out.weak (fun i hi =>⟨by rw [hi]; exact o10 _ (by omega) (by omega),by omega⟩) fun i hi =>hi.2
 ·exact Fpr.out.weak (fun i hi =>⟨by rw [hi]; exact o11 _ (by omega) (by omega),by omega⟩) fun i hi =>hi.2
end Go.Proofs.YtecapfmmoejikaaGreat
namespace Go.Eg
open Go Go.RowKit
def Z15 (l:List Od):List Value :=l.flatMap fun v =>v.cells.toList
theorem Z3m (l:List Od):(Z15 l).length=l.length * 4 :=by
 induction l with
 | nil =>rfl
 | cons x r ih =>
  have:Z15 (x :: r)=x.cells.toList ++ Z15 r :=rfl
  rw [this,List.length_append,ih,List.length_cons]
  simp
  omega
theorem Zbb (l:List Od) (v:Od):Z15 (l ++ [v])=Z15 l ++ v.cells.toList :=by simp [Z15]
theorem Z9h (l:List Od) (i:Nat) (hi:i<l.length) (j:Nat) (hj:j<4):(Z15 l)[i * 4+j]? = l[i].cells.toList[j]? := by
 induction l generalizing i with
 | nil =>simp at hi
 | cons x r ih =>
  have e:Z15 (x :: r)=x.cells.toList ++ Z15 r :=rfl
  rw [e]
  have hx:x.cells.toList.length=4 :=rfl
  cases i with
  | zero =>
   rw [List.getElem?_append_left (by omega)]
   simp
  | succ i =>
   rw [List.getElem?_append_right (by omega),hx,show (i+1) * 4+j - 4=i * 4+j from by omega]
   exact ih i (by simpa using hi)
def OdL (w:World) (v:Value) (l:List Od):Prop :=
 ∃ a cap,v = .slice a l.length cap∧(a=none→cap=0)∧(0<l.length→∃ b off,a=some ⟨b,off,none⟩∧∀ i (hi:i<l.length) j,j<4→w.cell? ⟨b,off+i * 4+j,none⟩=l[i].cells.toList[j]?)
theorem OdL.mods {S:Nat→Prop} {a b:World} {v:Value} {l:List Od} (h:OdL a v l) (hm:Mods S a b) (hS:∀ k,v.ownBlock=some k→¬ S k):OdL b v l :=by
 obtain ⟨p,cap,rfl,h0,hx⟩ :=h
 refine ⟨p,cap,rfl,h0,fun hl =>?_⟩
 obtain ⟨g,off,rfl,hc⟩ :=hx hl
 refine ⟨g,off,rfl,fun i hi j hj =>?_⟩
 have h1 :=hc i hi j hj
 obtain ⟨u,hu⟩:∃ u,l[i].cells.toList[j]? = some u :=⟨_,List.getElem?_eq_getElem (l :=l[i].cells.toList) (i :=j) (by show j<4; exact hj)⟩
 rw [hu] at h1 ⊢
 exact hm.cell h1 (hS g rfl)
theorem OdL.keeps {a b:World} {v:Value} {l:List Od} (h:OdL a v l) (hm:Z00 a b):OdL b v l :=h.mods hm fun _ _ h =>h
theorem OdL.slice {w:World} {v:Value} {l:List Od} (h:OdL w v l):∃ a cap,v = .slice a l.length cap :=by
 obtain ⟨a,cap,h,_⟩ :=h
 exact ⟨a,cap,h⟩
theorem OdL.of_owns {w:World} {B:Nat} {e:TypeId} {v:Value} {l:List Od} (h:w.ownsRow B e 4 v l.length (Z15 l)):OdL w v l :=by
 rcases h.2 with ⟨rfl,h0⟩ | ⟨b,cap,cur,rfl,hg,hh,r⟩
 ·exact ⟨none,0,by rw [h0],fun _ =>rfl,fun hl =>by omega⟩
 ·refine ⟨_,cap,rfl,(fun h =>by cases h),fun hl =>⟨b,0,rfl,fun i hi j hj =>?_⟩⟩
  rw [Nat.zero_add,h.cellAt (i * 4+j) (by omega),Z9h l i hi j hj]
theorem OdL.news {w:World} {b off cap:Nat} {l:List Od} (h:OdL w (.slice (some ⟨b,off,none⟩) l.length cap) l):∀ j u,(Z15 l)[j]? = some u→w.cell? ((⟨b,off,none⟩:Addr).add j)=some u :=by
 intro j u hu
 have hj:j<l.length * 4 :=by have :=(List.getElem?_eq_some_iff.1 hu).1; rw [Z3m] at this; exact this
 obtain ⟨a,c,e,_,hx⟩ :=h
 simp only [Value.slice.injEq] at e
 obtain ⟨rfl,_,rfl⟩ :=e
 obtain ⟨b',off',e,hc⟩ :=hx (by omega)
 simp only [Option.some.injEq,Addr.mk.injEq,and_true] at e
 obtain ⟨rfl,rfl⟩ :=e
 have hd:j / 4<l.length :=by omega
 have h1 :=hc (j / 4) hd (j % 4) (by omega)
 have h2 :=Z9h l (j / 4) hd (j % 4) (by omega)
 rw [show j / 4 * 4+j % 4=j from by omega] at h2
 rw [addr_add,← hu,h2,← h1,show b=b from rfl,Nat.add_assoc,show j / 4 * 4+j % 4=j from by omega]
theorem Zgn (l:List Od):∀ u∈Z15 l,u.oneCell'=true :=by
 intro u hu
 unfold Z15 at hu
 obtain ⟨v,_,h⟩ :=List.mem_flatMap.1 hu
 simp at h
 rcases h with rfl | rfl | rfl | rfl <;> rfl
theorem OdL.at {w:World} {a:Option Addr} {cap:Nat} {l:List Od} (h:OdL w (.slice a l.length cap) l) (i:Nat) (hi:i<l.length) :
 ∃ b off,a=some ⟨b,off,none⟩∧w.cell? ⟨b,off+i * 4,none⟩=some (.int .i64 l[i].kd)∧w.cell? ⟨b,off+i * 4+1,none⟩=some (.int .i64 l[i].ix)∧w.cell? ⟨b,off+i * 4+2,none⟩=some (.int .i64 l[i].tg)∧w.cell? ⟨b,off+i * 4+3,none⟩=some (.int .u64 l[i].am) :=by
 obtain ⟨a',c,e,_,hx⟩ :=h
 simp only [Value.slice.injEq] at e
 obtain ⟨rfl,_,rfl⟩ :=e
 obtain ⟨b,off,rfl,hc⟩ :=hx (by omega)
 have c0 :=hc i hi 0 (by omega)
 rw [Nat.add_zero] at c0
 exact ⟨b,off,rfl,c0,hc i hi 1 (by omega),hc i hi 2 (by omega),hc i hi 3 (by omega)⟩
theorem Zad {l:List Od} {k:Nat} (hk:k<l.length):l.take (k+1)=l.take k ++ [l[k]] :=by simp
end Go.Eg
namespace Go.Proofs.YtecapfmmoejikaaGreat
open Go.RowKit Go.Eg
theorem Zj0:(Tryz.prog.info? 34).map (fun i =>(i.zero,i.size,i.bytes))=some (some (Od.val ⟨0,0,0,0⟩),4,32) :=by kernel_rfl
theorem Zah {ops:Array Oper} {rest:List Oper} {o:Oper} {a:Act} {Q:Exit→Act→World→Prop} (w:World) (hgd:o.guard=none) (s x:Operand)
 (ho:o.op = .call { callee := .builtin .append,args := #[s,x],argTypes := #[25,25] })
 (B:Nat) (v:Value) (l0 l:List Od) (hs:a.eval s=v) (hown:w.ownsRow B 34 4 v l0.length (Z15 l0)) (u:Value) (hx:a.eval x=u) (hu:OdL w u l) (hn:l0.length+l.length≤8192) (hB:B≤w.heap.size)
 (h:∀ v' w',w'.ownsRow B 34 4 v' (l0 ++ l).length (Z15 (l0 ++ l))→w.grownBy w' v.ownBlock→wpList Tryz.prog ops Q rest (a.put o.dst v') w'):wpList Tryz.prog ops Q (o :: rest) a w :=by
 obtain ⟨i0,hi,hz0,hz1,hz2⟩ :=info_parts Zj0
 have hU :=hu
 obtain ⟨ad,cap,rfl,h0,hc⟩ :=hu
 have hf:Z15 (l0 ++ l)=Z15 l0 ++ Z15 l :=by simp [Z15]
 cases ad with
 | none =>
  obtain rfl :=h0 rfl
  have hl:l = [] :=by
   by_cases e:0<l.length
   ·obtain ⟨_,_,e,_⟩ :=hc e
    cases e
   ·exact List.length_eq_zero_iff.1 (by omega)
  subst hl
  refine wpList_append_own_none hgd s x _ ho B _ i0 4 Tryz.underlying25 hi v l0.length (Z15 l0) hs hown hx (h v w ?_ ?_)
  ·simpa using hown
  ·exact ⟨rfl,rfl,rfl,Nat.le_refl _,fun _ _ _ =>rfl⟩
 | some ad =>
  refine wpList_append_own w hgd s x _ ho B _ i0 _ 4 32 Tryz.underlying25 hi hz0 hz1 hz2 rfl (by decide) v l0.length (Z15 l0) hs hown ad l.length cap (Z15 l) hx (Z3m l) ?_ (Zgn l) (by unfold maxLen; omega) (by omega) hB ?_
  ·by_cases e:0<l.length
   ·obtain ⟨b,off,e,_⟩ :=hc e
    simp only [Option.some.injEq] at e
    subst e
    exact hU.news
   ·have:l = [] :=List.length_eq_zero_iff.1 (by omega)
    subst this
    intro j u hu
    simp [Z15] at hu
  ·intro v' w' ho' hg _
   refine h v' w' ?_ hg
   rw [hf,List.length_append]
   exact ho'
theorem OdL.one {W:World} {A:Nat} {t:TypeId} {fr:Nat × Nat} (v:Od) (h:W.heap[A]? = some (.cells v.cells t fr)):OdL W (.slice (some ⟨A,0,none⟩) 1 1) [v] :=by
 refine ⟨_,1,rfl,(fun h =>by cases h),fun _ =>⟨A,0,rfl,fun i hi j hj =>?_⟩⟩
 have h0:i=0 :=by simpa using hi
 subst h0
 simp only [Nat.zero_mul,Nat.add_zero,Nat.zero_add,List.getElem_cons_zero]
 simp [World.cell?,h]
theorem Zhv (w:World) (n c:Nat) (ad:Addr):(binOp .eql 25 (.slice (some ad) n c) (.slice none 0 0)).run Tryz.prog w = .ok (.bool false) w :=rfl
theorem Zg9 (w:World):(binOp .eql 25 (.slice none 0 0) (.slice none 0 0)).run Tryz.prog w = .ok (.bool true) w :=rfl
theorem Zn5 (v:Value) (l:List Od) (w:World) (h:OdL w v l) (hn:l.length≤8192) :
 Calls Tryz.prog 10 #[v] w fun r w' => ∃ v',r = .returned v'∧w'.ownsRow w.heap.size 34 4 v' l.length (Z15 l)∧Z00 w w' :=by
 have H :=Hd h
 obtain ⟨a,cap,rfl,h0,hc⟩ :=h
 by_cases hnil:a=none
 ·have :=h0 hnil
  have hl:l = [] :=by
   by_cases e:0<l.length
   ·obtain ⟨_,_,e,_⟩ :=hc e
    rw [hnil] at e
    cases e
   ·exact List.length_eq_zero_iff.1 (by omega)
  subst this hnil hl
  have hsn :=Zg9
  go_enter Tryz.func10,Tryz.ntmps10
  go_wp2
  go_ret
  exact ⟨_,rfl,World.ownsRow_nil _ _ _ _,Mods.refl _ _⟩
 ·obtain ⟨ad,rfl⟩ :=Option.ne_none_iff_exists'.1 hnil
  clear h0 hc hnil
  have hsn :=Zhv
  go_enter Tryz.func10,Tryz.ntmps10
  go_wp2_with (at_builtin; refine Zah _ rfl (.tmp 5) (.tmp 6) rfl w.heap.size (.slice (some ⟨w.heap.size,0,none⟩) 0 0) [] l rfl ?_ _ rfl (H.out.keeps ((Mods.refl _ w).alloc _)) (by simpa using hn) (by simp) ?_)
  ·exact World.ownsRow_lit w #[] 0 (Nat.le_refl _) (by unfold maxLen; omega) rfl
  ·intro v' w' ho hg
   have HO :=Hd ho
   have HG :=Hd hg
   obtain ⟨a',c',rfl⟩ :=Z1j ho
   clear ho hg
   go_wp2
   go_ret
   exact ⟨_,rfl,HO.out,((Mods.refl _ w).alloc _).grown HG.out (fun j hj e =>by simp [Value.ownBlock] at e; omega)⟩
theorem Zhh {H:Type} {enc:TypeId × Value→H} {w:World} {base:Nat} {spare:Nat→Bool} {held:Bool} {m:Nat} {y:DataW H × List MemPlace} {c:Nat→Value} (h:DataW.trod enc Tryz.prog w base spare held m 34 [c 0,c 1,c 2,c 3]=some y) :
 ∃ v:Od,v.ok∧c 0 = .int .i64 v.kd∧c 1 = .int .i64 v.ix∧c 2 = .int .i64 v.tg∧c 3 = .int .u64 v.am :=by
 have hf:∃ fs,Tryz.prog.underlying 34=some (.struct fs)∧(fs[0]?).map (fun f =>(f.type,f.offset))=some (3,0)∧(fs[1]?).map (fun f =>(f.type,f.offset))=some (3,1)∧(fs[2]?).map (fun f =>(f.type,f.offset))=some (3,2)∧(fs[3]?).map (fun f =>(f.type,f.offset))=some (22,3) :=⟨_,Tryz.underlying34,by kernel_rfl,by kernel_rfl,by kernel_rfl,by kernel_rfl⟩
 obtain ⟨fs,hfs,h0,h1,h2,h3⟩ :=hf
 have get:∀ (j:Nat) (t:TypeId) (k:Nat),(fs[j]?).map (fun f =>(f.type,f.offset))=some (t,k)→∃ m y,DataW.trod enc Tryz.prog w base spare held m t ((([c 0,c 1,c 2,c 3]:List Value).drop k).take (Tryz.prog.cellsOf t))=some y :=by
  intro j t k hj
  obtain ⟨f,hf,e⟩ :=Option.map_eq_some_iff.1 hj
  simp only [Prod.mk.injEq] at e
  obtain ⟨m',y',g⟩ :=Zgs hfs h j f hf
  rw [e.1,e.2] at g
  exact ⟨m',y',g⟩
 have ci:Tryz.prog.cellsOf 3=1 :=by kernel_rfl
 have cu:Tryz.prog.cellsOf 22=1 :=by kernel_rfl
 obtain ⟨m0,y0,g0⟩ :=get 0 _ _ h0
 obtain ⟨m1,y1,g1⟩ :=get 1 _ _ h1
 obtain ⟨m2,y2,g2⟩ :=get 2 _ _ h2
 obtain ⟨m3,y3,g3⟩ :=get 3 _ _ h3
 rw [cu] at g3
 rw [ci] at g0 g1 g2
 obtain ⟨a0,b0,_,w0⟩ :=DataW.trod_int Tryz.underlying3 g0
 obtain ⟨a1,b1,_,w1⟩ :=DataW.trod_int Tryz.underlying3 g1
 obtain ⟨a2,b2,_,w2⟩ :=DataW.trod_int Tryz.underlying3 g2
 obtain ⟨a3,b3,_,w3⟩ :=DataW.trod_int Tryz.underlying22 g3
 simp at b0 b1 b2 b3
 exact ⟨⟨a0,a1,a2,a3⟩,⟨w0,w1,w2,bounds_u64 w3⟩,b0,b1,b2,b3⟩
def odZ:Od :=⟨0,0,0,0⟩
theorem Zqi {H:Type} {enc:TypeId × Value→H} {w:World} {base:Nat} {spare:Nat→Bool} {held:Bool} {v:Value} {d:DataW H} {p:List MemPlace} (h:DataW.Trod enc Tryz.prog w base spare held 25 v d p) (hsl:∃ a n cap,v = .slice a n cap) :
 ∃ l,OdL w v l∧l.length≤9223372036854775807∧∀ x∈l,x.ok :=by
 obtain ⟨n,F,hrow,hn,hr⟩ :=Zjs Tryz.underlying25 4 (by kernel_rfl) (by omega) h hsl
 have hnone:∀ n cap,v = .slice none n cap→cap=0 :=by
  intro n cap e
  subst e
  obtain ⟨fuel,hf⟩ :=h
  rcases Go.Deep.open_slice Tryz.underlying25 hf with ⟨h1,_⟩ | ⟨a,len,cap,m,k,D,Pl,hcs,_⟩
  ·simp [Value.cells] at h1
   exact h1.2
  ·simp [Value.cells] at hcs
 have key:∀ i,i<n→∃ x:Od,x.ok∧∀ j,j<4→some (F i j)=x.cells.toList[j]? := by
  intro i hi
  obtain ⟨m,y,hy⟩ :=hr i hi
  have l:(List.range 4).map (F i) = [F i 0,F i 1,F i 2,F i 3] :=rfl
  rw [l] at hy
  obtain ⟨x,hx,x0,x1,x2,x3⟩ :=Zhh hy
  refine ⟨x,hx,fun j hj =>?_⟩
  match j,hj with
  | 0,_ =>exact congrArg some x0
  | 1,_ =>exact congrArg some x1
  | 2,_ =>exact congrArg some x2
  | 3,_ =>exact congrArg some x3
 haveI:Inhabited Od :=⟨odZ⟩
 obtain ⟨q,hq⟩ :=Go.Deep.choose_lt key
 obtain ⟨a,cap,rfl,hc⟩ :=hrow
 refine ⟨(List.range n).map q,⟨a,cap,by simp,fun e =>hnone n cap (by rw [e]),fun h0 =>?_⟩,by simpa using hn, ?_⟩
 ·have h0':0<n :=by simpa using h0
  obtain ⟨b,off,rfl,hcc⟩ :=hc h0'
  refine ⟨b,off,rfl,fun i hi j hj =>?_⟩
  have hi':i<n :=by simpa using hi
  rw [hcc i hi' j hj,(hq i hi').2 j hj]
  simp
 ·intro x hx
  obtain ⟨i,hi,rfl⟩ :=List.mem_map.1 hx
  exact (hq i (List.mem_range.1 hi)).1
end Go.Proofs.YtecapfmmoejikaaGreat
namespace Go.Eg
open Go Go.RowKit
theorem Zeg {P:Program} {w:World} {ops:Array Oper} {o:Oper} {a:Act} {K:Act→World→Prop} {Q:Exit→Act→World→Prop} {E:Prop} (hgd:o.guard=none) (d s:Operand) (dT sT:TypeId)
 (ho:o.op = .call { callee := .builtin .copy,args := #[d,s],argTypes := #[dT,sT] }) (elem:TypeId) (k:Nat) (hu:P.underlying dT=some (.slice elem)) (hsz:(P.info? elem).map (·.size)=some k)
 (dp sp:Option Addr) (dLen dCap sLen sCap:Nat) (hd:a.eval d = .slice dp dLen dCap) (hs:a.eval s = .slice sp sLen sCap)
 (g off N n:Nat) (F G:Nat→Value) (t:TypeId) (hg:w.heap[g]? = some (rowC F N t)) (hn:n=Nat.min sLen dLen)
 (hpos:0<n→dp=some ⟨g,off,none⟩∧∃ b so,sp=some ⟨b,so,none⟩∧∀ j,j<n * k→w.cell? ⟨b,so+j,none⟩=some (G j))
 (hfit:off+n * k≤N) (h1:∀ j,j<n * k→(G j).oneCell'=true)
 (h:∀ w',w'.heap[g]? = some (rowC (fun j =>if off≤j∧j<off+n * k then G (j - off) else F j) N t)→Mods (· = g) w w'→K (a.put o.dst (.int .i64 (n:Int))) w') :
 if Region.wanted o (yielded ops a.tmps)=true then Oper.wp P o a w K Q else E :=by
 have hw:Region.wanted o (yielded ops a.tmps)=true :=by simp [Region.wanted,hgd]
 rw [if_pos hw]
 by_cases h0:n=0
 ·have hrun :=Z63 (P :=P) w dT sT o.type elem k dp sp dLen dCap sLen sCap hu hsz (by omega)
  unfold Oper.wp
  simp [execOp,ho,resolve,invoke,builtin,hd,hs,hrun,Result.andThen]
  subst h0
  refine h w ?_ (Mods.refl _ _)
  rw [hg]
  congr 1
  exact Z1c fun j _ =>by rw [if_neg (by omega)]
 ·obtain ⟨rfl,b,so,rfl,hsrc⟩ :=hpos (by omega)
  have hlen:((List.range (n * k)).map G).length=n * k :=by simp
  have hrun :=Zak (P :=P) w dT sT o.type elem k g off dLen dCap ⟨b,so,none⟩ sLen sCap ((Array.range N).map F) t ((List.range (n * k)).map G) hu hsz hg (by rw [hlen,hn]) (fun j v hj =>by
   have hjl:j<n * k :=by have :=(List.getElem?_eq_some_iff.1 hj).1; rwa [hlen] at this
   rw [addr_add]
   simp [hjl] at hj
   rw [← hj]
   exact hsrc j hjl) (by rw [hlen]; simpa using hfit) (fun v hv =>by
   obtain ⟨j,hj,rfl⟩ :=List.mem_map.1 hv
   exact h1 j (List.mem_range.1 hj))
  unfold Oper.wp
  simp [execOp,ho,resolve,invoke,builtin,hd,hs,hrun,Result.andThen]
  have hnn:goInt (Nat.min sLen dLen) = .int .i64 (n:Int) :=by rw [hn]; rfl
  have hm:Mods (· = g) w (w.setRow g (((Array.range N).map F).toList.take off ++ (List.range (n * k)).map G ++ ((Array.range N).map F).toList.drop (off+((List.range (n * k)).map G).length)).toArray) :=(Mods.refl _ w).setRow _ _ fun _ =>rfl
  have hr :=setRow_heap w g ((Array.range N).map F) (((Array.range N).map F).toList.take off ++ (List.range (n * k)).map G ++ ((Array.range N).map F).toList.drop (off+((List.range (n * k)).map G).length)).toArray t _ hg
  have hfin :=h _ (by
   rw [hr]
   congr 2
   apply Array.ext_getElem?
   intro j
   rw [List.getElem?_toArray,Z6s _ _ _ j (by simp only [Array.length_toList,Array.size_map,Array.size_range,hlen]; exact hfit),hlen]
   by_cases hj:j<N
   ·by_cases h1':j<off
    ·rw [if_pos h1']
     simp [hj,show ¬ off≤j by omega]
    ·rw [if_neg h1']
     by_cases h2':j<off+n * k
     ·rw [if_pos h2']
      simp [hj,show off≤j by omega,h2',show j - off<n * k by omega]
     ·rw [if_neg h2']
      simp [hj,h2']
   ·rw [if_neg (by omega),if_neg (by omega)]
    simp [hj]) hm
  rw [hnn]
  show K _ _
  simpa using hfin
end Go.Eg
namespace Go.Proofs.YtecapfmmoejikaaGreat
open Go.RowKit Go.Eg
def repF (o:Od) (k j:Nat):Value :=if j<4 * k then (o.cells[j % 4]?).getD (.int .i64 0) else (([Value.int .i64 0,Value.int .i64 0,Value.int .i64 0,Value.int .u64 0]:List Value)[j % 4]?).getD default
theorem Zn3:(Tryz.prog.info? 34).map (·.size)=some 4 :=by kernel_rfl
theorem Zem {w:World} {B B' n size:Nat} {e:TypeId} {v:Value} {xs:List Value} (h:w.ownsRow B e size v n xs) (hb:B'≤B):w.ownsRow B' e size v n xs :=by
 refine ⟨h.1,h.2.imp id ?_⟩
 rintro ⟨g,cap,cur,h1,h2,h3⟩
 exact ⟨g,cap,cur,h1,Nat.le_trans hb h2,h3⟩
theorem Zkq (o:Od) (k j:Nat):(repF o k j).oneCell'=true :=by
 have h4:j % 4<4 :=Nat.mod_lt _ (by omega)
 unfold repF
 generalize j % 4=m at *
 match m,h4 with
 | 0,_ =>split <;> rfl
 | 1,_ =>split <;> rfl
 | 2,_ =>split <;> rfl
 | 3,_ =>split <;> rfl
theorem Zjh (o:Od) (n k j:Nat) (hkn:k≤n):(if k * 4≤j∧j<k * 4+min k (n - k) * 4 then repF o k (j - k * 4) else repF o k j)=repF o (k+min k (n - k)) j :=by
 by_cases h:k * 4≤j∧j<k * 4+min k (n - k) * 4
 ·rw [if_pos h]
  unfold repF
  rw [if_pos (by omega),if_pos (by omega),show (j - k * 4) % 4=j % 4 from by omega]
 ·rw [if_neg h]
  unfold repF
  by_cases h1:j<4 * k
  ·rw [if_pos h1,if_pos (by omega)]
  ·rw [if_neg h1,if_neg (by omega)]
theorem Ziz (o:Od) (n:Nat) (t:TypeId):rowC (repF o n) (n * 4) t = .cells (Z15 (List.replicate n o)).toArray t (0,0) :=by
 unfold rowC
 congr 1
 apply Array.ext_getElem?
 intro j
 by_cases hj:j<n * 4
 ·have h :=Z9h (List.replicate n o) (j / 4) (by simp; omega) (j % 4) (by omega)
  rw [show j / 4 * 4+j % 4=j from by omega] at h
  have h4:j % 4<o.cells.toList.length :=by show j % 4<4; omega
  have h2:(Z15 (List.replicate n o)).toArray[j]? = o.cells.toList[j % 4]? := by rw [List.getElem?_toArray,h,List.getElem_replicate]
  rw [h2,List.getElem?_eq_getElem h4]
  simp only [Array.getElem?_map,Array.getElem?_range,hj,if_true,Option.map_some,repF]
  rw [if_pos (by omega),← Array.getElem?_toList,List.getElem?_eq_getElem h4]
  rfl
 ·have:(Z15 (List.replicate n o)).length=n * 4 :=by rw [Z3m]; simp
  simp [hj,this]
theorem mul_any (x y:Nat) (hx:x<18446744073709551616) (hy:y<18446744073709551616) (w:World) :
 Calls Tryz.prog 66 #[.int .u64 x, .int .u64 y] w fun e w' =>e = .returned (.tuple #[.int .u64 ((x * y / 18446744073709551616:Nat):Int), .int .u64 ((x * y % 18446744073709551616:Nat):Int)])∧w=w' :=by
 have M :=Hd (fun w =>Zdf x y hx hy w)
 have e1:IntKind.u64.wrap (x:Int)=x :=by rw [IntKind.wrap_u64]; omega
 have e2:IntKind.u64.wrap (y:Int)=y :=by rw [IntKind.wrap_u64]; omega
 have p1:x * y / 18446744073709551616<18446744073709551616 :=by
  rw [Nat.div_lt_iff_lt_mul (by omega)]
  exact Nat.mul_lt_mul_of_lt_of_lt hx hy
 have p2:x * y % 18446744073709551616<18446744073709551616 :=Nat.mod_lt _ (by omega)
 generalize x * y / 18446744073709551616=p at *
 generalize x * y % 18446744073709551616=q at *
 have e3:IntKind.u64.wrap (p:Int)=p :=by rw [IntKind.wrap_u64]; omega
 have e4:IntKind.u64.wrap (q:Int)=q :=by rw [IntKind.wrap_u64]; omega
 clear p1 p2 hx hy
 go_enter Tryz.func66,Tryz.ntmps66
 go_wp2_with fail
 refine (M.out _).mono ?_
 rintro r w1 ⟨rfl,rfl⟩
 go_wp2
 go_ret2
 exact ⟨rfl,rfl⟩
theorem Zh5 (v:Value) (o:Od) (n:Nat) (w:World) (h:OdL w v [o]) (h1:1≤n) (hn:n≤1000) :
 Calls Tryz.prog 35 #[v, .int .i64 (n:Int)] w fun r w' => ∃ v',r = .returned v'∧w'.ownsRow w.heap.size 34 4 v' n (Z15 (List.replicate n o))∧Z00 w w' :=by
 have H :=Hd h
 obtain ⟨a,cap,rfl,h0,hc⟩ :=h
 obtain ⟨b,off,rfl,hcc⟩ :=hc (by simp)
 have hb :=cell_lt (hcc 0 (by simp) 0 (by omega))
 clear h0 hc hcc
 have m1:1 * n / 18446744073709551616=0 :=by omega
 have m2:1 * n % 18446744073709551616=n :=by omega
 have M :=Hd (fun w =>mul_any 1 n (by omega) (by omega) w)
 rw [m1,m2] at M
 have e1:IntKind.u64.wrap (n:Int)=n :=by rw [IntKind.wrap_u64]; omega
 have e2:IntKind.i64.wrap (n:Int)=n :=by rw [IntKind.wrap_i64]; omega
 have hn0 : ¬ ((n:Int)<0) :=by omega
 have hn1 : ¬ ((n:Int) > 9223372036854775807) :=by omega
 have hinf :=Zj0
 have hsz :=Zn3
 go_enter Tryz.func35,Tryz.ntmps35
 go_wp2_with fail
 refine (M.out _).mono ?_
 rintro r w1 ⟨rfl,rfl⟩
 simp only [Int.natCast_zero]
 clear m1 m2 M
 go_wp2_with (at_make; refine Z0v _ rfl _ _ _ rfl 34 (Od.val ⟨0,0,0,0⟩) 4 32 Tryz.underlying25 hinf n rfl rfl (by omega) (by omega) ?_)
 intro w2 hb2 hk2 hs2
 have hb2:w2.heap[w.heap.size]? = some (rowC (repF o 0) (n * 4) 34) :=by
  rw [hb2]
  exact congrArg some (Z1c fun j _ =>by unfold repF; rw [if_neg (by omega)])
 have HOW :=Hd (H.out.keeps hk2)
 obtain ⟨hc0,hc1,hc2,hc3⟩:w2.cell? ⟨b,off+0,none⟩=some (.int .i64 o.kd)∧w2.cell? ⟨b,off+1,none⟩=some (.int .i64 o.ix)∧w2.cell? ⟨b,off+2,none⟩=some (.int .i64 o.tg)∧w2.cell? ⟨b,off+3,none⟩=some (.int .u64 o.am) :=by
  obtain ⟨b',off',e,c0,c1,c2,c3⟩ :=OdL.at (l := [o]) HOW.out 0 (by simp)
  simp only [Option.some.injEq,Addr.mk.injEq,and_true] at e
  obtain ⟨rfl,rfl⟩ :=e
  exact ⟨c0,c1,c2,c3⟩
 have HG :=Hd (show ∀ j,j<1 * 4→w2.cell? ⟨b,off+j,none⟩=some ((o.cells[j]?).getD (.int .i64 0)) from fun j hj =>by
  match j,hj with
  | 0,_ =>exact hc0
  | 1,_ =>exact hc1
  | 2,_ =>exact hc2
  | 3,_ =>exact hc3)
 have HG1 :=Hd (show ∀ j,j<1 * 4→((o.cells[j]?).getD (.int .i64 0)).oneCell'=true from fun j hj =>by
  match j,hj with
  | 0,_ =>rfl
  | 1,_ =>rfl
  | 2,_ =>rfl
  | 3,_ =>rfl)
 have HB2 :=Hd hb2
 have HK2 :=Hd hk2
 have HS2 :=Hd hs2
 have HBL :=Hd hb
 clear hb2 hk2 HOW hc0 hc1 hc2 hc3 H hs2 hb
 go_wp2_with ((with_reducible refine Z1a ?_); refine Z0h rfl _ _ _ _ rfl 34 4 Tryz.underlying25 hsz (some ⟨w.heap.size,0,none⟩) (some ⟨b,off,none⟩) n n 1 cap (by rfl) (by rfl) w.heap.size 0 (n * 4) 1 _ (fun j =>(o.cells[j]?).getD (.int .i64 0)) _ HB2.out (by show 1=min 1 n; omega) (fun _ =>⟨rfl,b,off,rfl,HG.out⟩) (by omega) HG1.out ?_)
 intro w3 hb3 hm3
 rw [Z1c (G :=repF o 1) (fun j hj =>by
  unfold repF
  by_cases h4:j<4
  ·rw [if_pos (by omega),if_pos (by omega),Nat.mod_eq_of_lt h4]; simp
  ·rw [if_neg (by omega),if_neg (by omega),if_neg (by omega)])] at hb3
 have HB3 :=Hd hb3
 have HK3 :=Hd (show Z00 w w3 from HK2.out.seq hm3 fun i hi e =>by omega)
 clear hb3 hm3 HG HG1 hinf
 have N1 :=Hd h1
 have N2 :=Hd hn
 clear hn0 hn1
 go_wp2
 go_loopw [8] (fun i wr => ∃ k:Nat,i = .int .i64 k∧1≤k∧k≤n∧wr.heap[w.heap.size]? = some (rowC (repF o k) (n * 4) 34)∧Z00 w wr) (fun i _ =>n - (intOf i).toNat)
 case atStart =>exact ⟨1,rfl,Nat.le_refl _,h1,HB3.out,HK3.out⟩
 case round =>
  obtain ⟨k,rfl,hk1,hkn,hb,hk⟩ :=hrel
  have HB :=Hd hb
  have HK :=Hd hk
  clear hb hk
  by_cases hlt:k<n
  ·have hlt':(k:Int)<n :=by omega
   have hnk : ¬ n=k :=by omega
   have hle':(k:Int)≤n :=by omega
   go_wp2
   refine wp_region_held_drew (S :=(fun _ =>True)) (by kernel_rfl) (by trivial) (fun hH0 =>?_)
   refine tk 0 rfl hH0 ?_
   try go_frame
   refine tk 1 rfl hH0 ?_
   try go_frame
   refine tk 2 rfl hH0 ?_
   try go_frame
   refine tk 3 rfl hH0 ?_
   try go_frame
   refine tk 4 rfl hH0 ?_
   try go_frame
   refine tk 5 rfl hH0 ?_
   try go_frame
   refine tk 6 rfl hH0 ?_
   try go_frame
   refine rdy [7] (Z04 rfl (fun K hK =>?_) AllReadyH.nil)
   refine Zeg rfl _ _ _ _ rfl 34 4 Tryz.underlying25 hsz (some ⟨w.heap.size,k * 4,none⟩) (some ⟨w.heap.size,0,none⟩) (n - k) (n - k) k n (by rfl) (by rfl) w.heap.size (k * 4) (n * 4) (min k (n - k)) (repF o k) (repF o k) 34 HB.out rfl (fun _ =>⟨rfl,w.heap.size,0,rfl,fun j hj =>?_⟩) (by omega) (fun j hj =>?_) ?_
   ·rw [Nat.zero_add]
    exact Z0t (w :=wr.drew) HB.out j (by omega)
   ·exact Zkq o k j
   intro w4 hb4 hm4
   rw [Z1c (G :=repF o (k+min k (n - k))) (fun j hj =>Zjh o n k j (by omega))] at hb4
   have HB4 :=Hd hb4
   have HK4 :=Hd (show Z00 w w4 from (HK.out.drew).seq hm4 fun i hi e =>by omega)
   obtain ⟨q,hq⟩:∃ q,q=min k (n - k) :=⟨_,rfl⟩
   rw [← hq] at HB4 ⊢
   have hq1:1≤q :=by omega
   have hq2:k+q≤n :=by omega
   clear hb4 hm4 hq
   have ew:IntKind.i64.wrap ((k:Int)+(q:Int))=((k+q:Nat):Int) :=by rw [IntKind.wrap_i64]; omega
   refine hK.out _ _ (trivial) (fun hH1 =>?_)
   clear hK K hH0
   try go_frame
   refine tk 8 rfl hH1 ?_
   try go_frame
   refine tk 9 rfl hH1 ?_
   try go_frame
   refine wpAnyH_done (by kernel_rfl) ?_ _
   clear hH1
   go_wp2
   go_round
   case rel =>exact ⟨k+q,by rw [Int.natCast_add],by omega,hq2,HB4.out,HK4.out⟩
   case measure =>simp only [intOf]; omega
  ·obtain rfl:k=n :=by omega
   have hlt' : ¬ ((k:Int)<k) :=by omega
   have HR :=Hd HB.out
   rw [Ziz] at HR
   go_wp2
   go_ret
   exact ⟨_,rfl,⟨by rw [Z3m]; simp, .inr ⟨w.heap.size,k,_,rfl,Nat.le_refl _,HR.out,(by omega),(by unfold maxLen; omega),by rw [List.size_toArray,Z3m]; simp,by rw [List.take_of_length_le]; rw [Array.length_toList,List.size_toArray,Z3m]; simp⟩⟩,HK.out⟩
theorem Zhz (n:Nat) (w:World) (h1:1≤n) (hn:n≤1000) :
 Calls Tryz.prog 11 #[.int .i64 (n:Int)] w fun r w' => ∃ v',r = .returned v'∧w'.ownsRow w.heap.size 34 4 v' n (Z15 (List.replicate n ⟨7,0,0,0⟩))∧Z00 w w' :=by
 have m1:max (n:Int) 0=n :=by omega
 have m2:min (n:Int) 1048576=n :=by omega
 have HC :=Hd (fun w v h =>Zh5 v ⟨7,0,0,0⟩ n w h h1 hn)
 have N1 :=Hd h1
 clear h1 hn
 go_enter Tryz.func11,Tryz.ntmps11
 go_wp2_with fail
 refine (HC.out _ _ (OdL.one ⟨7,0,0,0⟩ (heap_alloc_last w _))).mono ?_
 rintro r w1 ⟨v',rfl,ho,hk⟩
 have hk1 :=((Mods.refl (fun _ =>False) w).alloc (odB ⟨7,0,0,0⟩)).keep hk
 have HO :=Hd (Zem ho (show w.heap.size≤_ by simp))
 obtain ⟨a',c',rfl⟩ :=Z1j HO.out
 have HK :=Hd hk1
 clear ho hk hk1 HC
 go_wp2
 go_ret
 exact ⟨_,rfl,HO.out,HK.out⟩
def encB (o:Od):List Int :=Z24 o ((opsOf o.kd).getD [])
theorem Zff (o:Od):(encB o).length≤64 :=by
 unfold encB Z24
 rw [List.length_cons,Z6t]
 rcases Z5t o.kd with ⟨e,g⟩ | ⟨e,g⟩ | ⟨e,g⟩ | ⟨e,g⟩ | ⟨e,g⟩ | ⟨e,g⟩ | ⟨e,g⟩ | ⟨_,_,_,_,_,_,_,g⟩ <;> rw [g] <;> decide
theorem Zeu:∀ l:List Od,(l.flatMap encB).length≤64 * l.length
 | [] =>Nat.le_refl _
 | o :: r =>by
  have h1 :=Zff o
  have h2 :=Zeu r
  rw [List.flatMap_cons,List.length_append,List.length_cons]
  omega
theorem Zh3 (v:Value) (l:List Od) (w:World) (h:OdL w v l) (hn:l.length≤100) (hok:∀ o∈l,o.ok∧Zcy o=true∧∃ cs,opsOf o.kd=some cs) :
 Calls Tryz.prog 22 #[v] w fun r w' => ∃ v',r = .returned (.tuple #[v', .bool true])∧BO w.heap.size w' v' (l.flatMap encB)∧Z00 w w' :=by
 have H :=Hd h
 have HOK :=Hd hok
 obtain ⟨a,cap,rfl,h0,hc⟩ :=h
 clear h0 hc hok
 have hbi :=Zoi
 go_enter Tryz.func22,Tryz.ntmps22
 go_wp2
 go_loopw [4,11] (fun s i wr => ∃ k:Nat,i = .int .i64 k∧k≤l.length∧BO w.heap.size wr s ((l.take k).flatMap encB)∧Z00 w wr) (fun _ i _ =>l.length - (intOf i).toNat)
 case atStart =>exact ⟨0,rfl,Nat.zero_le _,World.ownsRow_nil _ _ _ _,Mods.refl _ _⟩
 case round =>
  obtain ⟨k,rfl,hk,ho,hkp⟩ :=hrel
  have HO :=Hd ho
  have HK :=Hd hkp
  obtain ⟨oa,oc,rfl⟩ :=ho.slice
  by_cases hlt:k<l.length
  ·obtain ⟨b,off,rfl,c0,c1,c2,c3⟩ :=(H.out.keeps hkp).at k hlt
   obtain ⟨hok,hva,cs,hcs⟩ :=HOK.out l[k] (List.getElem_mem hlt)
   have hE :=Hd (fun w =>Zcs l[k] cs w hok hcs hva)
   have hst:Hid ((l.take (k+1)).flatMap encB=(l.take k).flatMap encB ++ Z24 l[k] cs) :=Hd (by
    rw [Zad hlt,List.flatMap_append,List.flatMap_cons,List.flatMap_nil,List.append_nil]
    unfold encB
    rw [hcs]; rfl)
   have hl1 :=Hd (Zeu (l.take k))
   have hl2 :=Hd (show (Z24 l[k] cs).length≤64 from by have :=Zff l[k]; unfold encB at this; rwa [hcs] at this)
   generalize l[k]=o at *
   generalize (l.take k).flatMap encB=L at *
   obtain ⟨kd,ix,tg,am⟩ :=o
   have hlt':(k:Int)<(l.length:Int) :=by omega
   clear ho hkp hok hva hcs
   go_wp2_with fail
   refine (hE.out _).mono ?_
   rintro r w1 ⟨v',rfl,hbo,hkk⟩
   have hk1 :=((Mods.refl (fun _ =>False) wr).alloc (odB ⟨kd,ix,tg,am⟩)).keep hkk
   have HK1 :=Hd (HK.out.keep hk1)
   have HO1 :=Hd (BO.keeps HO.out hk1)
   have HB1 :=Hd hbo
   obtain ⟨ba,bc,rfl⟩ :=hbo.slice
   have HS1 :=Hd (show w.heap.size≤w1.heap.size from HK1.out.size)
   clear hbo hkk hk1
   obtain ⟨i0,hi,hz0,hz1,hz2⟩ :=info_parts hbi
   go_wp2_with (at_builtin; refine Z2x rfl _ _ 63 rfl w.heap.size 5 i0 (.int .u8 0) 1 1 Tryz.underlying63 hi hz0 hz1 hz2 rfl (by decide) (.slice oa L.length oc) L.length (bV L) rfl HO1.out _ (.slice ba (Z24 ⟨kd,ix,tg,am⟩ cs).length bc) _ (bV (Z24 ⟨kd,ix,tg,am⟩ cs)) rfl HB1.out (fun u hu =>?_) ?_ ?_ HS1.out ?_)
   ·obtain ⟨x,_,rfl⟩ :=List.mem_map.1 hu; rfl
   ·have :=hl1.out; have :=hl2.out; rw [List.length_take] at *; unfold maxLen; omega
   ·have :=hl1.out; have :=hl2.out; rw [List.length_take] at *; omega
   intro v' w2 ho2 hm2
   have HO2 :=Hd (show BO w.heap.size w2 v' (L ++ Z24 ⟨kd,ix,tg,am⟩ cs) from by
    show w2.ownsRow _ _ _ _ _ _
    rw [Zm4,List.length_append]
    exact ho2)
   have HK2 :=Hd (show Z00 w w2 from HK1.out.seq hm2 fun i hi e =>by have :=(HO1.out.lt i e).1; omega)
   clear ho2 hm2
   go_wp2
   go_round
   case rel =>exact ⟨k+1,by go_num,by omega,by rw [hst.out]; exact HO2.out,HK2.out⟩
   case measure =>simp only [intOf]; omega
  ·obtain rfl:k=l.length :=by omega
   have hlt' : ¬ ((l.length:Int)<l.length) :=by omega
   generalize hL:(l.take l.length).flatMap encB=L at *
   rw [List.take_length] at hL
   have HL :=Hd hL
   clear hL
   go_wp2
   go_ret2
   rw [HL.out]
   exact ⟨_,rfl,HO.out,HK.out⟩
end Go.Proofs.YtecapfmmoejikaaGreat
namespace Go.Eg
open Go Go.RowKit
def decF (b:List Int):Nat→Int→List Od
 | 0,_ => []
 | f+1,at' =>if at'<b.length then (decR b at').1 :: decF b f (decR b at').2.1 else []
theorem Zmu (b:List Int) {i:Int} (h0:0≤i) (h1:i<b.length):(decR b i).2.2=true∧i<(decR b i).2.1∧(decR b i).2.1≤b.length :=by
 unfold decR
 rw [if_neg (by omega)]
 cases opsOf (b.getD i.toNat 0) with
 | none =>exact ⟨rfl,by dsimp only; omega,by dsimp only; omega⟩
 | some cs =>
  dsimp only
  split
  ·exact ⟨rfl,by dsimp only; omega,by dsimp only; omega⟩
  ·exact ⟨rfl,by dsimp only; push_cast; omega,by dsimp only at *; omega⟩
abbrev siBx (v:Value) (t:TypeId):Obj := .cells #[v] t (0,0)
end Go.Eg
namespace Go.Proofs.YtecapfmmoejikaaGreat
open Go.RowKit Go.Eg
theorem BL.mods {S:Nat→Prop} {a b:World} {v:Value} {l:List Int} (h:BL a v l) (hm:Mods S a b) (hS:∀ k,v.ownBlock=some k→¬ S k):BL b v l :=by
 obtain ⟨p,cap,rfl,hc,h0,hx⟩ :=h
 refine ⟨p,cap,rfl,hc,h0,fun hl =>?_⟩
 obtain ⟨g,off,rfl,hc⟩ :=hx hl
 exact ⟨g,off,rfl,fun i hi =>hm.cell (hc i hi) (hS g rfl)⟩
open Go.RowKit Go.Eg Go.Shelf
attribute [local go_sem] Oper.semAt_some
theorem Zny (v:Value) (b:List Int) (z:Nat) (l:Nat) (J:List Od→World→Prop) (U:Nat→Prop) (W:World)
 (hv:BL W v b) (hb:Bytes b) (hlen:b.length≤4096) (hz:W.heap[z]? = some (siBx v 63))
 (hU : ¬ U z∧∀ k,v.ownBlock=some k→¬ U k)
 (hJ:∀ s A A',J s A→Z00 A A'→J s A')
 (hY:∀ pre x W1,J pre W1→W.heap.size≤W1.heap.size→pre.length<b.length→YieldAt Fence.wide 8 Tryz.prog l #[x.val] W1 fun e W' =>e = .returned (.bool true)∧J (pre ++ [x]) W'∧Mods U W1 W')
 (h0:J [] W) :
 CallsIn Fence.wide 9 Tryz.prog 147 #[.func (.yield l) #[] #[], .pointer (some ⟨z,0,none⟩)] W fun e W' =>(∃ v,e = .returned v) ∧
  ∃ xs,xs=decF b b.length 0∧J xs W' :=by
 have HV :=Hd hv
 have HB :=Hd hb
 have HZ :=Hd hz
 have HU :=Hd hU
 have HJ :=Hd hJ
 have HY :=Hd hY
 have H0 :=Hd h0
 obtain ⟨va,vc,rfl⟩:∃ va vc,v = .slice va b.length vc :=by obtain ⟨a,c,h,_⟩ :=hv; exact ⟨a,c,h⟩
 clear hv hb hz hU hJ hY h0
 refine callsIn_of_wp Tryz.func147 rfl trivial ?_ rfl
 simp only [Tryz.ntmps147,List.size_toArray,List.length_cons,List.length_nil,Nat.reduceAdd,Nat.reduceSub,Array.replicate_succ,Array.replicate_zero,List.push_toArray,List.append_toArray,List.nil_append,List.cons_append]
 gi_wp2_with fail
 gi_loopw [3] (fun i wr => ∃ (k:Nat) (pre:List Od),i = .int .i64 (k:Int)∧k≤b.length∧pre.length≤k∧pre ++ decF b (b.length - pre.length) (k:Int)=decF b b.length 0∧J pre wr∧Mods U W wr) (fun i _ =>b.length - (intOf i).toNat)
 case atStart =>exact ⟨0,[],rfl,Nat.zero_le _,Nat.le_refl _,rfl,H0.out,Mods.refl _ _⟩
 case round =>
  obtain ⟨k,pre,rfl,hk,hpk,hd,hj,hm⟩ :=hrel
  have hzz :=hm.at HZ.out HU.out.1
  have c0:wr.cell? ⟨z,0,none⟩=some (.slice va b.length vc) :=by simp [World.cell?,hzz]
  have hvl:BL wr (.slice va b.length vc) b :=BL.mods HV.out hm HU.out.2
  have HVL :=Hd hvl
  have HD :=Hd hd
  have HJ1 :=Hd hj
  have HM :=Hd hm
  clear hzz hvl hd hj hm
  by_cases hlt:k<b.length
  ·have hki:(k:Int)<b.length :=by omega
   have HDC :=Hd (decode_any (.slice va b.length vc) b (k:Int) wr HVL.out HB.out (by omega))
   have hin :=Zmu b (by omega:(0:Int)≤k) hki
   obtain ⟨R,hR⟩:∃ R,R=decR b (k:Int) :=⟨_,rfl⟩
   rw [← hR] at HDC hin
   obtain ⟨⟨kd,ix,tg,am⟩,nx,ok⟩ :=R
   obtain ⟨rfl,hn1,hn2⟩ :=hin
   have HR :=Hd hR
   simp only at HDC hn1 hn2
   clear hR
   gi_wp2_with fail
   refine ⟨trivial,(callsIn_wide.2 HDC.out).mono ?_⟩
   rintro r w1 ⟨rfl,hk1⟩
   have hk2:Z00 wr (w1.alloc (odB ⟨kd,ix,tg,am⟩)) :=hk1.alloc _
   have hj2 :=HJ.out _ _ _ HJ1.out hk2
   have hs2:W.heap.size≤(w1.alloc (odB ⟨kd,ix,tg,am⟩)).heap.size :=Nat.le_trans HM.out.size hk2.size
   obtain ⟨fn,tmps,assign,body,hy,hRn⟩ :=HY.out pre ⟨kd,ix,tg,am⟩ _ hj2 hs2 (by omega)
   have HRN :=Hd hRn
   have HK2 :=Hd hk2
   clear hk1 hk2 hj2 hs2 hRn
   gi_wp2_with fail
   refine HRN.out.mono ?_
   rintro r w3 ⟨rfl,hj3,hm3⟩
   have HJ3 :=Hd hj3
   have HM3 :=Hd (show Mods U W w3 from (HM.out.trans (HK2.out.weaken fun _ _ h =>h.elim)).trans hm3)
   have hst:(pre ++ [(⟨kd,ix,tg,am⟩:Od)]) ++ decF b (b.length - (pre ++ [(⟨kd,ix,tg,am⟩:Od)]).length) nx=decF b b.length 0 :=by
    have h :=HD.out
    rw [show b.length - pre.length=(b.length - (pre ++ [(⟨kd,ix,tg,am⟩:Od)]).length)+1 from by simp; omega,decF,if_pos hki,← HR.out] at h
    rw [← h]
    simp
   have hnk:k<nx.toNat :=by omega
   have hnl:nx.toNat≤b.length :=by omega
   have HST :=Hd (show (pre ++ [(⟨kd,ix,tg,am⟩:Od)]) ++ decF b (b.length - (pre ++ [(⟨kd,ix,tg,am⟩:Od)]).length) (nx.toNat:Int)=decF b b.length 0 from by rw [Int.toNat_of_nonneg (by omega)]; exact hst)
   have HNX :=Hd (show nx=(nx.toNat:Int) from (Int.toNat_of_nonneg (by omega)).symm)
   clear hj3 hm3 hst
   gi_wp2_with fail
   go_roundw
   case rel =>exact ⟨nx.toNat,pre ++ [⟨kd,ix,tg,am⟩],congrArg (Value.int .i64) HNX.out,hnl,by simp; omega,HST.out,HJ3.out,HM3.out⟩
   case measure =>simp only [intOf]; omega
  ·obtain rfl:k=b.length :=by omega
   have hki : ¬ ((b.length:Int)<b.length) :=by omega
   have hdd:decF b (b.length - pre.length) (b.length:Int) = [] :=by
    cases b.length - pre.length with
    | zero =>rfl
    | succ f =>rw [decF,if_neg hki]
   have HE :=Hd (show pre=decF b b.length 0 from by have :=HD.out; rw [hdd,List.append_nil] at this; exact this)
   clear hdd
   gi_wp2_with fail
   refine bodyPost_end (results_none rfl _ _ _) rfl ?_
   exact ⟨⟨_,rfl⟩,by rw [← HE.out]; exact HJ1.out⟩
end Go.Proofs.YtecapfmmoejikaaGreat
