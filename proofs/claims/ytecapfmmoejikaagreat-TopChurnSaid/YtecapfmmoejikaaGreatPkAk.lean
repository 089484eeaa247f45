/- A part of the proofs of the top laws: TpB LanB. -/
import Derived.Test.YtecapfmmoejikaaGreatPkAi
import Derived.Test.YtecapfmmoejikaaGreatPkAj
set_option maxRecDepth 4000
set_option maxHeartbeats 8000000
namespace Go.Eg
end Go.Eg
namespace Go.Proofs.YtecapfmmoejikaaGreat
open Go.RowKit Go.Eg
theorem Z90 (e:Int) (v:Value) (l:List Int) (B:Nat) (w:World) (hv:w.ownsRow B 3 1 v l.length (l.map fun x =>.int .i64 x)) (hl:l.length≤100) :
 Calls Tryz.prog 186 #[.int .i64 e,v] w fun r w' =>r = .returned (.tuple #[.int .i64 ((Z1z (e :: l) 0).getD 0), .bool (Z1z (e :: l) 0).isSome])∧Z00 w w' :=by
 obtain ⟨i0,hi,hz0,hz1,hz2⟩ :=info_parts Zju
 obtain ⟨va,vc,rfl⟩ :=Z0c hv
 have HV :=Hd hv
 obtain ⟨F,hF⟩:∃ F,F=Z1z (e :: l) 0 :=⟨_,rfl⟩
 rw [← hF]
 have HF :=Hd hF
 clear hv hF
 go_enter Tryz.func186,Tryz.ntmps186
 go_wp2_with (at_builtin; refine Z2x rfl _ _ 37 rfl w.heap.size 3 i0 (.int .i64 0) 1 8 Tryz.underlying37 hi hz0 hz1 hz2 rfl (by decide) (.slice (some ⟨w.heap.size,0,none⟩) 1 1) 1 [.int .i64 e] rfl (World.ownsRow_lit w #[.int .i64 e] 1 (Nat.le_refl _) (by decide) rfl) B _ _ _ rfl (HV.out.alloc _) (fun u hu =>by obtain ⟨y,_,rfl⟩ :=List.mem_map.1 hu; rfl) (by unfold maxLen; omega) (by omega) (by simp) ?_)
 intro v2 w2 hown hmd
 have hown:w2.ownsRow w.heap.size 3 1 v2 (e :: l).length ((e :: l).map fun x =>.int .i64 x) :=by rw [List.length_cons,Nat.add_comm]; exact hown
 have HM :=Hd (show Z00 w w2 from ((Mods.refl _ w).alloc _).seq hmd fun i hi h =>by simp [Value.ownBlock] at h; omega)
 obtain ⟨L,hL⟩:∃ L,L=e :: l :=⟨_,rfl⟩
 rw [← hL] at hown HF
 have hLl:L.length≤101 :=by rw [hL]; simp; omega
 obtain ⟨ba,bc,rfl⟩ :=Z0c hown
 have HO :=Hd hown
 clear hown hmd hL
 go_wp2_with fail
 go_loopw [6,14] (fun s i wr => ∃ (k:Nat) (S:Int),k≤L.length∧i = .int .i64 k∧s = .int .i64 S∧0≤S∧S≤1099511627776∧Z1z (L.drop k) S=F∧wr=w2) (fun _ i _ =>L.length - (intOf i).toNat)
 case atStart =>exact ⟨0,0,Nat.zero_le _,rfl,rfl,by omega,by omega,HF.out.symm,rfl⟩
 case round =>
  obtain ⟨k,S,hk,rfl,rfl,hS0,hS1,hF,rfl⟩ :=hrel
  by_cases hlt:k<L.length
  ·have hki:(k:Int)<(L.length:Int) :=Int.ofNat_lt.2 hlt
   rcases HO.out.2 with ⟨_,h0⟩ | ⟨g,cap,cur,hv,hg,hh,r⟩
   ·omega
   simp only [Value.slice.injEq] at hv
   obtain ⟨rfl,_,rfl⟩ :=hv
   have hc:wr.cell? ⟨g,k,none⟩=some (.int .i64 L[k]) :=by
    rw [HO.out.cellAt k (by omega)]
    simp [hlt]
   rw [List.drop_eq_getElem_cons hlt,Z1z] at hF
   generalize L[k]=x at *
   by_cases hx:x<0
   ·have hF1:F=none :=by rw [← hF,if_pos (.inl hx)]
    subst hF1
    clear hh r hF hg
    go_wp2
    go_ret2
    exact ⟨rfl,HM.out⟩
   ·have hx0:0≤x :=by omega
    by_cases hy:1099511627776 - S<x
    ·have hF1:F=none :=by rw [← hF,if_pos (.inr hy)]
     subst hF1
     have e1:wrap64 (1099511627776 - S)=1099511627776 - S :=Z1m (by omega) (by omega)
     clear hh r hF hg
     go_wp2
     go_ret2
     exact ⟨rfl,HM.out⟩
    ·rw [if_neg (by omega)] at hF
     have HFF :=Hd hF
     have e1:wrap64 (1099511627776 - S)=1099511627776 - S :=Z1m (by omega) (by omega)
     have e2:wrap64 (S+x)=S+x :=Z1m (by omega) (by omega)
     have hb:S+x≤1099511627776 :=by omega
     clear hh r hF hg
     go_wp2
     go_roundw
     case rel =>exact ⟨k+1,S+x,by omega,by go_num,rfl,by omega,hb,HFF.out,by first | rfl | trivial⟩
     case measure =>simp [intOf]; omega
  ·obtain rfl:k=L.length :=by omega
   rw [List.drop_length,Z1z] at hF
   subst hF
   go_wp2
   go_ret2
   exact ⟨rfl,HM.out⟩
theorem Zbn (b:Nat) (x y:Int) (w:World) (hx:w.cell? ⟨b,0,none⟩=some (.int .i64 x)) (hy:w.cell? ⟨b,1,none⟩=some (.int .i64 y)) :
 Calls Tryz.prog 219 #[.slice (some ⟨b,0,none⟩) 2 2] w fun r w' =>r = .returned (.int .i64 (max x y))∧w=w' :=by
 obtain ⟨M,hM⟩:∃ M,M=max x y :=⟨_,rfl⟩
 rw [← hM]
 have HM :=Hd hM
 clear hM
 go_enter Tryz.func219,Tryz.ntmps219
 go_wp2
 go_loopw [3,4] (fun m i wr =>wr=w∧((m = .int .i64 x∧i = .int .i64 1)∨(m = .int .i64 M∧i = .int .i64 2))) (fun _ i _ =>2 - (intOf i).toNat)
 case atStart =>exact ⟨rfl, .inl ⟨rfl,rfl⟩⟩
 case round =>
  obtain ⟨rfl,⟨rfl,rfl⟩ | ⟨rfl,rfl⟩⟩ :=hrel
  ·by_cases h:x<y
   ·obtain rfl:M=y :=by have :=HM.out; omega
    go_wp2
    go_roundw
    case rel =>exact ⟨by first | rfl | trivial, .inr ⟨by first | rfl | trivial,by first | rfl | trivial⟩⟩
    case measure =>simp [intOf]
   ·obtain rfl:M=x :=by have :=HM.out; omega
    go_wp2
    go_roundw
    case rel =>exact ⟨by first | rfl | trivial, .inr ⟨by first | rfl | trivial,by first | rfl | trivial⟩⟩
    case measure =>simp [intOf]
  ·go_wp2
   go_ret
   exact ⟨rfl,rfl⟩
theorem Zd1 (b:Nat) (x y:Int) (w:World) (hx:w.cell? ⟨b,0,none⟩=some (.int .i64 x)) (hy:w.cell? ⟨b,1,none⟩=some (.int .i64 y)) :
 Calls Tryz.prog 193 #[.slice (some ⟨b,0,none⟩) 2 2] w fun r w' =>r = .returned (.int .i64 (max x y))∧w=w' :=by
 have HM :=Hd (Zbn b x y w hx hy)
 obtain ⟨M,hM⟩:∃ M,M=max x y :=⟨_,rfl⟩
 rw [← hM] at HM ⊢
 clear hM
 go_enter Tryz.func193,Tryz.ntmps193
 go_wp2_with fail
 refine HM.out.mono ?_
 rintro r w1 ⟨rfl,rfl⟩
 go_wp2
 go_ret
 exact ⟨rfl,rfl⟩
def Z6y (a d:Int):Option Int :=if 1099511627776<Zck a d then none else some (Zck a d)
theorem Zdr {a d:Int} (h0:0≤a) (h1:a≤maxU) (hd:1≤d):0≤Zck a d∧Zck a d≤maxU :=by
 unfold Zck
 split
 ·unfold maxU; omega
 ·obtain ⟨_,h2,h3⟩ :=Zaz (a :=a - 1) (by omega) hd
  unfold maxU at h1 ⊢
  omega
theorem Zh7 (a d:Int) (w:World) (h0:0≤a) (h1:a≤maxU) (hd:1≤d):Calls Tryz.prog 236 #[.int .u64 a, .int .u64 d] w fun r w' =>r = .returned (.tuple #[.int .i64 ((Z6y a d).getD 0), .bool (Z6y a d).isSome])∧w=w' :=by
 have HC :=Hd (Zlc a d w h0 h1 hd)
 obtain ⟨c0,c1⟩ :=Zdr h0 h1 hd
 unfold Z6y
 generalize Zck a d=c at *
 clear h0 h1 hd
 by_cases h:1099511627776<c
 ·rw [if_pos h]
  go_enter Tryz.func236,Tryz.ntmps236
  go_wp2_with fail
  refine HC.out.mono ?_
  rintro r w1 ⟨rfl,rfl⟩
  go_wp2
  go_ret2
  exact ⟨rfl,rfl⟩
 ·rw [if_neg h]
  have e:wrap64 c=c :=Z1m (by omega) (by omega)
  have E :=Hd e
  go_enter Tryz.func236,Tryz.ntmps236
  go_wp2_with fail
  refine HC.out.mono ?_
  rintro r w1 ⟨rfl,rfl⟩
  go_wp2
  go_ret2
  exact ⟨by first | rfl | (rw [E.out]; rfl),rfl⟩
def Zdx (fo vo:List Int):Int × Int × Bool :=
 match fo,vo with
 | x :: _,_ =>(x,0,true)
 | [],x :: _ =>(x,1,true)
 | [],[] =>(0,0,false)
def Z6d (fo vo:List Int):Int :=if fo≠[] then 0 else if vo≠[] then 1 else -1
theorem Z7k {S:Nat→Prop} {w:World} {g sz:Nat} {fo vo:List Int} (h:Z31 S w g sz fo vo):Calls Tryz.prog 233 #[.pointer (some ⟨g,0,none⟩)] w fun r w' =>r = .returned (.int .i64 (Z6d fo vo))∧w=w' :=by
 obtain ⟨a0,a1,S0,S1,p,q,b,r0,r1,s0,s1,d,n0,n1⟩ :=h
 have HC0 :=Hd (Z1q g p q 0 w b (by omega) (by omega))
 have HC1 :=Hd (Z1q g p q 1 w b (by omega) (by omega))
 have HL0 :=Hd (Z32 r0)
 have HL1 :=Hd (Z32 r1)
 obtain ⟨n,hn⟩:∃ n,n=fo.length :=⟨_,rfl⟩
 obtain ⟨m,hm⟩:∃ m,m=vo.length :=⟨_,rfl⟩
 rw [← hn] at HL0
 rw [← hm] at HL1
 have hF:Z6d fo vo=if 0<n then 0 else if 0<m then 1 else -1 :=by
  unfold Z6d
  cases fo <;> cases vo <;> simp_all
 obtain ⟨F,hFF⟩:∃ F,F=Z6d fo vo :=⟨_,rfl⟩
 rw [← hFF] at hF ⊢
 have HFF :=Hd hF
 clear a0 a1 b r0 r1 s0 s1 d n0 n1 hn hm hF hFF
 go_enter Tryz.func233,Tryz.ntmps233
 go_wp2
 go_step3
 go_wp2
 go_step3
 go_wp2_with fail
 go_loopw [3,5] (fun f i wr =>wr=w∧f = .int .i64 (-1)∧(i = .int .i64 0∨(i = .int .i64 1∧n=0)∨(i = .int .i64 2∧n=0∧m=0))) (fun _ i _ =>2 - (intOf i).toNat)
 case atStart =>exact ⟨rfl,rfl, .inl rfl⟩
 case round =>
  obtain ⟨rfl,rfl,hi⟩ :=hrel
  rcases hi with rfl | ⟨rfl,h0⟩ | ⟨rfl,h0,h1⟩
  ·go_wp2_with fail
   refine HC0.out.mono ?_
   rintro r w1 ⟨rfl,rfl⟩
   rw [show lanP p q 0=some ⟨p,0,none⟩ from rfl]
   go_wp2_with fail
   refine HL0.out.mono ?_
   rintro r w1 ⟨rfl,rfl⟩
   by_cases hn0:0<n
   ·have E :=Hd (HFF.out.trans (if_pos hn0))
    have hni:(0:Int)<(n:Int) :=by omega
    go_wp2
    try rw [Exit.noGoto_ret]
    go_ret
    exact ⟨Z0p E.out.symm,rfl⟩
   ·have hni : ¬ (0:Int)<(n:Int) :=by omega
    have hz:n=0 :=by omega
    go_wp2
    go_roundw
    case rel =>exact ⟨by first | rfl | trivial,rfl, .inr (.inl ⟨by first | rfl | trivial,hz⟩)⟩
    case measure =>simp [intOf]
  ·go_wp2_with fail
   refine HC1.out.mono ?_
   rintro r w1 ⟨rfl,rfl⟩
   rw [show lanP p q 1=some ⟨q,0,none⟩ from rfl]
   go_wp2_with fail
   refine HL1.out.mono ?_
   rintro r w1 ⟨rfl,rfl⟩
   by_cases hn0:0<m
   ·have E :=Hd (HFF.out.trans ((if_neg (by omega)).trans (if_pos hn0)))
    have hni:(0:Int)<(m:Int) :=by omega
    clear h0
    go_wp2
    try rw [Exit.noGoto_ret]
    go_ret
    exact ⟨Z0p E.out.symm,rfl⟩
   ·have hni : ¬ (0:Int)<(m:Int) :=by omega
    have H0 :=Hd h0
    have HZ :=Hd (show m=0 by omega)
    clear h0
    go_wp2
    go_roundw
    case rel =>exact ⟨by first | rfl | trivial,rfl, .inr (.inr ⟨by first | rfl | trivial,H0.out,HZ.out⟩)⟩
    case measure =>simp [intOf]
  ·have E :=Hd (HFF.out.trans ((if_neg (by omega)).trans (if_neg (by omega))))
   clear h0 h1
   go_wp2
   try rw [Exit.noGoto_ret]
   go_ret
   exact ⟨Z0p E.out.symm,rfl⟩
theorem Z8r {S:Nat→Prop} {w:World} {g sz:Nat} {fo vo:List Int} (h:Z31 S w g sz fo vo):Calls Tryz.prog 205 #[.pointer (some ⟨g,0,none⟩)] w fun r w' =>r = .returned (.tuple #[.int .i64 (Zdx fo vo).1, .int .i64 (Zdx fo vo).2.1, .bool (Zdx fo vo).2.2])∧Z1w w w' :=by
 have HF :=Hd (Z7k h)
 obtain ⟨a0,a1,S0,S1,p,q,b,r0,r1,s0,s1,d,n0,n1⟩ :=h
 have HC :=Hd (fun c h0 h1 =>Z1q g p q c w b h0 h1)
 have HR0 :=Hd r0
 have HR1 :=Hd r1
 clear a0 a1 b r0 r1 s0 s1 d n0 n1
 match fo,vo with
 | x :: fo,vo =>
  have HP :=Hd (Z2j HR0.out 0 (by simp))
  have HCC :=Hd (HC.out 0 (by omega) (by omega))
  have hf:Z6d (x :: fo) vo=0 :=rfl
  rw [hf] at HF
  clear hf
  go_enter Tryz.func205,Tryz.ntmps205
  go_wp2_with fail
  refine HF.out.mono ?_
  rintro r w1 ⟨rfl,rfl⟩
  go_wp2_with fail
  refine HCC.out.mono ?_
  rintro r w1 ⟨rfl,rfl⟩
  rw [show lanP p q 0=some ⟨p,0,none⟩ from rfl]
  go_wp2_with fail
  refine HP.out.mono ?_
  rintro r w1 ⟨rfl,hd⟩
  have HD :=Hd hd
  clear hd
  go_wp2
  exact bodyPost_ret (results_tmp3 rfl _ _ _) rfl ⟨rfl,HD.out⟩
 | [],x :: vo =>
  have HP :=Hd (Z2j HR1.out 0 (by simp))
  have HCC :=Hd (HC.out 1 (by omega) (by omega))
  have hf:Z6d [] (x :: vo)=1 :=rfl
  rw [hf] at HF
  clear hf
  go_enter Tryz.func205,Tryz.ntmps205
  go_wp2_with fail
  refine HF.out.mono ?_
  rintro r w1 ⟨rfl,rfl⟩
  go_wp2_with fail
  refine HCC.out.mono ?_
  rintro r w1 ⟨rfl,rfl⟩
  rw [show lanP p q 1=some ⟨q,0,none⟩ from rfl]
  go_wp2_with fail
  refine HP.out.mono ?_
  rintro r w1 ⟨rfl,hd⟩
  have HD :=Hd hd
  clear hd
  go_wp2
  exact bodyPost_ret (results_tmp3 rfl _ _ _) rfl ⟨rfl,HD.out⟩
 | [],[] =>
  have HCC :=Hd (HC.out (-1) (by omega) (by omega))
  have hf:Z6d [] [] = -1 :=rfl
  rw [hf] at HF
  clear hf
  go_enter Tryz.func205,Tryz.ntmps205
  go_wp2_with fail
  refine HF.out.mono ?_
  rintro r w1 ⟨rfl,rfl⟩
  go_wp2_with fail
  refine HCC.out.mono ?_
  rintro r w1 ⟨rfl,rfl⟩
  rw [show lanP p q (-1)=none from rfl]
  go_wp2_with fail
  refine (Zbr _).mono ?_
  rintro r w1 ⟨rfl,rfl⟩
  go_wp2
  exact bodyPost_ret (results_tmp3 rfl _ _ _) rfl ⟨rfl,Z1w.refl _⟩
theorem cell_new1 (w:World) (u:Value) (t:TypeId):(w.alloc (.cells #[u] t)).cell? ⟨w.heap.size,0,none⟩=some u :=by
 have :=Z4a w u t 0 u rfl
 rwa [addr_add] at this
theorem Z31.set0 {S S0 S1 S0':Nat→Prop} {w w':World} {g sz p q:Nat} {fo' vo:List Int} (a0:∀ i,S i→i<w.heap.size) (a1:S g) (b:w.heap[g]? = some (lanB p q)) (r1:Z1n S1 w q sz vo) (s0:∀ i,S0 i→S i) (s1:∀ i,S1 i→S i) (d:∀ i,S0 i→¬ S1 i) (n0 : ¬ S0 g) (n1 : ¬ S1 g)
 (hm:Mods S0 w w') (hr:Z1n S0' w' p sz fo') (hS:∀ i,S0' i→S0 i∨w.heap.size≤i):Z31 (fun i =>S i∨w.heap.size≤i∧i<w'.heap.size) w' g sz fo' vo∧Mods S w w' :=by
 have hg :=Z0a b
 refine ⟨⟨fun i hi =>?_, .inl a1,S0',S1,p,q,hm.at b n0,hr,r1.mods hm fun i hi hj =>d i hj hi,fun i hi =>?_,fun i hi =>.inl (s1 i hi),fun i hi hj =>?_,fun h =>?_,n1⟩,hm.weaken fun i _ h =>s0 i h⟩
 ·rcases hi with hi | hi
  ·exact Nat.lt_of_lt_of_le (a0 i hi) hm.size
  ·exact hi.2
 ·rcases hS i hi with h | h
  ·exact .inl (s0 i h)
  ·exact .inr ⟨h,hr.1 i hi⟩
 ·rcases hS i hi with h | h
  ·exact d i h hj
  ·exact absurd (r1.1 i hj) (by omega)
 ·rcases hS g h with h | h
  ·exact n0 h
  ·omega
theorem Z31.set1 {S S0 S1 S1':Nat→Prop} {w w':World} {g sz p q:Nat} {fo vo':List Int} (a0:∀ i,S i→i<w.heap.size) (a1:S g) (b:w.heap[g]? = some (lanB p q)) (r0:Z1n S0 w p sz fo) (s0:∀ i,S0 i→S i) (s1:∀ i,S1 i→S i) (d:∀ i,S0 i→¬ S1 i) (n0 : ¬ S0 g) (n1 : ¬ S1 g)
 (hm:Mods S1 w w') (hr:Z1n S1' w' q sz vo') (hS:∀ i,S1' i→S1 i∨w.heap.size≤i):Z31 (fun i =>S i∨w.heap.size≤i∧i<w'.heap.size) w' g sz fo vo'∧Mods S w w' :=by
 have hg :=Z0a b
 refine ⟨⟨fun i hi =>?_, .inl a1,S0,S1',p,q,hm.at b n1,r0.mods hm fun i hi hj =>d i hi hj,hr,fun i hi =>.inl (s0 i hi),fun i hi =>?_,fun i hi hj =>?_,n0,fun h =>?_⟩,hm.weaken fun i _ h =>s1 i h⟩
 ·rcases hi with hi | hi
  ·exact Nat.lt_of_lt_of_le (a0 i hi) hm.size
  ·exact hi.2
 ·rcases hS i hi with h | h
  ·exact .inl (s1 i h)
  ·exact .inr ⟨h,hr.1 i hi⟩
 ·rcases hS i hj with h | h
  ·exact d i hi h
  ·exact absurd (r0.1 i hi) (by omega)
 ·rcases hS g h with h | h
  ·exact n1 h
  ·omega
def popL (fo vo:List Int):List Int × List Int :=if fo = [] then ([],vo.tail) else (fo.tail,vo)
theorem Zg4 {S:Nat→Prop} {w:World} {g sz:Nat} {fo vo:List Int} (h:Z31 S w g sz fo vo) (hne:fo≠[]∨vo≠[]):Calls Tryz.prog 206 #[.pointer (some ⟨g,0,none⟩)] w fun r w' =>(∃ v,r = .returned v)∧Z31 (fun i =>S i∨w.heap.size≤i∧i<w'.heap.size) w' g sz (popL fo vo).1 (popL fo vo).2∧Mods S w w' :=by
 have HF :=Hd (Z7k h)
 obtain ⟨a0,a1,S0,S1,p,q,b,r0,r1,s0,s1,d,n0,n1⟩ :=h
 have HC :=Hd (fun c h0 h1 =>Z1q g p q c w b h0 h1)
 match fo,vo with
 | x :: fo,vo =>
  have HP :=Hd (Z57 r0)
  have HE :=Hd (fun (w':World) (hm:Mods S0 w w') (hr:Z1n S0 w' p sz fo) =>Z31.set0 a0 a1 b r1 s0 s1 d n0 n1 hm hr fun i hi =>.inl hi)
  have HCC :=Hd (HC.out 0 (by omega) (by omega))
  have hf:Z6d (x :: fo) vo=0 :=rfl
  rw [hf] at HF
  clear hf a0 a1 b r0 r1 s0 s1 d n0 n1 hne
  go_enter Tryz.func206,Tryz.ntmps206
  go_wp2_with fail
  refine HF.out.mono ?_
  rintro r w1 ⟨rfl,rfl⟩
  go_wp2_with fail
  refine HCC.out.mono ?_
  rintro r w1 ⟨rfl,rfl⟩
  rw [show lanP p q 0=some ⟨p,0,none⟩ from rfl]
  go_wp2_with fail
  refine HP.out.mono ?_
  rintro r w1 ⟨rfl,hr,hm⟩
  have HR :=Hd hr
  have HM :=Hd hm
  clear hr hm
  go_wp2
  exact bodyPost_ret (results_tmp3 rfl _ _ _) rfl ⟨⟨_,rfl⟩,HE.out _ HM.out HR.out⟩
 | [],x :: vo =>
  have HP :=Hd (Z57 r1)
  have HE :=Hd (fun (w':World) (hm:Mods S1 w w') (hr:Z1n S1 w' q sz vo) =>Z31.set1 a0 a1 b r0 s0 s1 d n0 n1 hm hr fun i hi =>.inl hi)
  have HCC :=Hd (HC.out 1 (by omega) (by omega))
  have hf:Z6d [] (x :: vo)=1 :=rfl
  rw [hf] at HF
  clear hf a0 a1 b r0 r1 s0 s1 d n0 n1 hne
  go_enter Tryz.func206,Tryz.ntmps206
  go_wp2_with fail
  refine HF.out.mono ?_
  rintro r w1 ⟨rfl,rfl⟩
  go_wp2_with fail
  refine HCC.out.mono ?_
  rintro r w1 ⟨rfl,rfl⟩
  rw [show lanP p q 1=some ⟨q,0,none⟩ from rfl]
  go_wp2_with fail
  refine HP.out.mono ?_
  rintro r w1 ⟨rfl,hr,hm⟩
  have HR :=Hd hr
  have HM :=Hd hm
  clear hr hm
  go_wp2
  exact bodyPost_ret (results_tmp3 rfl _ _ _) rfl ⟨⟨_,rfl⟩,HE.out _ HM.out HR.out⟩
 | [],[] =>exact absurd hne (by simp)
def Z74 (c:Int) (fo vo:List Int) (x:Int):List Int × List Int :=if c=0 then (fo ++ [x],vo) else (fo,vo ++ [x])
theorem Zdv {S:Nat→Prop} {w:World} {g sz:Nat} {fo vo:List Int} (h:Z31 S w g sz fo vo) (c x:Int) (hc:c=0∨c=1) (hl:(if c=0 then fo else vo).length<sz) :
 Calls Tryz.prog 93 #[.pointer (some ⟨g,0,none⟩), .int .i64 c, .int .i64 x] w fun r w' =>r = .returned (.int .i64 0)∧Z31 (fun i =>S i∨w.heap.size≤i∧i<w'.heap.size) w' g sz (Z74 c fo vo x).1 (Z74 c fo vo x).2∧Mods S w w' :=by
 obtain ⟨a0,a1,S0,S1,p,q,b,r0,r1,s0,s1,d,n0,n1⟩ :=h
 have HCC :=Hd (Z1q g p q c w b (by omega) (by omega))
 have kx :=((Mods.refl (fun _ =>False) w).alloc (.cells #[.int .i64 x] 3))
 rcases hc with rfl | rfl
 ·rw [if_pos rfl] at hl
  have HP :=Hd (Z4g (r0.mods kx fun _ _ h =>h) hl x w.heap.size (cell_new1 w _ _) fun h =>Nat.lt_irrefl _ (r0.1 _ h))
  have HE :=Hd (fun (w':World) (S0':Nat→Prop) (hm:Mods S0 w w') (hr:Z1n S0' w' p sz (fo ++ [x])) (hS:∀ i,S0' i→S0 i∨w.heap.size≤i) =>Z31.set0 a0 a1 b r1 s0 s1 d n0 n1 hm hr hS)
  clear a0 a1 b r0 r1 s0 s1 d n0 n1 kx
  go_enter Tryz.func93,Tryz.ntmps93
  go_wp2_with fail
  refine HCC.out.mono ?_
  rintro r w1 ⟨rfl,rfl⟩
  rw [show lanP p q 0=some ⟨p,0,none⟩ from rfl]
  go_wp2_with fail
  refine HP.out.mono ?_
  rintro r w1 ⟨rfl,hr,hm⟩
  have HR :=Hd hr
  have HM :=Hd (((Mods.refl S0 w).alloc _).trans hm)
  clear hr hm
  go_wp2
  go_ret
  exact ⟨rfl,HE.out _ _ HM.out HR.out fun i hi =>hi.imp id fun h =>by have :=h.1; rw [World.size_alloc] at this; omega⟩
 ·rw [if_neg (by decide)] at hl
  have HP :=Hd (Z4g (r1.mods kx fun _ _ h =>h) hl x w.heap.size (cell_new1 w _ _) fun h =>Nat.lt_irrefl _ (r1.1 _ h))
  have HE :=Hd (fun (w':World) (S0':Nat→Prop) (hm:Mods S1 w w') (hr:Z1n S0' w' q sz (vo ++ [x])) (hS:∀ i,S0' i→S1 i∨w.heap.size≤i) =>Z31.set1 a0 a1 b r0 s0 s1 d n0 n1 hm hr hS)
  clear a0 a1 b r0 r1 s0 s1 d n0 n1 kx
  go_enter Tryz.func93,Tryz.ntmps93
  go_wp2_with fail
  refine HCC.out.mono ?_
  rintro r w1 ⟨rfl,rfl⟩
  rw [show lanP p q 1=some ⟨q,0,none⟩ from rfl]
  go_wp2_with fail
  refine HP.out.mono ?_
  rintro r w1 ⟨rfl,hr,hm⟩
  have HR :=Hd hr
  have HM :=Hd (((Mods.refl S1 w).alloc _).trans hm)
  clear hr hm
  go_wp2
  go_ret
  exact ⟨rfl,HE.out _ _ HM.out HR.out fun i hi =>hi.imp id fun h =>by have :=h.1; rw [World.size_alloc] at this; omega⟩
theorem Zci {S:Nat→Prop} {w:World} {g sz:Nat} {fo vo:List Int} (h:Z31 S w g sz fo vo) (c:Int) (hc:c=0∨c=1) :
 Calls Tryz.prog 128 #[.pointer (some ⟨g,0,none⟩), .int .i64 c] w fun r w' => ∃ v,r = .returned v∧w'.ownsRow w.heap.size 3 1 v (if c=0 then fo else fo ++ vo).length ((if c=0 then fo else fo ++ vo).map fun x =>.int .i64 x)∧Z00 w w' :=by
 have HALL :=Hd (fun (w':World) (hk:Z00 w w') (k:Int) (hk2:k=0∨k=1) =>Z77 (h.mods hk fun _ _ h =>h) k hk2)
 have hlen:fo.length≤4096∧vo.length≤4096 :=by
  obtain ⟨_,_,_,_,_,_,_,r0,r1,_⟩ :=h
  exact ⟨Nat.le_trans r0.2.2.2.1 r0.2.2.1,Nat.le_trans r1.2.2.2.1 r1.2.2.1⟩
 have HCC :=Hd (show Calls Tryz.prog 72 #[.pointer (some ⟨g,0,none⟩), .int .i64 c] w fun r w' =>(∃ p,r = .returned (.pointer (some ⟨p,0,none⟩)))∧w=w' from by
  obtain ⟨a0,a1,S0,S1,p,q,b,r0,r1,s0,s1,d,n0,n1⟩ :=h
  refine (Z1q g p q c w b (by omega) (by omega)).mono ?_
  rintro r w' ⟨rfl,rfl⟩
  rcases hc with rfl | rfl
  ·exact ⟨⟨p,rfl⟩,rfl⟩
  ·exact ⟨⟨q,rfl⟩,rfl⟩)
 obtain ⟨i0,hi,hz0,hz1,hz2⟩ :=info_parts Zju
 obtain ⟨R,hR⟩:∃ R,R=(if c=0 then fo else fo ++ vo) :=⟨_,rfl⟩
 rw [← hR]
 have HR :=Hd hR
 clear h hR
 go_enter Tryz.func128,Tryz.ntmps128
 go_wp2_with fail
 refine HCC.out.mono ?_
 rintro r w1 ⟨⟨pp,rfl⟩,rfl⟩
 go_wp2_with fail
 go_loopw [5,6] (fun v i wr => ∃ k:Nat,(k:Int)≤c+1∧i = .int .i64 k∧wr.ownsRow w.heap.size 3 1 v (if k=0 then [] else if k=1 then fo else fo ++ vo).length ((if k=0 then [] else if k=1 then fo else fo ++ vo).map fun x =>.int .i64 x)∧Z00 w wr) (fun _ i _ =>(c+1).toNat - (intOf i).toNat)
 case atStart =>exact ⟨0,by omega,rfl,World.ownsRow_nil _ _ _ _,Mods.refl _ _⟩
 case round =>
  obtain ⟨k,hk,rfl,hown,hkp⟩ :=hrel
  by_cases hlt:(k:Int)≤c
  ·have hk01:(k:Int)=0∨(k:Int)=1 :=by omega
   obtain ⟨X,hX⟩:∃ X,X=(if k=0 then [] else if k=1 then fo else fo ++ vo) :=⟨_,rfl⟩
   obtain ⟨Y,hY⟩:∃ Y,Y=(if (k:Int)=0 then fo else vo) :=⟨_,rfl⟩
   have hXY:(if k+1=0 then [] else if k+1=1 then fo else fo ++ vo)=X ++ Y :=by
    rcases hk01 with h | h
    ·obtain rfl:k=0 :=by omega
     rw [hX,hY]; simp
    ·obtain rfl:k=1 :=by omega
     rw [hX,hY]; simp
   have hXl:X.length≤8192 :=by rw [hX]; split; simp; split; omega; simp; omega
   have hYl:Y.length≤8192 :=by rw [hY]; split <;> omega
   rw [← hX] at hown
   have HO :=Hd hown
   have HK :=Hd hkp
   have hA :=HALL.out wr hkp k hk01
   rw [← hY] at hA
   have HA :=Hd hA
   have HXY :=Hd hXY
   have hs :=hkp.size
   clear hX hY hXY hown hkp hA
   go_wp2_with fail
   refine HA.out.mono ?_
   rintro r w2 ⟨v2,rfl,ho2,hk2⟩
   have HO2 :=Hd ho2
   have HK2 :=Hd hk2
   have HO1 :=Hd (hk2.owns HO.out fun _ _ h =>h)
   have hs2 :=hk2.size
   clear ho2 hk2
   go_wp2_with (at_builtin; refine Z2x rfl _ _ 37 rfl w.heap.size 3 i0 (.int .i64 0) 1 8 Tryz.underlying37 hi hz0 hz1 hz2 rfl (by decide) _ _ _ rfl HO1.out _ _ _ _ rfl HO2.out (fun u hu =>by obtain ⟨y,_,rfl⟩ :=List.mem_map.1 hu; rfl) (by unfold maxLen; omega) (by omega) (by omega) ?_)
   intro v' w3 hown3 hmd
   have HK3 :=Hd ((HK.out.keep HK2.out).seq hmd fun i hi e =>absurd (HO1.out.lt i e).1 (by omega))
   have HO3 :=Hd (show w3.ownsRow w.heap.size 3 1 v' (if k+1=0 then [] else if k+1=1 then fo else fo ++ vo).length ((if k+1=0 then [] else if k+1=1 then fo else fo ++ vo).map fun x =>.int .i64 x) from by rw [HXY.out,List.length_append,List.map_append]; exact hown3)
   clear hown3 hmd
   go_wp2
   go_roundw
   case rel =>exact ⟨k+1,by omega,by go_num,HO3.out,HK3.out⟩
   case measure =>simp [intOf]; omega
  ·have hk1:k=1∨k=2 :=by omega
   have hfin:(if k=0 then [] else if k=1 then fo else fo ++ vo)=R :=by
    rw [HR.out]
    rcases hk1 with rfl | rfl
    ·rw [if_pos (show c=0 by omega)]; rfl
    ·rw [if_neg (show ¬ c=0 by omega)]; rfl
   rw [hfin] at hown
   have HO :=Hd hown
   have HK :=Hd hkp
   clear hown hkp hfin hk1
   go_wp2
   go_ret
   exact ⟨_,rfl,HO.out,HK.out⟩
end Go.Proofs.YtecapfmmoejikaaGreat
