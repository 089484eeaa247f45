/- A part of the proofs of the top laws: LedB. -/
import Derived.Deep.RegionHeld3
import Derived.Deep.RegionWith
import Derived.Test.YtecapfmmoejikaaGreatPkAf
set_option maxRecDepth 4000
set_option maxHeartbeats 8000000
namespace Go.Eg
open Go Go.RowKit
structure Led where
 d:Int
 p:Int
 b:Int
 c:Int
def Led.sup (s:Led):Int :=s.d - s.p - s.b
structure Led.ok (s:Led):Prop where
 p0:0≤s.p
 b0:0≤s.b
 s0:s.p+s.b≤s.d
 d1:s.d≤maxU
 sc:s.d - s.p - s.b≤s.c
 c1:s.c≤maxU
def Led.depC (s:Led) (x:Int):Int :=if s.c - s.sup<x then 4 else if maxU<s.d+x then 10 else 0
def Led.dep (s:Led) (x:Int):Led :=if s.depC x=0 then { s with d :=s.d+x } else s
def Led.outC (s:Led) (x:Int):Int :=if s.sup<x then 3 else 0
def Led.pay (s:Led) (x:Int):Led :=if s.outC x=0 then { s with p :=s.p+x } else s
def Led.burn (s:Led) (x:Int):Led :=if s.outC x=0 then { s with b :=s.b+x } else s
theorem Led.dep_cases (s:Led) (x:Int):(s.c - s.sup<x∧s.depC x=4∧s.dep x=s)∨(x≤s.c - s.sup∧maxU<s.d+x∧s.depC x=10∧s.dep x=s) ∨
 (x≤s.c - s.sup∧s.d+x≤maxU∧s.depC x=0∧s.dep x = { s with d :=s.d+x }) :=by
 by_cases h1:s.c - s.sup<x
 ·have e:s.depC x=4 :=if_pos h1
  exact .inl ⟨h1,e,by unfold Led.dep; rw [e]; rfl⟩
 ·by_cases h2:maxU<s.d+x
  ·have e:s.depC x=10 :=by unfold Led.depC; rw [if_neg h1,if_pos h2]
   exact .inr (.inl ⟨by omega,h2,e,by unfold Led.dep; rw [e]; rfl⟩)
  ·have e:s.depC x=0 :=by unfold Led.depC; rw [if_neg h1,if_neg h2]
   exact .inr (.inr ⟨by omega,by omega,e,by unfold Led.dep; rw [if_pos e]⟩)
theorem Led.out_cases (s:Led) (x:Int):(s.sup<x∧s.outC x=3∧s.pay x=s∧s.burn x=s)∨(x≤s.sup∧s.outC x=0∧s.pay x = { s with p :=s.p+x }∧s.burn x = { s with b :=s.b+x }) :=by
 by_cases h1:s.sup<x
 ·have e:s.outC x=3 :=if_pos h1
  exact .inl ⟨h1,e,by unfold Led.pay; rw [e]; rfl,by unfold Led.burn; rw [e]; rfl⟩
 ·have e:s.outC x=0 :=if_neg h1
  exact .inr ⟨by omega,e,by unfold Led.pay; rw [if_pos e],by unfold Led.burn; rw [if_pos e]⟩
theorem Led.dep_ok {s:Led} (h:s.ok) {x:Int} (h0:0≤x):(s.dep x).ok :=by
 rcases s.dep_cases x with ⟨_,_,e⟩ | ⟨_,_,_,e⟩ | ⟨h1,h2,_,e⟩
 ·rw [e]; exact h
 ·rw [e]; exact h
 ·obtain ⟨a1,a2,a3,a4,a5,a6⟩ :=h
  unfold Led.sup at h1
  rw [e]
  exact ⟨a1,a2,by simp only; omega,h2,by simp only; omega,a6⟩
theorem Led.pay_ok {s:Led} (h:s.ok) {x:Int} (h0:0≤x):(s.pay x).ok :=by
 rcases s.out_cases x with ⟨_,_,e,_⟩ | ⟨h1,_,e,_⟩
 ·rw [e]; exact h
 ·obtain ⟨a1,a2,a3,a4,a5,a6⟩ :=h
  unfold Led.sup at h1
  rw [e]
  exact ⟨by simp only; omega,a2,by simp only; omega,a4,by simp only; omega,a6⟩
theorem Led.burn_ok {s:Led} (h:s.ok) {x:Int} (h0:0≤x):(s.burn x).ok :=by
 rcases s.out_cases x with ⟨_,_,_,e⟩ | ⟨h1,_,_,e⟩
 ·rw [e]; exact h
 ·obtain ⟨a1,a2,a3,a4,a5,a6⟩ :=h
  unfold Led.sup at h1
  rw [e]
  exact ⟨a1,by simp only; omega,by simp only; omega,a4,by simp only; omega,a6⟩
theorem Z8u {x:Int} (h0:0≤x) (h1:x≤maxU):IntKind.u64.wrap x=x :=by
 rw [IntKind.wrap_u64]
 unfold maxU at h1
 omega
end Go.Eg
namespace Go.Proofs.YtecapfmmoejikaaGreat
open Go.RowKit Go.Eg
abbrev ledB (s:Led):Obj := .cells #[.int .u64 s.d, .int .u64 s.p, .int .u64 s.b, .int .u64 s.c] 133 (0,0)
theorem Z54 {w:World} {g:Nat} {s:Led} (h:w.heap[g]? = some (ledB s)):w.cell? ⟨g,0,none⟩=some (.int .u64 s.d)∧w.cell? ⟨g,1,none⟩=some (.int .u64 s.p)∧w.cell? ⟨g,2,none⟩=some (.int .u64 s.b)∧w.cell? ⟨g,3,none⟩=some (.int .u64 s.c) :=
 ⟨by simp [World.cell?,h],by simp [World.cell?,h],by simp [World.cell?,h],by simp [World.cell?,h]⟩
theorem Zf1 {w:World} {g:Nat} {s:Led} (h:w.heap[g]? = some (ledB s)) (j:Nat):w.frozen? ⟨g,j,none⟩=false :=by simp [World.frozen?,h]
theorem Zgq (c:Int) (w:World) :
 Calls Tryz.prog 27 #[.int .u64 c] w fun r w' =>r = .returned (.pointer (some ⟨w.heap.size,0,none⟩))∧w'=w.alloc (ledB ⟨0,0,0,c⟩) :=by
 go_enter Tryz.func27,Tryz.ntmps27
 go_wp2
 go_ret
 exact ⟨rfl,rfl⟩
theorem Z86 (g:Nat) (s:Led) (w:World) (hb:w.heap[g]? = some (ledB s)) (hs:s.ok) :
 Calls Tryz.prog 123 #[.pointer (some ⟨g,0,none⟩)] w fun r w' =>r = .returned (.int .u64 s.sup)∧Z1w w w' :=by
 obtain ⟨c0,c1,c2,c3⟩ :=Z54 hb
 obtain ⟨a1,a2,a3,a4,a5,a6⟩ :=hs
 obtain ⟨d,p,b,c⟩ :=s
 simp only at c0 c1 c2 c3 a1 a2 a3 a4 a5 a6
 have w1:IntKind.u64.wrap (d - p)=d - p :=Z8u (by omega) (by omega)
 have w2:IntKind.u64.wrap (d - p - b)=d - p - b :=Z8u (by omega) (by omega)
 clear hb
 go_enter Tryz.func123,Tryz.ntmps123
 go_wp2
 go_quiet (fail)
 go_wp2
 go_ret
 exact ⟨rfl,Z1w.mk _ _⟩
theorem Zdz {w:World} {g:Nat} {s:Led} (h:w.heap[g]? = some (ledB s)) (x:Int) :
 (w.setCell ⟨g,0,none⟩ (.int .u64 x)).heap[g]? = some (ledB { s with d :=x })∧(w.setCell ⟨g,1,none⟩ (.int .u64 x)).heap[g]? = some (ledB { s with p :=x })∧(w.setCell ⟨g,2,none⟩ (.int .u64 x)).heap[g]? = some (ledB { s with b :=x }) :=
 ⟨heap_setCell_same w g 0 _ _ _ h,heap_setCell_same w g 1 _ _ _ h,heap_setCell_same w g 2 _ _ _ h⟩
theorem Znc (g:Nat) (s:Led) (x:Int) (w:World) (hb:w.heap[g]? = some (ledB s)) (hs:s.ok) (hx0:0≤x) (hx1:x≤maxU) :
 Calls Tryz.prog 83 #[.pointer (some ⟨g,0,none⟩), .int .u64 x] w fun r w' =>r = .returned (.int .i64 (s.depC x))∧w'.heap[g]? = some (ledB (s.dep x))∧Mods (· = g) w w' :=by
 obtain ⟨c0,c1,c2,c3⟩ :=Z54 hb
 have HB :=Hd hb
 have HS :=Hd hs
 obtain ⟨a1,a2,a3,a4,a5,a6⟩ :=hs
 have hsup:s.sup=s.d - s.p - s.b :=rfl
 have w1:IntKind.u64.wrap (s.c - s.sup)=s.c - s.sup :=Z8u (by omega) (by omega)
 have hd0:0≤s.d :=by omega
 have HC :=Hd (s.dep_cases x)
 have A4 :=Hd a4
 have X1 :=Hd hx1
 clear hb a1 a2 a3 a5 a6 hsup c1 c2 a4 hx1
 by_cases h1:s.c - s.sup<x
 ·have hcase:s.depC x=4∧s.dep x=s :=by
   rcases HC.out with ⟨_,e1,e2⟩ | ⟨e,_⟩ | ⟨e,_⟩
   ·exact ⟨e1,e2⟩
   ·omega
   ·omega
  rw [hcase.1,hcase.2]
  clear hcase
  go_enter Tryz.func83,Tryz.ntmps83
  go_wp2
  go_quiet ((go_at_call 123; exact Z4j (Z86 g s _ HB.out HS.out)))
  go_wp2
  go_ret
  exact ⟨rfl,HB.out,(Z1w.mk _ _).mods⟩
 ·have hadd:Z3p (fun j =>if j=0 then s.d else x) 2=decide (s.d+x≤maxU) :=by unfold Z3p; rw [sum2]
  have haddv:addV (fun j =>if j=0 then s.d else x) 2=if s.d+x≤maxU then s.d+x else 0 :=by unfold addV; rw [sum2]
  have HA :=Hd hadd
  have HV :=Hd haddv
  clear hadd haddv
  go_enter Tryz.func83,Tryz.ntmps83
  go_wp2
  go_quiet ((go_at_call 123; exact Z4j (Z86 g s _ HB.out HS.out)))
  go_wp2_with fail
  have hb2 :=Z02 HB.out (.cells #[.int .u64 s.d, .int .u64 x] 22)
  have hm2 :=(Mods.refl (· = g) w).alloc (.cells #[.int .u64 s.d, .int .u64 x] 22)
  refine (Z1r _ 2 _ _ ((Zk8 w s.d x 22 ⟨hd0,A4.out⟩ ⟨hx0,X1.out⟩).mods ((Mods.refl (fun _ =>False) _).drewN nq) (fun _ _ h =>h)) (by omega)).mono ?_
  rw [HA.out,HV.out]
  rintro r w2 ⟨rfl,rfl⟩
  have k0:w.cell? ⟨g,0,none⟩=some (.int .u64 s.d) :=c0
  have hlt :=Z0a HB.out
  by_cases h2:s.d+x≤maxU
  ·have hcase:s.depC x=0∧s.dep x = { s with d :=s.d+x } := by
    rcases HC.out with ⟨e,_⟩ | ⟨_,e,_⟩ | ⟨_,_,e1,e2⟩
    ·omega
    ·omega
    ·exact ⟨e1,e2⟩
   rw [if_pos h2,decide_eq_true h2]
   have HB2 :=Hd hb2
   have HM2 :=Hd hm2
   have E1 :=Hd hcase.1
   have E2 :=Hd hcase.2
   have hf0 :=Zf1 HB.out 0
   clear hcase hb2 hm2 h2
   go_wp2
   go_ret
   refine ⟨Z0p E1.out.symm, ?_, ?_⟩
   ·rw [E2.out]
    exact (Zdz HB2.out (s.d+x)).1
   ·exact (HM2.out.setCell _ _ (fun _ =>rfl)).drewN _
  ·have hcase:s.depC x=10∧s.dep x=s :=by
    rcases HC.out with ⟨e,_⟩ | ⟨_,_,e1,e2⟩ | ⟨_,e,_⟩
    ·omega
    ·exact ⟨e1,e2⟩
    ·omega
   rw [if_neg h2,decide_eq_false h2]
   have E1 :=Hd hcase.1
   have E2 :=Hd hcase.2
   clear hcase h2
   have HB2 :=Hd hb2
   have HM2 :=Hd hm2
   clear hb2 hm2
   go_wp2
   go_ret
   exact ⟨Z0p E1.out.symm,by rw [E2.out]; exact HB2.out,HM2.out.drewN _⟩
theorem book_any (g j:Nat) (s s' sN:Led) (x y:Int) (v:Value) (w:World) (hb:w.heap[g]? = some (ledB s)) (hs:s.ok) (hx0:0≤x) (hx1:x≤maxU) (hv:Amts w v 1 (fun _ =>x))
 (hc:w.cell? ⟨g,j,none⟩=some (.int .u64 y)) (hy0:0≤y) (hy1:y+s.sup≤maxU) (hset:∀ w:World,w.heap[g]? = some (ledB s)→(w.setCell ⟨g,j,none⟩ (.int .u64 (y+x))).heap[g]? = some (ledB s')) (hN:sN=if s.outC x=0 then s' else s) :
 Calls Tryz.prog 137 #[.pointer (some ⟨g,0,none⟩), .pointer (some ⟨g,j,none⟩),v] w fun r w' =>r = .returned (.int .i64 (s.outC x))∧w'.heap[g]? = some (ledB sN)∧Mods (· = g) w w' :=by
 have HN :=Hd hN
 clear hN
 have HB :=Hd hb
 have HS :=Hd hs
 have HV :=Hd hv
 have HSET :=Hd hset
 have X1 :=Hd hx1
 have Y1 :=Hd hy1
 have hfr :=Zf1 hb j
 have hadd:Z3p (fun _ =>x) 1=true :=by unfold Z3p; rw [sum1]; exact decide_eq_true hx1
 have haddv:addV (fun _ =>x) 1=x :=by unfold addV; rw [sum1]; exact if_pos hx1
 have HA :=Hd hadd
 have HAV :=Hd haddv
 obtain ⟨⟨va,vc,rfl,_⟩,_⟩ :=hv
 clear hb hs hset hx1 hadd haddv hy1
 by_cases h1:s.sup<x
 ·have E :=Hd (show s.outC x=3 from if_pos h1)
  go_enter Tryz.func137,Tryz.ntmps137
  go_wp2_with fail
  refine (Z1r _ 1 _ _ HV.out (by omega)).mono ?_
  rw [HA.out,HAV.out]
  rintro r w2 ⟨rfl,rfl⟩
  go_wp2_with fail
  refine (Z86 g s _ HB.out HS.out).mono ?_
  rintro r w3 ⟨rfl,hd⟩
  have HD :=Hd hd
  clear hd
  go_wp2
  go_ret
  exact ⟨Z0p E.out.symm,by rw [HN.out,E.out,if_neg (by omega),HD.out.heap]; exact HB.out,HD.out.mods⟩
 ·have E :=Hd (show s.outC x=0 from if_neg h1)
  go_enter Tryz.func137,Tryz.ntmps137
  go_wp2_with fail
  refine (Z1r _ 1 _ _ HV.out (by omega)).mono ?_
  rw [HA.out,HAV.out]
  rintro r w2 ⟨rfl,rfl⟩
  go_wp2_with fail
  refine (Z86 g s _ HB.out HS.out).mono ?_
  rintro r w3 ⟨rfl,hd⟩
  have HD :=Hd hd
  have hc3 :=(hd.mods (S :=fun _ =>False)).cell hc (fun h =>h)
  have hf3:w3.frozen? ⟨g,j,none⟩=false :=by unfold World.frozen? at hfr ⊢; rw [hd.heap]; exact hfr
  have hsum:y+x≤maxU :=by have :=Y1.out; omega
  unfold maxU at hsum
  clear hd hc hfr
  go_wp2
  go_ret
  refine ⟨Z0p E.out.symm, ?_, ?_⟩
  ·rw [HN.out,E.out,if_pos rfl]
   exact HSET.out w3 (by rw [HD.out.heap]; exact HB.out)
  ·exact HD.out.mods.setCell _ _ (fun _ =>rfl)
theorem Znk (g:Nat) (s:Led) (x:Int) (w:World) (hb:w.heap[g]? = some (ledB s)) (hs:s.ok) (hx0:0≤x) (hx1:x≤maxU) :
 Calls Tryz.prog 122 #[.pointer (some ⟨g,0,none⟩), .int .u64 x] w fun r w' =>r = .returned (.int .i64 (s.outC x))∧w'.heap[g]? = some (ledB (s.pay x))∧Mods (· = g) w w' :=by
 have hb1:((w.alloc (.cells #[.int .u64 x] 22)).drew).heap[g]? = some (ledB s) :=Z02 hb _
 have hm1:Mods (· = g) w ((w.alloc (.cells #[.int .u64 x] 22)).drew) :=((Mods.refl _ w).alloc _).drew
 have ha1:Amts ((w.alloc (.cells #[.int .u64 x] 22)).drew) (.slice (some ⟨w.heap.size,0,none⟩) 1 1) 1 (fun _ =>x) :=(Zq4 w x _ ⟨hx0,hx1⟩).mods (S :=fun _ =>False) (Mods.refl _ _).drew (fun _ _ h =>h)
 have hsup:s.sup=s.d - s.p - s.b :=rfl
 have hbk :=book_any g 1 s { s with p :=s.p+x } (s.pay x) x s.p _ _ hb1 hs hx0 hx1 ha1 (Z54 hb1).2.1 hs.p0 (by
  have :=hs.p0; have :=hs.b0; have :=hs.d1; omega) (fun w h =>(Zdz h (s.p+x)).2.1) rfl
 have HBK :=Hd hbk
 have HM1 :=Hd hm1
 clear hb hs hx1 hb1 hm1 ha1 hbk hsup hx0
 go_enter Tryz.func122,Tryz.ntmps122
 go_wp2
 go_region_with ((go_at_call 137; refine HBK.out.mono ?_; rintro r w2 ⟨rfl,hb2,hm2⟩; have HB2 :=Hd hb2; have HM2 :=Hd hm2; clear hb2 hm2))
 all_goals
  rename_i HB2 HM2
  go_wp2
  go_ret
  exact ⟨rfl,HB2.out,HM1.out.trans HM2.out⟩
theorem Zkw (g:Nat) (s:Led) (x:Int) (w:World) (hb:w.heap[g]? = some (ledB s)) (hs:s.ok) (hx0:0≤x) (hx1:x≤maxU) :
 Calls Tryz.prog 92 #[.pointer (some ⟨g,0,none⟩), .int .u64 x] w fun r w' =>r = .returned (.int .i64 (s.outC x))∧w'.heap[g]? = some (ledB (s.burn x))∧Mods (· = g) w w' :=by
 have hb1:((w.alloc (.cells #[.int .u64 x] 22)).drew).heap[g]? = some (ledB s) :=Z02 hb _
 have hm1:Mods (· = g) w ((w.alloc (.cells #[.int .u64 x] 22)).drew) :=((Mods.refl _ w).alloc _).drew
 have ha1:Amts ((w.alloc (.cells #[.int .u64 x] 22)).drew) (.slice (some ⟨w.heap.size,0,none⟩) 1 1) 1 (fun _ =>x) :=(Zq4 w x _ ⟨hx0,hx1⟩).mods (S :=fun _ =>False) (Mods.refl _ _).drew (fun _ _ h =>h)
 have hsup:s.sup=s.d - s.p - s.b :=rfl
 have hbk :=book_any g 2 s { s with b :=s.b+x } (s.burn x) x s.b _ _ hb1 hs hx0 hx1 ha1 (Z54 hb1).2.2.1 hs.b0 (by
  have :=hs.p0; have :=hs.b0; have :=hs.d1; omega) (fun w h =>(Zdz h (s.b+x)).2.2) rfl
 have HBK :=Hd hbk
 have HM1 :=Hd hm1
 clear hb hs hx1 hb1 hm1 ha1 hbk hsup hx0
 go_enter Tryz.func92,Tryz.ntmps92
 go_wp2
 go_region_with ((go_at_call 137; refine HBK.out.mono ?_; rintro r w2 ⟨rfl,hb2,hm2⟩; have HB2 :=Hd hb2; have HM2 :=Hd hm2; clear hb2 hm2))
 all_goals
  rename_i HB2 HM2
  go_wp2
  go_ret
  exact ⟨rfl,HB2.out,HM1.out.trans HM2.out⟩
end Go.Proofs.YtecapfmmoejikaaGreat
