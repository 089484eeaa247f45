/- A part of the proofs of the top laws: TpA. -/
import Derived.Deep.RegionHeld3
import Derived.Test.YtecapfmmoejikaaGreatPkAf
import Derived.Test.YtecapfmmoejikaaGreatPkAc
set_option maxRecDepth 4000
set_option maxHeartbeats 8000000
namespace Go.Eg
open Go Go.RowKit
def Z1z:List Int→Int→Option Int
 | [],s =>some s
 | n :: r,s =>if n<0∨1099511627776 - s<n then none else Z1z r (s+n)
def Zck (a d:Int):Int :=if a=0 then 0 else (a - 1) / d+1
structure Mtr where
 gr:Int
 tk:Int
 dr:Int
 bf:Int
def Mtr.bal (m:Mtr):Int :=(m.gr - m.tk - m.dr) % 18446744073709551616
theorem Mtr.bal_range (m:Mtr):0≤m.bal∧m.bal≤maxU :=by
 unfold Mtr.bal maxU
 omega
theorem Zim {b n:Int} (h0:0≤b) (hn:1≤n):0≤b % n∧b % n<n∧b % n≤b :=by
 have h1 :=Int.emod_nonneg b (show n≠0 by omega)
 have h2 :=Int.emod_lt_of_pos b (show 0<n by omega)
 refine ⟨h1,h2, ?_⟩
 by_cases h:b<n
 ·rw [Int.emod_eq_of_lt h0 h]; exact Int.le_refl _
 ·omega
end Go.Eg
namespace Go.Proofs.YtecapfmmoejikaaGreat
open Go.RowKit Go.Eg
abbrev clkB (b n:Int):Obj := .cells #[.int .i64 b, .int .i64 n] 129 (0,0)
theorem Z52 {w:World} {g:Nat} {b n:Int} (h:w.heap[g]? = some (clkB b n)):w.cell? ⟨g,0,none⟩=some (.int .i64 b)∧w.cell? ⟨g,1,none⟩=some (.int .i64 n)∧w.frozen? ⟨g,0,none⟩=false :=
 ⟨by simp [World.cell?,h],by simp [World.cell?,h],by simp [World.frozen?,h]⟩
theorem Zd0 (n:Int) (w:World) (h:1≤n):Calls Tryz.prog 26 #[.int .i64 n] w fun r w' =>r = .returned (.pointer (some ⟨w.heap.size,0,none⟩))∧w'.heap[w.heap.size]? = some (clkB 0 n)∧Z00 w w' :=by
 go_enter Tryz.func26,Tryz.ntmps26
 go_wp2
 go_ret
 exact ⟨rfl,heap_alloc_last w _,(Mods.refl _ w).alloc _⟩
theorem uw {x:Int} (h0:0≤x) (h1:x≤maxU):IntKind.u64.wrap x=x :=by
 rw [IntKind.wrap_u64]
 unfold maxU at h1
 omega
theorem iw {x:Int} (h0 : -4611686018427387904≤x) (h1:x≤4611686018427387904):wrap64 x=x :=IntWalk.wrap64_in x ⟨by omega,by omega⟩
theorem Zaz {a d:Int} (h0:0≤a) (hd:1≤d):a.tdiv d=a / d∧0≤a / d∧a / d≤a :=by
 refine ⟨Int.tdiv_eq_ediv_of_nonneg h0,Int.ediv_nonneg h0 (by omega), ?_⟩
 exact Int.ediv_le_self _ h0
theorem Zis (g:Nat) (b n:Int) (w:World) (hb:w.heap[g]? = some (clkB b n)):Calls Tryz.prog 67 #[.pointer (some ⟨g,0,none⟩)] w fun r w' =>r = .returned (.int .i64 b)∧w=w' :=by
 obtain ⟨c0,c1,f0⟩ :=Z52 hb
 clear hb
 go_enter Tryz.func67,Tryz.ntmps67
 go_wp2
 go_ret
 exact ⟨rfl,rfl⟩
theorem Zbl (g:Nat) (b n:Int) (w:World) (hb:w.heap[g]? = some (clkB b n)) (h0:0≤b) (h1:b≤1000000) (hn:1≤n):Calls Tryz.prog 78 #[.pointer (some ⟨g,0,none⟩)] w fun r w' =>r = .returned (.bool ((b+1) % n == 0))∧w'.heap[g]? = some (clkB (b+1) n)∧Mods (fun i =>i=g) w w' :=by
 obtain ⟨c0,c1,f0⟩ :=Z52 hb
 have hb2:(w.setCell ⟨g,0,none⟩ (.int .i64 (b+1))).heap[g]? = some (clkB (b+1) n) :=heap_setCell_same w g 0 _ _ _ hb
 have hm:Mods (fun i =>i=g) w (w.setCell ⟨g,0,none⟩ (.int .i64 (b+1))) :=(Mods.refl _ w).setCell _ _ fun _ =>rfl
 have hn0:(n == 0)=false :=by simp; omega
 have hr :=iw (x :=(b+1).tmod n) (by rw [Int.tmod_eq_emod_of_nonneg (by omega)]; have :=Zim (b :=b+1) (by omega) hn; omega) (by rw [Int.tmod_eq_emod_of_nonneg (by omega)]; have :=Zim (b :=b+1) (by omega) hn; omega)
 have he:(b+1).tmod n=(b+1) % n :=Int.tmod_eq_emod_of_nonneg (by omega)
 have HB :=Hd hb2
 have HM :=Hd hm
 have HR :=Hd hr
 have HE :=Hd he
 clear hb hb2 hm hr he
 go_enter Tryz.func78,Tryz.ntmps78
 go_wp2
 have HN :=Hd (fun w' (h:w'.heap[g]? = some (clkB (b+1) n)) =>Zis g (b+1) n w' h)
 generalize w.setCell ⟨g,0,none⟩ (.int .i64 (b+1))=w1 at *
 obtain ⟨d0,d1,f1⟩ :=Z52 HB.out
 go_quiet ((go_at_call 67; exact Z6u (HN.out _ HB.out)))
 go_wp2
 go_ret
 refine ⟨Z0k ?_,HB.out,HM.out.drewN _⟩
 first
  | rfl
  | rw [HR.out,HE.out]
  | rw [HE.out]
theorem Z2b (g:Nat) (b n:Int) (w:World) (hb:w.heap[g]? = some (clkB b n)):Calls Tryz.prog 37 #[.pointer (some ⟨g,0,none⟩)] w fun r w' =>r = .returned (.int .i64 b)∧w=w' :=by
 obtain ⟨c0,c1,f0⟩ :=Z52 hb
 clear hb
 go_enter Tryz.func37,Tryz.ntmps37
 go_wp2
 go_ret
 exact ⟨rfl,rfl⟩
theorem Zdk (b n:Int) (w:World) (h0:0≤b) (h1:b≤1000001) (hn:1≤n):Calls Tryz.prog 68 #[.int .i64 b, .int .i64 n] w fun r w' =>r = .returned (.int .i64 (b / n))∧w=w' :=by
 obtain ⟨e1,e2,e3⟩ :=Zaz h0 hn
 have E :=Hd (show wrap64 (b.tdiv n)=b / n from by rw [e1]; exact iw (by omega) (by omega))
 clear e1 e2 e3
 go_enter Tryz.func68,Tryz.ntmps68
 go_wp2
 go_ret
 exact ⟨Z0p (by first | rfl | exact E.out),rfl⟩
theorem Z12 (g:Nat) (b n:Int) (w:World) (hb:w.heap[g]? = some (clkB b n)) (h0:0≤b) (h1:b≤1000001) (hn:1≤n):Calls Tryz.prog 38 #[.pointer (some ⟨g,0,none⟩)] w fun r w' =>r = .returned (.int .i64 (b / n))∧Z00 w w' :=by
 obtain ⟨c0,c1,f0⟩ :=Z52 hb
 have HN :=Hd (fun k =>Zis g b n (w.drewN k) hb)
 have HE :=Hd (fun k =>Zdk b n (w.drewN k) h0 h1 hn)
 clear hb h0 h1 hn
 go_enter Tryz.func38,Tryz.ntmps38
 go_wp2
 go_quiet (first | (go_at_call 67; exact Z6u (HN.out _)) | (go_at_call 68; exact Z6u (HE.out _)))
 go_wp2
 go_ret
 exact ⟨rfl,(Mods.refl _ _).drewN _⟩
theorem Zii (a m q:Int) (w:World) (h0:0≤a) (ha:a≤maxU) (h1:1≤q):Calls Tryz.prog 15 #[.int .u64 a, .int .u64 m, .int .u64 q] w fun r w' =>r = .returned (.int .u64 (max m (a / q)))∧w=w' :=by
 obtain ⟨e1,e2,e3⟩ :=Zaz h0 h1
 have E :=Hd (show IntKind.u64.wrap (a.tdiv q)=a / q from by rw [e1]; exact uw (by omega) (by omega))
 clear e1 e2 e3 ha
 go_enter Tryz.func15,Tryz.ntmps15
 go_wp2
 all_goals
  rename_i h
  rw [E.out] at h
  go_ret
  refine ⟨Z0p ?_,rfl⟩
  first
   | omega
   | (rw [E.out]; omega)
theorem Z9f (a b:Int) (w:World) (h0:0≤b) (h1:a≤maxU):Calls Tryz.prog 232 #[.int .u64 a, .int .u64 b] w fun r w' =>r = .returned (.tuple #[.int .u64 (if a<b then 0 else a - b), .bool (decide (b≤a))])∧w=w' :=by
 by_cases h:a<b
 ·rw [if_pos h,decide_eq_false (by omega)]
  go_enter Tryz.func232,Tryz.ntmps232
  go_wp2
  go_ret2
  exact ⟨rfl,rfl⟩
 ·rw [if_neg h,decide_eq_true (by omega)]
  have E :=Hd (uw (x :=a - b) (by omega) (by omega))
  clear h1
  go_enter Tryz.func232,Tryz.ntmps232
  go_wp2
  go_ret2
  exact ⟨by first | rfl | (rw [E.out]; rfl),rfl⟩
theorem Zlc (a d:Int) (w:World) (h0:0≤a) (h1:a≤maxU) (hd:1≤d):Calls Tryz.prog 238 #[.int .u64 a, .int .u64 d] w fun r w' =>r = .returned (.tuple #[.int .u64 (Zck a d), .bool true])∧w=w' :=by
 by_cases h:a=0
 ·subst h
  go_enter Tryz.func238,Tryz.ntmps238
  go_wp2
  go_ret2
  exact ⟨rfl,rfl⟩
 ·have ha0:(a == 0)=false :=by simpa using h
  obtain ⟨e1,e2,e3⟩ :=Zaz (a :=a - 1) (by omega) hd
  have E1 :=Hd (uw (x :=a - 1) (by omega) (by omega))
  have E2 :=Hd (show IntKind.u64.wrap ((a - 1).tdiv d)=(a - 1) / d from by rw [e1]; exact uw (by omega) (by omega))
  have E3 :=Hd (uw (x :=(a - 1) / d+1) (by omega) (by omega))
  have E4 :=Hd (show Zck a d=(a - 1) / d+1 from if_neg h)
  clear e1 e2 e3 h1 h
  go_enter Tryz.func238,Tryz.ntmps238
  go_wp2
  go_ret2
  exact ⟨by first | rfl | (rw [E4.out,E1.out,E2.out,E3.out]; rfl) | (rw [E4.out]; rfl),rfl⟩
abbrev mtrB (m:Mtr):Obj := .cells #[.int .u64 m.gr, .int .u64 m.tk, .int .u64 m.dr, .int .u64 m.bf] 144 (0,0)
theorem Z6v {w:World} {g:Nat} {m:Mtr} (h:w.heap[g]? = some (mtrB m)):w.cell? ⟨g,0,none⟩=some (.int .u64 m.gr)∧w.cell? ⟨g,1,none⟩=some (.int .u64 m.tk)∧w.cell? ⟨g,2,none⟩=some (.int .u64 m.dr)∧w.cell? ⟨g,3,none⟩=some (.int .u64 m.bf) :=
 ⟨by simp [World.cell?,h],by simp [World.cell?,h],by simp [World.cell?,h],by simp [World.cell?,h]⟩
theorem Z88 {w:World} {g:Nat} {m:Mtr} (h:w.heap[g]? = some (mtrB m)) (j:Nat):w.frozen? ⟨g,j,none⟩=false :=by simp [World.frozen?,h]
def Z3s (w:World) (g:Nat) (x:Int):Prop := ∃ m:Mtr,w.heap[g]? = some (mtrB m)∧m.bal=x
theorem Z8g (x:Int):IntKind.u64.wrap x=x % 18446744073709551616 :=IntKind.wrap_u64 x
theorem Z3s.mods {S:Nat→Prop} {w w':World} {g:Nat} {x:Int} (h:Z3s w g x) (hm:Mods S w w') (hS : ¬ S g):Z3s w' g x :=by
 obtain ⟨m,h1,h2⟩ :=h
 exact ⟨m,hm.at h1 hS,h2⟩
theorem Z3s.range {w:World} {g:Nat} {x:Int} (h:Z3s w g x):0≤x∧x≤maxU :=by
 obtain ⟨m,_,rfl⟩ :=h
 exact m.bal_range
theorem Zc7 (w:World):Calls Tryz.prog 30 #[] w fun r w' =>r = .returned (.pointer (some ⟨w.heap.size,0,none⟩))∧Z3s w' w.heap.size 0∧Z00 w w' :=by
 go_enter Tryz.func30,Tryz.ntmps30
 go_wp2
 go_ret
 exact ⟨rfl,⟨⟨0,0,0,0⟩,heap_alloc_last w _,by decide⟩,(Mods.refl _ w).alloc _⟩
theorem Z3o (g:Nat) (m:Mtr) (w:World) (hb:w.heap[g]? = some (mtrB m)):Calls Tryz.prog 77 #[.pointer (some ⟨g,0,none⟩)] w fun r w' =>r = .returned (.int .u64 m.bal)∧Z1w w w' :=by
 obtain ⟨c0,c1,c2,c3⟩ :=Z6v hb
 have E :=Hd (show IntKind.u64.wrap (IntKind.u64.wrap (m.gr - m.tk) - m.dr)=m.bal from by rw [Z8g,Z8g,Mtr.bal]; omega)
 clear hb
 go_enter Tryz.func77,Tryz.ntmps77
 go_wp2
 go_quiet (fail)
 go_wp2
 go_ret
 exact ⟨Z0p E.out,Z1w.mk _ _⟩
theorem Zcn (g:Nat) (m:Mtr) (w:World) (hb:w.heap[g]? = some (mtrB m)):Calls Tryz.prog 231 #[.pointer (some ⟨g,0,none⟩)] w fun r w' =>r = .returned (.int .u64 (18446744073709551615 - m.bal))∧Z1w w w' :=by
 have HN :=Hd (Z3o g m w hb)
 have E :=Hd (uw (x :=18446744073709551615 - m.bal) (by have :=m.bal_range; unfold maxU at this; omega) (by have :=m.bal_range; unfold maxU; omega))
 clear hb
 go_enter Tryz.func231,Tryz.ntmps231
 go_wp2_with fail
 refine HN.out.mono ?_
 rintro r w1 ⟨rfl,hd⟩
 have HD :=Hd hd
 clear hd
 go_wp2
 go_ret
 exact ⟨Z0p E.out,HD.out⟩
theorem Z83 {g:Nat} {x:Int} {w:World} (h:Z3s w g x):Calls Tryz.prog 46 #[.pointer (some ⟨g,0,none⟩)] w fun r w' =>r = .returned (.int .u64 x)∧Z00 w w' :=by
 obtain ⟨m,hb,rfl⟩ :=h
 have HN :=Hd (Z3o g m w hb)
 clear hb
 go_enter Tryz.func46,Tryz.ntmps46
 go_wp2_with fail
 refine HN.out.mono ?_
 rintro r w1 ⟨rfl,hd⟩
 have HD :=Hd hd
 clear hd
 go_wp2
 go_ret
 exact ⟨rfl,HD.out.mods⟩
theorem Zbp {g:Nat} {x y:Int} {w:World} (h:Z3s w g x) (h0:0≤y) (_h1:y≤maxU):Calls Tryz.prog 204 #[.pointer (some ⟨g,0,none⟩), .int .u64 y] w fun r w' =>r = .returned (.bool (decide (y≤x)))∧Z3s w' g (if y≤x then x - y else x)∧Mods (fun i =>i=g) w w' :=by
 obtain ⟨m,hb,rfl⟩ :=h
 have HN :=Hd (Z3o g m w hb)
 have HS :=Hd (fun w =>Z9f m.bal y w h0 m.bal_range.2)
 have HB :=Hd hb
 obtain ⟨X,hX⟩:∃ X,X=decide (y≤m.bal) :=⟨_,rfl⟩
 obtain ⟨Y,hY⟩:∃ Y,Y=(if y≤m.bal then m.bal - y else m.bal) :=⟨_,rfl⟩
 rw [← hX,← hY]
 have HX :=Hd hX
 have HY :=Hd hY
 clear hb hX hY
 go_enter Tryz.func204,Tryz.ntmps204
 go_wp2_with fail
 refine HN.out.mono ?_
 rintro r w1 ⟨rfl,hd⟩
 have hb1:w1.heap[g]? = some (mtrB m) :=by rw [hd.heap]; exact HB.out
 have HD :=Hd (hd.mods (S :=fun i =>i=g))
 obtain ⟨d0,d1,d2,d3⟩ :=Z6v hb1
 have f1' :=Z88 hb1 1
 have HB1 :=Hd hb1
 clear hd hb1
 go_wp2_with fail
 refine (HS.out _).mono ?_
 rintro r w2 ⟨rfl,rfl⟩
 by_cases hle:y≤m.bal
 ·have E1 :=Hd (HY.out.trans (if_pos hle))
  have E2 :=Hd (HX.out.trans (decide_eq_true hle))
  have HL :=Hd hle
  rw [if_neg (show ¬ m.bal<y by omega),decide_eq_true hle]
  clear hle _h1
  go_wp2
  go_ret
  refine ⟨Z0k E2.out.symm,⟨{ m with tk :=IntKind.u64.wrap (m.tk+y) },heap_setCell_same w1 g 1 _ _ _ HB1.out, ?_⟩,HD.out.setCell _ _ fun _ =>rfl⟩
  have hl :=HL.out
  rw [E1.out,Z8g]
  unfold Mtr.bal at hl ⊢
  simp only
  omega
 ·have E1 :=Hd (HY.out.trans (if_neg hle))
  have E2 :=Hd (HX.out.trans (decide_eq_false hle))
  rw [if_pos (show m.bal<y by omega),decide_eq_false hle]
  clear hle _h1
  go_wp2
  go_ret
  exact ⟨Z0k E2.out.symm,⟨m,HB1.out,E1.out.symm⟩,HD.out⟩
theorem Zbe {g:Nat} {x:Int} {w:World} (h:Z3s w g x):Calls Tryz.prog 207 #[.pointer (some ⟨g,0,none⟩)] w fun r w' =>(∃ v,r = .returned v)∧Z3s w' g 0∧Mods (fun i =>i=g) w w' :=by
 obtain ⟨m,hb,rfl⟩ :=h
 have HN :=Hd (Z3o g m w hb)
 have HB :=Hd hb
 clear hb
 go_enter Tryz.func207,Tryz.ntmps207
 go_wp2_with fail
 refine HN.out.mono ?_
 rintro r w1 ⟨rfl,hd⟩
 have hb1:w1.heap[g]? = some (mtrB m) :=by rw [hd.heap]; exact HB.out
 have HD :=Hd (hd.mods (S :=fun i =>i=g))
 obtain ⟨d0,d1,d2,d3⟩ :=Z6v hb1
 have f1' :=Z88 hb1 2
 have HB1 :=Hd hb1
 clear hd hb1
 go_wp2
 go_ret
 refine ⟨⟨_,rfl⟩,⟨{ m with dr :=IntKind.u64.wrap (m.dr+m.bal) },heap_setCell_same w1 g 2 _ _ _ HB1.out, ?_⟩,HD.out.setCell _ _ fun _ =>rfl⟩
 rw [Z8g]
 unfold Mtr.bal
 simp only
 omega
theorem Z9y {g:Nat} {x y:Int} {w:World} (h:Z3s w g x) (h0:0≤y) (h1:y≤maxU):Calls Tryz.prog 203 #[.pointer (some ⟨g,0,none⟩), .int .u64 y] w fun r w' =>(∃ v,r = .returned v)∧Z3s w' g (min (x+y) maxU)∧Mods (fun i =>i=g) w w' :=by
 obtain ⟨m,hb,rfl⟩ :=h
 have HF :=Hd (fun w' (h:w'.heap[g]? = some (mtrB m)) =>Zcn g m w' h)
 have HNB :=Hd (fun (m':Mtr) (w':World) (h:w'.heap[g]? = some (mtrB m')) =>Z3o g m' w' h)
 obtain ⟨c0,c1,c2,c3⟩ :=Z6v hb
 have f0 :=Z88 hb 0
 have f3 :=Z88 hb 3
 have HB :=Hd hb
 have H1 :=Hd h1
 obtain ⟨Y,hY⟩:∃ Y,Y=min (m.bal+y) maxU :=⟨_,rfl⟩
 rw [← hY]
 have HY :=Hd hY
 have HE0:∀ z,z=min y (18446744073709551615 - m.bal)→({ m with gr :=IntKind.u64.wrap (m.gr+z),bf :=m.tk }:Mtr).bal=Y :=by
  intro z hz
  have hr :=m.bal_range
  rw [hY,Z8g]
  unfold Mtr.bal maxU at hr ⊢
  unfold Mtr.bal at hz
  unfold maxU at h1
  simp only
  omega
 have HE :=Hd HE0
 clear hb h1 hY HE0
 obtain ⟨Z,hZ⟩:∃ Z,Z=18446744073709551615 - m.bal :=⟨_,rfl⟩
 rw [← hZ] at HF HE
 clear hZ
 have key:∀ (z:Int) (hz:z=min y Z) (q:Nat) (w3:World),w3=(((w.drewN q).setCell ⟨g,0,none⟩ (.int .u64 (IntKind.u64.wrap (m.gr+z)))).setCell ⟨g,3,none⟩ (.int .u64 m.tk))→w3.heap[g]? = some (mtrB { m with gr :=IntKind.u64.wrap (m.gr+z),bf :=m.tk })∧Z3s w3 g Y∧Mods (fun i =>i=g) w w3 :=by
  intro z hz q w3 e
  have e1:((w.drewN q).setCell ⟨g,0,none⟩ (.int .u64 (IntKind.u64.wrap (m.gr+z)))).heap[g]? = some (mtrB { m with gr :=IntKind.u64.wrap (m.gr+z) }) :=heap_setCell_same (w.drewN q) g 0 _ _ _ HB.out
  have e2:(((w.drewN q).setCell ⟨g,0,none⟩ (.int .u64 (IntKind.u64.wrap (m.gr+z)))).setCell ⟨g,3,none⟩ (.int .u64 m.tk)).heap[g]? = some (mtrB { m with gr :=IntKind.u64.wrap (m.gr+z),bf :=m.tk }) :=heap_setCell_same _ g 3 _ _ _ e1
  rw [e]
  exact ⟨e2,⟨_,e2,HE.out z hz⟩,(((Mods.refl (fun i =>i=g) w).drewN q).setCell _ _ fun _ =>rfl).setCell _ _ fun _ =>rfl⟩
 have KEY :=Hd key
 clear key
 by_cases hlt:Z<y
 ·go_enter Tryz.func203,Tryz.ntmps203
  go_wp2
  refine Z01 17 (by kernel_rfl) (by kernel_rfl) ?_; simp only [List.take_succ_cons,List.take_zero,List.drop_succ_cons,List.drop_zero]; (repeat (go_big_quiet_step ((go_at_call 231; exact Z4j (HF.out _ HB.out))))); refine wpQuiet_nil ?_; rintro _ ⟨nq,rfl⟩
  go_wp2_with fail
  obtain ⟨k1,k2,k3⟩ :=KEY.out Z (by omega) nq _ rfl
  have K2 :=Hd k2
  have K3 :=Hd k3
  refine (HNB.out _ _ k1).mono ?_
  rintro r w2 ⟨rfl,hd⟩
  have HD :=Hd hd
  clear hd k1 k2 k3
  go_wp2
  go_ret
  exact ⟨⟨_,rfl⟩,K2.out.mods (S :=fun _ =>False) HD.out.mods (fun h =>h),K3.out.keep HD.out.mods⟩
 ·go_enter Tryz.func203,Tryz.ntmps203
  go_wp2
  refine Z01 17 (by kernel_rfl) (by kernel_rfl) ?_; simp only [List.take_succ_cons,List.take_zero,List.drop_succ_cons,List.drop_zero]; (repeat (go_big_quiet_step ((go_at_call 231; exact Z4j (HF.out _ HB.out))))); refine wpQuiet_nil ?_; rintro _ ⟨nq,rfl⟩
  go_wp2_with fail
  obtain ⟨k1,k2,k3⟩ :=KEY.out y (by omega) nq _ rfl
  have K2 :=Hd k2
  have K3 :=Hd k3
  refine (HNB.out _ _ k1).mono ?_
  rintro r w2 ⟨rfl,hd⟩
  have HD :=Hd hd
  clear hd k1 k2 k3
  go_wp2
  go_ret
  exact ⟨⟨_,rfl⟩,K2.out.mods (S :=fun _ =>False) HD.out.mods (fun h =>h),K3.out.keep HD.out.mods⟩
end Go.Proofs.YtecapfmmoejikaaGreat
