/- A part of the proofs of the top laws: PenA BucB BucC BucD. -/
import Derived.Deep.RegionHeld3
import Derived.Test.YtecapfmmoejikaaGreatPkAk
import Derived.Test.YtecapfmmoejikaaGreatPkAl
import Derived.Test.YtecapfmmoejikaaGreatPkAm
set_option maxRecDepth 4000
set_option maxHeartbeats 8000000
namespace Go.Proofs.YtecapfmmoejikaaGreat
open Go.RowKit Go.Eg
abbrev vdB (v:Vd):Obj := .cells v.cells 49 (0,0)
theorem Z0o {w:World} {b:Nat} {v:Vd} (h:w.heap[b]? = some (vdB v)):w.cell? ⟨b,0,none⟩=some (.int .u64 v.bal)∧w.cell? ⟨b,1,none⟩=some (.int .i64 v.st)∧w.cell? ⟨b,2,none⟩=some (.bool v.sl)∧w.cell? ⟨b,3,none⟩=some (.int .i64 v.rq)∧w.cell? ⟨b,4,none⟩=some (.int .i64 v.ex)∧w.cell? ⟨b,5,none⟩=some (.int .i64 v.wd)∧w.cell? ⟨b,6,none⟩=some (.int .i64 v.dl) :=
 ⟨by simp [World.cell?,h],by simp [World.cell?,h],by simp [World.cell?,h],by simp [World.cell?,h],by simp [World.cell?,h],by simp [World.cell?,h],by simp [World.cell?,h]⟩
theorem Z06 {w:World} {b:Nat} {v:Vd} (h:w.heap[b]? = some (vdB v)) (j:Nat):w.frozen? ⟨b,j,none⟩=false :=by simp [World.frozen?,h]
theorem Z3v (w:World) (u v:Value) (t:TypeId):(w.alloc (.cells #[u,v] t)).cell? ⟨w.heap.size,0,none⟩=some u∧(w.alloc (.cells #[u,v] t)).cell? ⟨w.heap.size,1,none⟩=some v :=by
 have h :=heap_alloc_last w (.cells #[u,v] t)
 unfold World.cell?
 rw [h]
 exact ⟨rfl,rfl⟩
theorem Z5z {w0 w':World} {p q:Addr} {x y:Value} (t1:w0.cell? p=some x) (t2:w0.cell? q=some y) (hd:Z00 w0 w'):w'.cell? p=some x∧w'.cell? q=some y :=⟨hd.cell t1 fun h =>h,hd.cell t2 fun h =>h⟩
theorem Z1g {P:Program} {fn:Func} {Q:Ending→World→Prop} {e:Exit} {a:Act} {w:World} (h:∀ W,W=w→bodyPost P fn Q e a W):bodyPost P fn Q e a w :=h w rfl
theorem Z33 {w:World} {b:Nat} {u:Vd} (h:w.heap[b]? = some (vdB u)) (v:Vd) :
 (((((((w.setCell ⟨b,0,none⟩ (.int .u64 v.bal)).setCell ⟨b,1,none⟩ (.int .i64 v.st)).setCell ⟨b,2,none⟩ (.bool v.sl)).setCell ⟨b,3,none⟩ (.int .i64 v.rq)).setCell ⟨b,4,none⟩ (.int .i64 v.ex)).setCell ⟨b,5,none⟩ (.int .i64 v.wd)).setCell ⟨b,6,none⟩ (.int .i64 v.dl)).heap[b]? = some (vdB v) :=by
 have e0:(w.setCell ⟨b,0,none⟩ (.int .u64 v.bal)).heap[b]? = some (vdB { u with bal :=v.bal }) :=heap_setCell_same w b 0 _ _ _ h
 have e1 :=heap_setCell_same _ b 1 (Vd.cells { u with bal :=v.bal }) 49 (.int .i64 v.st) e0
 have e2 :=heap_setCell_same _ b 2 (Vd.cells { u with bal :=v.bal,st :=v.st }) 49 (.bool v.sl) e1
 have e3 :=heap_setCell_same _ b 3 (Vd.cells { u with bal :=v.bal,st :=v.st,sl :=v.sl }) 49 (.int .i64 v.rq) e2
 have e4 :=heap_setCell_same _ b 4 (Vd.cells { u with bal :=v.bal,st :=v.st,sl :=v.sl,rq :=v.rq }) 49 (.int .i64 v.ex) e3
 have e5 :=heap_setCell_same _ b 5 (Vd.cells { u with bal :=v.bal,st :=v.st,sl :=v.sl,rq :=v.rq,ex :=v.ex }) 49 (.int .i64 v.wd) e4
 exact heap_setCell_same _ b 6 (Vd.cells { u with bal :=v.bal,st :=v.st,sl :=v.sl,rq :=v.rq,ex :=v.ex,wd :=v.wd }) 49 (.int .i64 v.dl) e5
abbrev oneB (x:Int):Obj := .cells #[.int .i64 x] 3 (0,0)
def evC (e:Int) (v:Vd):Int × Vd :=if Z0j v.st e=0 then (8,v) else (0,{ v with st :=Z0j v.st e })
theorem Z7a (b be:Nat) (e:Int) (v:Vd) (w:World) (hb:w.heap[b]? = some (vdB v)) (he:w.heap[be]? = some (oneB e)) (hv:v.ok) (hw:(Lit.int .i64 e).wf=true) :
 Calls Tryz.prog 191 #[.pointer (some ⟨b,0,none⟩), .pointer (some ⟨be,0,none⟩)] w fun r w' =>r = .returned (.int .i64 (evC e v).1)∧w'.heap[b]? = some (vdB (evC e v).2)∧Mods (fun i =>i=b) w w' :=by
 obtain ⟨_,c1,_,_,_,_,_⟩ :=Z0o hb
 have ce:w.cell? ⟨be,0,none⟩=some (.int .i64 e) :=by simp [World.cell?,he]
 have HN :=Hd (fun w =>next_any v.st e w hv.st hw)
 have HB :=Hd hb
 have hbl :=Z0a hb
 obtain ⟨X,hX⟩:∃ X,X=evC e v :=⟨_,rfl⟩
 rw [← hX]
 have HX :=Hd hX
 clear hb he hv hw hX
 go_enter Tryz.func191,Tryz.ntmps191
 go_wp2
 go_region_held3 (fun w' =>w'.cell? ⟨b,1,none⟩=some (.int .i64 v.st)∧w'.cell? ⟨be,0,none⟩=some (.int .i64 e))
  (first
   | (simp [c1,ce]; done)
   | (refine Z5z c1 ce ?_; exact ((Mods.refl _ w).drew).trans (Mods.of_below (by assumption))))
  (first
   | (go_at_call 170; refine (HN.out _).mono ?_; rintro r w1 ⟨rfl,hk⟩))
 rename_i w1 hk _
 have hb1:w1.heap[b]? = some (vdB v) :=(hk.block b hbl).trans HB.out
 have HB1 :=Hd hb1
 have f1 :=Z06 hb1 1
 obtain ⟨_,d1,_,_,_,_,_⟩ :=Z0o hb1
 have HM :=Hd (show Mods (fun i =>i=b) w w1 from ((Mods.refl _ w).drew).trans (Mods.of_below hk))
 clear hk hb1
 by_cases h0:Z0j v.st e=0
 ·have E :=Hd (HX.out.trans (if_pos h0))
  have hne:(Z0j v.st e != 0)=false :=by simp [h0]
  rw [hne]
  clear h0 hne
  go_wp2
  go_ret
  rw [E.out]
  exact ⟨rfl,HB1.out,HM.out⟩
 ·have E :=Hd (HX.out.trans (if_neg h0))
  have hne:(Z0j v.st e != 0)=true :=by simp [h0]
  rw [hne]
  clear h0 hne
  go_wp2
  go_ret
  rw [E.out]
  exact ⟨rfl,heap_setCell_same w1 b 1 _ _ _ HB1.out,HM.out.setCell _ _ fun _ =>rfl⟩
def Z1b (ep by':Int) (v:Vd):Int × Vd :=match Z1z [ep,by'] 0 with
 | none =>(10,v)
 | some x =>(0,{ v with wd :=max v.wd x })
theorem Zaf (b b1 b2:Nat) (ep by':Int) (v:Vd) (w:World) (hb:w.heap[b]? = some (vdB v)) (h1:w.heap[b1]? = some (oneB ep)) (h2:w.heap[b2]? = some (oneB by')) :
 Calls Tryz.prog 192 #[.pointer (some ⟨b,0,none⟩), .pointer (some ⟨b1,0,none⟩), .pointer (some ⟨b2,0,none⟩)] w fun r w' =>r = .returned (.int .i64 (Z1b ep by' v).1)∧w'.heap[b]? = some (vdB (Z1b ep by' v).2)∧Mods (fun i =>i=b) w w' :=by
 have c1:w.cell? ⟨b1,0,none⟩=some (.int .i64 ep) :=by simp [World.cell?,h1]
 have c2:w.cell? ⟨b2,0,none⟩=some (.int .i64 by') :=by simp [World.cell?,h2]
 have HL :=Hd (Z90 ep (.slice (some ⟨w.heap.size,0,none⟩) 1 1) [by'] w.heap.size (w.alloc (.cells #[.int .i64 by'] 3)) (World.ownsRow_lit w #[.int .i64 by'] 1 (Nat.le_refl _) (by decide) rfl) (by simp))
 have HB :=Hd hb
 have hbl :=Z0a hb
 obtain ⟨X,hX⟩:∃ X,X=Z1b ep by' v :=⟨_,rfl⟩
 rw [← hX]
 have HX :=Hd hX
 clear hb h1 h2 hX
 go_enter Tryz.func192,Tryz.ntmps192
 go_wp2_with fail
 refine HL.out.mono ?_
 rintro r w1 ⟨rfl,hk⟩
 have hk1:Z00 w w1 :=((Mods.refl _ w).alloc _).keep hk
 have hb1:w1.heap[b]? = some (vdB v) :=hk1.at HB.out fun h =>h
 have HB1 :=Hd hb1
 have hbl1 :=Z0a hb1
 have f1 :=Z06 hb1 5
 obtain ⟨_,_,_,_,_,d5,_⟩ :=Z0o hb1
 have HM :=Hd hk1
 clear hk hk1 hb1
 unfold Z1b at HX
 generalize Z1z [ep,by'] 0=F at HX ⊢
 cases F with
 | none =>
  go_wp2
  go_ret
  rw [HX.out]
  exact ⟨rfl,HB1.out,HM.out.weaken fun _ _ h =>h.elim⟩
 | some x =>
  have HMX :=Hd (Zd1 w1.heap.size v.wd x (w1.alloc (.cells #[.int .i64 v.wd, .int .i64 x] 3)) (Z3v _ _ _ _).1 (Z3v _ _ _ _).2)
  simp only [Option.getD_some,Option.isSome_some]
  go_wp2_with fail
  refine HMX.out.mono ?_
  rintro r w2 ⟨rfl,rfl⟩
  have hb2 :=Z02 HB1.out (.cells #[.int .i64 v.wd, .int .i64 x] 3)
  have f2 :=Z06 hb2 5
  have HB2 :=Hd hb2
  obtain ⟨_,_,_,_,_,d5',_⟩ :=Z0o hb2
  clear hb2
  obtain ⟨M,hM⟩:∃ M,M=max v.wd x :=⟨_,rfl⟩
  rw [← hM] at HX ⊢
  clear hM d5 f1
  go_wp2
  go_ret
  rw [HX.out]
  exact ⟨rfl,Z02 (heap_setCell_same w1 b 5 _ _ _ HB1.out) _,((show Mods (fun i =>i=b) w w1 from HM.out.weaken fun _ _ h =>h.elim).setCell _ _ fun _ =>rfl).alloc _⟩
def reqC (ep:Int) (v:Vd):Int × Vd :=match Z1z [ep] 0 with
 | none =>(10,v)
 | some _ =>(0,{ v with rq :=ep })
theorem Zed (b b1:Nat) (ep:Int) (v:Vd) (w:World) (hb:w.heap[b]? = some (vdB v)) (h1:w.heap[b1]? = some (oneB ep)) :
 Calls Tryz.prog 185 #[.pointer (some ⟨b,0,none⟩), .pointer (some ⟨b1,0,none⟩)] w fun r w' =>r = .returned (.int .i64 (reqC ep v).1)∧w'.heap[b]? = some (vdB (reqC ep v).2)∧Mods (fun i =>i=b) w w' :=by
 have c1:w.cell? ⟨b1,0,none⟩=some (.int .i64 ep) :=by simp [World.cell?,h1]
 have HL :=Hd (Z90 ep (.slice none 0 0) [] 0 w (World.ownsRow_nil _ _ _ _) (by simp))
 have HB :=Hd hb
 have H1 :=Hd h1
 obtain ⟨X,hX⟩:∃ X,X=reqC ep v :=⟨_,rfl⟩
 rw [← hX]
 have HX :=Hd hX
 clear hb h1 hX
 go_enter Tryz.func185,Tryz.ntmps185
 go_wp2_with fail
 refine HL.out.mono ?_
 rintro r w1 ⟨rfl,hk⟩
 have hb1:w1.heap[b]? = some (vdB v) :=hk.at HB.out fun h =>h
 have d1:w1.cell? ⟨b1,0,none⟩=some (.int .i64 ep) :=by
  have :=hk.at H1.out fun h =>h
  simp [World.cell?,this]
 have HB1 :=Hd hb1
 have f1 :=Z06 hb1 3
 obtain ⟨_,_,_,d3,_,_,_⟩ :=Z0o hb1
 have HM :=Hd (show Mods (fun i =>i=b) w w1 from hk.weaken fun _ _ h =>h.elim)
 clear hk hb1
 unfold reqC at HX
 generalize Z1z [ep] 0=F at HX ⊢
 cases F with
 | none =>
  go_wp2
  go_ret
  rw [HX.out]
  exact ⟨rfl,HB1.out,HM.out⟩
 | some x =>
  go_wp2
  go_ret
  rw [HX.out]
  exact ⟨rfl,heap_setCell_same w1 b 3 _ _ _ HB1.out,HM.out.setCell _ _ fun _ =>rfl⟩
def dueC (ep:Int) (v:Vd):Int × Vd :=if ep<v.wd then (8,v) else (0,{ v with bal :=0 })
theorem Zk9 (b b1:Nat) (ep:Int) (v:Vd) (w:World) (hb:w.heap[b]? = some (vdB v)) (h1:w.heap[b1]? = some (oneB ep)) :
 Calls Tryz.prog 183 #[.pointer (some ⟨b,0,none⟩), .pointer (some ⟨b1,0,none⟩)] w fun r w' =>r = .returned (.int .i64 (dueC ep v).1)∧w'.heap[b]? = some (vdB (dueC ep v).2)∧Mods (fun i =>i=b) w w' :=by
 have c1:w.cell? ⟨b1,0,none⟩=some (.int .i64 ep) :=by simp [World.cell?,h1]
 have HB :=Hd hb
 have f1 :=Z06 hb 0
 obtain ⟨d0,_,_,_,_,d5,_⟩ :=Z0o hb
 obtain ⟨X,hX⟩:∃ X,X=dueC ep v :=⟨_,rfl⟩
 rw [← hX]
 have HX :=Hd hX
 clear hb h1 hX
 by_cases h:ep<v.wd
 ·have E :=Hd (HX.out.trans (if_pos h))
  go_enter Tryz.func183,Tryz.ntmps183
  go_wp2
  go_quiet (fail)
  go_wp2
  go_ret
  rw [E.out]
  exact ⟨rfl,HB.out,(Mods.refl _ w).drewN _⟩
 ·have E :=Hd (HX.out.trans (if_neg h))
  go_enter Tryz.func183,Tryz.ntmps183
  go_wp2
  go_quiet (fail)
  go_wp2
  go_ret
  rw [E.out]
  exact ⟨rfl,heap_setCell_same (w.drewN nq) b 0 _ _ _ HB.out,((Mods.refl (fun i =>i=b) w).drewN nq).setCell _ _ fun _ =>rfl⟩
def Z4d (ex:Int) (v:Vd):Int × Vd :=if v.st=3∧v.ex = -1 then (0,{ v with ex :=ex }) else (8,v)
theorem Zek (b b1:Nat) (ex:Int) (v:Vd) (w:World) (hb:w.heap[b]? = some (vdB v)) (h1:w.heap[b1]? = some (oneB ex)) :
 Calls Tryz.prog 208 #[.pointer (some ⟨b,0,none⟩), .pointer (some ⟨b1,0,none⟩)] w fun r w' =>r = .returned (.int .i64 (Z4d ex v).1)∧w'.heap[b]? = some (vdB (Z4d ex v).2)∧Mods (fun i =>i=b) w w' :=by
 have c1:w.cell? ⟨b1,0,none⟩=some (.int .i64 ex) :=by simp [World.cell?,h1]
 have HB :=Hd hb
 have f1 :=Z06 hb 4
 obtain ⟨_,d1,_,_,d4,_,_⟩ :=Z0o hb
 obtain ⟨X,hX⟩:∃ X,X=Z4d ex v :=⟨_,rfl⟩
 rw [← hX]
 have HX :=Hd hX
 clear hb h1 hX
 by_cases h:v.st=3
 ·by_cases h2:v.ex = -1
  ·have E :=Hd (HX.out.trans (if_pos ⟨h,h2⟩))
   have e1:(v.st != 3)=false :=by simp [h]
   have e2:(v.ex != -1)=false :=by simp [h2]
   clear h h2
   go_enter Tryz.func208,Tryz.ntmps208
   go_wp2
   go_ret
   rw [E.out]
   exact ⟨rfl,heap_setCell_same w b 4 _ _ _ HB.out,(Mods.refl _ w).setCell _ _ fun _ =>rfl⟩
  ·have E :=Hd (HX.out.trans (if_neg fun h =>h2 h.2))
   have e1:(v.st != 3)=false :=by simp [h]
   have e2:(v.ex != -1)=true :=by simpa using h2
   clear h h2
   go_enter Tryz.func208,Tryz.ntmps208
   go_wp2
   go_ret
   rw [E.out]
   exact ⟨rfl,HB.out,Mods.refl _ w⟩
 ·have E :=Hd (HX.out.trans (if_neg fun h2 =>h h2.1))
  have e1:(v.st != 3)=true :=by simpa using h
  clear h
  go_enter Tryz.func208,Tryz.ntmps208
  go_wp2
  go_ret
  rw [E.out]
  exact ⟨rfl,HB.out,Mods.refl _ w⟩
def Z2a (ep:Int) (v:Vd):Int × Vd :=if v.sl=true then (9,v) else (0,{ v with rq :=if v.st=2 then ep else v.rq,sl :=true,dl := -1 })
theorem Zgk (b b1:Nat) (ep:Int) (v:Vd) (w:World) (hb:w.heap[b]? = some (vdB v)) (h1:w.heap[b1]? = some (oneB ep)) :
 Calls Tryz.prog 130 #[.pointer (some ⟨b,0,none⟩), .pointer (some ⟨b1,0,none⟩)] w fun r w' =>r = .returned (.int .i64 (Z2a ep v).1)∧w'.heap[b]? = some (vdB (Z2a ep v).2)∧Mods (fun i =>i=b) w w' :=by
 have c1:w.cell? ⟨b1,0,none⟩=some (.int .i64 ep) :=by simp [World.cell?,h1]
 have HB :=Hd hb
 have f2 :=Z06 hb 2
 have f3 :=Z06 hb 3
 have f6 :=Z06 hb 6
 obtain ⟨_,d1,d2,d3,_,_,d6⟩ :=Z0o hb
 obtain ⟨X,hX⟩:∃ X,X=Z2a ep v :=⟨_,rfl⟩
 rw [← hX]
 have HX :=Hd hX
 obtain ⟨bal,st,sl,rq,ex,wd,dl⟩ :=v
 simp only at d1 d2 d3 d6
 clear hb h1 hX
 cases sl with
 | true =>
  have E :=Hd (HX.out.trans (if_pos rfl))
  go_enter Tryz.func130,Tryz.ntmps130
  go_wp2
  go_ret
  rw [E.out]
  exact ⟨rfl,HB.out,Mods.refl _ w⟩
 | false =>
  have E :=Hd (HX.out.trans (if_neg (by simp)))
  by_cases h:st=2
  ·have E2 :=Hd (show (if st=2 then ep else rq)=ep from if_pos h)
   have e1:(st == 2)=true :=by simp [h]
   clear h
   go_enter Tryz.func130,Tryz.ntmps130
   go_wp2
   go_ret
   rw [E.out]
   simp only
   rw [E2.out]
   have e3:(w.setCell ⟨b,3,none⟩ (.int .i64 ep)).heap[b]? = some (vdB ⟨bal,st,false,ep,ex,wd,dl⟩) :=heap_setCell_same w b 3 _ _ _ HB.out
   have e4:((w.setCell ⟨b,3,none⟩ (.int .i64 ep)).setCell ⟨b,2,none⟩ (.bool true)).heap[b]? = some (vdB ⟨bal,st,true,ep,ex,wd,dl⟩) :=heap_setCell_same _ b 2 _ _ _ e3
   exact ⟨rfl,heap_setCell_same _ b 6 _ _ _ e4,by (repeat' first | (with_reducible refine Mods.setCell ?_ _ _ (fun _ =>rfl)) | (with_reducible refine Mods.alloc ?_ _) | (with_reducible refine Mods.drewN ?_ _) | (with_reducible refine Mods.drew ?_) | (with_reducible exact Mods.refl _ _))⟩
  ·have E2 :=Hd (show (if st=2 then ep else rq)=rq from if_neg h)
   have e1:(st == 2)=false :=by simpa using h
   clear h
   go_enter Tryz.func130,Tryz.ntmps130
   go_wp2
   go_ret
   rw [E.out]
   simp only
   rw [E2.out]
   have e4:(w.setCell ⟨b,2,none⟩ (.bool true)).heap[b]? = some (vdB ⟨bal,st,true,rq,ex,wd,dl⟩) :=heap_setCell_same _ b 2 _ _ _ HB.out
   exact ⟨rfl,heap_setCell_same _ b 6 _ _ _ e4,by (repeat' first | (with_reducible refine Mods.setCell ?_ _ _ (fun _ =>rfl)) | (with_reducible refine Mods.alloc ?_ _) | (with_reducible refine Mods.drewN ?_ _) | (with_reducible refine Mods.drew ?_) | (with_reducible exact Mods.refl _ _))⟩
theorem Zne (w:World) (o:Obj) (a:Value) (t:TypeId):∀ (j:Nat) (v:Value),[a][j]? = some v→((w.alloc o).alloc (.cells #[a] t)).cell? ((⟨w.heap.size+1,0,none⟩:Addr).add j)=some v :=by
 intro j v hj
 have h :=heap_alloc_last (w.alloc o) (.cells #[a] t)
 rw [World.size_alloc] at h
 rw [addr_add]
 unfold World.cell?
 rw [h]
 simpa using hj
def Z3z (w:World) (bo B:Nat) (o:List Int):Prop :=bo<B∧∃ ov,w.heap[bo]? = some (.cells #[ov] 37 (0,0))∧w.ownsRow B 3 1 ov o.length (o.map fun x =>.int .i64 x)
def OutS (bo B:Nat) (i:Nat):Prop :=i=bo∨B≤i
theorem Z3z.mods {S:Nat→Prop} {w w':World} {bo B:Nat} {o:List Int} (h:Z3z w bo B o) (hm:Mods S w w') (hS:∀ i,OutS bo B i→¬ S i):Z3z w' bo B o :=by
 obtain ⟨h0,ov,h1,h2⟩ :=h
 exact ⟨h0,ov,hm.at h1 (hS bo (.inl rfl)),hm.owns h2 fun k hk =>hS k (.inr (h2.lt k hk).1)⟩
theorem Z3z.keeps {w w':World} {bo B:Nat} {o:List Int} (h:Z3z w bo B o) (hm:Z00 w w'):Z3z w' bo B o :=h.mods hm fun _ _ h =>h
theorem Zey (x:Int × Int) (be bo B:Nat) (ep:Int) (o:List Int) (w:World) (he:w.heap[be]? = some (oneB ep)) (ho:Z3z w bo B o) (hl:o.length≤1000000) (hB:B≤w.heap.size) :
 Calls Tryz.prog 202 #[elP x, .pointer (some ⟨be,0,none⟩), .pointer (some ⟨bo,0,none⟩)] w fun r w' =>r = .returned (.bool (decide (x.1=ep)))∧Z3z w' bo B (if x.1=ep then o ++ [x.2] else o)∧Mods (OutS bo B) w w'∧∀ k,k<w.heap.size→k≠bo→(∀ ov,w.heap[bo]? = some (.cells #[ov] 37 (0,0))→ov.ownBlock≠some k)→w'.heap[k]? = w.heap[k]? := by
 obtain ⟨x1,x2⟩ :=x
 have ce:w.cell? ⟨be,0,none⟩=some (.int .i64 ep) :=by simp [World.cell?,he]
 obtain ⟨hbB,ov,hb,hr⟩ :=ho
 have co:w.cell? ⟨bo,0,none⟩=some ov :=by simp [World.cell?,hb]
 have fo:w.frozen? ⟨bo,0,none⟩=false :=by simp [World.frozen?,hb]
 have hbl :=Z0a hb
 have hel :=cell_lt ce
 obtain ⟨i0,hi,hz0,hz1,hz2⟩ :=info_parts Zju
 have HB :=Hd hb
 have HR :=Hd hr
 have HB0 :=Hd hB
 simp only
 by_cases h:x1=ep
 ·rw [if_pos h,decide_eq_true h]
  have hne:(x1 != ep)=false :=by simp [h]
  obtain ⟨oa,oc,rfl⟩ :=Z0c hr
  clear h hb hr he
  go_enter Tryz.func202,Tryz.ntmps202
  go_wp2_with (at_builtin; refine wpList_append_own _ rfl _ _ 37 rfl B 3 i0 (.int .i64 0) 1 8 Tryz.underlying37 hi hz0 hz1 hz2 rfl (by decide) _ _ _ rfl ((HR.out.alloc _).alloc _) ⟨w.heap.size+1,0,none⟩ 1 1 [.int .i64 x2] rfl rfl (Zne _ _ _ _) (fun u hu =>by simp at hu; subst hu; rfl) (by unfold maxLen; omega) (by omega) (by simp; omega) ?_)
  intro v' w3 hown3 hgrow _
  have hm3o:Mods (fun i =>(Value.slice oa o.length oc).ownBlock=some i) w w3 :=(((Mods.refl _ w).alloc _).alloc _).grown hgrow fun k _ hk =>hk
  have hm3:Mods (fun i =>B≤i) w w3 :=hm3o.weaken fun k _ hk =>(HR.out.lt k hk).1
  have hb3 :=hm3.at HB.out (by omega)
  have f3:w3.frozen? ⟨bo,0,none⟩=false :=by simp [World.frozen?,hb3]
  have d3:w3.cell? ⟨bo,0,none⟩=some (.slice oa o.length oc) :=by simp [World.cell?,hb3]
  obtain ⟨va,vc,rfl⟩ :=Z0c hown3
  have HEND :=Hd (show Z3z (w3.setCell ⟨bo,0,none⟩ (.slice va (o.length+1) vc)) bo B (o ++ [x2])∧Mods (OutS bo B) w (w3.setCell ⟨bo,0,none⟩ (.slice va (o.length+1) vc))∧∀ k,k<w.heap.size→k≠bo→(∀ ov,w.heap[bo]? = some (.cells #[ov] 37 (0,0))→ov.ownBlock≠some k)→(w3.setCell ⟨bo,0,none⟩ (.slice va (o.length+1) vc)).heap[k]? = w.heap[k]? from by
   have ms :=(Mods.refl (fun i =>i=bo) w3).setCell ⟨bo,0,none⟩ (.slice va (o.length+1) vc) fun _ =>rfl
   refine ⟨⟨hbB,_,heap_setCell_same w3 bo 0 _ _ _ hb3, ?_⟩,(hm3.weaken fun _ _ h =>.inr h).seq ms fun _ _ h =>.inl h,fun k hk hkb hov =>(ms.block k (Nat.lt_of_lt_of_le hk hm3.size) hkb).trans (hm3o.block k hk (hov _ HB.out))⟩
   rw [List.length_append,List.map_append]
   exact ms.owns hown3 fun k hk e =>by have :=(hown3.lt k hk).1; omega)
  clear hown3 hgrow hm3 hm3o hb3
  go_wp2
  go_ret
  exact ⟨rfl,HEND.out⟩
 ·rw [if_neg h,decide_eq_false h]
  have hne:(x1 != ep)=true :=by simpa using h
  clear h hb hr he
  go_enter Tryz.func202,Tryz.ntmps202
  go_wp2
  go_ret
  have hkk:Z00 w (w.alloc (.cells #[.int .i64 x1, .int .i64 x2] 238)) :=by (repeat' first | (with_reducible refine Mods.setCell ?_ _ _ (fun _ =>rfl)) | (with_reducible refine Mods.alloc ?_ _) | (with_reducible refine Mods.drewN ?_ _) | (with_reducible refine Mods.drew ?_) | (with_reducible exact Mods.refl _ _))
  exact ⟨rfl,(show Z3z w bo B o from ⟨hbB,ov,HB.out,HR.out⟩).keeps hkk,hkk.weaken fun _ _ h =>h.elim,fun k hk _ _ =>hkk.block k hk fun h =>h⟩
theorem Zf3 {w:World} {B:Nat} {v:Value} {l:List (Int × Int)} (h:w.ownsRow B 238 2 v l.length (Z16 l)) (k:Nat) (hk:k<l.length):∃ g c,v = .slice (some ⟨g,0,none⟩) l.length c∧w.cell? ⟨g,k * 2,none⟩=some (.int .i64 l[k].1)∧w.cell? ⟨g,k * 2+1,none⟩=some (.int .i64 l[k].2) :=by
 rcases h.2 with ⟨_,h0⟩ | ⟨g,cap,cur,hv,hg,hh,r⟩
 ·omega
 subst hv
 have hf:∀ (l:List (Int × Int)) (k:Nat) (hk:k<l.length),(Z16 l)[k * 2]? = some (.int .i64 l[k].1)∧(Z16 l)[k * 2+1]? = some (.int .i64 l[k].2) :=by
  intro l
  induction l with
  | nil =>intro k hk; simp at hk
  | cons a l ih =>
   intro k hk
   cases k with
   | zero =>simp [Z16]
   | succ k =>
    have :=ih k (by simpa using hk)
    rw [show (k+1) * 2=k * 2+2 from by omega]
    simpa [Z16] using this
 obtain ⟨f0,f1⟩ :=hf l k hk
 exact ⟨g,cap,rfl,by rw [h.cellAt (k * 2) (by omega),f0],by rw [h.cellAt (k * 2+1) (by omega),f1]⟩
theorem Zas (l:List (Int × Int)) (v:Value) (Bs be bo B:Nat) (ep:Int) (o:List Int) (w:World) (hv:w.ownsRow Bs 238 2 v l.length (Z16 l)) (hvb:∀ k,v.ownBlock=some k→¬ OutS bo B k)
 (he:w.heap[be]? = some (oneB ep)) (hbe : ¬ OutS bo B be) (ho:Z3z w bo B o) (hl:o.length≤100000) (hn:l.length≤1000000) (hB:B≤w.heap.size) :
 Calls Tryz.prog 230 #[v, .func (Fn.func 202) #[] #[.pointer (some ⟨be,0,none⟩), .pointer (some ⟨bo,0,none⟩)]] w fun r w' =>
  ((∃ k,∃ hk:k<l.length,(∀ x∈l.take k,x.1≠ep)∧l[k].1=ep∧r = .returned (.int .i64 k)∧Z3z w' bo B (o ++ [l[k].2]))∨((∀ x∈l,x.1≠ep)∧r = .returned (.int .i64 (-1))∧Z3z w' bo B o))∧Mods (OutS bo B) w w' :=by
 have HV :=Hd hv
 have HE :=Hd he
 have HO :=Hd ho
 have HVB :=Hd hvb
 obtain ⟨va,vc,rfl⟩ :=Z0c hv
 clear hv he ho hvb
 go_enter Tryz.func230,Tryz.ntmps230
 go_wp2
 go_loopw [8] (fun i wr => ∃ k:Nat,k≤l.length∧i = .int .i64 k∧(∀ x∈l.take k,x.1≠ep)∧Z3z wr bo B o∧Mods (OutS bo B) w wr) (fun i _ =>l.length - (intOf i).toNat)
 case atStart =>exact ⟨0,Nat.zero_le _,rfl,by simp,HO.out,Mods.refl _ _⟩
 case round =>
  obtain ⟨k,hk,rfl,hno,hout,hm⟩ :=hrel
  have HOUT :=Hd hout
  have HM :=Hd hm
  have HNO :=Hd hno
  by_cases hlt:k<l.length
  ·have hki:(k:Int)<(l.length:Int) :=Int.ofNat_lt.2 hlt
   obtain ⟨g,c,hvv,c0,c1⟩ :=Zf3 (hm.owns HV.out HVB.out) k hlt
   simp only [Value.slice.injEq] at hvv
   obtain ⟨rfl,_,rfl⟩ :=hvv
   have HD :=Hd (Zey l[k] be bo B ep o wr (hm.at HE.out hbe) hout (by omega) (Nat.le_trans hB hm.size))
   have htk:l.take (k+1)=l.take k ++ [l[k]] :=by simp
   have HTK :=Hd htk
   obtain ⟨x,hx⟩:∃ x,x=l[k] :=⟨_,rfl⟩
   have HX :=Hd hx
   rw [← hx] at c0 c1 HD HTK
   obtain ⟨x1,x2⟩ :=x
   simp only at c0 c1 HD
   clear hno hout hm htk hx
   go_wp2_with fail
   refine HD.out.mono ?_
   rintro r w2 ⟨rfl,hout2,hm2,_⟩
   by_cases h:x1=ep
   ·rw [if_pos h] at hout2
    rw [decide_eq_true h]
    have HO2 :=Hd hout2
    have HM2 :=Hd (HM.out.trans hm2)
    have HH :=Hd h
    clear h hout2 hm2 c0 c1
    go_wp2
    go_ret
    refine ⟨.inl ⟨k,hlt,HNO.out,by rw [← HX.out]; exact HH.out,rfl, ?_⟩,HM2.out⟩
    rw [← HX.out]
    exact HO2.out
   ·rw [if_neg h] at hout2
    rw [decide_eq_false h]
    have HO2 :=Hd hout2
    have HM2 :=Hd (HM.out.trans hm2)
    have HN2 :=Hd (show ∀ y∈l.take (k+1),y.1≠ep from by
     rw [HTK.out]
     intro y hy
     rcases List.mem_append.1 hy with hy | hy
     ·exact HNO.out y hy
     ·simp at hy
      subst hy
      exact h)
    clear h hout2 hm2 c0 c1
    go_wp2
    go_roundw
    case rel =>exact ⟨k+1,by omega,by go_num,HN2.out,HO2.out,HM2.out⟩
    case measure =>simp [intOf]; omega
  ·obtain rfl:k=l.length :=by omega
   clear hno hout hm
   go_wp2
   go_ret
   exact ⟨.inr ⟨by have :=HNO.out; rwa [List.take_length] at this,rfl,HOUT.out⟩,HM.out⟩
end Go.Proofs.YtecapfmmoejikaaGreat
namespace Go.Eg
def Z2s (ep:Int) (l:List (Int × Int)):List (Int × Int) :=l.filter fun x => !decide (x.1=ep)
def outE (ep:Int) (l:List (Int × Int)):List Int :=(l.filter fun x =>decide (x.1=ep)).map (·.2)
theorem Z7c (ep:Int) (l:List (Int × Int)) (x:Int × Int):Z2s ep (l ++ [x])=if x.1=ep then Z2s ep l else Z2s ep l ++ [x] :=by
 unfold Z2s
 by_cases h:x.1=ep <;> simp [List.filter_append,h]
theorem Z9b (ep:Int) (l:List (Int × Int)) (x:Int × Int):outE ep (l ++ [x])=if x.1=ep then outE ep l ++ [x.2] else outE ep l :=by
 unfold outE
 by_cases h:x.1=ep <;> simp [List.filter_append,h]
theorem Za1 {ep:Int} {l:List (Int × Int)} (h:∀ x∈l,x.1≠ep):Z2s ep l=l∧outE ep l = [] :=by
 unfold Z2s outE
 refine ⟨List.filter_eq_self.2 fun x hx =>by simp [h x hx], ?_⟩
 rw [List.filter_eq_nil_iff.2 fun x hx =>by simp [h x hx]]
 rfl
theorem Zlh (ep:Int) (l:List (Int × Int)):(Z2s ep l).length≤l.length :=List.length_filter_le _ _
theorem Zdl (ep:Int) (l:List (Int × Int)):(outE ep l).length≤l.length :=by
 unfold outE
 rw [List.length_map]
 exact List.length_filter_le _ _
end Go.Eg
namespace Go.Proofs.YtecapfmmoejikaaGreat
open Go.RowKit Go.Eg
theorem Zl7 (R:List (Int × Int)):∀ (i:Nat) (x:Int × Int),Z16 (R.set i x)=((Z16 R).set (i * 2) (.int .i64 x.1)).set (i * 2+1) (.int .i64 x.2) :=by
 induction R with
 | nil =>intro i x; simp [Z16]
 | cons a R ih =>
  intro i x
  cases i with
  | zero =>simp [Z16]
  | succ i =>
   have :=ih i x
   rw [show (i+1) * 2=i * 2+2 from by omega,show i * 2+2+1=(i * 2+1)+2 from by omega]
   simpa [Z16] using this
theorem Ziq (R:List (Int × Int)):∀ m,(Z16 R).take (m * 2)=Z16 (R.take m) :=by
 induction R with
 | nil =>intro m; simp [Z16]
 | cons a R ih =>
  intro m
  cases m with
  | zero =>simp [Z16]
  | succ m =>
   have :=ih m
   rw [show (m+1) * 2=m * 2+2 from by omega]
   simpa [Z16] using this
structure Mid (ep:Int) (l R:List (Int × Int)) (i j:Nat):Prop where
 len:R.length=l.length
 ij:i<j
 jl:j≤l.length
 ki:i=(Z2s ep (l.take j)).length
 head:R.take i=Z2s ep (l.take j)
 tail:R.drop j=l.drop j
theorem Mid.start {ep:Int} {l:List (Int × Int)} {k:Nat} (hk:k<l.length) (hno:∀ x∈l.take k,x.1≠ep) (he:l[k].1=ep):Mid ep l l k (k+1)∧outE ep (l.take (k+1)) = [l[k].2] :=by
 have htk:l.take (k+1)=l.take k ++ [l[k]] :=by simp
 obtain ⟨h1,h2⟩ :=Za1 hno
 have h3:Z2s ep (l.take (k+1))=l.take k :=by rw [htk,Z7c,if_pos he,h1]
 refine ⟨⟨rfl,by omega,by omega,by rw [h3]; simp; omega,h3.symm,rfl⟩, ?_⟩
 rw [htk,Z9b,if_pos he,h2]
 rfl
theorem Mid.get {ep:Int} {l R:List (Int × Int)} {i j:Nat} (h:Mid ep l R i j) (hj:j<l.length):R[j]'(by rw [h.len]; exact hj)=l[j] :=by
 have h1:(R.drop j)[0]? = (l.drop j)[0]? := by rw [h.tail]
 rw [List.getElem?_drop,List.getElem?_drop,Nat.add_zero,List.getElem?_eq_getElem hj,List.getElem?_eq_getElem (by rw [h.len]; exact hj)] at h1
 exact Option.some.inj h1
theorem Mid.skip {ep:Int} {l R:List (Int × Int)} {i j:Nat} (h:Mid ep l R i j) (hj:j<l.length) (he:l[j].1=ep):Mid ep l R i (j+1) :=by
 have htk:l.take (j+1)=l.take j ++ [l[j]] :=by simp
 have h3:Z2s ep (l.take (j+1))=Z2s ep (l.take j) :=by rw [htk,Z7c,if_pos he]
 refine ⟨h.len,by have :=h.ij; omega,by omega,by rw [h3]; exact h.ki,by rw [h3]; exact h.head, ?_⟩
 rw [← List.drop_drop,← List.drop_drop,h.tail]
theorem Mid.move {ep:Int} {l R:List (Int × Int)} {i j:Nat} (h:Mid ep l R i j) (hj:j<l.length) (he:l[j].1≠ep):Mid ep l (R.set i l[j]) (i+1) (j+1) :=by
 have htk:l.take (j+1)=l.take j ++ [l[j]] :=by simp
 have h3:Z2s ep (l.take (j+1))=Z2s ep (l.take j) ++ [l[j]] :=by rw [htk,Z7c,if_neg he]
 have hij :=h.ij
 have hil:i<R.length :=by rw [h.len]; omega
 refine ⟨by rw [List.length_set]; exact h.len,by omega,by omega,by rw [h3,List.length_append,← h.ki]; rfl, ?_, ?_⟩
 ·rw [h3,← h.head,List.take_add_one,List.getElem?_set_self hil,List.take_set_of_le (Nat.le_refl i)]
  rfl
 ·rw [List.drop_set_of_lt (by omega),← List.drop_drop,← List.drop_drop,h.tail]
theorem Zkr:(elP zP).cells.size=2 :=rfl
theorem Znq:∀ u∈(elP zP).cells.toList,u.oneCell'=true :=by
 intro u hu
 have h:(elP zP).cells=#[.int .i64 0, .int .i64 0] :=by kernel_rfl
 rw [h] at hu
 simp at hu
 subst hu
 rfl
set_option maxRecDepth 20000 in
theorem Z9j (l:List (Int × Int)) (v:Value) (Bs be bo B:Nat) (ep:Int) (w:World) (hv:w.ownsRow Bs 238 2 v l.length (Z16 l)) (hvb:∀ k,v.ownBlock=some k→¬ OutS bo B k∧k≠be)
 (he:w.heap[be]? = some (oneB ep)) (hbe : ¬ OutS bo B be) (ho:Z3z w bo B []) (hn:l.length≤90000) (hB:B≤w.heap.size) :
 Calls Tryz.prog 201 #[v, .func (Fn.func 202) #[] #[.pointer (some ⟨be,0,none⟩), .pointer (some ⟨bo,0,none⟩)]] w fun r w' =>
  ∃ v',r = .returned v'∧w'.ownsRow Bs 238 2 v' (Z2s ep l).length (Z16 (Z2s ep l))∧(∀ k,v'.ownBlock=some k→v.ownBlock=some k)∧Z3z w' bo B (outE ep l)∧Mods (fun i =>OutS bo B i∨v.ownBlock=some i) w w' :=by
 have HIX :=Hd (Zas l v Bs be bo B ep [] w hv (fun k hk =>(hvb k hk).1) he hbe ho (by simp) (by omega) hB)
 have HV :=Hd hv
 have HE :=Hd he
 have HVB :=Hd hvb
 obtain ⟨va,vc,rfl⟩ :=Z0c hv
 clear hv he ho hvb
 go_enter Tryz.func201,Tryz.ntmps201
 go_wp2_with fail
 refine HIX.out.mono ?_
 rintro r w1 ⟨⟨k,hk,hno,hke,rfl,ho1⟩ | ⟨hno,rfl,ho1⟩,hm1⟩
 ·obtain ⟨hmid,hout0⟩ :=Mid.start hk hno hke
  have hv1 :=hm1.owns HV.out fun k hk =>(HVB.out k hk).1
  obtain ⟨g,c,hvv,_,_⟩ :=Zf3 hv1 k hk
  simp only [Value.slice.injEq] at hvv
  obtain ⟨rfl,_,rfl⟩ :=hvv
  have ng : ¬ OutS bo B g∧g≠be :=HVB.out g rfl
  have HNG :=Hd ng
  have HMID :=Hd hmid
  have HO1 :=Hd (show Z3z w1 bo B (outE ep (l.take (k+1))) from by rw [hout0]; exact ho1)
  have HV1 :=Hd hv1
  have HM1 :=Hd (hm1.weaken (T :=fun i =>OutS bo B i∨i=g) fun _ _ h =>.inl h)
  clear hmid hout0 hno hke ho1 hm1 hv1 ng
  have hkm:((k:Int) == -1)=false :=by simp
  go_wp2_with fail
  clear hkm
  go_loopw [5,6] (fun i j wr => ∃ ii jj R,i = .int .i64 (ii:Nat)∧j = .int .i64 (jj:Nat)∧Mid ep l R ii jj∧wr.ownsRow Bs 238 2 (.slice (some ⟨g,0,none⟩) l.length vc) l.length (Z16 R)∧Z3z wr bo B (outE ep (l.take jj))∧Mods (fun i =>OutS bo B i∨i=g) w wr) (fun _ j _ =>l.length - (intOf j).toNat)
  case atStart =>exact ⟨k,k+1,l,rfl,by go_num,HMID.out,HV1.out,HO1.out,HM1.out⟩
  case round =>
   obtain ⟨ii,jj,R,rfl,rfl,hmid,hrow,hout,hm⟩ :=hrel
   have HMID :=Hd hmid
   have HM :=Hd hm
   have HROW :=Hd hrow
   have HOUT :=Hd hout
   by_cases hlt:jj<l.length
   ·have hji:(jj:Int)<(l.length:Int) :=Int.ofNat_lt.2 hlt
    obtain ⟨g',c',hvv,c0,c1⟩ :=Zf3 (l :=R) (by rw [hmid.len]; exact hrow) jj (by rw [hmid.len]; exact hlt)
    simp only [Value.slice.injEq,Option.some.injEq,Addr.mk.injEq] at hvv
    obtain ⟨⟨rfl,_⟩,hlen1,rfl⟩ :=hvv
    clear hlen1
    rw [hmid.get hlt] at c0 c1
    have hil:ii<l.length :=Nat.lt_trans hmid.ij hlt
    have hii:(ii:Int)<(l.length:Int) :=Int.ofNat_lt.2 hil
    have htk:l.take (jj+1)=l.take jj ++ [l[jj]] :=by simp
    have HTK :=Hd htk
    obtain ⟨wx,hwx⟩:∃ wx,wx=wr.alloc (.cells #[.int .i64 l[jj].1, .int .i64 l[jj].2] 238) :=⟨_,rfl⟩
    have kx:Z00 wr wx :=hwx ▸ (Mods.refl _ wr).alloc _
    have HD :=Hd (Zey l[jj] be bo B ep (outE ep (l.take jj)) wx (kx.at (hm.at HE.out (fun h =>by
     rcases h with h | h
     ·exact hbe h
     ·exact HNG.out.2 h.symm)) fun h =>h) (hout.keeps kx) (by have :=Zdl ep (l.take jj); have :=List.length_take_le jj l; omega) (Nat.le_trans hB (Nat.le_trans hm.size kx.size)))
    have bx:wx.heap[wr.heap.size]? = some (.cells #[.int .i64 l[jj].1, .int .i64 l[jj].2] 238 (0,0)) :=hwx ▸ heap_alloc_last wr _
    have HBX :=Hd bx
    have HKX :=Hd kx
    have HWX :=Hd hwx
    have HMS :=Hd (fun he =>hmid.skip hlt he)
    have HMM :=Hd (fun he =>hmid.move hlt he)
    obtain ⟨x,hx⟩:∃ x,x=l[jj] :=⟨_,rfl⟩
    rw [← hx] at c0 c1 HD HTK HWX HBX HMS HMM
    obtain ⟨x1,x2⟩ :=x
    simp only at c0 c1 HD HWX HBX
    have hbo :=hout.1
    have hsz :=hm.size
    clear hmid hrow hout hm htk kx bx hwx hx
    go_wp2_with fail
    rw [← HWX.out]
    refine HD.out.mono ?_
    rintro r w2 ⟨rfl,hout2,hm2,hkeep⟩
    have hb2:w2.heap[wr.heap.size]? = some (.cells #[.int .i64 x1, .int .i64 x2] 238 (0,0)) :=by
     refine (hkeep wr.heap.size (Z0a HBX.out) (by omega) fun ov hov hob =>?_).trans HBX.out
     obtain ⟨_,ov',h1,h2⟩ :=HOUT.out
     have h3 :=HKX.out.at h1 fun h =>h
     rw [hov] at h3
     simp at h3
     subst h3
     exact Nat.lt_irrefl _ (h2.lt _ hob).2
    have hrow2 :=hm2.owns (HKX.out.owns HROW.out fun _ _ h =>h) fun k hk =>by
     simp [Value.ownBlock] at hk
     exact hk ▸ HNG.out.1
    have HM2 :=Hd (show Mods (fun i =>OutS bo B i∨i=g) w w2 from (HM.out.keep HKX.out).trans (hm2.weaken fun _ _ h =>.inl h))
    have HR2 :=Hd hrow2
    have HB2 :=Hd hb2
    by_cases h:x1=ep
    ·rw [if_pos h] at hout2
     have HO2 :=Hd (show Z3z w2 bo B (outE ep (l.take (jj+1))) from by rw [HTK.out,Z9b,if_pos h]; exact hout2)
     have HS :=Hd (HMS.out h)
     rw [decide_eq_true h]
     clear h hout2 hm2 hkeep hb2 hrow2 c0 c1
     go_wp2
     go_roundw
     case rel =>exact ⟨ii,jj+1,R,rfl,by go_num,HS.out,HR2.out,HO2.out,HM2.out⟩
     case measure =>simp [intOf]; omega
    ·rw [if_neg h] at hout2
     have HO2 :=Hd (show Z3z w2 bo B (outE ep (l.take (jj+1))) from by rw [HTK.out,Z9b,if_neg h]; exact hout2)
     have HS :=Hd (HMM.out h)
     rw [decide_eq_false h]
     obtain ⟨g',c',hvv,d0,d1⟩ :=Zf3 (l :=R) (by rw [HMID.out.len]; exact hrow2) ii (by rw [HMID.out.len]; exact hil)
     simp only [Value.slice.injEq,Option.some.injEq,Addr.mk.injEq] at hvv
     obtain ⟨⟨rfl,_⟩,hlen1,rfl⟩ :=hvv
     clear hlen1
     have hfz:∀ j,w2.frozen? ⟨g,j,none⟩=false :=by
      rcases hrow2.2 with ⟨h2,_⟩ | ⟨g',cap,cur,hv,hg,hh,_⟩
      ·cases h2
      ·simp only [Value.slice.injEq,Option.some.injEq,Addr.mk.injEq] at hv
       obtain ⟨⟨rfl,_⟩,_,_⟩ :=hv
       intro j
       simp [World.frozen?,hh]
     have f0 :=hfz (ii * 2)
     have f1 :=hfz (ii * 2+1)
     have y0:w2.cell? ⟨wr.heap.size,0,none⟩=some (.int .i64 x1) :=by simp [World.cell?,hb2]
     have y1:w2.cell? ⟨wr.heap.size,1,none⟩=some (.int .i64 x2) :=by simp [World.cell?,hb2]
     have HSET :=Hd (show ((w2.setCell ⟨g,ii * 2,none⟩ (.int .i64 x1)).setCell ⟨g,ii * 2+1,none⟩ (.int .i64 x2)).ownsRow Bs 238 2 (.slice (some ⟨g,0,none⟩) l.length vc) l.length (Z16 (R.set ii (x1,x2))) from by
      rw [Zl7]
      exact Zkv hrow2 hil _ _)
     have HMS2 :=Hd (show Mods (fun i =>i=g) w2 ((w2.setCell ⟨g,ii * 2,none⟩ (.int .i64 x1)).setCell ⟨g,ii * 2+1,none⟩ (.int .i64 x2)) from by (repeat' first | (with_reducible refine Mods.setCell ?_ _ _ (fun _ =>rfl)) | (with_reducible refine Mods.alloc ?_ _) | (with_reducible refine Mods.drewN ?_ _) | (with_reducible refine Mods.drew ?_) | (with_reducible exact Mods.refl _ _)))
     have HII :=Hd (show wrap64 ((ii:Int)+1)=(ii:Int)+1 from Z1m (by omega) (by omega))
     clear h hout2 hm2 hkeep hb2 hrow2 c0 c1 hfz
     go_wp2
     go_roundw
     case rel =>exact ⟨ii+1,jj+1,R.set ii (x1,x2),by go_num,by go_num,HS.out,HSET.out,HO2.out.mods HMS2.out (fun i hi e =>HNG.out.1 (e ▸ hi)),HM2.out.trans (HMS2.out.weaken fun _ _ h =>.inr h)⟩
     case measure =>simp [intOf]; omega
   ·obtain rfl:jj=l.length :=by have :=hmid.jl; omega
    have hik:ii=(Z2s ep l).length :=by have :=hmid.ki; rwa [List.take_length] at this
    have hhead:R.take ii=Z2s ep l :=by have :=hmid.head; rwa [List.take_length] at this
    have hil:ii<l.length :=hmid.ij
    have hii:(ii:Int)≤(l.length:Int) :=by omega
    rcases hrow.2 with ⟨h2,_⟩ | ⟨g',cap,cur,hv,hg,hh,r1,r2,r3,r4⟩
    ·cases h2
    simp only [Value.slice.injEq,Option.some.injEq,Addr.mk.injEq] at hv
    obtain ⟨⟨rfl,_⟩,_,rfl⟩ :=hv
    have HH :=Hd hh
    have HFIT :=Hd (show ii * 2+(l.length - ii) * 2≤cur.size from by rw [r3]; omega)
    have HFIN :=Hd (show ∀ (W:World) (cur':Array Value),W.heap[g]? = some (.cells cur' 238 (0,0))→cur'.size=cur.size→(∀ j,j<ii * 2→cur'[j]? = cur[j]?)→W.ownsRow Bs 238 2 (.slice (some ⟨g,0,none⟩) ii vc) ii (Z16 (Z2s ep l)) from fun W cur' h1 h2 h3 =>by
     refine ⟨by rw [Ziv,hik], .inr ⟨g,vc,cur',rfl,hg,h1,by omega,r2,by rw [h2,r3], ?_⟩⟩
     rw [← hhead,← Ziq,← r4,List.take_take,Nat.min_eq_left (by omega)]
     apply List.ext_getElem?
     intro j
     rw [List.getElem?_take,List.getElem?_take]
     by_cases hj:j<ii * 2
     ·rw [if_pos hj,if_pos hj]
      simpa using h3 j hj
     ·rw [if_neg hj,if_neg hj])
    have HIK :=Hd hik
    have HO2 :=Hd (show Z3z wr bo B (outE ep l) from by have :=hout; rwa [List.take_length] at this)
    have HM2 :=Hd hm
    have hcap:ii≤vc :=by omega
    have hcap2:l.length≤vc :=r1
    have hzz : ¬ (l.length - ii=0) :=by omega
    clear hmid hrow hout hm hik hhead hh r2 r3 r4 hg
    obtain ⟨cs,hcl,hrun⟩ :=Z93 (P :=Tryz.prog) wr 236 0 238 (elP zP) 2 Tryz.underlying236 (by kernel_rfl) Zkr Znq g (ii * 2) (l.length - ii) (vc - ii) cur _ HH.out (by omega) HFIT.out
    obtain ⟨wc,hwc⟩:∃ wc,wc=wr.setRow g (cur.toList.take (ii * 2) ++ cs ++ cur.toList.drop (ii * 2+cs.length)).toArray :=⟨_,rfl⟩
    rw [← hwc] at hrun
    have hg1:wc.heap[g]? = some (.cells (cur.toList.take (ii * 2) ++ cs ++ cur.toList.drop (ii * 2+cs.length)).toArray 238 (0,0)) :=hwc ▸ setRow_heap wr g cur _ _ _ HH.out
    have hmc:Mods (fun i =>i=g) wr wc :=hwc ▸ (Mods.refl _ wr).setRow _ _ fun _ =>rfl
    have HROW2 :=Hd (HFIN.out wc _ hg1 (by
     have :=HFIT.out
     simp only [List.size_toArray,List.length_append,List.length_take,List.length_drop,Array.length_toList]
     omega) (fun j hj =>by
     have :=HFIT.out
     rw [List.getElem?_toArray,Z6s _ _ _ j (by simp only [Array.length_toList]; omega),if_pos hj]
     simp))
    have HO3 :=Hd (HO2.out.mods hmc (fun i hi e =>HNG.out.1 (e ▸ hi)))
    have HM3 :=Hd (HM2.out.trans (hmc.weaken fun _ _ h =>.inr h))
    have HRUN :=Hd hrun
    clear hwc hg1 hmc hcl hrun
    go_wp2_with fail
    rw [HRUN.out]
    go_wp2
    go_ret
    refine ⟨_,rfl, ?_,fun k hk =>hk,HO3.out,HM3.out.weaken fun i _ h =>?_⟩
    ·rw [← HIK.out]
     exact HROW2.out
    ·rcases h with h | h
     ·exact .inl h
     ·exact .inr (by rw [h]; rfl)
 ·obtain ⟨k1,k2⟩ :=Za1 hno
  have K1 :=Hd k1
  have K2 :=Hd k2
  have HO1 :=Hd ho1
  have HM1 :=Hd hm1
  have HV1 :=Hd (hm1.owns HV.out fun k hk =>(HVB.out k hk).1)
  clear hno ho1 hm1 k1 k2
  go_wp2
  go_ret
  rw [K1.out,K2.out]
  exact ⟨_,rfl,HV1.out,fun k hk =>hk,HO1.out,HM1.out.weaken fun _ _ h =>.inl h⟩
theorem own_base {w:World} {B B':Nat} {e:TypeId} {size:Nat} {v:Value} {n:Nat} {xs:List Value} (h:w.ownsRow B e size v n xs) (hb:B'≤B):w.ownsRow B' e size v n xs :=
 ⟨h.1,h.2.imp id fun ⟨g,cap,cur,a,b,c⟩ =>⟨g,cap,cur,a,Nat.le_trans hb b,c⟩⟩
theorem Znx {S T:Nat→Prop} {w w3 w5:World} {g b L p:Nat} {n':Int} {bk:Nat→List (Int × Int)} {bv:Nat→Value} {v':Value} {l':List (Int × Int)} (a0:∀ i,S i→i<w.heap.size) (a1:S g) (a2:1≤L) (a3:L≤4096) (m0 : -9223372036854775808≤n') (m1:n'≤9223372036854775807) (b2:S b) (b3:b≠g)
 (b5:∀ j,j<L→w.ownsRow 0 238 2 (bv j) (bk j).length (Z16 (bk j))∧∀ k,(bv j).ownBlock=some k→S k∧k≠g∧k≠b) (b6:∀ i j,i<L→j<L→i≠j→∀ k,(bv i).ownBlock=some k→(bv j).ownBlock≠some k)
 (hp:p<L) (hm:Mods T w w3) (hT:∀ i,T i→(bv p).ownBlock=some i∨w.heap.size≤i) (h1:w3.ownsRow 0 238 2 v' l'.length (Z16 l')) (hv':∀ k,v'.ownBlock=some k→(bv p).ownBlock=some k)
 (e7:w5.heap[g]? = some (bucB b L n')) (e8:w5.heap[b]? = some (rowC (fun j =>if j=p then v' else bv j) L 236)) (m3:Mods (fun i =>i=b∨i=g) w3 w5) :
 Z58 S w5 g L (fun j =>if j=p then l' else bk j)∧Mods S w w5 :=by
 have hown:∀ k,(bv p).ownBlock=some k→S k∧k≠g∧k≠b :=(b5 p hp).2
 have hmS:Mods S w w5 :=(hm.weaken fun i hi h =>by
  rcases hT i h with h | h
  ·exact (hown i h).1
  ·omega).seq m3 fun i _ h =>by rcases h with h | h <;> rw [h] <;> assumption
 refine ⟨⟨fun i hi =>Nat.lt_of_lt_of_le (a0 i hi) hmS.size,a1,a2,a3,b,n',fun j =>if j=p then v' else bv j,e7,m0,m1,b2,b3,e8,fun j hj =>?_,fun i j hi hj hij k hk =>?_⟩,hmS⟩
 ·by_cases e:j=p
  ·subst e
   simp only [if_true]
   refine ⟨m3.owns h1 fun k hk h =>?_,fun k hk =>hown k (hv' k hk)⟩
   have h2 :=hown k (hv' k hk)
   rcases h with h | h
   ·exact h2.2.2 h
   ·exact h2.2.1 h
  ·simp only [if_neg e]
   refine ⟨?_,(b5 j hj).2⟩
   have h2 :=hm.owns (b5 j hj).1 fun k hk h =>by
    rcases hT k h with h | h
    ·exact b6 p j hp hj (Ne.symm e) k h hk
    ·have :=a0 k ((b5 j hj).2 k hk).1
     omega
   exact m3.owns h2 fun k hk h =>by
    rcases h with h | h
    ·exact ((b5 j hj).2 k hk).2.2 h
    ·exact ((b5 j hj).2 k hk).2.1 h
 ·by_cases e:i=p
  ·simp only [if_pos e] at hk
   have e':j≠p :=fun h =>hij (e.trans h.symm)
   simp only [if_neg e']
   exact b6 p j hp hj (fun h =>e' h.symm) k (hv' k hk)
  ·simp only [if_neg e] at hk
   by_cases e':j=p
   ·simp only [if_pos e']
    intro hk2
    exact b6 i p hi hp e k hk (hv' k hk2)
   ·simp only [if_neg e']
    exact b6 i j hi hj hij k hk
def dueB (L:Nat) (bk:Nat→List (Int × Int)) (ep:Int):Nat→List (Int × Int) :=fun j =>if j=(ep % (L:Int)).toNat then Z2s ep (bk j) else bk j
theorem Zg3 {S:Nat→Prop} {w:World} {g L:Nat} {bk:Nat→List (Int × Int)} (h:Z58 S w g L bk) (ep:Int) (h0:0≤ep) (h1:ep≤1099511627776) (hlen:∀ j,(bk j).length≤90000) :
 Calls Tryz.prog 171 #[.pointer (some ⟨g,0,none⟩), .int .i64 ep] w fun r w' => ∃ v,r = .returned v∧w'.ownsRow w.heap.size 3 1 v (outE ep (bk (ep % (L:Int)).toNat)).length ((outE ep (bk (ep % (L:Int)).toNat)).map fun x =>.int .i64 x)∧Z58 S w' g L (dueB L bk ep)∧Mods S w w' :=by
 obtain ⟨a0,a1,a2,a3,b,n,bv,b1,n0,n1,b2,b3,b4,b5,b6⟩ :=h
 have HV :=Hd (fun w =>Z7r g ep w h0 h1)
 have HAT :=Hd (fun (w':World) (h:w'.heap[g]? = some (bucB b L n)) =>Zcz g b L n ep w' h a2 a3 h0)
 unfold dueB
 obtain ⟨p,hp⟩:∃ p,p=(ep % (L:Int)).toNat :=⟨_,rfl⟩
 rw [← hp] at HAT ⊢
 have hpL:p<L :=by
  have h2 :=Int.emod_lt_of_pos ep (show (0:Int)<(L:Int) by omega)
  have h3 :=Int.emod_nonneg ep (show (L:Int)≠0 by omega)
  omega
 have hcell:w.cell? ⟨b,p,none⟩=some (bv p) :=Z0t b4 p hpL
 have hl :=hlen p
 have hown :=(b5 p hpL).2
 have hbl :=Z0a b4
 have hgl :=Z0a b1
 have hwr:∀ k:Int, -9223372036854775808≤wrap64 k∧wrap64 k≤9223372036854775807 :=by
  intro k
  unfold wrap64
  omega
 have HWR :=Hd hwr
 have HOW :=Hd hown
 have HO :=Hd (b5 p hpL).1
 have B1 :=Hd b1
 have B4 :=Hd b4
 have B5 :=Hd b5
 have B6 :=Hd b6
 obtain ⟨va,vc,hbv⟩ :=Z0c (b5 p hpL).1
 clear b1 b4 b5 b6 h0 h1 hlen hp hwr hown
 rw [hbv] at hcell
 go_enter Tryz.func171,Tryz.ntmps171
 go_wp2_with fail
 refine (HV.out _).mono ?_
 rintro r w1 ⟨rfl,rfl⟩
 go_wp2_with fail
 obtain ⟨w0,hw0⟩:∃ w0,w0=(w.alloc (.cells #[.int .i64 ep] 3)).alloc (.cells #[.slice none 0 0] 37) :=⟨_,rfl⟩
 rw [← hw0]
 have k0:Z00 w w0 :=by rw [hw0]; (repeat' first | (with_reducible refine Mods.setCell ?_ _ _ (fun _ =>rfl)) | (with_reducible refine Mods.alloc ?_ _) | (with_reducible refine Mods.drewN ?_ _) | (with_reducible refine Mods.drew ?_) | (with_reducible exact Mods.refl _ _))
 have s0:w0.heap.size=w.heap.size+2 :=by rw [hw0,World.size_alloc,World.size_alloc]
 have he0:w0.heap[w.heap.size]? = some (oneB ep) :=by rw [hw0]; exact Z02 (heap_alloc_last w _) _
 have ho0:w0.heap[w.heap.size+1]? = some (.cells #[.slice none 0 0] 37 (0,0)) :=by
  have :=heap_alloc_last (w.alloc (.cells #[.int .i64 ep] 3)) (.cells #[.slice none 0 0] 37)
  rwa [World.size_alloc,← hw0] at this
 have HK0 :=Hd k0
 refine (HAT.out w0 (k0.at B1.out fun h =>h)).mono ?_
 rintro r w1 ⟨rfl,hd⟩
 have k1:Z00 w w1 :=k0.keep hd.mods
 have s1:w1.heap.size=w.heap.size+2 :=by rw [hd.heap,s0]
 have c1 :=k1.cell hcell fun h =>h
 have cb :=k1.cell (p :=⟨b,p,none⟩) hcell fun h =>h
 have he1:w1.heap[w.heap.size]? = some (oneB ep) :=by rw [hd.heap]; exact he0
 have ho1:Z3z w1 (w.heap.size+1) (w.heap.size+2) [] :=⟨by omega,_,by rw [hd.heap]; exact ho0,World.ownsRow_nil _ _ _ _⟩
 have hDF :=Z9j (bk p) (.slice va (bk p).length vc) 0 w.heap.size (w.heap.size+1) (w.heap.size+2) ep w1 (k1.owns (hbv ▸ HO.out) fun _ _ h =>h) (fun k hk =>by
  have :=a0 k (HOW.out k (hbv ▸ hk)).1
  unfold OutS
  omega) he1 (by unfold OutS; omega) ho1 hl (by omega)
 have HDF :=Hd hDF
 have K1 :=Hd k1
 have cep:w1.cell? ⟨w.heap.size,0,none⟩=some (.int .i64 ep) :=by simp [World.cell?,he1]
 clear hDF k1 k0 hd he1 ho1 he0 ho0 s0 hw0 c1 hcell
 go_wp2_with fail
 refine HDF.out.mono ?_
 rintro r w3 ⟨v',rfl,hv',hown',ho3,hm3⟩
 have hmw:Mods (fun i =>(bv p).ownBlock=some i∨w.heap.size≤i) w w3 :=(K1.out.weaken fun _ _ h =>h.elim).seq hm3 fun i hi h =>by
  rcases h with h | h
  ·exact .inr (by unfold OutS at h; omega)
  ·exact .inl (hbv ▸ h)
 have nb : ¬ ((bv p).ownBlock=some b∨w.heap.size≤b) :=fun h =>by
  rcases h with h | h
  ·exact (HOW.out b h).2.2 rfl
  ·omega
 have ng : ¬ ((bv p).ownBlock=some g∨w.heap.size≤g) :=fun h =>by
  rcases h with h | h
  ·exact (HOW.out g h).2.1 rfl
  ·omega
 have e1 :=hmw.at B1.out ng
 have e4 :=hmw.at B4.out nb
 obtain ⟨_,ov,o1,o2⟩ :=ho3
 obtain ⟨oa,oc,rfl⟩ :=Z0c o2
 have HE1 :=Hd e1
 have HE4 :=Hd e4
 have HO1 :=Hd o1
 have HO2 :=Hd o2
 have HMW :=Hd hmw
 have HV' :=Hd hv'
 have HOWN :=Hd hown'
 obtain ⟨_,d1,f1⟩ :=Z61 e1
 have c3:w3.cell? ⟨b,p,none⟩=some (.slice va (bk p).length vc) :=by rw [← hbv]; exact Z0t e4 p hpL
 have f3 :=Z28 e4 p
 have co:w3.cell? ⟨w.heap.size+1,0,none⟩=some (.slice oa (outE ep (bk p)).length oc) :=by simp [World.cell?,o1]
 have hgb:g≠b :=fun e =>b3 e.symm
 have hob:w.heap.size+1≠b :=by omega
 have hog:w.heap.size+1≠g :=by omega
 obtain ⟨sa,sc,rfl⟩ :=Z0c hv'
 have hol:(outE ep (bk p)).length≤90000 :=Nat.le_trans (Zdl _ _) hl
 obtain ⟨m,hm⟩:∃ m,m=(outE ep (bk p)).length :=⟨_,rfl⟩
 rw [← hm] at co hol HO1 HO2
 have HMM :=Hd hm
 clear hm hm3 hmw nb ng e1 e4 o1 o2 hv' hown' cb cep
 go_wp2
 refine Z01 9 (by kernel_rfl) (by kernel_rfl) ?_; simp only [List.take_succ_cons,List.take_zero,List.drop_succ_cons,List.drop_zero]; (repeat (go_big_quiet_step ((fail)))); refine wpQuiet_nil ?_; rintro _ ⟨nq,rfl⟩
 have hend:∀ (w4 w5:World) (n':Int),w4=(w3.setCell ⟨b,p,none⟩ (.slice sa (Z2s ep (bk p)).length sc)).drewN nq→w5=w4.setCell ⟨g,1,none⟩ (.int .i64 (wrap64 n'))→w5.ownsRow w.heap.size 3 1 (.slice oa m oc) (outE ep (bk p)).length ((outE ep (bk p)).map fun x =>.int .i64 x)∧Z58 S w5 g L (fun j =>if j=p then Z2s ep (bk j) else bk j)∧Mods S w w5 :=by
  intro w4 w5 n' h4 h5
  have m4:Mods (fun i =>i=b) w3 w4 :=by rw [h4]; exact ((Mods.refl (fun i =>i=b) w3).setCell _ _ fun _ =>rfl).drewN _
  have m5:Mods (fun i =>i=g) w4 w5 :=by rw [h5]; exact (Mods.refl (fun i =>i=g) w4).setCell _ _ fun _ =>rfl
  have m35:Mods (fun i =>i=b∨i=g) w3 w5 :=(m4.weaken fun _ _ h =>.inl h).seq m5 fun _ _ h =>.inr h
  have g4 :=m4.at HE1.out hgb
  have b4:w4.heap[b]? = some (rowC (fun j =>if j=p then .slice sa (Z2s ep (bk p)).length sc else bv j) L 236) :=by rw [h4]; exact Z41 _ HE4.out
  have g5:w5.heap[g]? = some (bucB b L (wrap64 n')) :=by rw [h5]; exact heap_setCell_same _ g 1 _ _ _ g4
  have b5 :=m5.at b4 b3
  have hee:(fun j =>if j=p then Z2s ep (bk j) else bk j)=(fun j =>if j=p then Z2s ep (bk p) else bk j) :=by
   funext j
   by_cases e:j=p
   ·rw [if_pos e,if_pos e,e]
   ·rw [if_neg e,if_neg e]
  refine ⟨?_, ?_⟩
  ·rw [← HMM.out]
   refine own_base (m35.owns HO2.out fun k hk h =>?_) (by omega)
   have :=(HO2.out.lt k hk).1
   rcases h with h | h <;> omega
  ·rw [hee]
   exact Znx a0 a1 a2 a3 (HWR.out _).1 (HWR.out _).2 b2 b3 B5.out B6.out hpL HMW.out (fun _ h =>h) HV'.out (fun k hk =>hbv ▸ HOWN.out k hk) g5 b5 m35
 have HEND :=Hd hend
 clear hend
 go_wp2
 go_ret
 exact ⟨_,rfl,HEND.out _ _ _ rfl rfl⟩
end Go.Proofs.YtecapfmmoejikaaGreat
