/- A part of the proofs of the top laws: Table Status ConfA. -/
import Derived.DeepKeys4
import Derived.Test.YtecapfmmoejikaaGreatRows
import Derived.Test.YtecapfmmoejikaaGreatPkAa
set_option maxRecDepth 4000
set_option maxHeartbeats 8000000
namespace Go.Proofs.YtecapfmmoejikaaGreat
open Go.RowKit Go.Maps Go.Eg
theorem laidOut:laidOutB Tryz.prog=true :=by kernel_rfl
theorem Zq8:287<Tryz.prog.types.size :=of_decide_eq_true (by kernel_rfl)
theorem Zp3:(match Tryz.prog.underlying 287 with | some (.array _ _) | some (.struct _) =>true | _ =>false)=true :=by kernel_rfl
theorem Zmx:Keyed Tryz.prog 287 :=Keyed.of_law (deep_law_laid laidOut (m :=2) (by omega) Zq8 (by kernel_rfl) Zp3)
theorem kt41:Tryz.prog.keyType 287=true :=by kernel_rfl
theorem cells41:Tryz.prog.cellsOf 287=2 :=by kernel_rfl
theorem cells3:Tryz.prog.cellsOf 3=1 :=by kernel_rfl
theorem tsz:∃ n,Tryz.prog.types.size+1=n+2 :=⟨Tryz.prog.types.size - 1,by have :=Zq8; omega⟩
def Z6q (s e:Int):Lit := .string (keyBytes [.int .i64 s, .int .i64 e])
def Z7m (s e:Int):Value := .agg #[.int .i64 s, .int .i64 e]
set_option maxRecDepth 100000 in
theorem Zku (s e:Int) (hs:(Lit.int .i64 s).wf=true) (he:(Lit.int .i64 e).wf=true):keyOf Tryz.prog 287 (Z7m s e)=some (Z6q s e) :=by
 obtain ⟨n,hn⟩ :=tsz
 simp only [keyOf,Tryz.underlying287,kt41,hn,Z7m,Z6q]
 simp [Value.formed,Tryz.underlying287,cells41,Value.cells,Program.keyLits,cells3,Tryz.underlying3,hs,he]
def tab:List (Int × Int × Int) := [(1,1,2),(2,2,3),(3,3,4),(4,4,5),(5,5,6),(2,6,7),(2,7,3),(3,7,3),(4,7,4),(5,7,4)]
def tS (j:Nat):Int :=(tab.getD j (0,0,0)).1
def tE (j:Nat):Int :=(tab.getD j (0,0,0)).2.1
def tV (j:Nat):Int :=(tab.getD j (0,0,0)).2.2
def tK (j:Nat):Lit :=Z6q (tS j) (tE j)
theorem Zol:∀ i,i<10→∀ j,j<10→tK i=tK j→i=j :=by
 have:∀ i,i<10→∀ j,j<10→i≠j→keyBytes [.int .i64 (tS i), .int .i64 (tE i)]≠keyBytes [.int .i64 (tS j), .int .i64 (tE j)] :=by decide +kernel
 intro i hi j hj h
 apply Classical.byContradiction
 intro hne
 exact this i hi j hj hne (by simpa [tK,Z6q] using h)
theorem Zm1 (j:Nat):WideAt.IsKeyLit (tK j) :=trivial
def cntS (S:Nat→Bool):Nat→Nat
 | 0 =>0
 | n+1 =>cntS S n+(if S n then 1 else 0)
theorem Z5w {S:Nat→Bool} {i:Nat} (h:S i=false):∀ n,cntS (fun j =>j == i || S j) n=cntS S n+(if i<n then 1 else 0)
 | 0 =>rfl
 | n+1 =>by
  rw [cntS,cntS,Z5w h n]
  by_cases hn:n=i
  ·subst hn; simp [h]
  ·have:(n == i)=false :=by simpa using hn
   simp only [this,Bool.false_or]
   by_cases hi:i<n
   ·rw [if_pos hi,if_pos (by omega:i<n+1)]; omega
   ·rw [if_neg hi,if_neg (by omega : ¬ i<n+1)]; omega
theorem Zdp (S:Nat→Bool):∀ n,cntS S n≤n
 | 0 =>Nat.le_refl _
 | n+1 =>by rw [cntS]; have :=Zdp S n; split <;> omega
structure Tab (S:Nat→Bool) (D:DataW Unit):Prop where
 isMap:IsMap D
 has:∀ kl,has D kl=true↔∃ j,j<10∧S (2 * j+2)=true∧tK j=kl
 at_:∀ j,j<10→S (2 * j+2)=true→D.atKey (tK j) (.lit (.int .i64 0)) = .lit (.int .i64 (tV j))
theorem Tab.empty {S:Nat→Bool} (h:∀ j,j<10→S (2 * j+2)=false):Tab S (.map []) :=by
 refine ⟨⟨[],rfl⟩,fun kl =>⟨fun hh =>?_,fun ⟨j,hj,hS,_⟩ =>?_⟩,fun j hj hS =>?_⟩
 ·simp [Maps.has] at hh
 ·rw [h j hj] at hS; cases hS
 ·rw [h j hj] at hS; cases hS
theorem Tab.same {S S':Nat→Bool} {D:DataW Unit} (t:Tab S D) (h:∀ j,j<10→S' (2 * j+2)=S (2 * j+2)):Tab S' D :=by
 refine ⟨t.isMap,fun kl =>(t.has kl).trans ⟨fun ⟨j,hj,hS,hk⟩ =>⟨j,hj,by rw [h j hj]; exact hS,hk⟩,fun ⟨j,hj,hS,hk⟩ =>⟨j,hj,by rw [← h j hj]; exact hS,hk⟩⟩,fun j hj hS =>t.at_ j hj (by rw [← h j hj]; exact hS)⟩
theorem Tab.put {S:Nat→Bool} {D:DataW Unit} (t:Tab S D) {i:Nat} (hi:i<10):Tab (fun j =>j == 2 * i+2 || S j) (D.put (tK i) (.lit (.int .i64 (tV i)))) :=by
 refine ⟨t.isMap.put _ _,fun kl =>?_,fun j hj hS =>?_⟩
 ·by_cases hk:kl=tK i
  ·subst hk
   rw [has_put_same t.isMap (Zm1 i)]
   exact ⟨fun _ =>⟨i,hi,by simp,rfl⟩,fun _ =>rfl⟩
  ·rw [has_put_other hk,t.has]
   constructor
   ·rintro ⟨j,hj,hS,e⟩; exact ⟨j,hj,by simp [hS],e⟩
   ·rintro ⟨j,hj,hS,e⟩
    refine ⟨j,hj, ?_,e⟩
    have:j≠i :=fun h =>hk (by rw [← e,h])
    have:(2 * j+2 == 2 * i+2)=false :=by simp; omega
    simpa only [this,Bool.false_or] using hS
 ·by_cases hji:j=i
  ·subst hji
   exact atKey_put_same t.isMap (Zm1 j) _ _
  ·have hne:tK j≠tK i :=fun h =>hji (Zol j hj i hi h)
   rw [atKey_put_other hne]
   refine t.at_ j hj ?_
   have:(2 * j+2 == 2 * i+2)=false :=by simp; omega
   simpa only [this,Bool.false_or] using hS
def Z64 (B:Nat) (i:Nat):Option (Nat × Value) :=
 if i=0 then some (1, .map (some B)) else if i=21 then some (12, .map (some B)) else if i=22 then some (0, .map (some B))
 else if i % 2=1∧i<21 then some ((i - 1) / 2+2,Z7m (tS ((i - 1) / 2)) (tE ((i - 1) / 2))) else none
theorem Zj6 (B:Nat) {i j d e:Nat} {v u:Value} (hi:Z64 B i=some (d,v)) (hj:Z64 B j=some (e,u)) (hne:i≠j):d≠e :=by
 unfold Z64 at hi hj
 split at hi <;> (try split at hi) <;> (try split at hi) <;> (try split at hi) <;> (try cases hi) <;>
  split at hj <;> (try split at hj) <;> (try split at hj) <;> (try split at hj) <;> (try cases hj) <;> omega
structure TInv (W:World) (S:Nat→Bool) (a:Act) (w:World):Prop where
 defers:a.defers = []
 size:a.tmps.size=13
 slots:∀ i d v,Z64 W.heap.size i=some (d,v)→S i=true→a.tmps[d]? = some v
 none:S 0=false→w=W.drew∧∀ j,j<10→S (2 * j+2)=false
 some:S 0=true→∃ D n,w.ownsMap Tryz.prog 287 (plainElem Tryz.prog 3) W.heap.size n D∧n≤cntS S 23∧Tab S D∧Below W.heap.size W w∧W.heap.size+1≤w.heap.size
theorem Zc4 {W:World} {S:Nat→Bool} {a:Act} (hs:a.tmps.size=13) (h:∀ i d v,Z64 W.heap.size i=some (d,v)→S i=true→a.tmps[d]? = some v) {i0 d0:Nat} {v0:Value}
 (h0:Z64 W.heap.size i0=some (d0,v0)) (hd:d0<13):∀ i d v,Z64 W.heap.size i=some (d,v)→(i == i0 || S i)=true→(a.put (some d0) v0).tmps[d]? = some v :=by
 intro i d v hi hS
 by_cases hii:i=i0
 ·subst hii
  rw [h0] at hi
  cases hi
  simp [Act.put,hs,hd]
 ·have hne :=Zj6 W.heap.size h0 hi (Ne.symm hii)
  have hS':S i=true :=by simpa [hii] using hS
  have :=h i d v hi hS'
  simp [Act.put,Array.getElem?_setIfInBounds_ne hne,this]
theorem Zhg {W:World} {S:Nat→Bool} {a:Act} (h:∀ i d v,Z64 W.heap.size i=some (d,v)→S i=true→a.tmps[d]? = some v) {i0:Nat} 
 (h0:Z64 W.heap.size i0=none):∀ i d v,Z64 W.heap.size i=some (d,v)→(i == i0 || S i)=true→a.tmps[d]? = some v :=by
 intro i d v hi hS
 by_cases hii:i=i0
 ·subst hii; rw [h0] at hi; cases hi
 ·exact h i d v hi (by simpa [hii] using hS)
section steps
variable {W:World} {S:Nat→Bool} {a:Act} {w:World} {Q:Exit→Act→World→Prop}
theorem Zj3 (I:TInv W S a w) (hS:S 0=false) {o:Oper} (ho:o.dst=some 1) (hop:o.op = .makeMap 284 none) :
 o.wp Tryz.prog a w (TInv W (fun j =>j == 0 || S j)) Q :=by
 obtain ⟨rfl,hS'⟩ :=I.none hS
 unfold Oper.wp
 have hr:(execOp a.eval o).run Tryz.prog W.drew = .ok (.value (.map (some W.heap.size))) (W.drew.alloc (.map #[] 0)) :=by
  simp only [execOp,hop]
  simp [run_makeMap]
 rw [hr,Oper.upon_value,ho]
 refine ⟨I.defers,by simp [Act.put,I.size],Zc4 I.size I.slots rfl (by omega),fun h =>?_,fun _ =>?_⟩
 ·simp at h
 ·exact ⟨.map [],0,World.ownsMap_made W.drew _ _ _,Nat.zero_le _,Tab.empty fun j hj =>by
   have:(2 * j+2 == 0)=false :=by simp
   simp only [this,Bool.false_or]; exact hS' j hj,((Below.refl _ _).drew).alloc (Nat.le_refl _) _,by simp⟩
theorem Z8t (I:TInv W S a w) {i d:Nat} {v:Value} (h0:Z64 W.heap.size i=some (d,v)) (hd:d<13) (hi0:i≠0) (hodd:i % 2=1∨20<i):TInv W (fun j =>j == i || S j) (a.put (some d) v) w :=by
 have h0i:(0 == i)=false :=by simpa using Ne.symm hi0
 refine ⟨I.defers,by simp [Act.put,I.size],Zc4 I.size I.slots h0 hd,fun h =>?_,fun h =>?_⟩
 ·obtain ⟨k1,k2⟩ :=I.none (by simpa only [h0i,Bool.false_or] using h)
  refine ⟨k1,fun j hj =>?_⟩
  have:(2 * j+2 == i)=false :=by simp; omega
  simp only [this,Bool.false_or]
  exact k2 j hj
 ·obtain ⟨D,n,h1,h2,h3,h4⟩ :=I.some (by simpa only [h0i,Bool.false_or] using h)
  refine ⟨D,n,h1, ?_,h3.same fun j hj =>?_,h4⟩
  ·refine Nat.le_trans h2 ?_
   cases hS:S i with
   | false =>rw [Z5w hS]; omega
   | true =>
    have:(fun j =>j == i || S j)=S :=by
     funext j
     by_cases hj:j=i
     ·subst hj; simp [hS]
     ·simp [hj]
    rw [this]; exact Nat.le_refl _
  ·have:(2 * j+2 == i)=false :=by simp; omega
   simp only [this,Bool.false_or]
theorem Z1h (I:TInv W S a w) {j:Nat} (hj:j<10) (h0:S 0=true) (h1:S (2 * j+1)=true) (hS:S (2 * j+2)=false) {o:Oper} (ho:o.dst=none) (hw:(Lit.int .i64 (tS j)).wf=true) (hw2:(Lit.int .i64 (tE j)).wf=true) (hw3:(Lit.int .i64 (tV j)).wf=true)
 (hop:o.op = .insert 284 (.tmp 1) (.tmp (j+2)) (.const (.int .i64 (tV j)))) :
 o.wp Tryz.prog a w (TInv W (fun i =>i == 2 * j+2 || S i)) Q :=by
 obtain ⟨D,n,k1,k2,k3,k4,k5⟩ :=I.some h0
 have m1 :=I.slots 0 1 _ rfl h0
 have m2 :=I.slots (2 * j+1) (j+2) (Z7m (tS j) (tE j)) (by unfold Z64; rw [if_neg (by omega),if_neg (by omega),if_neg (by omega),if_pos ⟨by omega,by omega⟩]; rw [show (2 * j+1 - 1) / 2=j from by omega]) h1
 have hn:n<maxLen :=Nat.lt_of_le_of_lt (Nat.le_trans k2 (Zdp S 23)) (by unfold maxLen; omega)
 obtain ⟨w',hrun,r1,r2⟩ :=k1.update Zmx Tryz.underlying284 hn (Zku _ _ hw hw2) (plainElem_int Tryz.underlying3 hw3)
 have e1:a.eval (.tmp 1) = .map (some W.heap.size) :=by simp [Act.eval,m1]
 have e2:a.eval (.tmp (j+2))=Z7m (tS j) (tE j) :=by simp [Act.eval,m2]
 have hr:(execOp a.eval o).run Tryz.prog w = .ok .skip w' :=by
  simp only [execOp,hop,e1,e2]
  simp only [Act.eval]
  simp [hrun]
 unfold Oper.wp
 rw [hr,Oper.upon_skip,ho]
 have hz:(0 == 2 * j+2)=false :=by simp
 refine ⟨I.defers,I.size,Zhg I.slots (by unfold Z64; rw [if_neg (by omega),if_neg (by omega),if_neg (by omega),if_neg (by omega)]),fun h =>?_,fun _ =>?_⟩
 ·simp only [hz,Bool.false_or] at h
  rw [h0] at h; cases h
 ·refine ⟨_,n+1,r1, ?_,k3.put hj,k4.grown r2 (by omega) (by intro k hk; cases hk; exact Nat.le_refl _), ?_⟩
  ·rw [Z5w hS,if_pos (by omega)]; omega
  ·exact Nat.le_trans k5 r2.size
theorem Z1v (I:TInv W S a w) {j:Nat} (hj:j<10) {o:Oper} (ho:o.dst=some (j+2)) (hop:o.op = .build 287 #[(0, .const (.int .i64 (tS j))),(1, .const (.int .i64 (tE j)))]) :
 o.wp Tryz.prog a w (TInv W (fun i =>i == 2 * j+1 || S i)) Q :=by
 have hr:(execOp a.eval o).run Tryz.prog w = .ok (.value (Z7m (tS j) (tE j))) w :=by
  simp only [execOp,hop]
  simp [go_sem,Act.eval,Z7m]
 unfold Oper.wp
 rw [hr,Oper.upon_value,ho]
 exact Z8t I (by unfold Z64; rw [if_neg (by omega),if_neg (by omega),if_neg (by omega),if_pos ⟨by omega,by omega⟩]; rw [show (2 * j+1 - 1) / 2=j from by omega]) (by omega) (by omega) (by omega)
theorem Zjq (I:TInv W S a w) (h0:S 0=true) {o:Oper} (ho:o.dst=some 12) (hop:o.op = .move (.tmp 1)) :
 o.wp Tryz.prog a w (TInv W (fun i =>i == 21 || S i)) Q :=by
 have m1 :=I.slots 0 1 _ rfl h0
 have e1:a.eval (.tmp 1) = .map (some W.heap.size) :=by simp [Act.eval,m1]
 have hr:(execOp a.eval o).run Tryz.prog w = .ok (.value (.map (some W.heap.size))) w :=by
  simp only [execOp,hop,e1]
  simp
 unfold Oper.wp
 rw [hr,Oper.upon_value,ho]
 exact Z8t I (i :=21) rfl (by omega) (by omega) (by omega)
theorem Ze3 (I:TInv W S a w) (h0:S 21=true) {o:Oper} (ho:o.dst=some 0) (hop:o.op = .assign (.tmp 12)) :
 o.wp Tryz.prog a w (TInv W (fun i =>i == 22 || S i)) Q :=by
 have m1 :=I.slots 21 12 _ rfl h0
 have e1:a.eval (.tmp 12) = .map (some W.heap.size) :=by simp [Act.eval,m1]
 have hr:(execOp a.eval o).run Tryz.prog w = .ok (.value (.map (some W.heap.size))) w :=by
  simp only [execOp,hop,e1]
  simp
 unfold Oper.wp
 rw [hr,Oper.upon_value,ho]
 exact Z8t I (i :=22) rfl (by omega) (by omega) (by omega)
end steps
theorem table_any (W:World) :
 Calls Tryz.prog 200 #[] W fun r w =>r = .returned (.map (some W.heap.size))∧∃ D,w.ownsMap Tryz.prog 287 (plainElem Tryz.prog 3) W.heap.size 23 D∧Tab (fun _ =>true) D∧Below W.heap.size W w∧W.heap.size+1≤w.heap.size :=by
 go_enter Tryz.func200,Tryz.ntmps200
 go_wp2
 refine Zbu (by kernel_rfl) (by kernel_rfl) (fun S a w =>TInv W S a w) ⟨rfl,rfl,fun i d v _ h =>by simp at h,fun _ =>⟨rfl,fun _ _ =>rfl⟩,fun h =>by simp at h⟩ ?_ ?_
 ·intro S a w i o ho hS hd hI
  have hi:i<23 :=by
   obtain ⟨h,_⟩ :=Array.getElem?_eq_some_iff.1 ho
   simpa using h
  match i,hi with
  | 0,_ =>obtain rfl :=Option.some.inj ho; exact Z0y rfl rfl (Zj3 hI hS rfl rfl)
  | 1,_ =>obtain rfl :=Option.some.inj ho; exact Z0y rfl rfl (Z1v hI (j :=0) (by omega) rfl rfl)
  | 2,_ =>obtain rfl :=Option.some.inj ho; exact Z0y rfl rfl (Z1h hI (j :=0) (by omega) (hd ⟨0, .data⟩ (by simp) rfl) (hd ⟨1, .data⟩ (by simp) rfl) hS rfl rfl rfl rfl rfl)
  | 3,_ =>obtain rfl :=Option.some.inj ho; exact Z0y rfl rfl (Z1v hI (j :=1) (by omega) rfl rfl)
  | 4,_ =>obtain rfl :=Option.some.inj ho; exact Z0y rfl rfl (Z1h hI (j :=1) (by omega) (hd ⟨0, .data⟩ (by simp) rfl) (hd ⟨3, .data⟩ (by simp) rfl) hS rfl rfl rfl rfl rfl)
  | 5,_ =>obtain rfl :=Option.some.inj ho; exact Z0y rfl rfl (Z1v hI (j :=2) (by omega) rfl rfl)
  | 6,_ =>obtain rfl :=Option.some.inj ho; exact Z0y rfl rfl (Z1h hI (j :=2) (by omega) (hd ⟨0, .data⟩ (by simp) rfl) (hd ⟨5, .data⟩ (by simp) rfl) hS rfl rfl rfl rfl rfl)
  | 7,_ =>obtain rfl :=Option.some.inj ho; exact Z0y rfl rfl (Z1v hI (j :=3) (by omega) rfl rfl)
  | 8,_ =>obtain rfl :=Option.some.inj ho; exact Z0y rfl rfl (Z1h hI (j :=3) (by omega) (hd ⟨0, .data⟩ (by simp) rfl) (hd ⟨7, .data⟩ (by simp) rfl) hS rfl rfl rfl rfl rfl)
  | 9,_ =>obtain rfl :=Option.some.inj ho; exact Z0y rfl rfl (Z1v hI (j :=4) (by omega) rfl rfl)
  | 10,_ =>obtain rfl :=Option.some.inj ho; exact Z0y rfl rfl (Z1h hI (j :=4) (by omega) (hd ⟨0, .data⟩ (by simp) rfl) (hd ⟨9, .data⟩ (by simp) rfl) hS rfl rfl rfl rfl rfl)
  | 11,_ =>obtain rfl :=Option.some.inj ho; exact Z0y rfl rfl (Z1v hI (j :=5) (by omega) rfl rfl)
  | 12,_ =>obtain rfl :=Option.some.inj ho; exact Z0y rfl rfl (Z1h hI (j :=5) (by omega) (hd ⟨0, .data⟩ (by simp) rfl) (hd ⟨11, .data⟩ (by simp) rfl) hS rfl rfl rfl rfl rfl)
  | 13,_ =>obtain rfl :=Option.some.inj ho; exact Z0y rfl rfl (Z1v hI (j :=6) (by omega) rfl rfl)
  | 14,_ =>obtain rfl :=Option.some.inj ho; exact Z0y rfl rfl (Z1h hI (j :=6) (by omega) (hd ⟨0, .data⟩ (by simp) rfl) (hd ⟨13, .data⟩ (by simp) rfl) hS rfl rfl rfl rfl rfl)
  | 15,_ =>obtain rfl :=Option.some.inj ho; exact Z0y rfl rfl (Z1v hI (j :=7) (by omega) rfl rfl)
  | 16,_ =>obtain rfl :=Option.some.inj ho; exact Z0y rfl rfl (Z1h hI (j :=7) (by omega) (hd ⟨0, .data⟩ (by simp) rfl) (hd ⟨15, .data⟩ (by simp) rfl) hS rfl rfl rfl rfl rfl)
  | 17,_ =>obtain rfl :=Option.some.inj ho; exact Z0y rfl rfl (Z1v hI (j :=8) (by omega) rfl rfl)
  | 18,_ =>obtain rfl :=Option.some.inj ho; exact Z0y rfl rfl (Z1h hI (j :=8) (by omega) (hd ⟨0, .data⟩ (by simp) rfl) (hd ⟨17, .data⟩ (by simp) rfl) hS rfl rfl rfl rfl rfl)
  | 19,_ =>obtain rfl :=Option.some.inj ho; exact Z0y rfl rfl (Z1v hI (j :=9) (by omega) rfl rfl)
  | 20,_ =>obtain rfl :=Option.some.inj ho; exact Z0y rfl rfl (Z1h hI (j :=9) (by omega) (hd ⟨0, .data⟩ (by simp) rfl) (hd ⟨19, .data⟩ (by simp) rfl) hS rfl rfl rfl rfl rfl)
  | 21,_ =>obtain rfl :=Option.some.inj ho; exact Z0y rfl rfl (Zjq hI (hd ⟨0, .data⟩ (by simp) rfl) rfl rfl)
  | 22,_ =>obtain rfl :=Option.some.inj ho; exact Z0y rfl rfl (Ze3 hI (hd ⟨21, .data⟩ (by simp) rfl) rfl rfl)
 ·intro S a w hall hI
  obtain ⟨D,n,h1,h2,h3,h4,h5⟩ :=hI.some (hall 0 (by simp))
  have hm :=hI.slots 22 0 _ rfl (hall 22 (by simp))
  have hdf :=hI.defers
  have hT:Tab (fun _ =>true) D :=h3.same fun j hj =>(hall (2 * j+2) (by simp; omega)).symm
  have hn :=h1.mono (Nat.le_trans h2 (Zdp S 23))
  go_wp2
  exact bodyPost_ret (v := .map (some W.heap.size)) (by simp [results,Tryz.results200,hm,go_sem]) hdf ⟨rfl,D,hn,hT,h4,h5⟩
def Z0j (s e:Int):Int :=
 if e=7 then (if s=2 then 3 else if s=3 then 3 else if s=4 then 4 else if s=5 then 4 else 0)
 else if e=6∧s=2 then 7
 else if 1≤e∧e≤5∧s=e then s+1 else 0
theorem Zbc (s e:Int):(∃ j,j<10∧s=tS j∧e=tE j∧Z0j s e=tV j)∨(Z0j s e=0∧∀ j,j<10→¬ (s=tS j∧e=tE j)) :=by
 by_cases h:∃ j,j<10∧s=tS j∧e=tE j
 ·obtain ⟨j,hj,rfl,rfl⟩ :=h
  refine .inl ⟨j,hj,rfl,rfl, ?_⟩
  have:∀ j,j<10→Z0j (tS j) (tE j)=tV j :=by decide
  exact this j hj
 ·have hn:∀ j,j<10→¬ (s=tS j∧e=tE j) :=fun j hj hh =>h ⟨j,hj,hh⟩
  refine .inr ⟨?_,hn⟩
  have h0 :=hn 0 (by omega); have h1 :=hn 1 (by omega); have h2 :=hn 2 (by omega); have h3 :=hn 3 (by omega); have h4 :=hn 4 (by omega)
  have h5 :=hn 5 (by omega); have h6 :=hn 6 (by omega); have h7 :=hn 7 (by omega); have h8 :=hn 8 (by omega); have h9 :=hn 9 (by omega)
  simp only [tS,tE,tab,List.getD_cons_zero,List.getD_cons_succ] at h0 h1 h2 h3 h4 h5 h6 h7 h8 h9
  unfold Z0j
  repeat' split
  all_goals omega
theorem Zbi (s e:Int):0≤Z0j s e∧Z0j s e≤7 :=by
 unfold Z0j
 repeat' split
 all_goals omega
theorem Zox {s e:Int} (hs:(Lit.int .i64 s).wf=true) (he:(Lit.int .i64 e).wf=true) {j:Nat} (hj:j<10) (h:tK j=Z6q s e):s=tS j∧e=tE j :=by
 have hw:∀ j,j<10→(Lit.int .i64 (tS j)).wf=true∧(Lit.int .i64 (tE j)).wf=true :=by decide
 have h1 :=Zku s e hs he
 have h2 :=Zku (tS j) (tE j) (hw j hj).1 (hw j hj).2
 have h3 :=Zmx.inj h1 (by rw [← h]; exact h2)
 simp only [Z7m,Value.agg.injEq,Array.mk.injEq,List.cons.injEq,Value.int.injEq,true_and,and_true] at h3
 exact h3
theorem Zla {s e:Int} (hs:(Lit.int .i64 s).wf=true) (he:(Lit.int .i64 e).wf=true) {D:DataW Unit} (t:Tab (fun _ =>true) D) :
 Maps.has D (Z6q s e)=(Z0j s e != 0)∧D.atKey (Z6q s e) (.lit (.int .i64 0)) = .lit (.int .i64 (Z0j s e)) :=by
 rcases Zbc s e with ⟨j,hj,rfl,rfl,hr⟩ | ⟨hr,hn⟩
 ·have h1:Maps.has D (tK j)=true :=(t.has _).2 ⟨j,hj,rfl,rfl⟩
  have h2 :=t.at_ j hj rfl
  rw [hr]
  have hv:∀ j,j<10→(tV j != 0)=true :=by decide
  exact ⟨h1.trans (hv j hj).symm,h2⟩
 ·have h1:Maps.has D (Z6q s e)=false :=by
   cases hh:Maps.has D (Z6q s e) with
   | false =>rfl
   | true =>
    obtain ⟨j,hj,_,hk⟩ :=(t.has _).1 hh
    exact absurd (Zox hs he hj hk) (hn j hj)
  rw [hr]
  exact ⟨h1,atKey_of_not_has h1 _⟩
theorem zero3 (w:World):(zeroValue 3).run Tryz.prog w = .ok (.int .i64 0) w :=by kernel_rfl
theorem next_any (s e:Int) (w:World) (hs:(Lit.int .i64 s).wf=true) (he:(Lit.int .i64 e).wf=true) :
 Calls Tryz.prog 170 #[.int .i64 s, .int .i64 e] w fun r w' =>r = .returned (.tuple #[.int .i64 (Z0j s e), .bool (Z0j s e != 0)])∧Below w.heap.size w w' :=by
 go_enter Tryz.func170,Tryz.ntmps170
 go_wp2_with fail
 refine (table_any w).mono ?_
 rintro r w1 ⟨rfl,D,hown,hT,hb,hsz⟩
 obtain ⟨l1,l2⟩ :=Zla hs he hT
 go_wp2_with (at_lookup; refine wpList_lookup_own_ok_int _ rfl _ _ 284 rfl 287 3 .i64 Zmx Tryz.underlying284 Tryz.underlying3 (zero3 _) w.heap.size 23 D rfl hown _ _ rfl (Zku s e hs he) ?_; intro c hat hwc)
 obtain rfl:Z0j s e=c :=by rw [l2] at hat; simpa using hat
 go_ret2
 exact ⟨rfl,hb⟩
open Go.RowKit Go.Eg
@[reducible] def cfgV (c:Nat→Int):Value := .agg #[.int .i64 (c 0), .int .i64 (c 1), .int .u64 (c 2), .int .u64 (c 3), .int .u64 (c 4), .int .u64 (c 5), .int .u64 (c 6), .int .u64 (c 7), .int .u64 (c 8), .int .u64 (c 9), .int .i64 (c 10), .int .i64 (c 11), .int .i64 (c 12), .int .i64 (c 13), .int .i64 (c 14), .int .i64 (c 15), .int .i64 (c 16), .int .i64 (c 17), .int .u64 (c 18), .int .u64 (c 19)]
def okC (c:Nat→Int):Nat→Bool
 | 0 =>decide (1≤c 0) && decide (c 0≤4096)
 | 1 =>decide (1≤c 1) && decide (c 1≤4096)
 | 2 =>decide (0<c 2)
 | 3 =>decide (c 2≤c 3)
 | 4 =>decide (c 3≤c 4) && decide (c 4≤1152921504606846976)
 | 5 =>decide (1≤c 5) && decide (c 5≤c 2)
 | 6 =>decide (c 3≤c 6) && decide (c 6≤c 4)
 | 7 =>decide (1≤c 7) && decide (c 7≤1152921504606846976)
 | 8 =>decide (0<c 8)
 | 9 =>decide (c 9≤1152921504606846976)
 | 10 =>decide (1≤c 10) && decide (c 10≤1048576)
 | 11 =>decide (wrap64 (c 10+1)≤c 11) && decide (c 11≤1048576)
 | 12 =>decide (1≤c 12) && decide (c 12≤4096)
 | 13 =>decide (1≤c 13) && decide (c 13≤4096)
 | 14 =>decide (1≤c 14) && decide (c 14≤4096)
 | 15 =>decide (1≤c 15) && decide (c 15≤4096)
 | 16 =>decide (0≤c 16) && decide (c 16≤wrap64 ((if c 15<c 14 then c 15 else c 14) - 1))
 | 17 =>decide (0≤c 17) && decide (c 17≤4096)
 | 18 =>decide (c 18≤c 19)
 | 19 =>decide (1≤c 19) && decide (c 19≤4294967296)
 | _ =>true
theorem Z5n (x lo hi:Int) (w:World) :
 Calls Tryz.prog 149 #[.int .i64 x, .int .i64 lo, .int .i64 hi] w fun r w' =>r = .returned (.bool (decide (lo≤x) && decide (x≤hi)))∧w=w' :=by
 go_enter Tryz.func149,Tryz.ntmps149
 go_wp2
 all_goals
  go_ret
  refine ⟨Z0k ?_,rfl⟩
  simp
  try omega
theorem Zcx (x lo hi:Int) (w:World) :
 Calls Tryz.prog 154 #[.int .u64 x, .int .u64 lo, .int .u64 hi] w fun r w' =>r = .returned (.bool (decide (lo≤x) && decide (x≤hi)))∧w=w' :=by
 go_enter Tryz.func154,Tryz.ntmps154
 go_wp2
 all_goals
  go_ret
  refine ⟨Z0k ?_,rfl⟩
  simp
  try omega
theorem Zpl (c:Nat→Int) (w:World) :
 Calls Tryz.prog 148 #[cfgV c] w fun r w' =>r = .returned (.bool (okC c 0))∧Below w.heap.size w w' :=by
 go_enter Tryz.func148,Tryz.ntmps148
 go_wp2_with (go_at_call 149; refine (Z5n _ _ _ _).mono ?_; rintro r w' ⟨rfl,rfl⟩)
 all_goals
  go_ret
  exact ⟨Z0k (by simp [okC]),(Below.refl _ _).alloc (Nat.le_refl _) _⟩
theorem Zp1 (c:Nat→Int) (w:World) :
 Calls Tryz.prog 150 #[cfgV c] w fun r w' =>r = .returned (.bool (okC c 1))∧Below w.heap.size w w' :=by
 go_enter Tryz.func150,Tryz.ntmps150
 go_wp2_with (go_at_call 149; refine (Z5n _ _ _ _).mono ?_; rintro r w' ⟨rfl,rfl⟩)
 all_goals
  go_ret
  exact ⟨Z0k (by simp [okC]),(Below.refl _ _).alloc (Nat.le_refl _) _⟩
theorem Zq9 (c:Nat→Int) (w:World) :
 Calls Tryz.prog 151 #[cfgV c] w fun r w' =>r = .returned (.bool (okC c 2))∧Below w.heap.size w w' :=by
 go_enter Tryz.func151,Tryz.ntmps151
 go_wp2
 all_goals
  go_ret
  exact ⟨Z0k (by simp [okC]),(Below.refl _ _).alloc (Nat.le_refl _) _⟩
theorem Zot (c:Nat→Int) (w:World) :
 Calls Tryz.prog 152 #[cfgV c] w fun r w' =>r = .returned (.bool (okC c 3))∧Below w.heap.size w w' :=by
 go_enter Tryz.func152,Tryz.ntmps152
 go_wp2
 all_goals
  go_ret
  exact ⟨Z0k (by simp [okC]),(Below.refl _ _).alloc (Nat.le_refl _) _⟩
theorem Zpy (c:Nat→Int) (w:World) :
 Calls Tryz.prog 153 #[cfgV c] w fun r w' =>r = .returned (.bool (okC c 4))∧Below w.heap.size w w' :=by
 go_enter Tryz.func153,Tryz.ntmps153
 go_wp2_with (go_at_call 154; refine (Zcx _ _ _ _).mono ?_; rintro r w' ⟨rfl,rfl⟩)
 all_goals
  go_ret
  exact ⟨Z0k (by simp [okC]),(Below.refl _ _).alloc (Nat.le_refl _) _⟩
theorem Zpd (c:Nat→Int) (w:World) :
 Calls Tryz.prog 155 #[cfgV c] w fun r w' =>r = .returned (.bool (okC c 5))∧Below w.heap.size w w' :=by
 go_enter Tryz.func155,Tryz.ntmps155
 go_wp2_with (go_at_call 154; refine (Zcx _ _ _ _).mono ?_; rintro r w' ⟨rfl,rfl⟩)
 all_goals
  go_ret
  exact ⟨Z0k (by simp [okC]),(Below.refl _ _).alloc (Nat.le_refl _) _⟩
theorem Zq6 (c:Nat→Int) (w:World) :
 Calls Tryz.prog 156 #[cfgV c] w fun r w' =>r = .returned (.bool (okC c 6))∧Below w.heap.size w w' :=by
 go_enter Tryz.func156,Tryz.ntmps156
 go_wp2_with (go_at_call 154; refine (Zcx _ _ _ _).mono ?_; rintro r w' ⟨rfl,rfl⟩)
 all_goals
  go_ret
  exact ⟨Z0k (by simp [okC]),(Below.refl _ _).alloc (Nat.le_refl _) _⟩
theorem Zq3 (c:Nat→Int) (w:World) :
 Calls Tryz.prog 157 #[cfgV c] w fun r w' =>r = .returned (.bool (okC c 7))∧Below w.heap.size w w' :=by
 go_enter Tryz.func157,Tryz.ntmps157
 go_wp2_with (go_at_call 154; refine (Zcx _ _ _ _).mono ?_; rintro r w' ⟨rfl,rfl⟩)
 all_goals
  go_ret
  exact ⟨Z0k (by simp [okC]),(Below.refl _ _).alloc (Nat.le_refl _) _⟩
theorem Zqb (c:Nat→Int) (w:World) :
 Calls Tryz.prog 158 #[cfgV c] w fun r w' =>r = .returned (.bool (okC c 8))∧Below w.heap.size w w' :=by
 go_enter Tryz.func158,Tryz.ntmps158
 go_wp2
 all_goals
  go_ret
  exact ⟨Z0k (by simp [okC]),(Below.refl _ _).alloc (Nat.le_refl _) _⟩
theorem Zme (c:Nat→Int) (w:World) :
 Calls Tryz.prog 159 #[cfgV c] w fun r w' =>r = .returned (.bool (okC c 9))∧Below w.heap.size w w' :=by
 go_enter Tryz.func159,Tryz.ntmps159
 go_wp2
 all_goals
  go_ret
  exact ⟨Z0k (by simp [okC]),(Below.refl _ _).alloc (Nat.le_refl _) _⟩
theorem Zlx (c:Nat→Int) (w:World) :
 Calls Tryz.prog 160 #[cfgV c] w fun r w' =>r = .returned (.bool (okC c 10))∧Below w.heap.size w w' :=by
 go_enter Tryz.func160,Tryz.ntmps160
 go_wp2_with (go_at_call 149; refine (Z5n _ _ _ _).mono ?_; rintro r w' ⟨rfl,rfl⟩)
 all_goals
  go_ret
  exact ⟨Z0k (by simp [okC]),(Below.refl _ _).alloc (Nat.le_refl _) _⟩
theorem Zmj (c:Nat→Int) (w:World) :
 Calls Tryz.prog 161 #[cfgV c] w fun r w' =>r = .returned (.bool (okC c 11))∧Below w.heap.size w w' :=by
 go_enter Tryz.func161,Tryz.ntmps161
 go_wp2_with (go_at_call 149; refine (Z5n _ _ _ _).mono ?_; rintro r w' ⟨rfl,rfl⟩)
 all_goals
  go_ret
  exact ⟨Z0k (by simp [okC]),(Below.refl _ _).alloc (Nat.le_refl _) _⟩
theorem Zmb (c:Nat→Int) (w:World) :
 Calls Tryz.prog 162 #[cfgV c] w fun r w' =>r = .returned (.bool (okC c 12))∧Below w.heap.size w w' :=by
 go_enter Tryz.func162,Tryz.ntmps162
 go_wp2_with (go_at_call 149; refine (Z5n _ _ _ _).mono ?_; rintro r w' ⟨rfl,rfl⟩)
 all_goals
  go_ret
  exact ⟨Z0k (by simp [okC]),(Below.refl _ _).alloc (Nat.le_refl _) _⟩
theorem Zm6 (c:Nat→Int) (w:World) :
 Calls Tryz.prog 163 #[cfgV c] w fun r w' =>r = .returned (.bool (okC c 13))∧Below w.heap.size w w' :=by
 go_enter Tryz.func163,Tryz.ntmps163
 go_wp2_with (go_at_call 149; refine (Z5n _ _ _ _).mono ?_; rintro r w' ⟨rfl,rfl⟩)
 all_goals
  go_ret
  exact ⟨Z0k (by simp [okC]),(Below.refl _ _).alloc (Nat.le_refl _) _⟩
theorem Zm0 (c:Nat→Int) (w:World) :
 Calls Tryz.prog 164 #[cfgV c] w fun r w' =>r = .returned (.bool (okC c 14))∧Below w.heap.size w w' :=by
 go_enter Tryz.func164,Tryz.ntmps164
 go_wp2_with (go_at_call 149; refine (Z5n _ _ _ _).mono ?_; rintro r w' ⟨rfl,rfl⟩)
 all_goals
  go_ret
  exact ⟨Z0k (by simp [okC]),(Below.refl _ _).alloc (Nat.le_refl _) _⟩
theorem Zmn (c:Nat→Int) (w:World) :
 Calls Tryz.prog 165 #[cfgV c] w fun r w' =>r = .returned (.bool (okC c 15))∧Below w.heap.size w w' :=by
 go_enter Tryz.func165,Tryz.ntmps165
 go_wp2_with (go_at_call 149; refine (Z5n _ _ _ _).mono ?_; rintro r w' ⟨rfl,rfl⟩)
 all_goals
  go_ret
  exact ⟨Z0k (by simp [okC]),(Below.refl _ _).alloc (Nat.le_refl _) _⟩
theorem Zly (c:Nat→Int) (w:World) :
 Calls Tryz.prog 166 #[cfgV c] w fun r w' =>r = .returned (.bool (okC c 16))∧Below w.heap.size w w' :=by
 go_enter Tryz.func166,Tryz.ntmps166
 go_wp2_with (go_at_call 149; refine (Z5n _ _ _ _).mono ?_; rintro r w' ⟨rfl,rfl⟩)
 all_goals
  go_ret
  exact ⟨Z0k (by show _=(decide (0≤c 16) && decide (c 16≤wrap64 ((if c 15<c 14 then c 15 else c 14) - 1))); first | rw [if_pos (by omega)] | rw [if_neg (by omega)]),(Below.refl _ _).alloc (Nat.le_refl _) _⟩
theorem Zmc (c:Nat→Int) (w:World) :
 Calls Tryz.prog 167 #[cfgV c] w fun r w' =>r = .returned (.bool (okC c 17))∧Below w.heap.size w w' :=by
 go_enter Tryz.func167,Tryz.ntmps167
 go_wp2_with (go_at_call 149; refine (Z5n _ _ _ _).mono ?_; rintro r w' ⟨rfl,rfl⟩)
 all_goals
  go_ret
  exact ⟨Z0k (by simp [okC]),(Below.refl _ _).alloc (Nat.le_refl _) _⟩
theorem Zmk (c:Nat→Int) (w:World) :
 Calls Tryz.prog 168 #[cfgV c] w fun r w' =>r = .returned (.bool (okC c 18))∧Below w.heap.size w w' :=by
 go_enter Tryz.func168,Tryz.ntmps168
 go_wp2
 all_goals
  go_ret
  exact ⟨Z0k (by simp [okC]),(Below.refl _ _).alloc (Nat.le_refl _) _⟩
theorem Zm3 (c:Nat→Int) (w:World) :
 Calls Tryz.prog 169 #[cfgV c] w fun r w' =>r = .returned (.bool (okC c 19))∧Below w.heap.size w w' :=by
 go_enter Tryz.func169,Tryz.ntmps169
 go_wp2_with (go_at_call 154; refine (Zcx _ _ _ _).mono ?_; rintro r w' ⟨rfl,rfl⟩)
 all_goals
  go_ret
  exact ⟨Z0k (by simp [okC]),(Below.refl _ _).alloc (Nat.le_refl _) _⟩
end Go.Proofs.YtecapfmmoejikaaGreat
