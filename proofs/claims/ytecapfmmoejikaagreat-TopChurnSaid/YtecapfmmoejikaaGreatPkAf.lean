/- A part of the proofs of the top laws: LedA CurA CurB. -/
import Derived.Test.YtecapfmmoejikaaGreatRows
import Derived.Test.YtecapfmmoejikaaGreatPkAe
set_option maxRecDepth 4000
set_option maxHeartbeats 8000000
namespace Go.Eg
open Go Go.RowKit
def sumF (f:Nat→Int):Nat→Int
 | 0 =>0
 | k+1 =>sumF f k+f k
theorem Zby {f:Nat→Int} {n:Nat} (h:∀ j,j<n→0≤f j):∀ k,k≤n→0≤sumF f k∧∀ m,m≤k→sumF f m≤sumF f k
 | 0,_ =>⟨Int.le_refl _,fun m hm =>by
  obtain rfl:m=0 :=by omega
  exact Int.le_refl _⟩
 | k+1,hk =>by
  obtain ⟨h1,h2⟩ :=Zby h k (by omega)
  have :=h k (by omega)
  rw [sumF]
  refine ⟨by omega,fun m hm =>?_⟩
  by_cases e:m=k+1
  ·subst e; rw [sumF]; exact Int.le_refl _
  ·have :=h2 m (by omega)
   omega
def maxU:Int :=18446744073709551615
def addV (f:Nat→Int) (n:Nat):Int :=if sumF f n≤maxU then sumF f n else 0
def Z3p (f:Nat→Int) (n:Nat):Bool :=decide (sumF f n≤maxU)
def Amts (w:World) (v:Value) (n:Nat) (f:Nat→Int):Prop :=
 (∃ a cap,v = .slice a n cap∧(0<n→∃ b off,a=some ⟨b,off,none⟩∧∀ j,j<n→w.cell? ⟨b,off+j,none⟩=some (.int .u64 (f j))))∧∀ j,j<n→0≤f j∧f j≤maxU
theorem Amts.mods {S:Nat→Prop} {a b:World} {v:Value} {n:Nat} {f:Nat→Int} (h:Amts a v n f) (hm:Mods S a b) (hS:∀ k,v.ownBlock=some k→¬ S k):Amts b v n f :=by
 obtain ⟨⟨p,cap,rfl,hx⟩,hf⟩ :=h
 refine ⟨⟨p,cap,rfl,fun h0 =>?_⟩,hf⟩
 obtain ⟨g,off,rfl,hc⟩ :=hx h0
 exact ⟨g,off,rfl,fun j hj =>hm.cell (hc j hj) (hS g rfl)⟩
theorem Z7b {w:World} {g:Nat} {cs:Array Value} {t:TypeId} {fr:Nat × Nat} (h:w.heap[g]? = some (.cells cs t fr)) (n c:Nat) (f:Nat→Int) (hc:∀ j,j<n→cs[j]? = some (.int .u64 (f j))∧0≤f j∧f j≤maxU) :
 Amts w (.slice (some ⟨g,0,none⟩) n c) n f :=⟨⟨_,c,rfl,fun _ =>⟨g,0,rfl,fun j hj =>by simp [World.cell?,h,(hc j hj).1]⟩⟩,fun j hj =>(hc j hj).2⟩
theorem Zk8 (w:World) (x y:Int) (t:TypeId) (hx:0≤x∧x≤maxU) (hy:0≤y∧y≤maxU):Amts (w.alloc (.cells #[.int .u64 x, .int .u64 y] t)) (.slice (some ⟨w.heap.size,0,none⟩) 2 2) 2 (fun j =>if j=0 then x else y) :=
 Z7b (heap_alloc_last w _) 2 2 _ fun j hj =>by
  match j,hj with
  | 0,_ =>exact ⟨rfl,hx⟩
  | 1,_ =>exact ⟨rfl,hy⟩
theorem Zq4 (w:World) (x:Int) (t:TypeId) (hx:0≤x∧x≤maxU):Amts (w.alloc (.cells #[.int .u64 x] t)) (.slice (some ⟨w.heap.size,0,none⟩) 1 1) 1 (fun _ =>x) :=
 Z7b (heap_alloc_last w _) 1 1 _ fun j hj =>by
  match j,hj with
  | 0,_ =>exact ⟨rfl,hx⟩
theorem sum2 (x y:Int):sumF (fun j =>if j=0 then x else y) 2=x+y :=by simp [sumF]
theorem sum1 (x:Int):sumF (fun _ =>x) 1=x :=by simp [sumF]
end Go.Eg
namespace Go.Proofs.YtecapfmmoejikaaGreat
open Go.RowKit Go.Eg
theorem Z7f (v:Value) (n:Nat) (f:Nat→Int) (w:World) (h:Amts w v n f) (hn:n≤4294967296) :
 Calls Tryz.prog 14 #[v] w fun r w' =>r = .returned (.tuple #[.int .u64 (if sumF f n≤maxU then sumF f n else maxU), .bool (!Z3p f n)])∧w=w' :=by
 obtain ⟨⟨a,cap,rfl,hc⟩,hf⟩ :=h
 have HM :=Hd (Zby (f :=f) (n :=n) (fun j hj =>(hf j hj).1))
 have HF :=Hd hf
 have HC :=Hd hc
 clear hc hf
 obtain ⟨V,hV⟩:∃ V,V=(if sumF f n≤maxU then sumF f n else maxU) :=⟨_,rfl⟩
 obtain ⟨B,hB⟩:∃ B,B = !Z3p f n :=⟨_,rfl⟩
 rw [← hV,← hB]
 have HV :=Hd hV
 have HB :=Hd hB
 clear hV hB
 go_enter Tryz.func14,Tryz.ntmps14
 go_wp2
 go_loop [4,9] (fun s i => ∃ k:Nat,k≤n∧i = .int .i64 k∧s = .int .u64 (sumF f k)∧sumF f k≤maxU) (fun _ i =>n - (intOf i).toNat)
 case atStart =>exact ⟨0,Nat.zero_le _,rfl,rfl,by show (0:Int)≤_; decide⟩
 case round =>
  obtain ⟨k,hk,rfl,rfl,hs⟩ :=hrel
  obtain ⟨s0,_⟩ :=HM.out k hk
  by_cases hlt:k<n
  ·obtain ⟨b,off,rfl,hcc⟩ :=HC.out (by omega)
   have hcell :=hcc k hlt
   obtain ⟨f0,f1⟩ :=HF.out k hlt
   have hsk:sumF f (k+1)=sumF f k+f k :=rfl
   have hge :=(HM.out n (Nat.le_refl _)).2 (k+1) (by omega)
   generalize hS:sumF f k=S at *
   generalize hx:f k=x at *
   have HSK :=Hd hsk
   clear hsk hS hx hcc
   by_cases hov:S+x≤maxU
   ·unfold maxU at hs f1 hov
    go_wp2
    go_round
    case rel =>exact ⟨k+1,by omega,by go_num,by rw [HSK.out],by rw [HSK.out]; exact hov⟩
    case measure =>simp [intOf]; omega
   ·have hwr:IntKind.u64.wrap (S+x)=S+x - 18446744073709551616 :=by
     rw [IntKind.wrap_u64]
     unfold maxU at hs f1 hov
     omega
    have hres:V=maxU∧B=true :=by
     rw [HV.out,HB.out]
     have : ¬ sumF f n≤maxU :=by have :=HSK.out; omega
     refine ⟨if_neg this, ?_⟩
     unfold Z3p
     simp [this]
    obtain ⟨hV1,hB1⟩ :=hres
    subst hV1 hB1
    unfold maxU at hs f1 hov
    go_wp2
    go_ret2
    exact ⟨rfl,rfl⟩
  ·have hkn:k=n :=by omega
   subst hkn
   have hres:V=sumF f k∧B=false :=by
    rw [HV.out,HB.out]
    refine ⟨if_pos hs, ?_⟩
    unfold Z3p
    simp [hs]
   obtain ⟨hV1,hB1⟩ :=hres
   subst hV1 hB1
   go_wp2
   go_ret2
   exact ⟨rfl,rfl⟩
theorem Z1r (v:Value) (n:Nat) (f:Nat→Int) (w:World) (h:Amts w v n f) (hn:n≤4294967296) :
 Calls Tryz.prog 18 #[v] w fun r w' =>r = .returned (.tuple #[.int .u64 (addV f n), .bool (Z3p f n)])∧w=w' :=by
 have H :=Hd h
 obtain ⟨⟨a,cap,rfl,_⟩,_⟩ :=h
 by_cases hov:sumF f n≤maxU
 ·have e1:addV f n=sumF f n :=if_pos hov
  have e2:Z3p f n=true :=by unfold Z3p; simp [hov]
  have e3:(if sumF f n≤maxU then sumF f n else maxU)=sumF f n :=if_pos hov
  have hs :=Z7f _ n f w H.out hn
  rw [e3,e2] at hs
  rw [e1,e2]
  generalize sumF f n=S at *
  have HS :=Hd hs
  clear hs e1 e2 e3 hov
  go_enter Tryz.func18,Tryz.ntmps18
  go_wp2_with fail
  refine HS.out.mono ?_
  rintro r w' ⟨rfl,rfl⟩
  go_wp2
  go_ret2
  exact ⟨rfl,rfl⟩
 ·have e1:addV f n=0 :=if_neg hov
  have e2:Z3p f n=false :=by unfold Z3p; simp [hov]
  have e3:(if sumF f n≤maxU then sumF f n else maxU)=maxU :=if_neg hov
  have hs :=Z7f _ n f w H.out hn
  rw [e3,e2] at hs
  rw [e1,e2]
  have HS :=Hd hs
  clear hs e1 e2 e3 hov
  go_enter Tryz.func18,Tryz.ntmps18
  go_wp2_with fail
  refine HS.out.mono ?_
  rintro r w' ⟨rfl,rfl⟩
  go_wp2
  go_ret2
  exact ⟨rfl,rfl⟩
end Go.Proofs.YtecapfmmoejikaaGreat
namespace Go.Eg
def posN (n at0 j:Nat):Nat :=(at0+j) % n
def Z35 (rdy:Nat→Bool) (n at0 k:Nat):List Nat :=((List.range k).map (posN n at0)).filter rdy
theorem Z71 (rdy:Nat→Bool) (n at0:Nat):Z35 rdy n at0 0 = [] :=rfl
theorem Za7 (rdy:Nat→Bool) (n at0 k:Nat):Z35 rdy n at0 (k+1)=Z35 rdy n at0 k ++ if rdy (posN n at0 k)=true then [posN n at0 k] else [] :=by
 unfold Z35
 rw [List.range_succ,List.map_append,List.filter_append]
 simp only [List.map_cons,List.map_nil,List.filter_cons,List.filter_nil]
theorem Zb7 (rdy:Nat→Bool) (n at0 k:Nat):(Z35 rdy n at0 k).length≤k :=by
 unfold Z35
 exact Nat.le_trans (List.length_filter_le _ _) (by simp)
def vis (rdy:Nat→Bool) (n at0 pays:Nat):Nat→Nat→Nat
 | 0,k =>k
 | f+1,k =>if (Z35 rdy n at0 k).length=pays then k else vis rdy n at0 pays f (k+1)
theorem Z91 (rdy:Nat→Bool) (n at0 pays:Nat):∀ f k,k≤vis rdy n at0 pays f k∧vis rdy n at0 pays f k≤k+f
 | 0,k =>⟨Nat.le_refl _,Nat.le_refl _⟩
 | f+1,k =>by
  have :=Z91 rdy n at0 pays f (k+1)
  rw [vis]
  split <;> omega
theorem Zf8 (rdy:Nat→Bool) (n at0 pays:Nat):∀ f k,(Z35 rdy n at0 k).length≤pays→(Z35 rdy n at0 (vis rdy n at0 pays f k)).length≤pays
 | 0,k,h =>h
 | f+1,k,h =>by
  rw [vis]
  split
  ·exact h
  ·refine Zf8 rdy n at0 pays f (k+1) ?_
   rw [Za7]
   split
   ·simp; omega
   ·simp; omega
def Z1o (rdy:Nat→Bool) (n:Nat) (at0:Nat) (visits pays:Int):Nat :=
 if n=0∨visits<1∨pays<1 then 0 else vis rdy n at0 pays.toNat (min visits.toNat n) 0
def Z34 (rdy:Nat→Bool) (n:Nat) (at0:Nat) (visits pays:Int):List Nat :=Z35 rdy n at0 (Z1o rdy n at0 visits pays)
def Z6p (rdy:Nat→Bool) (n:Nat) (at0:Nat) (visits pays:Int):Nat :=
 if n=0∨visits<1∨pays<1 then at0 else posN n at0 (Z1o rdy n at0 visits pays)
theorem Z4c (rdy:Nat→Bool) (n at0:Nat) (visits pays:Int):Z1o rdy n at0 visits pays≤n∧(Z1o rdy n at0 visits pays:Int)≤max visits 0 :=by
 unfold Z1o
 split
 ·omega
 ·have :=Z91 rdy n at0 pays.toNat (min visits.toNat n) 0
  omega
theorem Zh8 (rdy:Nat→Bool) (n at0:Nat) (visits pays:Int):(Z34 rdy n at0 visits pays).length≤Z1o rdy n at0 visits pays :=Zb7 _ _ _ _
theorem Ze0 (rdy:Nat→Bool) (n at0:Nat) (visits pays:Int):((Z34 rdy n at0 visits pays).length:Int)≤max pays 0 :=by
 unfold Z34
 by_cases h:n=0∨visits<1∨pays<1
 ·have:Z1o rdy n at0 visits pays=0 :=by unfold Z1o; rw [if_pos h]
  rw [this,Z71]
  simp
  omega
 ·have e:Z1o rdy n at0 visits pays=vis rdy n at0 pays.toNat (min visits.toNat n) 0 :=by unfold Z1o; rw [if_neg h]
  rw [e]
  have :=Zf8 rdy n at0 pays.toNat (min visits.toNat n) 0 (by rw [Z71]; simp)
  omega
theorem Zdm {n:Nat} (at0 j:Nat) (h:0<n):posN n at0 j<n :=Nat.mod_lt _ h
theorem Z9d (n at0 j:Nat):(posN n at0 j+1) % n=posN n at0 (j+1) :=by
 unfold posN
 rw [Nat.mod_add_mod]
 rfl
end Go.Eg
namespace Go.Proofs.YtecapfmmoejikaaGreat
open Go.RowKit Go.Eg
abbrev curB (x:Nat):Obj := .cells #[.int .i64 (x:Int)] 138 (0,0)
theorem Zfw (w:World) :
 Calls Tryz.prog 29 #[] w fun r w' =>r = .returned (.pointer (some ⟨w.heap.size,0,none⟩))∧w'=w.alloc (curB 0) :=by
 go_enter Tryz.func29,Tryz.ntmps29
 go_wp2
 go_ret
 exact ⟨rfl,rfl⟩
theorem Zi3 (b x:Nat) (w:World) (hb:w.heap[b]? = some (curB x)) :
 Calls Tryz.prog 45 #[.pointer (some ⟨b,0,none⟩)] w fun r w' =>r = .returned (.int .i64 (x:Int))∧w=w' :=by
 have hc :=cell_of_one hb
 go_enter Tryz.func45,Tryz.ntmps45
 go_wp2
 go_ret
 exact ⟨rfl,rfl⟩
theorem Zfs (bp bn b n x:Nat) (w:World) (hp:w.heap[bp]? = some (.cells #[.pointer (some ⟨b,0,none⟩)] 82 (0,0))) (hn:w.heap[bn]? = some (.cells #[.int .i64 (n:Int)] 3 (0,0)))
 (hb:w.heap[b]? = some (curB x)) (h0:0<n) (h1:n≤4294967296) (hx:x≤9223372036854775807) :
 Calls Tryz.prog 214 #[.pointer (some ⟨bp,0,none⟩), .pointer (some ⟨bn,0,none⟩)] w fun r w' =>r = .returned (.int .i64 ((x % n:Nat):Int))∧w'.heap[b]? = some (curB ((x+1) % n))∧Mods (· = b) w w' :=by
 have c1 :=cell_of_one hp
 have c2 :=cell_of_one hn
 have c3 :=cell_of_one hb
 have f3 :=free_of_one hb
 have HB :=Hd hb
 have m0:0≤(x:Int) % n :=Int.emod_nonneg _ (by omega)
 have m1:(x:Int) % n<n :=Int.emod_lt_of_pos _ (by omega)
 have m2:0≤((x:Int) % n+1) % n :=Int.emod_nonneg _ (by omega)
 clear hp hn hb
 go_enter Tryz.func214,Tryz.ntmps214
 go_wp2
 go_quiet (fail)
 go_wp2
 go_region
 all_goals
  go_wp2
  go_ret
  refine ⟨Z0p (Int.natCast_emod x n).symm, ?_,((Mods.refl _ w).drewN _).setCell _ _ fun _ =>rfl⟩
  have :=one_setCell (w :=w.drewN (nq+1)) (u := .int .i64 (((x:Int)+1) % n)) HB.out
  rw [this]
  simp
theorem Zio (b n:Nat) (w:World) :
 Calls Tryz.prog 182 #[.pointer (some ⟨b,0,none⟩), .int .i64 (n:Int)] w fun r w' =>r = .returned (.func (Fn.func 214) #[] #[.pointer (some ⟨w.heap.size,0,none⟩), .pointer (some ⟨w.heap.size+1,0,none⟩)]) ∧
  w'.heap[w.heap.size]? = some (.cells #[.pointer (some ⟨b,0,none⟩)] 82 (0,0))∧w'.heap[w.heap.size+1]? = some (.cells #[.int .i64 (n:Int)] 3 (0,0))∧Z00 w w' :=by
 have hmf:∀ (fn:Fn) (first cap:Array Value) (w:World),(Instr.makeFunc fn first cap).run Tryz.prog w = .ok (.func fn first cap) w :=fun _ _ _ _ =>rfl
 go_enter Tryz.func182,Tryz.ntmps182
 go_wp2
 go_ret
 have e :=heap_alloc_last w (.cells #[.pointer (some ⟨b,0,none⟩)] 82)
 have e2 :=heap_alloc_last (w.alloc (.cells #[.pointer (some ⟨b,0,none⟩)] 82)) (.cells #[.int .i64 (n:Int)] 3)
 exact ⟨rfl,Z02 e _,by simpa using e2,((Mods.refl _ w).alloc _).alloc _⟩
end Go.Proofs.YtecapfmmoejikaaGreat
namespace Go.Eg
open Go Go.RowKit
theorem Zip {w:World} {B B':Nat} {e:TypeId} {size:Nat} {v:Value} {n:Nat} {xs:List Value} (h:w.ownsRow B e size v n xs) (hb:B'≤B):w.ownsRow B' e size v n xs :=by
 obtain ⟨h1,h2⟩ :=h
 rcases h2 with h2 | ⟨g,cap,cur,hv,hg,r⟩
 ·exact ⟨h1, .inl h2⟩
 ·exact ⟨h1, .inr ⟨g,cap,cur,hv,by omega,r⟩⟩
theorem Zga {w:World} {B:Nat} {e:TypeId} {size:Nat} {v:Value} {n:Nat} {xs:List Value} (h:w.ownsRow B e size v n xs):∃ a c,v = .slice a n c :=by
 obtain ⟨h1,h2⟩ :=h
 rcases h2 with ⟨rfl,rfl⟩ | ⟨g,cap,cur,rfl,_⟩
 ·exact ⟨none,0,rfl⟩
 ·exact ⟨_,_,rfl⟩
def curK (n x k:Nat):Nat :=if k=0 then x else posN n x k
theorem Zf4 (n x k:Nat):curK n x k % n=posN n x k :=by
 unfold curK
 split
 ·rename_i h; subst h; rfl
 ·unfold posN; exact Nat.mod_mod _ _
theorem Zk1 (n x k:Nat):(curK n x k+1) % n=curK n x (k+1) :=by
 have:(curK n x k+1) % n=posN n x (k+1) :=by
  rw [← Z9d,← Zf4,Nat.mod_add_mod]
 rw [this]
 unfold curK
 rw [if_neg (by omega)]
def Z6w (l:List Nat):List Value :=l.map fun (i:Nat) =>Value.int .i64 (i:Int)
theorem Zg6 (l:List Nat) (i:Nat):Z6w (l ++ [i])=Z6w l ++ [.int .i64 (i:Int)] :=by simp [Z6w]
end Go.Eg
namespace Go.Proofs.YtecapfmmoejikaaGreat
open Go.RowKit Go.Eg
theorem Zn9:(Tryz.prog.info? 3).map (fun i =>(i.zero,i.size,i.bytes))=some (some (.int .i64 0),1,8) :=by kernel_rfl
def Ints (B:Nat) (w:World) (v:Value) (l:List Nat):Prop :=w.ownsRow B 3 1 v l.length (Z6w l)
theorem Zgx (p:Addr) (v:Value) (n:Nat) (a:Option Addr) (cap:Nat) (visits pays:Int) (w:World) (hv:v = .slice a n cap) (h:n=0∨pays<1) :
 Calls Tryz.prog 120 #[.pointer (some p),v, .int .i64 visits, .int .i64 pays] w fun r w' =>r = .returned (.tuple #[.slice none 0 0, .int .i64 0])∧w=w' :=by
 subst hv
 by_cases h0:n=0
 ·subst h0
  go_enter Tryz.func120,Tryz.ntmps120
  go_wp2
  go_step3
  go_wp2
  try rw [Exit.noGoto_ret]
  go_ret2
  exact ⟨rfl,rfl⟩
 ·have hp:pays<1 :=by omega
  clear h
  go_enter Tryz.func120,Tryz.ntmps120
  go_wp2
  go_step3
  go_wp2
  try rw [Exit.noGoto_ret]
  go_ret2
  exact ⟨rfl,rfl⟩
theorem Zln (w:World) (u:Value) (t:TypeId):∀ (j:Nat) (v:Value),[u][j]? = some v→(w.alloc (.cells #[u] t)).cell? ((⟨w.heap.size,0,none⟩:Addr).add j)=some v :=by
 intro j v hj
 match j,hj with
 | 0,hj =>simp at hj; subst hj; rw [addr_add]; exact cell_of_one (heap_alloc_last _ _)
theorem Zhp {b n x k m p V:Nat} {rdy:Nat→Bool} {w1 w2:World} {v:Value} {L:List Nat} (hv:vis rdy n x p (m - (k+1)) (k+1)=V) (hL:Z35 rdy n x (k+1)=L ++ if rdy (posN n x k)=true then [posN n x k] else []) (hr:rdy (posN n x k)=false)
 (hlt:k<m) (hown:w2.ownsRow w1.heap.size 3 1 v L.length (Z6w L)) (hcb:w2.heap[b]? = some (curB (curK n x (k+1)))) (hmd:Mods (· = b) w1 w2) :
 ∃ k':Nat,k'≤m∧Value.int .i64 ((k:Int)+1) = .int .i64 k'∧vis rdy n x p (m - k') k'=V∧w2.ownsRow w1.heap.size 3 1 v (Z35 rdy n x k').length (Z6w (Z35 rdy n x k'))∧w2.heap[b]? = some (curB (curK n x k'))∧Mods (· = b) w1 w2 :=by
 refine ⟨k+1,hlt,by go_num,hv, ?_,hcb,hmd⟩
 rw [hL,hr]
 simpa using hown
theorem Zig {b n x k m p V:Nat} {rdy:Nat→Bool} {w w1 w2 w3:World} {v v':Value} {L:List Nat} {o:Obj} (hv:vis rdy n x p (m - (k+1)) (k+1)=V) (hL:Z35 rdy n x (k+1)=L ++ if rdy (posN n x k)=true then [posN n x k] else []) (hr:rdy (posN n x k)=true)
 (hlt:k<m) (hown:w3.ownsRow w1.heap.size 3 1 v' (L.length+1) (Z6w L ++ [.int .i64 ((posN n x k:Nat):Int)])) (hcb:w2.heap[b]? = some (curB (curK n x (k+1)))) (hmd:Mods (· = b) w1 w2) (hg:(w2.alloc o).grownBy w3 v.ownBlock)
 (ho:w2.ownsRow w1.heap.size 3 1 v L.length (Z6w L)) (hb:b<w.heap.size) (hs:w.heap.size≤w1.heap.size) :
 ∃ k':Nat,k'≤m∧Value.int .i64 ((k:Int)+1) = .int .i64 k'∧vis rdy n x p (m - k') k'=V∧w3.ownsRow w1.heap.size 3 1 v' (Z35 rdy n x k').length (Z6w (Z35 rdy n x k'))∧w3.heap[b]? = some (curB (curK n x k'))∧Mods (· = b) w1 w3 :=by
 refine ⟨k+1,hlt,by go_num,hv, ?_, ?_, ?_⟩
 ·rw [hL,hr,if_pos rfl,Zg6]
  simpa using hown
 ·rw [hg.block b (by have :=Z0a hcb; simp; omega) (fun e =>by have :=(ho.lt b e.symm).1; omega)]
  exact Z02 hcb _
 ·exact (hmd.alloc o).grown hg fun j hj e =>by have :=(ho.lt j e).1; omega
theorem Z5r {b n x k:Nat} {rdy:Nat→Bool} {w w1 wr:World} {v:Value} {L:List Nat} (hk:Z00 w w1) (hown:wr.ownsRow w1.heap.size 3 1 v L.length (Z6w L)) (hcb:wr.heap[b]? = some (curB (curK n x k)))
 (hmd:Mods (· = b) w1 wr) (hL:Z35 rdy n x k=L) (hs:w.heap.size≤w1.heap.size):Ints w.heap.size wr v (Z35 rdy n x k)∧wr.heap[b]? = some (curB (curK n x k))∧Mods (· = b) w wr :=by
 subst hL
 exact ⟨Zip hown hs,hcb,(Mods.weaken hk fun _ _ h =>h.elim).trans hmd⟩
theorem Zh4 (b x n rb ro cap p:Nat) (rdy:Nat→Bool) (visits:Int) (w:World) (hb:w.heap[b]? = some (curB x)) (hx:x≤4294967296) (h0:0<n) (h1:n≤4294967296) (hp:0<p)
 (hr:∀ j,j<n→w.cell? ⟨rb,ro+j,none⟩=some (.bool (rdy j))) (hrb:rb≠b) (m:Nat) (hm:m=min visits.toNat n) :
 Calls Tryz.prog 120 #[.pointer (some ⟨b,0,none⟩), .slice (some ⟨rb,ro,none⟩) n cap, .int .i64 visits, .int .i64 (p:Int)] w fun r w' => ∃ v,r = .returned (.tuple #[v, .int .i64 (vis rdy n x p m 0:Nat)]) ∧
  Ints w.heap.size w' v (Z35 rdy n x (vis rdy n x p m 0))∧w'.heap[b]? = some (curB (curK n x (vis rdy n x p m 0)))∧Mods (· = b) w w' :=by
 have HR :=Hd hr
 have HV :=Hd (rfl:vis rdy n x p m 0=vis rdy n x p m 0)
 have HM :=Hd hm
 have hbl :=Z0a hb
 have hn0:((n:Int) == 0)=false :=by simp; omega
 have hp0:decide ((p:Int)<1)=false :=by simp; omega
 obtain ⟨i0,hi,hz0,hz1,hz2⟩ :=info_parts Zn9
 clear hr hm
 generalize hVg:vis rdy n x p m 0=V at HV ⊢
 clear HV
 have HV :=Hd hVg
 clear hVg
 go_enter Tryz.func120,Tryz.ntmps120
 go_wp2
 go_step3
 go_wp2_with fail
 refine (Zio b n w).mono ?_
 rintro r w1 ⟨rfl,hbp,hbn,hk1⟩
 have hb1 :=hk1.at hb (by simp)
 have hbp1 :=Z0a hbp
 have hbn1 :=Z0a hbn
 have HBP :=Hd hbp
 have HBN :=Hd hbn
 have HB1 :=Hd hb1
 have HK1 :=Hd hk1
 have hs1 :=hk1.size
 clear hb hb1 hbp hbn hk1
 go_wp2_with fail
 go_step3
 go_wp2_with fail
 go_loopw [12,13] (fun v i wr => ∃ k:Nat,k≤m∧i = .int .i64 k∧vis rdy n x p (m - k) k=V∧wr.ownsRow w1.heap.size 3 1 v (Z35 rdy n x k).length (Z6w (Z35 rdy n x k))∧wr.heap[b]? = some (curB (curK n x k))∧Mods (· = b) w1 wr) (fun _ i _ =>m - (intOf i).toNat)
 case atStart =>exact ⟨0,Nat.zero_le _,rfl,HV.out,World.ownsRow_nil _ _ _ _,HB1.out,Mods.refl _ _⟩
 case round =>
  obtain ⟨k,hk,rfl,hvis,hown,hcb,hmd⟩ :=hrel
  have hmn:m≤n :=by rw [HM.out]; omega
  have hL :=Zb7 rdy n x k
  have hLs :=Za7 rdy n x k
  generalize hLg:Z35 rdy n x k=L at *
  obtain ⟨va,vc,rfl⟩ :=Zga hown
  by_cases hlt:k<m
  ·have hv:(k:Int)<visits :=by rw [HM.out] at hlt; omega
   have hkn:k<n :=by omega
   have hvs:vis rdy n x p (m - k) k=if L.length=p then k else vis rdy n x p (m - (k+1)) (k+1) :=by
    rw [show m - k=(m - (k+1))+1 from by omega,vis,hLg]
   by_cases hfull:L.length=p
   ·have hf1:((L.length:Int) == (p:Int))=true :=by simp; omega
    have hVk:V=k :=by rw [← hvis,hvs,if_pos hfull]
    have HVK :=Hd hVk
    have HLG :=Hd hLg
    clear hVk hvis hvs hLs hfull hLg
    by_cases hnv:(n:Int)<visits
    all_goals
     go_wp2
     try rw [Exit.noGoto_ret]
     go_ret2
     refine ⟨_,ret2 rfl (by rw [HVK.out]; rfl), ?_⟩
     rw [HVK.out]
     exact Z5r HK1.out hown hcb hmd HLG.out hs1
   ·have hf1:((L.length:Int) == (p:Int))=false :=by simp; omega
    have hbp :=hmd.at HBP.out (by omega)
    have hbn :=hmd.at HBN.out (by omega)
    have hv2:vis rdy n x p (m - (k+1)) (k+1)=V :=by rw [← hvis,hvs,if_neg hfull]
    have HV2 :=Hd hv2
    have HLS :=Hd hLs
    have HLG :=Hd hLg
    have hcl:curK n x k≤9223372036854775807 :=by
     unfold curK
     split
     ·omega
     ·have :=Zdm (n :=n) x k (by omega); omega
    have hpn :=Zdm (n :=n) x k (by omega)
    have hcell :=((Mods.weaken HK1.out fun _ _ h =>h.elim).trans hmd).cell (p :=⟨rb,ro+posN n x k,none⟩) (HR.out _ hpn) hrb
    clear hv2 hvis hvs hLs hfull hLg
    by_cases hnv:(n:Int)<visits
    all_goals
     go_wp2_with fail
     refine (Zfs w.heap.size (w.heap.size+1) b n (curK n x k) _ hbp hbn hcb (by omega) h1 hcl).mono ?_
     rw [Zf4,Zk1]
     rintro r w2 ⟨rfl,hcb2,hmd2⟩
     have hcell2 :=hmd2.cell hcell hrb
     have hown2 :=hmd2.owns hown (fun j hj e =>by have :=(hown.lt _ hj).1; omega)
     have hmd3 :=hmd.trans hmd2
     clear hcell hown hmd hmd2 hcb hbp hbn
     have hlt2:w1.heap.size≤w2.heap.size :=hmd3.size
     cases hrd:rdy (posN n x k)
     ·rw [hrd] at hcell2
      have HRD :=Hd hrd
      clear hrd
      go_wp2
      go_roundw
      case rel =>exact Zhp HV2.out HLS.out HRD.out hlt hown2 hcb2 hmd3
      case measure =>simp [intOf]; omega
     ·rw [hrd] at hcell2
      have HRD :=Hd hrd
      clear hrd
      go_wp2_with (at_builtin; refine wpList_append_own _ rfl _ _ 37 rfl w1.heap.size 3 i0 (.int .i64 0) 1 8 Tryz.underlying37 hi hz0 hz1 hz2 rfl (by decide) _ _ _ rfl (hown2.alloc _) ⟨w2.heap.size,0,none⟩ 1 1 [.int .i64 ((posN n x k:Nat):Int)] rfl rfl (Zln _ _ _) (fun u hu =>by simp at hu; subst hu; rfl) (by unfold maxLen; omega) (by omega) (by simp; omega) ?_)
      intro v' w3 hown3 hgrow _
      go_wp2
      go_roundw
      case rel =>exact Zig HV2.out HLS.out HRD.out hlt hown3 hcb2 hmd3 hgrow hown2 hbl hs1
      case measure =>simp [intOf]; omega
  ·have hle:(n:Int)<visits→n≤k :=by rw [HM.out] at hlt; omega
   have hle2 : ¬ (n:Int)<visits→visits≤k :=by rw [HM.out] at hlt; omega
   have hVk:V=k :=by rw [← hvis,show m - k=0 from by omega,vis]
   have HVK :=Hd hVk
   have HLG :=Hd hLg
   clear hVk hvis hLs hLg
   by_cases hnv:(n:Int)<visits
   ·have :=hle hnv
    clear hle hle2
    go_wp2
    try rw [Exit.noGoto_ret]
    go_ret2
    refine ⟨_,ret2 rfl (by rw [HVK.out]; rfl), ?_⟩
    rw [HVK.out]
    exact Z5r HK1.out hown hcb hmd HLG.out hs1
   ·have :=hle2 hnv
    clear hle hle2
    go_wp2
    try rw [Exit.noGoto_ret]
    go_ret2
    refine ⟨_,ret2 rfl (by rw [HVK.out]; rfl), ?_⟩
    rw [HVK.out]
    exact Z5r HK1.out hown hcb hmd HLG.out hs1
theorem sweep_any (b x n:Nat) (rdy:Nat→Bool) (rv:Value) (visits pays:Int) (w:World) (hb:w.heap[b]? = some (curB x)) (hx:x≤4294967296) (h1:n≤4294967296)
 (hr:Z9s w rv n rdy) (hrb:0<n→rv.ownBlock≠some b) :
 Calls Tryz.prog 120 #[.pointer (some ⟨b,0,none⟩),rv, .int .i64 visits, .int .i64 pays] w fun r w' => ∃ v,r = .returned (.tuple #[v, .int .i64 (Z1o rdy n x visits pays:Nat)]) ∧
  Ints w.heap.size w' v (Z34 rdy n x visits pays)∧w'.heap[b]? = some (curB (Z6p rdy n x visits pays))∧Mods (· = b) w w' :=by
 by_cases hz:n=0∨pays<1
 ·have h3:n=0∨visits<1∨pays<1 :=by omega
  have hV:Z1o rdy n x visits pays=0 :=if_pos h3
  have hA:Z6p rdy n x visits pays=x :=if_pos h3
  obtain ⟨a,cap,hsl⟩ :=hr.slice
  refine (Zgx ⟨b,0,none⟩ rv n a cap visits pays w hsl hz).mono ?_
  rintro r w' ⟨rfl,rfl⟩
  refine ⟨_,by rw [hV]; rfl, ?_,by rw [hA]; exact hb,Mods.refl _ _⟩
  unfold Z34
  rw [hV]
  exact World.ownsRow_nil _ _ _ _
 ·obtain ⟨av,cap,rfl,hr⟩ :=hr
  obtain ⟨rb,ro,rfl,hrc⟩ :=hr (by omega)
  ·obtain ⟨p,rfl⟩:∃ p:Nat,pays=p :=⟨pays.toNat,by omega⟩
   refine (Zh4 b x n rb ro cap p rdy visits w hb hx (by omega) h1 (by omega) hrc (fun e =>hrb (by omega) (by rw [e]; rfl)) _ rfl).mono ?_
   rintro r w' ⟨v,rfl,hi,hc,hm⟩
   have hV:Z1o rdy n x visits p=vis rdy n x p (min visits.toNat n) 0 :=by
    unfold Z1o
    split
    ·rename_i h
     rw [show min visits.toNat n=0 from by omega]
     rfl
    ·rw [Int.toNat_natCast]
   have hA:curK n x (vis rdy n x p (min visits.toNat n) 0)=Z6p rdy n x visits p :=by
    unfold Z6p
    rw [← hV]
    unfold curK
    by_cases h:n=0∨visits<1∨(p:Int)<1
    ·rw [if_pos h,if_pos (by unfold Z1o; rw [if_pos h])]
    ·have hpos:1≤Z1o rdy n x visits p :=by
      have e:min visits.toNat n=(min visits.toNat n - 1)+1 :=by omega
      rw [hV,e,vis,if_neg (by rw [Z71]; simp; omega)]
      exact (Z91 _ _ _ _ _ _).1
     rw [if_neg h,if_neg (by omega)]
   refine ⟨v,by rw [hV], ?_,by rw [← hA]; exact hc,hm⟩
   unfold Z34
   rw [hV]
   exact hi
end Go.Proofs.YtecapfmmoejikaaGreat
