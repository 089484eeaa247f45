/- A part of the proofs of the top laws: Rfn Rfo. -/
import Derived.RangeFuncNested
import Derived.RangeFuncLeaves
import Derived.RangeFuncCalls
import Derived.Test.YtecapfmmoejikaaGreatPkAb
set_option maxRecDepth 4000
set_option maxHeartbeats 8000000
namespace Go.Eg
open Go Go.RowKit
theorem Mods.putObj {S:Nat→Prop} {a b:World} (h:Mods S a b) (l:Nat) (o:Obj) (hl:l<a.heap.size→S l):Mods S a (b.putObj l o) :=
 h.grown (grownBy_putObj' b l o) fun k hk e =>by cases e; exact hl hk
def Zf0 {α:Type} (P:Program) (gf:Nat) (lb:Array Value) (encs:α→Array Value) (T U:Nat→Prop) (X:List α→α→Prop) (S:List α→Prop) (B:Nat) (w:World):Prop :=
 ∀ (l:Nat) (J:List α→World→Prop) (W:World),Z00 w W→W.heap.size=w.heap.size+2 →
  (∀ s A A',J s A→Mods T A A'→J s A') →
  (∀ pre x W1,J pre W1→B≤W1.heap.size→X pre x→YieldAt Fence.wide 8 P l (encs x) W1 fun e W' =>e = .returned (.bool true)∧J (pre ++ [x]) W'∧Mods U W1 W') →
  J [] W→CallsIn Fence.wide 9 P gf (#[.func (.yield l) #[] #[]] ++ lb) W fun e W' =>(∃ v,e = .returned v)∧∃ xs,S xs∧J xs W'
theorem Z8y {α:Type} {P:Program} {g:Operand} {ps:Array Tmp} {assign body:Code} {Q:Exit→Act→World→Prop} {a:Act} {w:World}
 {gf:Nat} {lb:Array Value} (hg:a.eval g = .func (.func gf) #[] lb) (eg:∀ args w,(callFunc gf args).run P w = .ok (.enter gf args) w)
 {encs:α→Array Value} (hps:∀ x,(encs x).size=ps.size) (T U:Nat→Prop) {X:List α→α→Prop} {S:List α→Prop} {B:Nat}
 (hT : ¬ T w.heap.size∧¬ T (w.heap.size+1)) (hU:U (w.heap.size+1)) (hit:Zf0 P gf lb encs T U X S B w)
 (V:Nat→Prop) (hVU:∀ i,V i→U i) (hV : ¬ V w.heap.size∧¬ V (w.heap.size+1))
 (I:List α→World→Prop) (hI:∀ s A A',I s A→Mods (fun i =>T i∨i=w.heap.size+1) A A'→I s A') (h0:∀ W,Z00 w W→W.heap.size=w.heap.size+2→I [] W) (a₁:α→Act)
 (hassign:∀ (l:Nat) (x:α) (W:World) (K:Act→World→Prop),K (a₁ x) W →
  assign.wpIn (Fence.wide.inRound l) 8 P (Exit.then K (fun _ _ _ =>False)) { tmps :=(ps.zip (encs x)).foldl (fun t (p,v) =>t.setIfInBounds p v) a.tmps,defers := [] } W)
 (hbody:∀ (l:Nat) (pre:List α) (x:α) (W:World),I pre W→B≤W.heap.size→X pre x→body.wpIn (Fence.wide.inRound l) 8 P (fun e _ W' =>e = .normal∧Mods V W W'∧I (pre ++ [x]) W') (a₁ x) W)
 (hdone:∀ (xs:List α) (W:World),S xs→I xs W→W.heap[w.heap.size]? = some (.deferred (some []))→Q .normal { a with defers := { target := .collected w.heap.size,args := #[] } :: a.defers } W) :
 (Code.rangeFunc g ps assign body).wpIn Fence.wide 10 P Q a w :=by
 refine wpIn_rangeFunc ?_
 intro fn hfn
 obtain ⟨rec,hrec⟩:∃ rec:LoopState→Option Code→Loop,rec=fun st pe => { state :=st,pending :=pe,fn,tmps :=a.tmps,params :=ps,assign,body,defers :=w.heap.size } := ⟨_,rfl⟩
 obtain ⟨W1,hW1⟩:∃ W1,(w.alloc (.deferred (some []))).alloc (.loop (rec .ready none))=W1 :=⟨_,rfl⟩
 have hL1:W1.heap[w.heap.size+1]? = some (.loop (rec .ready none)) :=by
  rw [← hW1]; have :=World.alloc_heap_new (w.alloc (.deferred (some []))) (.loop (rec .ready none)); rwa [World.size_alloc] at this
 have hK1:W1.heap[w.heap.size]? = some (.deferred (some [])) :=by
  rw [← hW1]; exact (Below.heap_alloc _ _ _ (by simp)).trans (World.alloc_heap_new w _)
 have hkeep:Z00 w W1 :=by rw [← hW1]; exact ((Mods.refl _ w).alloc _).alloc _
 have hsz:W1.heap.size=w.heap.size+2 :=by rw [← hW1,World.size_alloc,World.size_alloc]
 refine ⟨w.heap.size+1,[{ target := .collected w.heap.size,args := #[] }],W1,{ target := .fn (.func gf) lb,args := #[.func (.yield (w.heap.size+1)) #[] #[]] },W1,gf,
  #[.func (.yield (w.heap.size+1)) #[] #[]] ++ lb,W1, ?_, ?_, ?_, ?_,fun h =>by simp [Fence.wide] at h, ?_⟩
 ·rw [← hW1,hrec]; exact run_enterLoop_outer _ _ _ _ _
 ·simp only [resolve,hg]
  simp [go_sem]
 ·intro f' _; trivial
 ·simp [invoke,go_sem,eg]
 ·refine (hit (w.heap.size+1)
   (fun pre W =>I pre W∧W.heap[w.heap.size+1]? = some (.loop (rec .ready none))∧W.heap[w.heap.size]? = some (.deferred (some [])))
   W1 hkeep hsz (fun s A A' hs hm =>⟨hI s A A' hs.1 (hm.weaken fun i _ h =>.inl h),hm.at hs.2.1 hT.2,hm.at hs.2.2 hT.1⟩) ?_ ⟨h0 W1 hkeep hsz,hL1,hK1⟩).mono ?_
  ·rintro pre x W ⟨hi,hl,hk⟩ hB hX
   have hlt:w.heap.size+1<W.heap.size :=(Array.getElem?_eq_some_iff.1 hl).1
   have hy :=run_yield (P :=P) (args :=encs x) hl (by rw [hrec]; exact hps x)
   rw [hrec] at hy
   refine ⟨fn,_,assign,body,hy,roundIn_of_wpIn hfn (hassign _ x W _ ⟨_,run_beginRound hl (by rw [hrec]), ?_⟩)⟩
   have hm2:Mods (fun i =>i=w.heap.size+1) W (W.putObj (w.heap.size+1) (.loop { rec .ready none with state := .busy })) :=(Mods.refl _ W).putObj _ _ fun _ =>rfl
   have hl2:(W.putObj (w.heap.size+1) (.loop { rec .ready none with state := .busy })).heap[w.heap.size+1]? = some (.loop { rec .ready none with state := .busy }) :=World.putObj_heap_same hlt
   have hk2:(W.putObj (w.heap.size+1) (.loop { rec .ready none with state := .busy })).heap[w.heap.size]? = some (.deferred (some [])) :=(World.putObj_heap_other (by omega)).trans hk
   refine wpIn_mono (hbody _ pre x _ (hI _ _ _ hi (hm2.weaken fun i _ h =>.inr h)) (Nat.le_trans hB hm2.size) hX) ?_
   rintro e a3 W3 ⟨rfl,hm3,hi3⟩
   have hl3 :=hm3.at hl2 hV.2
   have hk3 :=hm3.at hk2 hV.1
   have hr :=run_endRound (P :=P) none hl3
   rw [hrec] at hr
   have hm4:Mods (fun i =>i=w.heap.size+1) W3 (W3.putObj (w.heap.size+1) (.loop (rec .ready none))) :=(Mods.refl _ W3).putObj _ _ fun _ =>rfl
   refine ⟨_,_,hr,rfl,⟨?_, ?_, ?_⟩, ?_⟩
   ·rw [hrec] at hm4
    exact hI _ _ _ hi3 (hm4.weaken fun i _ h =>.inr h)
   ·rw [hrec]
    exact World.putObj_heap_same (Array.getElem?_eq_some_iff.1 hl3).1
   ·exact (World.putObj_heap_other (by omega)).trans hk3
   ·rw [hrec] at hm4
    exact ((hm2.weaken fun i _ h =>by rw [h]; exact hU).trans (hm3.weaken fun i _ h =>hVU i h)).trans (hm4.weaken fun i _ h =>by rw [h]; exact hU)
  ·rintro e W2 ⟨⟨v,rfl⟩,xs,hS,hi,hl,hk⟩
   refine ⟨none,_,by have :=run_endLoop (P :=P) hl (by rw [hrec]; simp); rw [hrec] at this; exact this,hdone xs _ hS ?_ ((World.putObj_heap_other (by omega)).trans hk)⟩
   exact hI _ _ _ hi ((Mods.refl _ W2).putObj _ _ fun _ =>.inr rfl)
theorem Z81 {α:Type} {P:Program} {g:Operand} {ps:Array Tmp} {assign body:Code} {Q:Exit→Act→World→Prop} {a:Act} {w:World}
 {gf:Nat} {lb:Array Value} (hg:a.eval g = .func (.func gf) #[] lb) (eg:∀ args w,(callFunc gf args).run P w = .ok (.enter gf args) w)
 {encs:α→Array Value} (hps:∀ x,(encs x).size=ps.size) (T U:Nat→Prop) {X:List α→α→Prop} {S:List α→Prop} {B:Nat}
 (hT : ¬ T w.heap.size∧¬ T (w.heap.size+1)) (hU:U (w.heap.size+1)) (hit:Zf0 P gf lb encs T U X S B w)
 (V:Nat→Prop) (hVU:∀ i,V i→U i) (hV : ¬ V w.heap.size∧¬ V (w.heap.size+1))
 (I:List α→World→Prop) (hI:∀ s A A',I s A→Mods (fun i =>T i∨i=w.heap.size+1) A A'→I s A') (h0:∀ W,Z00 w W→W.heap.size=w.heap.size+2→I [] W) (Q1:List α→α→Act→World→Prop)
 (hQ:∀ pre x a1 A A',Q1 pre x a1 A→Mods (fun i =>i=w.heap.size+1) A A'→Q1 pre x a1 A')
 (hassign:∀ (l:Nat) (pre:List α) (x:α) (W:World) (K:Act→World→Prop),I pre W→B≤W.heap.size→X pre x→(∀ a1 Wa,Z00 W Wa→Q1 pre x a1 Wa→K a1 Wa) →
  assign.wpIn (Fence.wide.inRound l) 8 P (Exit.then K (fun _ _ _ =>False)) { tmps :=(ps.zip (encs x)).foldl (fun t (p,v) =>t.setIfInBounds p v) a.tmps,defers := [] } W)
 (hbody:∀ (l:Nat) (pre:List α) (x:α) (a1:Act) (W:World),Q1 pre x a1 W→B≤W.heap.size→body.wpIn (Fence.wide.inRound l) 8 P (fun e _ W' =>e = .normal∧Mods V W W'∧I (pre ++ [x]) W') a1 W)
 (hdone:∀ (xs:List α) (W:World),S xs→I xs W→W.heap[w.heap.size]? = some (.deferred (some []))→Q .normal { a with defers := { target := .collected w.heap.size,args := #[] } :: a.defers } W) :
 (Code.rangeFunc g ps assign body).wpIn Fence.wide 10 P Q a w :=by
 refine wpIn_rangeFunc ?_
 intro fn hfn
 obtain ⟨rec,hrec⟩:∃ rec:LoopState→Option Code→Loop,rec=fun st pe => { state :=st,pending :=pe,fn,tmps :=a.tmps,params :=ps,assign,body,defers :=w.heap.size } := ⟨_,rfl⟩
 obtain ⟨W1,hW1⟩:∃ W1,(w.alloc (.deferred (some []))).alloc (.loop (rec .ready none))=W1 :=⟨_,rfl⟩
 have hL1:W1.heap[w.heap.size+1]? = some (.loop (rec .ready none)) :=by
  rw [← hW1]; have :=World.alloc_heap_new (w.alloc (.deferred (some []))) (.loop (rec .ready none)); rwa [World.size_alloc] at this
 have hK1:W1.heap[w.heap.size]? = some (.deferred (some [])) :=by
  rw [← hW1]; exact (Below.heap_alloc _ _ _ (by simp)).trans (World.alloc_heap_new w _)
 have hkeep:Z00 w W1 :=by rw [← hW1]; exact ((Mods.refl _ w).alloc _).alloc _
 have hsz:W1.heap.size=w.heap.size+2 :=by rw [← hW1,World.size_alloc,World.size_alloc]
 refine ⟨w.heap.size+1,[{ target := .collected w.heap.size,args := #[] }],W1,{ target := .fn (.func gf) lb,args := #[.func (.yield (w.heap.size+1)) #[] #[]] },W1,gf,
  #[.func (.yield (w.heap.size+1)) #[] #[]] ++ lb,W1, ?_, ?_, ?_, ?_,fun h =>by simp [Fence.wide] at h, ?_⟩
 ·rw [← hW1,hrec]; exact run_enterLoop_outer _ _ _ _ _
 ·simp only [resolve,hg]
  simp [go_sem]
 ·intro f' _; trivial
 ·simp [invoke,go_sem,eg]
 ·refine (hit (w.heap.size+1)
   (fun pre W =>I pre W∧W.heap[w.heap.size+1]? = some (.loop (rec .ready none))∧W.heap[w.heap.size]? = some (.deferred (some [])))
   W1 hkeep hsz (fun s A A' hs hm =>⟨hI s A A' hs.1 (hm.weaken fun i _ h =>.inl h),hm.at hs.2.1 hT.2,hm.at hs.2.2 hT.1⟩) ?_ ⟨h0 W1 hkeep hsz,hL1,hK1⟩).mono ?_
  ·rintro pre x W ⟨hi,hl,hk⟩ hB hX
   have hlt:w.heap.size+1<W.heap.size :=(Array.getElem?_eq_some_iff.1 hl).1
   have hy :=run_yield (P :=P) (args :=encs x) hl (by rw [hrec]; exact hps x)
   rw [hrec] at hy
   refine ⟨fn,_,assign,body,hy,roundIn_of_wpIn hfn (hassign _ pre x W _ hi hB hX fun a1 Wa hka hq1 =>?_)⟩
   have hl :=hka.at hl fun h =>h
   have hk :=hka.at hk fun h =>h
   have hB :=Nat.le_trans hB hka.size
   have hlt :=Nat.lt_of_lt_of_le hlt hka.size
   refine ⟨_,run_beginRound hl (by rw [hrec]), ?_⟩
   have hm2:Mods (fun i =>i=w.heap.size+1) Wa (Wa.putObj (w.heap.size+1) (.loop { rec .ready none with state := .busy })) :=(Mods.refl _ Wa).putObj _ _ fun _ =>rfl
   have hl2:(Wa.putObj (w.heap.size+1) (.loop { rec .ready none with state := .busy })).heap[w.heap.size+1]? = some (.loop { rec .ready none with state := .busy }) :=World.putObj_heap_same hlt
   have hk2:(Wa.putObj (w.heap.size+1) (.loop { rec .ready none with state := .busy })).heap[w.heap.size]? = some (.deferred (some [])) :=(World.putObj_heap_other (by omega)).trans hk
   refine wpIn_mono (hbody _ pre x _ _ (hQ _ _ _ _ _ hq1 hm2) (Nat.le_trans hB hm2.size)) ?_
   rintro e a3 W3 ⟨rfl,hm3,hi3⟩
   have hl3 :=hm3.at hl2 hV.2
   have hk3 :=hm3.at hk2 hV.1
   have hr :=run_endRound (P :=P) none hl3
   rw [hrec] at hr
   have hm4:Mods (fun i =>i=w.heap.size+1) W3 (W3.putObj (w.heap.size+1) (.loop (rec .ready none))) :=(Mods.refl _ W3).putObj _ _ fun _ =>rfl
   refine ⟨_,_,hr,rfl,⟨?_, ?_, ?_⟩, ?_⟩
   ·rw [hrec] at hm4
    exact hI _ _ _ hi3 (hm4.weaken fun i _ h =>.inr h)
   ·rw [hrec]
    exact World.putObj_heap_same (Array.getElem?_eq_some_iff.1 hl3).1
   ·exact (World.putObj_heap_other (by omega)).trans hk3
   ·rw [hrec] at hm4
    exact (((hka.weaken fun _ _ h =>h.elim).trans (hm2.weaken fun i _ h =>by rw [h]; exact hU)).trans (hm3.weaken fun i _ h =>hVU i h)).trans (hm4.weaken fun i _ h =>by rw [h]; exact hU)
  ·rintro e W2 ⟨⟨v,rfl⟩,xs,hS,hi,hl,hk⟩
   refine ⟨none,_,by have :=run_endLoop (P :=P) hl (by rw [hrec]; simp); rw [hrec] at this; exact this,hdone xs _ hS ?_ ((World.putObj_heap_other (by omega)).trans hk)⟩
   exact hI _ _ _ hi ((Mods.refl _ W2).putObj _ _ fun _ =>.inr rfl)
end Go.Eg
