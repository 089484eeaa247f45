/- A part of the proof of TopChurn: InvG. -/
import Derived.Test.YtecapfmmoejikaaGreatPkBg
set_option maxRecDepth 4000
set_option maxHeartbeats 8000000
namespace Go.Proofs.YtecapfmmoejikaaGreat
open Go.RowKit Go.Eg
def leaveS (ep:Int):List Vd→Int
 | [] =>0
 | v :: l =>(if v.st=3∧v.ex=ep then v.bal else 0)+leaveS ep l
def leaveV (v:Vd):Vd :=if v.st=3∧v.ex≠-1 then evV 3 v else v
theorem leaves_at {mb ep lx:Int} {q:List Int}:∀ (r:List Int) {vs:List Vd},Core mb ep lx vs q r→∀ j:Nat,j<vs.length→vAt (r.foldl (fun l i =>evL l i.toNat 3) vs) j=leaveV (vAt vs j)
 | [],vs,h,j,hj =>by
  have : ¬ ((vAt vs j).st=3∧(vAt vs j).ex≠-1) :=fun e =>by have :=(h.lvs j).2 ⟨Z5v.2 hj,e.1,e.2⟩; cases this
  rw [leaveV,if_neg this]
  rfl
 | i :: r,vs,h,j,hj =>by
  obtain ⟨hin,h3,hx⟩ :=(h.lvs i).1 List.mem_cons_self
  have ih :=leaves_at r h.leave j (by rw [Z8f]; exact hj)
  obtain ⟨k,rfl,hk⟩ :=Z47 hin
  rw [List.foldl_cons,ih]
  rw [Int.toNat_natCast,Zcj hk,Z46 hk _ (by omega)]
  split
  ·rename_i e
   rw [e]
   have e1 :=Zpr (vAt vs k)
   rw [if_pos h3] at e1
   have u1:leaveV (vAt vs k)=evV 3 (vAt vs k) :=if_pos ⟨h3,hx⟩
   have u2:leaveV (evV 3 (vAt vs k))=evV 3 (vAt vs k) :=if_neg (by rw [e1]; omega)
   rw [u1,u2]
  ·rfl
theorem leaves_map {mb ep lx:Int} {q:List Int} {r:List Int} {vs:List Vd} (h:Core mb ep lx vs q r):r.foldl (fun l i =>evL l i.toNat 3) vs=vs.map leaveV :=by
 have hl :=(Z43 3 r vs).2
 apply List.ext_getElem
 ·rw [hl,List.length_map]
 ·intro j h1 h2
  have hj:j<vs.length :=by rw [hl] at h1; exact h1
  have :=leaves_at r h j hj
  rw [List.getElem_map,← Z2g h1,this,Z2g hj]
theorem leave_act (lx:Int) (h1:lx≠-1):∀ vs:List Vd,(∀ v∈vs,v.st=3→v.ex≠-1→v.ex=lx)→actS (vs.map leaveV)=actS vs - leaveS lx vs
 | [],_ =>rfl
 | v :: vs,h =>by
  have ih :=leave_act lx h1 vs fun x hx =>h x (List.mem_cons_of_mem _ hx)
  have hv :=h v List.mem_cons_self
  have g1:actS ((v :: vs).map leaveV)=(if (leaveV v).live=true then (leaveV v).bal else 0)+actS (vs.map leaveV) :=rfl
  have g2:actS (v :: vs)=(if v.live=true then v.bal else 0)+actS vs :=rfl
  have g3:leaveS lx (v :: vs)=(if v.st=3∧v.ex=lx then v.bal else 0)+leaveS lx vs :=rfl
  rw [g1,g2,g3,ih]
  by_cases e:v.st=3∧v.ex≠-1
  ·have e2 :=hv e.1 e.2
   have e1 :=Zpr v
   rw [if_pos e.1] at e1
   have l1:v.live=true :=by unfold Vd.live; rw [e.1]; rfl
   have l2:(leaveV v).live=false :=by unfold leaveV; rw [if_pos e]; unfold Vd.live; rw [e1]; rfl
   rw [if_pos l1,if_neg (show ¬ (leaveV v).live=true by rw [l2]; simp),if_pos ⟨e.1,e2⟩]
   omega
  ·have e3 : ¬ (v.st=3∧v.ex=lx) :=fun e2 =>e ⟨e2.1,by omega⟩
   have:leaveV v=v :=if_neg e
   rw [if_neg e3,this]
   omega
theorem leave_nonneg (ep:Int):∀ vs:List Vd,(∀ v∈vs,0≤v.bal)→0≤leaveS ep vs∧leaveS ep vs≤actS vs
 | [],_ =>⟨Int.le_refl _,Int.le_refl _⟩
 | v :: vs,h =>by
  have :=leave_nonneg ep vs fun x hx =>h x (List.mem_cons_of_mem _ hx)
  have h0 :=h v List.mem_cons_self
  simp only [leaveS,actS]
  by_cases e:v.st=3∧v.ex=ep
  ·have:v.live=true :=by unfold Vd.live; rw [e.1]; rfl
   rw [if_pos e,this]; simp; omega
  ·rw [if_neg e]; split <;> omega
theorem wgt_bal {vs:List Vd} {i:Int} (h:inR vs i):wgt (vs.map (·.bal)) i=(vAt vs i).bal :=by
 obtain ⟨k,rfl,hk⟩ :=Z47 h
 unfold wgt
 rw [if_neg (by rw [List.length_map]; omega),Int.toNat_natCast,Z2g hk]
 simp [List.getD,hk]
def chLim (c:Nat→Int) (E:En):Int :=max (c 7) ((actS E.vs - leaveS (E.b / c 13+1) E.vs) / c 8)
def chMost (c:Nat→Int) (E:En):Int :=min (E.car+chLim c E) maxU
def chK (c:Nat→Int) (E:En):Nat :=asgN (asgW (Z26 E.vs) E.fo E.vo) (chMost c E)
theorem Inv.churn {c:Nat→Int} (hV:Vld c) {E:En} {n:Nat} (h:Inv c E n) (hm:(E.b+1) % c 13=0) :
 Zbw c E=Z1p E.fo E.vo (E.b / c 13+1) (chK c E)∧(Zan c E).fo=E.fo.drop (chK c E)∧(Zan c E).vo=E.vo.drop (chK c E - E.fo.length) ∧
 (Zan c E).car=(if chK c E=(E.fo ++ E.vo).length then 0 else chMost c E - sumT (asgW (Z26 E.vs) E.fo E.vo) (chK c E))∧(Zan c E).b=E.b+1 :=by
 have B :=h.bnd1 hV hm
 have he :=(Zm8 hV.c13.1).1 hm
 have hlx:E.b / c 13+1≠-1 :=by have :=Int.ediv_nonneg h.b0 (show 0≤c 13 by have :=hV.c13; omega); omega
 have hact:actS (Z19 c (enUp E)).vs=actS E.vs - leaveS (E.b / c 13+1) E.vs :=by
  rw [B.act]
  show actS (E.lv.foldl _ E.vs)=_
  rw [leaves_map h.core]
  refine leave_act _ hlx _ fun v hv h3 hx =>?_
  obtain ⟨k,hk,rfl⟩ :=List.getElem_of_mem hv
  rw [← Z2g hk] at h3 hx ⊢
  exact h.core.lve k ((h.core.lvs k).2 ⟨Z5v.2 hk,h3,hx⟩)
 have hlim:Z2i c (Z19 c (enUp E))=chLim c E :=by unfold Z2i chLim; rw [hact]
 have hbal:(Z19 c (enUp E)).vs.map (·.bal)=Z26 E.vs :=B.bal
 have hK:Z29 (Z19 c (enUp E)) (chLim c E)=chK c E :=by
  unfold Z29 chK chMost
  rw [hbal]
  rfl
 have hT:Z4s c E=Z9r c (enUp E) :=if_pos hm
 have hO:Zbw c E=Z65 c (enUp E) :=if_pos hm
 refine ⟨?_, ?_, ?_, ?_, ?_⟩
 ·rw [hO]
  unfold Z65 Z42
  rw [hlim,hK]
  show Z1p E.fo E.vo ((E.b+1) / c 13) _=_
  rw [he]
 ·show (Z4s c E).fo=_
  rw [hT]
  show (Z23 c (Z19 c (enUp E)) ((enUp E).b / c 13) (Z2i c (Z19 c (enUp E)))).fo=_
  rw [hlim]
  show E.fo.drop (Z29 (Z19 c (enUp E)) (chLim c E))=_
  rw [hK]
 ·show (Z4s c E).vo=_
  rw [hT]
  show (Z23 c (Z19 c (enUp E)) ((enUp E).b / c 13) (Z2i c (Z19 c (enUp E)))).vo=_
  rw [hlim]
  show E.vo.drop (Z29 (Z19 c (enUp E)) (chLim c E) - E.fo.length)=_
  rw [hK]
 ·show (Z4s c E).car=_
  rw [hT]
  show (Z23 c (Z19 c (enUp E)) ((enUp E).b / c 13) (Z2i c (Z19 c (enUp E)))).car=_
  rw [hlim]
  show (if Z29 (Z19 c (enUp E)) (chLim c E)=(E.fo ++ E.vo).length then 0 else min (E.car+chLim c E) maxU - sumT (asgW ((Z19 c (enUp E)).vs.map (·.bal)) E.fo E.vo) (Z29 (Z19 c (enUp E)) (chLim c E)))=_
  rw [hK,hbal]
  rfl
 ·show (Z4s c E).b=_
  rw [hT]
  rfl
theorem churn_no {c:Nat→Int} {E:En} (hm:(E.b+1) % c 13≠0):Zbw c E = []∧(Zan c E).fo=E.fo∧(Zan c E).vo=E.vo∧(Zan c E).car=E.car∧(Zan c E).b=E.b+1 :=by
 have hT:Z4s c E=enUp E :=if_neg hm
 refine ⟨if_neg hm, ?_, ?_, ?_, ?_⟩
 ·show (Z4s c E).fo=_; rw [hT]; rfl
 ·show (Z4s c E).vo=_; rw [hT]; rfl
 ·show (Z4s c E).car=_; rw [hT]; rfl
 ·show (Z4s c E).b=_; rw [hT]; rfl
theorem asgN_le':∀ (ws:List Int) (car:Int),asgN ws car≤ws.length
 | [],_ =>Nat.le_refl _
 | x :: ws,car =>by have :=asgN_le' ws (car - x); simp only [asgN]; split <;> simp [this]
theorem Inv.churnS {c:Nat→Int} (hV:Vld c) {E:En} {n:Nat} (h:Inv c E n) :
 chK c E≤(E.fo ++ E.vo).length∧0≤sumT (asgW (Z26 E.vs) E.fo E.vo) (chK c E)∧sumT (asgW (Z26 E.vs) E.fo E.vo) (chK c E)≤chMost c E∧chMost c E≤maxU ∧
 (∀ k:Nat,k<(E.fo ++ E.vo).length→inR E.vs ((E.fo ++ E.vo).getD k 0)∧(asgW (Z26 E.vs) E.fo E.vo)[k]? = some (vAt E.vs ((E.fo ++ E.vo).getD k 0)).bal) ∧
 (chK c E<(E.fo ++ E.vo).length→chMost c E - sumT (asgW (Z26 E.vs) E.fo E.vo) (chK c E)<(vAt E.vs ((E.fo ++ E.vo).getD (chK c E) 0)).bal) :=by
 have hnn:∀ x∈Z26 E.vs,0≤x :=fun x hx =>by
  obtain ⟨v,hv,rfl⟩ :=List.mem_map.1 hx
  exact h.nn v hv
 have hw0:∀ x∈asgW (Z26 E.vs) E.fo E.vo,0≤x :=fun x hx =>by
  unfold asgW at hx
  obtain ⟨i,_,rfl⟩ :=List.mem_map.1 hx
  exact Zhc hnn i
 have hlim0:0≤chLim c E :=by unfold chLim; have :=hV.c7; omega
 have hmo:0≤chMost c E :=by have :=h.car; unfold chMost maxU; omega
 have hlen:(asgW (Z26 E.vs) E.fo E.vo).length=(E.fo ++ E.vo).length :=by unfold asgW; rw [List.length_map]
 have hle :=asgN_le' (asgW (Z26 E.vs) E.fo E.vo) (chMost c E)
 rw [hlen] at hle
 obtain ⟨g1,g2⟩ :=Zf5 _ _ hmo hw0
 have hat:∀ k:Nat,k<(E.fo ++ E.vo).length→inR E.vs ((E.fo ++ E.vo).getD k 0)∧(asgW (Z26 E.vs) E.fo E.vo)[k]? = some (vAt E.vs ((E.fo ++ E.vo).getD k 0)).bal :=fun k hk =>by
  have e:(E.fo ++ E.vo).getD k 0=(E.fo ++ E.vo)[k] :=by rw [List.getD,List.getElem?_eq_getElem hk]; rfl
  have hin :=(h.core.qs _ (List.getElem_mem hk)).1
  rw [e]
  refine ⟨hin, ?_⟩
  unfold asgW
  rw [List.getElem?_map,List.getElem?_eq_getElem hk,Option.map_some]
  exact congrArg some (wgt_bal hin)
 have hs0:∀ (ws:List Int) (k:Nat),(∀ x∈ws,0≤x)→0≤sumT ws k :=by
  intro ws
  induction ws with
  | nil =>intro k _; simp [sumT]
  | cons x ws ih =>
   intro k hx
   cases k with
   | zero =>simp [sumT]
   | succ k =>
    have :=ih k fun y hy =>hx y (List.mem_cons_of_mem _ hy)
    have :=hx x List.mem_cons_self
    simp only [sumT,List.take_succ_cons,List.foldr_cons] at *
    omega
 refine ⟨hle,hs0 _ _ hw0,g1,by unfold chMost; omega,hat,fun hk =>?_⟩
 have hk':asgN (asgW (Z26 E.vs) E.fo E.vo) (chMost c E)<(asgW (Z26 E.vs) E.fo E.vo).length :=by rw [hlen]; exact hk
 have :=g2 hk'
 have e :=(hat _ hk).2
 have e2:(asgW (Z26 E.vs) E.fo E.vo)[asgN (asgW (Z26 E.vs) E.fo E.vo) (chMost c E)]? = some ((asgW (Z26 E.vs) E.fo E.vo)[asgN (asgW (Z26 E.vs) E.fo E.vo) (chMost c E)]) :=List.getElem?_eq_getElem hk'
 unfold chK at e ⊢
 rw [e2] at e
 injection e with e
 omega
end Go.Proofs.YtecapfmmoejikaaGreat
