/- A part of the proofs of the top laws: RgsA RgsB RgsC. -/
import Derived.Defers
import Derived.Maps.OwnOps
import Derived.Maps.Ext
import Derived.Laws.ResultCell
import Derived.Test.YtecapfmmoejikaaGreatPkAf
set_option maxRecDepth 4000
set_option maxHeartbeats 8000000
namespace Go.Eg
open Go Go.RowKit Go.Maps
structure Vd where
 bal:Int
 st:Int
 sl:Bool
 rq:Int
 ex:Int
 wd:Int
 dl:Int
@[reducible] def Vd.cells (v:Vd):Array Value := #[.int .u64 v.bal, .int .i64 v.st, .bool v.sl, .int .i64 v.rq, .int .i64 v.ex, .int .i64 v.wd, .int .i64 v.dl]
@[reducible] def Vd.val (v:Vd):Value := .agg v.cells
structure Vd.ok (v:Vd):Prop where
 b0:0≤v.bal
 b1:v.bal≤maxU
 st:(Lit.int .i64 v.st).wf=true
def Vd.live (v:Vd):Bool :=v.st == 2 || v.st == 3
def totS:List Vd→Int
 | [] =>0
 | v :: r =>v.bal+totS r
def actS:List Vd→Int
 | [] =>0
 | v :: r =>(if v.live=true then v.bal else 0)+actS r
def cntS (l:List Vd) (x:Int):Int :=((l.filter fun v =>v.st == x).length:Int)
def IMap (P:Program) (k e:TypeId) (w:World) (b n:Nat) (f:Int→Int):Prop :=
 ∃ D:DataW Unit,w.ownsMap P k (plainElem P e) b n D∧∀ x,(Lit.int .i64 x).wf=true→D.atKey (.int .i64 x) (.lit (.int .i64 0)) = .lit (.int .i64 (f x))
section
variable {P:Program} {k e t:TypeId} {w:World} {b n:Nat} {f:Int→Int}
theorem IMap.lt (h:IMap P k e w b n f):b<w.heap.size :=by
 obtain ⟨D,hD,_⟩ :=h
 exact hD.lt
theorem IMap.mods {S:Nat→Prop} {w':World} (h:IMap P k e w b n f) (hm:Mods S w w') (hS : ¬ S b):IMap P k e w' b n f :=by
 have hl :=h.lt
 obtain ⟨D,⟨es,clock,hb,r⟩,hD⟩ :=h
 exact ⟨D,⟨es,clock,hm.at hb hS,r⟩,hD⟩
theorem IMap.mono {n':Nat} (h:IMap P k e w b n f) (hn:n≤n'):IMap P k e w b n' f :=by
 obtain ⟨D,hD,hx⟩ :=h
 exact ⟨D,hD.mono hn,hx⟩
theorem IMap.made (w:World) (P:Program) (k e:TypeId):IMap P k e (w.alloc (.map #[] 0)) w.heap.size 0 (fun _ =>0) :=
 ⟨.map [],World.ownsMap_made _ _ _ _,fun _ _ =>rfl⟩
theorem IMap.look (h:IMap P k e w b n f) (ht:P.underlying t=some (.map k e)) (hk:P.underlying k=some (.int .i64)) (he:P.underlying e=some (.int .i64)) (hz:(zeroValue e).run P w = .ok (.int .i64 0) w) {x:Int} (hx:(Lit.int .i64 x).wf=true) :
 (Instr.lookup t (.map (some b)) (.int .i64 x) false).run P w = .ok (.int .i64 (f x)) w :=by
 obtain ⟨D,hD,hf⟩ :=h
 obtain ⟨c,hr,hat,_⟩ :=hD.lookup_int (int_keyed hk) ht he hz (keyOf_int_mk hk hx)
 rw [hf x hx] at hat
 simp at hat
 rw [hat]
 exact hr
theorem IMap.put (h:IMap P k e w b n f) (ht:P.underlying t=some (.map k e)) (hk:P.underlying k=some (.int .i64)) (he:P.underlying e=some (.int .i64)) (hn:n<4294967296) {x v:Int} (hx:(Lit.int .i64 x).wf=true) (hv:(Lit.int .i64 v).wf=true) :
 ∃ w',(Instr.mapUpdate t (.map (some b)) (.int .i64 x) (.int .i64 v)).run P w = .ok () w'∧IMap P k e w' b (n+1) (fun y =>if y=x then v else f y)∧Mods (· = b) w w' :=by
 obtain ⟨D,hD,hf⟩ :=h
 obtain ⟨w',hr,hD',hg⟩ :=hD.update (int_keyed hk) ht (by unfold maxLen; omega) (keyOf_int_mk hk hx) (plainElem_int he hv)
 refine ⟨w',hr,⟨_,hD',fun y hy =>?_⟩,(Mods.refl _ w).grown hg (fun j _ e =>by simpa using e.symm)⟩
 by_cases e:y=x
 ·subst e
  simp only [if_true]
  exact atKey_put_same hD.isMap (show WideAt.IsKeyLit (.int .i64 y) from trivial) _ _
 ·simp only [if_neg e]
  rw [← hf y hy]
  exact atKey_put_other (fun h =>e (by simpa using h)) _ _
end
end Go.Eg
namespace Go.Proofs.YtecapfmmoejikaaGreat
open Go.RowKit Go.Eg
abbrev IM (w:World) (b n:Nat) (f:Int→Int):Prop :=IMap Tryz.prog 3 3 w b n f
theorem Zoc (w:World):(zeroValue 3).run Tryz.prog w = .ok (.int .i64 0) w :=by kernel_rfl
abbrev regB (cap:Int) (lv:Value) (act tot:Int) (m:Nat):Obj := .cells #[.int .i64 cap,lv, .int .u64 act, .int .u64 tot, .map (some m)] 125 (0,0)
theorem Zf6 (s:Int) (w:World) :
 Calls Tryz.prog 184 #[.int .i64 s] w fun r w' =>r = .returned (.bool (s == 2 || s == 3))∧w=w' :=by
 go_enter Tryz.func184,Tryz.ntmps184
 go_wp2
 all_goals
  go_ret
  refine ⟨Z0k ?_,rfl⟩
  simp_all
theorem Z1d {w:World} {g:Nat} {cap:Int} {lv:Value} {act tot:Int} {m:Nat} (h:w.heap[g]? = some (regB cap lv act tot m)):w.cell? ⟨g,0,none⟩=some (.int .i64 cap)∧w.cell? ⟨g,1,none⟩=some lv∧w.cell? ⟨g,2,none⟩=some (.int .u64 act)∧w.cell? ⟨g,3,none⟩=some (.int .u64 tot)∧w.cell? ⟨g,4,none⟩=some (.map (some m)) :=
 ⟨by simp [World.cell?,h],by simp [World.cell?,h],by simp [World.cell?,h],by simp [World.cell?,h],by simp [World.cell?,h]⟩
theorem Z6r {w:World} {g:Nat} {cap:Int} {lv:Value} {act tot:Int} {m:Nat} (h:w.heap[g]? = some (regB cap lv act tot m)) (j:Nat):w.frozen? ⟨g,j,none⟩=false :=by simp [World.frozen?,h]
theorem Z3i (w:World) (a:Addr) (v:Value):(w.setCell a v).heap.size=w.heap.size :=by simp [World.setCell]
def Two (g q:Nat) (i:Nat):Prop :=i=g∨i=q
theorem Z5d {w:World} {m n:Nat} {f:Int→Int} (h:IM w m n f) (hn:n<4294967296) {x:Int} (hx:(Lit.int .i64 x).wf=true) (d:Int) :
 (Instr.lookup 123 (.map (some m)) (.int .i64 x) false).run Tryz.prog w.drew = .ok (.int .i64 (f x)) w.drew ∧
 ∃ w',(Instr.mapUpdate 123 (.map (some m)) (.int .i64 x) (.int .i64 (wrap64 (f x+d)))).run Tryz.prog w.drew = .ok () w'∧IM w' m (n+1) (fun y =>if y=x then wrap64 (f x+d) else f y)∧Mods (· = m) w w' :=by
 have h1:IM w.drew m n f :=h.mods (S :=fun _ =>False) ((Mods.refl _ w).drew) (fun h =>h)
 obtain ⟨w',hr,hm,hmd⟩ :=h1.put Tryz.underlying123 Tryz.underlying3 Tryz.underlying3 hn hx (wrap64_wf (f x+d))
 exact ⟨h1.look Tryz.underlying123 Tryz.underlying3 Tryz.underlying3 (Zoc _) hx,w',hr,hm,((Mods.refl _ w).drew).trans hmd⟩
theorem Zag (g m n:Nat) (cap act tot:Int) (lv:Value) (f:Int→Int) (v:Vd) (u:FrameMode) (w:World) (hb:w.heap[g]? = some (regB cap lv act tot m)) (hm:IM w m n f) (hgm:g≠m) (hn:n<4294967296) (hv:v.ok) :
 CallsD Tryz.prog 124 #[.pointer (some ⟨g,0,none⟩),v.val, .bool true] u w fun r u' w' =>u'=u∧(r = .returned (.tuple #[]) ∧
  w'.heap[g]? = some (regB cap lv (if v.live=true then IntKind.u64.wrap (act+v.bal) else act) (IntKind.u64.wrap (tot+v.bal)) m)∧IM w' m (n+1) (fun y =>if y=v.st then wrap64 (f v.st+1) else f y)∧Mods (Two g m) w w') :=by
 obtain ⟨c0,c1,c2,c3,c4⟩ :=Z1d hb
 have f2 :=Z6r hb 2
 have f3 :=Z6r hb 3
 have hg :=Z0a hb
 have HB :=Hd hb
 have HM :=Hd hm
 have HV :=Hd hv
 have HN :=Hd hn
 clear hb hm hv hn
 obtain ⟨bal,st,sl,rq,ex,wd,dl⟩ :=v
 have hlive:(st == 2 || st == 3)=Vd.live ⟨bal,st,sl,rq,ex,wd,dl⟩ :=rfl
 generalize Vd.live ⟨bal,st,sl,rq,ex,wd,dl⟩=lb at *
 have HL :=Hd hlive
 clear hlive
 simp only
 go_enter_d Tryz.func124,Tryz.ntmps124
 go_wp2_with fail
 refine (Zf6 st _).mono ?_
 rw [HL.out]
 rintro r w1 ⟨rfl,rfl⟩
 cases lb
 ·go_wp2_with fail
  obtain ⟨wx,hwx⟩:∃ wx,wx=(w.setCell ⟨g,3,none⟩ (.int .u64 (IntKind.u64.wrap (tot+bal)))).alloc (.cells (Vd.cells ⟨bal,st,sl,rq,ex,wd,dl⟩) 49) :=⟨_,rfl⟩
  rw [← hwx]
  have hbx:wx.heap[g]? = some (regB cap lv act (IntKind.u64.wrap (tot+bal)) m) :=by
   rw [hwx]
   exact Z02 (heap_setCell_same w g 3 _ _ _ HB.out) _
  have hmx:Mods (· = g) w wx :=by
   rw [hwx]
   exact ((Mods.refl (fun x =>x=g) w).setCell _ _ (fun _ =>rfl)).alloc _
  have hvx:wx.cell? ⟨w.heap.size,1,none⟩=some (.int .i64 st) :=by
   rw [hwx]
   have :=heap_alloc_last (w.setCell ⟨g,3,none⟩ (.int .u64 (IntKind.u64.wrap (tot+bal)))) (.cells (Vd.cells ⟨bal,st,sl,rq,ex,wd,dl⟩) 49)
   simp only [Z3i] at this
   unfold World.cell?
   rw [this]
   rfl
  obtain ⟨_,_,_,_,x4⟩ :=Z1d hbx
  have HBX :=Hd hbx
  have HMX :=Hd hmx
  have hD :=Z5d (HM.out.mods hmx (fun e =>hgm e.symm)) HN.out HV.out.st 1
  obtain ⟨hl,w2,hu,hm2,hmd⟩ :=hD
  have HM2 :=Hd hm2
  have HMD :=Hd hmd
  clear hwx hbx hmx hm2 hmd
  go_region
  all_goals
   go_wp2
   go_end0
   exact ⟨rfl,HMD.out.at HBX.out hgm,HM2.out,(HMX.out.weaken fun _ _ h =>.inl h).seq HMD.out fun _ _ h =>.inr h⟩
 ·go_wp2_with fail
  obtain ⟨wx,hwx⟩:∃ wx,wx=((w.setCell ⟨g,3,none⟩ (.int .u64 (IntKind.u64.wrap (tot+bal)))).setCell ⟨g,2,none⟩ (.int .u64 (IntKind.u64.wrap (act+bal)))).alloc (.cells (Vd.cells ⟨bal,st,sl,rq,ex,wd,dl⟩) 49) :=⟨_,rfl⟩
  rw [← hwx]
  have hbx:wx.heap[g]? = some (regB cap lv (IntKind.u64.wrap (act+bal)) (IntKind.u64.wrap (tot+bal)) m) :=by
   rw [hwx]
   exact Z02 (heap_setCell_same _ g 2 _ _ _ (heap_setCell_same w g 3 _ _ _ HB.out)) _
  have hmx:Mods (· = g) w wx :=by
   rw [hwx]
   exact (((Mods.refl (fun x =>x=g) w).setCell _ _ (fun _ =>rfl)).setCell _ _ (fun _ =>rfl)).alloc _
  have hvx:wx.cell? ⟨w.heap.size,1,none⟩=some (.int .i64 st) :=by
   rw [hwx]
   have :=heap_alloc_last ((w.setCell ⟨g,3,none⟩ (.int .u64 (IntKind.u64.wrap (tot+bal)))).setCell ⟨g,2,none⟩ (.int .u64 (IntKind.u64.wrap (act+bal)))) (.cells (Vd.cells ⟨bal,st,sl,rq,ex,wd,dl⟩) 49)
   simp only [Z3i] at this
   unfold World.cell?
   rw [this]
   rfl
  obtain ⟨_,_,_,_,x4⟩ :=Z1d hbx
  have HBX :=Hd hbx
  have HMX :=Hd hmx
  have hD :=Z5d (HM.out.mods hmx (fun e =>hgm e.symm)) HN.out HV.out.st 1
  obtain ⟨hl,w2,hu,hm2,hmd⟩ :=hD
  have HM2 :=Hd hm2
  have HMD :=Hd hmd
  clear hwx hbx hmx hm2 hmd
  go_region
  all_goals
   go_wp2
   go_end0
   exact ⟨rfl,HMD.out.at HBX.out hgm,HM2.out,(HMX.out.weaken fun _ _ h =>.inl h).seq HMD.out fun _ _ h =>.inr h⟩
theorem Zft (g m n:Nat) (cap act tot:Int) (lv:Value) (f:Int→Int) (v:Vd) (w:World) (hb:w.heap[g]? = some (regB cap lv act tot m)) (hm:IM w m n f) (hgm:g≠m) (hn:n<4294967296) (hv:v.ok) :
 Calls Tryz.prog 124 #[.pointer (some ⟨g,0,none⟩),v.val, .bool false] w fun r w' =>r = .returned (.tuple #[]) ∧
  w'.heap[g]? = some (regB cap lv (if v.live=true then IntKind.u64.wrap (act+IntKind.u64.wrap (-v.bal)) else act) (IntKind.u64.wrap (tot+IntKind.u64.wrap (-v.bal))) m)∧IM w' m (n+1) (fun y =>if y=v.st then wrap64 (f v.st+-1) else f y)∧Mods (Two g m) w w' :=by
 obtain ⟨c0,c1,c2,c3,c4⟩ :=Z1d hb
 have f2 :=Z6r hb 2
 have f3 :=Z6r hb 3
 have hg :=Z0a hb
 have HB :=Hd hb
 have HM :=Hd hm
 have HV :=Hd hv
 have HN :=Hd hn
 clear hb hm hv hn
 obtain ⟨bal,st,sl,rq,ex,wd,dl⟩ :=v
 have hlive:(st == 2 || st == 3)=Vd.live ⟨bal,st,sl,rq,ex,wd,dl⟩ :=rfl
 generalize Vd.live ⟨bal,st,sl,rq,ex,wd,dl⟩=lb at *
 have HL :=Hd hlive
 clear hlive
 simp only
 go_enter Tryz.func124,Tryz.ntmps124
 go_wp2_with fail
 refine (Zf6 st _).mono ?_
 rw [HL.out]
 rintro r w1 ⟨rfl,rfl⟩
 cases lb
 ·go_wp2_with fail
  obtain ⟨wx,hwx⟩:∃ wx,wx=(w.setCell ⟨g,3,none⟩ (.int .u64 (IntKind.u64.wrap (tot+IntKind.u64.wrap (-bal))))).alloc (.cells (Vd.cells ⟨bal,st,sl,rq,ex,wd,dl⟩) 49) :=⟨_,rfl⟩
  rw [← hwx]
  have hbx:wx.heap[g]? = some (regB cap lv act (IntKind.u64.wrap (tot+IntKind.u64.wrap (-bal))) m) :=by
   rw [hwx]
   exact Z02 (heap_setCell_same w g 3 _ _ _ HB.out) _
  have hmx:Mods (· = g) w wx :=by
   rw [hwx]
   exact ((Mods.refl (fun x =>x=g) w).setCell _ _ (fun _ =>rfl)).alloc _
  have hvx:wx.cell? ⟨w.heap.size,1,none⟩=some (.int .i64 st) :=by
   rw [hwx]
   have :=heap_alloc_last (w.setCell ⟨g,3,none⟩ (.int .u64 (IntKind.u64.wrap (tot+IntKind.u64.wrap (-bal))))) (.cells (Vd.cells ⟨bal,st,sl,rq,ex,wd,dl⟩) 49)
   simp only [Z3i] at this
   unfold World.cell?
   rw [this]
   rfl
  obtain ⟨_,_,_,_,x4⟩ :=Z1d hbx
  have HBX :=Hd hbx
  have HMX :=Hd hmx
  have hD :=Z5d (HM.out.mods hmx (fun e =>hgm e.symm)) HN.out HV.out.st (-1)
  obtain ⟨hl,w2,hu,hm2,hmd⟩ :=hD
  have HM2 :=Hd hm2
  have HMD :=Hd hmd
  clear hwx hbx hmx hm2 hmd
  go_region
  all_goals
   go_wp2
   go_end0
   exact ⟨rfl,HMD.out.at HBX.out hgm,HM2.out,(HMX.out.weaken fun _ _ h =>.inl h).seq HMD.out fun _ _ h =>.inr h⟩
 ·go_wp2_with fail
  obtain ⟨wx,hwx⟩:∃ wx,wx=((w.setCell ⟨g,3,none⟩ (.int .u64 (IntKind.u64.wrap (tot+IntKind.u64.wrap (-bal))))).setCell ⟨g,2,none⟩ (.int .u64 (IntKind.u64.wrap (act+IntKind.u64.wrap (-bal))))).alloc (.cells (Vd.cells ⟨bal,st,sl,rq,ex,wd,dl⟩) 49) :=⟨_,rfl⟩
  rw [← hwx]
  have hbx:wx.heap[g]? = some (regB cap lv (IntKind.u64.wrap (act+IntKind.u64.wrap (-bal))) (IntKind.u64.wrap (tot+IntKind.u64.wrap (-bal))) m) :=by
   rw [hwx]
   exact Z02 (heap_setCell_same _ g 2 _ _ _ (heap_setCell_same w g 3 _ _ _ HB.out)) _
  have hmx:Mods (· = g) w wx :=by
   rw [hwx]
   exact (((Mods.refl (fun x =>x=g) w).setCell _ _ (fun _ =>rfl)).setCell _ _ (fun _ =>rfl)).alloc _
  have hvx:wx.cell? ⟨w.heap.size,1,none⟩=some (.int .i64 st) :=by
   rw [hwx]
   have :=heap_alloc_last ((w.setCell ⟨g,3,none⟩ (.int .u64 (IntKind.u64.wrap (tot+IntKind.u64.wrap (-bal))))).setCell ⟨g,2,none⟩ (.int .u64 (IntKind.u64.wrap (act+IntKind.u64.wrap (-bal))))) (.cells (Vd.cells ⟨bal,st,sl,rq,ex,wd,dl⟩) 49)
   simp only [Z3i] at this
   unfold World.cell?
   rw [this]
   rfl
  obtain ⟨_,_,_,_,x4⟩ :=Z1d hbx
  have HBX :=Hd hbx
  have HMX :=Hd hmx
  have hD :=Z5d (HM.out.mods hmx (fun e =>hgm e.symm)) HN.out HV.out.st (-1)
  obtain ⟨hl,w2,hu,hm2,hmd⟩ :=hD
  have HM2 :=Hd hm2
  have HMD :=Hd hmd
  clear hwx hbx hmx hm2 hmd
  go_region
  all_goals
   go_wp2
   go_end0
   exact ⟨rfl,HMD.out.at HBX.out hgm,HM2.out,(HMX.out.weaken fun _ _ h =>.inl h).seq HMD.out fun _ _ h =>.inr h⟩
end Go.Proofs.YtecapfmmoejikaaGreat
namespace Go.Eg
open Go Go.RowKit
theorem Z8l (l:List Vd) (v:Vd):totS (l ++ [v])=totS l+v.bal :=by
 induction l with
 | nil =>simp [totS]
 | cons x r ih =>simp only [List.cons_append,totS,ih]; omega
theorem Ze1 (l:List Vd) (v:Vd):actS (l ++ [v])=actS l+if v.live=true then v.bal else 0 :=by
 induction l with
 | nil =>simp [actS]
 | cons x r ih =>simp only [List.cons_append,actS,ih]; omega
theorem Ze4 (l:List Vd) (v:Vd) (x:Int):cntS (l ++ [v]) x=cntS l x+if v.st=x then 1 else 0 :=by
 unfold cntS
 rw [List.filter_append,List.length_append]
 by_cases h:v.st=x
 ·simp [h]
 ·simp [h]
theorem Z2u {l:List Vd} (h:∀ v∈l,v.ok):0≤totS l :=by
 induction l with
 | nil =>exact Int.le_refl _
 | cons x r ih =>
  have :=ih fun v hv =>h v (List.mem_cons_of_mem _ hv)
  have :=(h x List.mem_cons_self).b0
  simp only [totS]
  omega
theorem Z8d {l:List Vd} (h:∀ v∈l,v.ok):0≤actS l∧actS l≤totS l :=by
 induction l with
 | nil =>exact ⟨Int.le_refl _,Int.le_refl _⟩
 | cons x r ih =>
  have :=ih fun v hv =>h v (List.mem_cons_of_mem _ hv)
  have :=(h x List.mem_cons_self).b0
  simp only [totS,actS]
  split <;> omega
theorem Z5h (l:List Vd) (x:Int):0≤cntS l x∧cntS l x≤l.length :=by
 unfold cntS
 have :=List.length_filter_le (fun v:Vd =>v.st == x) l
 omega
theorem Z6k {l:List Vd} {i:Nat} (hi:i<l.length) (v:Vd):l=l.take i ++ l[i] :: l.drop (i+1)∧l.set i v=l.take i ++ v :: l.drop (i+1) :=by
 constructor
 ·simp
 ·rw [List.set_eq_take_append_cons_drop,if_pos hi]
theorem Zbm (a:List Vd) (v:Vd) (b:List Vd):totS (a ++ v :: b)=totS a+v.bal+totS b :=by
 induction a with
 | nil =>simp [totS]
 | cons x r ih =>simp only [List.cons_append,totS,ih]; omega
theorem Zb2 (a:List Vd) (v:Vd) (b:List Vd):actS (a ++ v :: b)=actS a+(if v.live=true then v.bal else 0)+actS b :=by
 induction a with
 | nil =>simp [actS]
 | cons x r ih =>simp only [List.cons_append,actS,ih]; omega
theorem Zfb (a:List Vd) (v:Vd) (b:List Vd) (x:Int):cntS (a ++ v :: b) x=cntS a x+(if v.st=x then 1 else 0)+cntS b x :=by
 unfold cntS
 rw [List.filter_append,List.length_append,List.filter_cons]
 by_cases h:v.st=x
 ·simp [h]; omega
 ·simp [h]
theorem Z2z {l:List Vd} {i:Nat} (hi:i<l.length) (v:Vd):totS (l.set i v)=totS l - l[i].bal+v.bal :=by
 obtain ⟨h1,h2⟩ :=Z6k hi v
 have e:totS l=totS (l.take i ++ l[i] :: l.drop (i+1)) :=congrArg totS h1
 rw [h2,e,Zbm,Zbm]
 omega
theorem Zll {l:List Vd} {i:Nat} (hi:i<l.length) (v:Vd):actS (l.set i v)=actS l - (if l[i].live=true then l[i].bal else 0)+if v.live=true then v.bal else 0 :=by
 obtain ⟨h1,h2⟩ :=Z6k hi v
 have e:actS l=actS (l.take i ++ l[i] :: l.drop (i+1)) :=congrArg actS h1
 rw [h2,e,Zb2,Zb2]
 omega
theorem Z5w {l:List Vd} {i:Nat} (hi:i<l.length) (v:Vd) (x:Int):cntS (l.set i v) x=cntS l x - (if l[i].st=x then 1 else 0)+if v.st=x then 1 else 0 :=by
 obtain ⟨h1,h2⟩ :=Z6k hi v
 have e:cntS l x=cntS (l.take i ++ l[i] :: l.drop (i+1)) x :=congrArg (cntS · x) h1
 rw [h2,e,Zfb,Zfb]
 omega
theorem Zm7 {l:List Vd} (h:∀ v∈l,v.ok) {i:Nat} (hi:i<l.length):l[i].bal≤totS l∧((if l[i].live=true then l[i].bal else 0)≤actS l) :=by
 obtain ⟨h1,_⟩ :=Z6k hi l[i]
 have ht :=Z2u (l :=l.take i) fun v hv =>h v (List.mem_of_mem_take hv)
 have hd :=Z2u (l :=l.drop (i+1)) fun v hv =>h v (List.mem_of_mem_drop hv)
 have at_ :=(Z8d (l :=l.take i) fun v hv =>h v (List.mem_of_mem_take hv)).1
 have ad :=(Z8d (l :=l.drop (i+1)) fun v hv =>h v (List.mem_of_mem_drop hv)).1
 have e:totS l=totS (l.take i ++ l[i] :: l.drop (i+1)) :=congrArg totS h1
 have e2:actS l=actS (l.take i ++ l[i] :: l.drop (i+1)) :=congrArg actS h1
 rw [e,e2,Zbm,Zb2]
 omega
def Z10 (l:List Vd):List Value :=l.flatMap fun v =>v.cells.toList
theorem Zda (l:List Vd):(Z10 l).length=l.length * 7 :=by
 induction l with
 | nil =>rfl
 | cons x r ih =>
  have:Z10 (x :: r)=x.cells.toList ++ Z10 r :=rfl
  rw [this,List.length_append,ih,List.length_cons]
  simp
  omega
theorem Zcv (l:List Vd) (v:Vd):Z10 (l ++ [v])=Z10 l ++ v.cells.toList :=by simp [Z10]
theorem Z8b (l:List Vd) (i:Nat) (hi:i<l.length) (j:Nat) (hj:j<7):(Z10 l)[i * 7+j]? = l[i].cells.toList[j]? := by
 induction l generalizing i with
 | nil =>simp at hi
 | cons x r ih =>
  have e:Z10 (x :: r)=x.cells.toList ++ Z10 r :=rfl
  rw [e]
  have hx:x.cells.toList.length=7 :=rfl
  cases i with
  | zero =>
   rw [List.getElem?_append_left (by omega)]
   simp
  | succ i =>
   rw [List.getElem?_append_right (by omega),hx,show (i+1) * 7+j - 7=i * 7+j from by omega]
   exact ih i (by simpa using hi)
end Go.Eg
namespace Go.Proofs.YtecapfmmoejikaaGreat
open Go.RowKit Go.Eg
structure Z1x (B:Nat) (w:World) (g m:Nat) (lv:Value) (cap:Int) (l:List Vd) (n:Nat):Prop where
 blk:w.heap[g]? = some (regB cap lv (actS l) (totS l) m)
 row:w.ownsRow B 49 7 lv l.length (Z10 l)
 map:IM w m n (cntS l)
 bg:B≤g
 bm:B≤m
 gm:g≠m
 og:lv.ownBlock≠some g
 om:lv.ownBlock≠some m
 ok:∀ v∈l,v.ok
 tot:totS l≤maxU
 len:(l.length:Int)≤cap
 cap:cap≤4096
def RegS (g m:Nat) (lv:Value) (i:Nat):Prop :=i=g∨i=m∨lv.ownBlock=some i
theorem Z1x.mods {S:Nat→Prop} {B:Nat} {w w':World} {g m:Nat} {lv:Value} {cap:Int} {l:List Vd} {n:Nat} (h:Z1x B w g m lv cap l n) (hm:Mods S w w') (hS:∀ i,RegS g m lv i→¬ S i):Z1x B w' g m lv cap l n :=
 ⟨hm.at h.blk (hS g (.inl rfl)),hm.owns h.row (fun k hk =>hS k (.inr (.inr hk))),h.map.mods hm (hS m (.inr (.inl rfl))),h.bg,h.bm,h.gm,h.og,h.om,h.ok,h.tot,h.len,h.cap⟩
theorem Z1x.keeps {B:Nat} {w w':World} {g m:Nat} {lv:Value} {cap:Int} {l:List Vd} {n:Nat} (h:Z1x B w g m lv cap l n) (hm:Z00 w w'):Z1x B w' g m lv cap l n :=h.mods hm fun _ _ h =>h
theorem Zef (w:World) (o:Obj):(w.alloc o).heap.size=w.heap.size+1 :=by simp
theorem Z1j {w:World} {B:Nat} {e:TypeId} {size:Nat} {v:Value} {n:Nat} {xs:List Value} (h:w.ownsRow B e size v n xs):∃ a c,v = .slice a n c :=by
 obtain ⟨h1,h2⟩ :=h
 rcases h2 with ⟨rfl,rfl⟩ | ⟨g,cap,cur,rfl,_⟩
 ·exact ⟨none,0,rfl⟩
 ·exact ⟨_,_,rfl⟩
theorem Zfx (c:Int) (w:World) (h1:1≤c) (h2:c≤4096):Calls Tryz.prog 25 #[.int .i64 c] w fun r w' =>r = .returned (.pointer (some ⟨w.heap.size+1,0,none⟩))∧Z1x w.heap.size w' (w.heap.size+1) w.heap.size (.slice none 0 0) c [] 0∧Z00 w w' :=by
 have hmm := @run_makeMap Tryz.prog
 go_enter Tryz.func25,Tryz.ntmps25
 go_wp2
 go_ret
 have e :=heap_alloc_last (w.alloc (.map #[] 0)) (regB c (.slice none 0 0) 0 0 w.heap.size)
 rw [Zef w (.map #[] 0)] at e
 exact ⟨rfl,⟨e,World.ownsRow_nil _ _ _ _,(IMap.made w _ _ _).mods (S :=fun _ =>False) ((Mods.refl _ _).alloc _) (fun h =>h),by omega,by omega,by omega,by simp [Value.ownBlock],by simp [Value.ownBlock],(fun v hv =>by cases hv),by show (0:Int)≤maxU; decide,by simp; omega,h2⟩,((Mods.refl _ w).alloc _).alloc _⟩
theorem Z75 {B:Nat} {w:World} {g m:Nat} {lv:Value} {cap:Int} {l:List Vd} {n:Nat} (h:Z1x B w g m lv cap l n):Calls Tryz.prog 81 #[.pointer (some ⟨g,0,none⟩)] w fun r w' =>r = .returned (.int .i64 l.length)∧w=w' :=by
 obtain ⟨_,c1,_,_,_⟩ :=Z1d h.blk
 obtain ⟨a,c,rfl⟩ :=Z1j h.row
 clear h
 go_enter Tryz.func81,Tryz.ntmps81
 go_wp2
 go_ret
 exact ⟨rfl,rfl⟩
theorem Zb0 {B:Nat} {w:World} {g m:Nat} {lv:Value} {cap:Int} {l:List Vd} {n:Nat} (h:Z1x B w g m lv cap l n):Calls Tryz.prog 40 #[.pointer (some ⟨g,0,none⟩)] w fun r w' =>r = .returned (.int .u64 (actS l))∧w=w' :=by
 obtain ⟨_,_,c2,_,_⟩ :=Z1d h.blk
 clear h
 go_enter Tryz.func40,Tryz.ntmps40
 go_wp2
 go_ret
 exact ⟨rfl,rfl⟩
theorem Znp {B:Nat} {w:World} {g m:Nat} {a:Option Addr} {c:Nat} {cap:Int} {l:List Vd} {n:Nat} (h:Z1x B w g m (.slice a l.length c) cap l n) (i:Nat) (hi:i<l.length) :
 ∃ b,a=some ⟨b,0,none⟩∧b≠g∧b≠m∧w.cell? ⟨b,i * 7,none⟩=some (.int .u64 l[i].bal)∧w.cell? ⟨b,i * 7+1,none⟩=some (.int .i64 l[i].st)∧w.cell? ⟨b,i * 7+2,none⟩=some (.bool l[i].sl) ∧
  w.cell? ⟨b,i * 7+3,none⟩=some (.int .i64 l[i].rq)∧w.cell? ⟨b,i * 7+4,none⟩=some (.int .i64 l[i].ex)∧w.cell? ⟨b,i * 7+5,none⟩=some (.int .i64 l[i].wd)∧w.cell? ⟨b,i * 7+6,none⟩=some (.int .i64 l[i].dl) :=by
 have hrow :=h.row
 rcases hrow.2 with ⟨e,h0⟩ | ⟨b,cap',cur,hv,hg,hh,r⟩
 ·omega
 ·simp only [Value.slice.injEq] at hv
  obtain ⟨rfl,_,rfl⟩ :=hv
  have hc:∀ j,j<7→w.cell? ⟨b,i * 7+j,none⟩=l[i].cells.toList[j]? := fun j hj =>by
   rw [hrow.cellAt (i * 7+j) (by omega),Z8b l i hi j hj]
  refine ⟨b,rfl,fun e =>h.og (by simp [Value.ownBlock,e]),fun e =>h.om (by simp [Value.ownBlock,e]), ?_⟩
  have c0 :=hc 0 (by omega)
  rw [Nat.add_zero] at c0
  exact ⟨c0,hc 1 (by omega),hc 2 (by omega),hc 3 (by omega),hc 4 (by omega),hc 5 (by omega),hc 6 (by omega)⟩
@[reducible] def vd0:Vd :=⟨0,0,false,0,0,0,0⟩
theorem Zal {B:Nat} {w:World} {g m:Nat} {lv:Value} {cap:Int} {l:List Vd} {n:Nat} (h:Z1x B w g m lv cap l n) (i:Int) (hi:i<0∨l.length≤i) :
 Calls Tryz.prog 88 #[.pointer (some ⟨g,0,none⟩), .int .i64 i] w fun r w' =>r = .returned (.tuple #[vd0.val, .bool false])∧Z00 w w' :=by
 have H :=Hd h
 clear h
 go_enter Tryz.func88,Tryz.ntmps88
 rcases hi with hi | hi
 ·go_wp2
  exact bodyPost_ret (v := .tuple #[vd0.val, .bool false]) (by simp [results,Tryz.results88,go_sem]) rfl ⟨rfl,(Mods.refl _ w).alloc _⟩
 ·by_cases h0:i<0
  ·exfalso
   omega
  ·go_wp2_with fail
   refine (Z75 (H.out.keeps ((Mods.refl _ w).alloc _))).mono ?_
   rintro r w1 ⟨rfl,rfl⟩
   go_wp2
   exact bodyPost_ret (v := .tuple #[vd0.val, .bool false]) (by simp [results,Tryz.results88,go_sem]) rfl ⟨rfl,(Mods.refl _ w).alloc _⟩
theorem Z6z {B:Nat} {w:World} {g m:Nat} {lv:Value} {cap:Int} {l:List Vd} {n:Nat} (h:Z1x B w g m lv cap l n) (i:Nat) (hi:i<l.length) :
 Calls Tryz.prog 88 #[.pointer (some ⟨g,0,none⟩), .int .i64 (i:Int)] w fun r w' =>r = .returned (.tuple #[l[i].val, .bool true])∧Z00 w w' :=by
 have H :=Hd h
 obtain ⟨a,c,rfl⟩ :=Z1j h.row
 have h1 :=h.keeps ((Mods.refl (fun _ =>False) w).alloc (.cells vd0.cells 49))
 obtain ⟨_,c1,_,_,_⟩ :=Z1d h.blk
 obtain ⟨b,rfl,_,_,x0,x1,x2,x3,x4,x5,x6⟩ :=Znp h i hi
 generalize l[i]=v at *
 obtain ⟨bal,st,sl,rq,ex,wd,dl⟩ :=v
 simp only at x0 x1 x2 x3 x4 x5 x6
 have hlt :=cell_lt x0
 have hg :=cell_lt c1
 have hi2:(i:Int)<(l.length:Int) :=by omega
 clear h h1
 go_enter Tryz.func88,Tryz.ntmps88
 go_wp2_with fail
 refine (Z75 (H.out.keeps ((Mods.refl _ w).alloc _))).mono ?_
 rintro r w1 ⟨rfl,rfl⟩
 go_wp2
 exact bodyPost_ret (v := .tuple #[(Vd.mk bal st sl rq ex wd dl).val, .bool true]) (by simp [results,Tryz.results88,go_sem]) rfl ⟨rfl,(Mods.refl _ w).alloc _⟩
end Go.Proofs.YtecapfmmoejikaaGreat
