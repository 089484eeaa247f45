/- A part of the proofs of the top laws: OpA OpB. -/
import Derived.Deep.RegionHeld3
import Derived.Deep.RegionWith
import Derived.Laws.AppendOwn
import Derived.Laws.AppendOwnNone
import Derived.Laws.ResultCell
import Derived.OpenShut
import Derived.Test.YtecapfmmoejikaaGreatRows
import Derived.Test.YtecapfmmoejikaaGreatPkAe
set_option maxRecDepth 4000
set_option maxHeartbeats 8000000
namespace Go.Eg
open Go Go.RowKit
structure Od where
 kd:Int
 ix:Int
 tg:Int
 am:Int
@[reducible] def Od.cells (o:Od):Array Value := #[.int .i64 o.kd, .int .i64 o.ix, .int .i64 o.tg, .int .u64 o.am]
@[reducible] def Od.val (o:Od):Value := .agg o.cells
def opsOf (k:Int):Option (List Nat) :=
 if k=1 then some [2] else if k=2 then some [0] else if k=3 then some [0] else if k=4 then some [0] else if k=5 then some [0,1] else if k=6 then some [0,2] else if k=7 then some [] else none
def szO (c:Nat):Nat :=if c=2 then 8 else 2
def sumZ:List Nat→Nat
 | [] =>0
 | c :: r =>szO c+sumZ r
def Zbj (k:Int):Int :=match opsOf k with
 | none =>0
 | some l =>((1+sumZ l:Nat):Int)
theorem Z5t (k:Int):(k=1∧opsOf k=some [2])∨(k=2∧opsOf k=some [0])∨(k=3∧opsOf k=some [0])∨(k=4∧opsOf k=some [0])∨(k=5∧opsOf k=some [0,1])∨(k=6∧opsOf k=some [0,2])∨(k=7∧opsOf k=some []) ∨
 (k≠1∧k≠2∧k≠3∧k≠4∧k≠5∧k≠6∧k≠7∧opsOf k=none) :=by
 unfold opsOf
 by_cases h1:k=1
 ·subst h1; exact .inl ⟨rfl,rfl⟩
 by_cases h2:k=2
 ·subst h2; exact .inr (.inl ⟨rfl,rfl⟩)
 by_cases h3:k=3
 ·subst h3; exact .inr (.inr (.inl ⟨rfl,rfl⟩))
 by_cases h4:k=4
 ·subst h4; exact .inr (.inr (.inr (.inl ⟨rfl,rfl⟩)))
 by_cases h5:k=5
 ·subst h5; exact .inr (.inr (.inr (.inr (.inl ⟨rfl,rfl⟩))))
 by_cases h6:k=6
 ·subst h6; exact .inr (.inr (.inr (.inr (.inr (.inl ⟨rfl,rfl⟩)))))
 by_cases h7:k=7
 ·subst h7; exact .inr (.inr (.inr (.inr (.inr (.inr (.inl ⟨rfl,rfl⟩))))))
 ·exact .inr (.inr (.inr (.inr (.inr (.inr (.inr ⟨h1,h2,h3,h4,h5,h6,h7,by rw [if_neg h1,if_neg h2,if_neg h3,if_neg h4,if_neg h5,if_neg h6,if_neg h7]⟩))))))
theorem Z2w {k:Int} {l:List Nat} (h:opsOf k=some l):l.length≤2∧(∀ c∈l,c<3)∧1≤k∧k≤7∧sumZ l≤10 :=by
 rcases Z5t k with ⟨e,g⟩ | ⟨e,g⟩ | ⟨e,g⟩ | ⟨e,g⟩ | ⟨e,g⟩ | ⟨e,g⟩ | ⟨e,g⟩ | ⟨_,_,_,_,_,_,_,g⟩ <;> rw [g] at h <;> simp at h <;> subst h <;> subst e <;> decide
section
variable {P:Program} {ops:Array Oper} {rest:List Oper} {o:Oper} {a:Act} {w:World} {Q:Exit→Act→World→Prop}
theorem Zar {t k e:TypeId} (ht:P.underlying t=some (.map k e)) (hk:P.underlying k=some (.int .i64)) (w:World) (B:Nat) (l:List (Int × Value)) (x:Int) (v:Value) (hb:w.heap[B]? = some (mapOf l)) (hnew:Z3q l x=none) :
 ∃ w',(Instr.mapUpdate t (.map (some B)) (.int .i64 x) v).run P w = .ok () w'∧w'.heap[B]? = some (mapOf (l ++ [(x,v)]))∧Mods (fun i =>i=B) w w' :=by
 have hb':w.heap[B]? = some (.map (Z2k 0 l).toArray l.length) :=hb
 obtain ⟨n,hn⟩ :=Z4k x l 0 0
 rw [hnew] at hn
 have hlt :=Z0a hb
 refine ⟨{ w with heap :=w.heap.setIfInBounds B (mapOf (l ++ [(x,v)])) }, ?_, ?_, ?_⟩
 ·simp [Instr.mapUpdate,run_underlying ht,MapKept.run_getObj_map hb',MapKept.run_checkKey hk (show MapKept.IsKey (.int .i64) (.int .i64 x) from rfl),MapKept.run_findKey hk hn,MapKept.run_setObj_map _ hb',Result.andThen]
  simp [mapOf,Z4l]
 ·simp [hlt]
 ·refine ⟨rfl,rfl,rfl,by simp,fun i _ hi =>?_⟩
  simp only [Array.getElem?_setIfInBounds]
  rw [if_neg (fun e =>hi e.symm)]
theorem Zgv {l:List (Int × Value)} {k:Int} (h:Z3q l k=none):∀ p∈l,¬ p.1=k :=by
 intro p hp e
 unfold Z3q at h
 simp only [Option.map_eq_none_iff,List.find?_eq_none,beq_iff_eq] at h
 exact h p hp e.symm
theorem Zh0 {l:List (Int × Value)} {k:Int} {v:Value} (h:Z3q l k=some v):∃ p∈l,p.1=k∧p.2=v :=by
 unfold Z3q at h
 obtain ⟨p,hp,e⟩ :=Option.map_eq_some_iff.1 h
 refine ⟨p,List.mem_of_find?_eq_some hp, ?_,e⟩
 have :=List.find?_some hp
 simp at this
 exact this.symm
theorem Z17 {l:List (Int × Value)} {x:Int} {v:Value} (hw:Region.wanted o (yielded ops a.tmps)=true) (t:TypeId) (m vx:Operand) (ho:o.op = .insert t m (.const (.int .i64 x)) vx)
 (k e:TypeId) (ht:P.underlying t=some (.map k e)) (hk:P.underlying k=some (.int .i64)) (B:Nat) (hm:a.eval m = .map (some B)) (hv:a.eval vx=v) (hnew:Z3q l x=none) (hb:w.heap[B]? = some (mapOf l))
 (h:∀ w',w'.heap[B]? = some (mapOf (l ++ [(x,v)]))→Mods (fun i =>i=B) w w'→wpList P ops Q rest (a.put o.dst undef) w'):wpList P ops Q (o :: rest) a w :=
 Z1f hw fun K hK =>by
  obtain ⟨w',hr,hb',hm'⟩ :=Zar ht hk w B l x v hb hnew
  have hr:(execOp a.eval o).run P w = .ok .skip w' :=by
   unfold execOp
   simp only [ho,hm,hv]
   simp [Act.eval,hr]
  unfold Oper.wp
  rw [hr,Oper.upon_skip]
  exact hK _ _ (h w' hb' hm')
end
end Go.Eg
namespace Go.Proofs.YtecapfmmoejikaaGreat
open Go.RowKit Go.Eg
def gF (c:Nat):Nat :=if c=0 then 226 else if c=1 then 228 else 224
def sF (c:Nat):Nat :=if c=0 then 227 else if c=1 then 229 else 225
@[reducible] def getV (c:Nat):Value := .func (.func (gF c)) #[] #[]
@[reducible] def setV (c:Nat):Value := .func (.func (sF c)) #[] #[]
def Z37:List Nat→List Value
 | [] => []
 | c :: r => [.int .i64 ((szO c:Nat):Int),getV c,setV c] ++ Z37 r
def OL (w:World) (v:Value) (cs:List Nat):Prop := ∃ b,v = .slice (some ⟨b,0,none⟩) cs.length cs.length∧w.heap[b]? = some (.cells (Z37 cs).toArray 248 (0,0))
theorem OL.keeps {w w':World} {v:Value} {cs:List Nat} (h:OL w v cs) (hm:Z00 w w'):OL w' v cs :=by
 obtain ⟨b,rfl,hb⟩ :=h
 exact ⟨b,rfl,hm.at hb fun h =>h⟩
structure MS (w0 w:World) (B:Nat) (l:List (Int × Value)):Prop where
 blk:w.heap[B]? = some (mapOf l)
 keeps:Z00 w0 w
 own:w0.heap.size≤B
 els:∀ p∈l,∃ cs,opsOf p.1=some cs∧OL w p.2 cs
theorem MS.keep {w0 w w':World} {B:Nat} {l:List (Int × Value)} (h:MS w0 w B l) (hm:Z00 w w'):MS w0 w' B l :=
 ⟨hm.at h.blk fun h =>h,h.keeps.keep hm,h.own,fun p hp =>by obtain ⟨cs,h1,h2⟩ :=h.els p hp; exact ⟨cs,h1,h2.keeps hm⟩⟩
theorem OL.ins {w w':World} {B:Nat} {l:List (Int × Value)} (hb:w.heap[B]? = some (mapOf l)) (hm:Mods (fun i =>i=B) w w') {v:Value} {cs:List Nat} (h:OL w v cs):OL w' v cs :=by
 obtain ⟨b,rfl,h1⟩ :=h
 refine ⟨b,rfl,hm.at h1 fun e =>?_⟩
 subst e
 rw [hb] at h1
 cases h1
theorem MS.ins {w0 w w':World} {B:Nat} {l:List (Int × Value)} {x:Int} {v:Value} {cs:List Nat} (h:MS w0 w B l) (hx:opsOf x=some cs) (hv:OL w v cs) (hb:w'.heap[B]? = some (mapOf (l ++ [(x,v)]))) (hm:Mods (fun i =>i=B) w w'):MS w0 w' B (l ++ [(x,v)]) :=by
 refine ⟨hb,h.keeps.seq hm fun i hi e =>by have :=h.own; omega,h.own,fun p hp =>?_⟩
 rcases List.mem_append.1 hp with h' | h'
 ·obtain ⟨cs',h1,h2⟩ :=h.els p h'
  exact ⟨cs',h1,h2.ins h.blk hm⟩
 ·simp at h'
  subst h'
  exact ⟨cs,hx,hv.ins h.blk hm⟩
theorem Z5b (w:World):Calls Tryz.prog 198 #[] w fun r w' =>r = .returned (.agg #[.int .i64 2, .func (.func 226) #[] #[], .func (.func 227) #[] #[]])∧Z00 w w' :=by
 go_enter Tryz.func198,Tryz.ntmps198
 go_wp2
 exact bodyPost_ret (results_cell_row Tryz.results198 _ _ w.heap.size 248 _ (0,0) _ rfl (heap_alloc_last w _) Tryz.underlying248 rfl (by kernel_rfl)) rfl ⟨rfl,(Mods.refl _ w).alloc _⟩
theorem Zfz (w:World):Calls Tryz.prog 199 #[] w fun r w' =>r = .returned (.agg #[.int .i64 2, .func (.func 228) #[] #[], .func (.func 229) #[] #[]])∧Z00 w w' :=by
 go_enter Tryz.func199,Tryz.ntmps199
 go_wp2
 exact bodyPost_ret (results_cell_row Tryz.results199 _ _ w.heap.size 248 _ (0,0) _ rfl (heap_alloc_last w _) Tryz.underlying248 rfl (by kernel_rfl)) rfl ⟨rfl,(Mods.refl _ w).alloc _⟩
theorem Zaj (w:World):Calls Tryz.prog 197 #[] w fun r w' =>r = .returned (.agg #[.int .i64 8, .func (.func 224) #[] #[], .func (.func 225) #[] #[]])∧Z00 w w' :=by
 go_enter Tryz.func197,Tryz.ntmps197
 go_wp2
 exact bodyPost_ret (results_cell_row Tryz.results197 _ _ w.heap.size 248 _ (0,0) _ rfl (heap_alloc_last w _) Tryz.underlying248 rfl (by kernel_rfl)) rfl ⟨rfl,(Mods.refl _ w).alloc _⟩
theorem OL.made {w:World} (cs:List Nat):OL (w.alloc (.cells (Z37 cs).toArray 248)) (.slice (some ⟨w.heap.size,0,none⟩) cs.length cs.length) cs :=⟨_,rfl,heap_alloc_last w _⟩
theorem Z1a {P:Program} {ops rest:_} {Q:Exit→Act→World→Prop} {a:Act} {w:World} (h:wpList P ops Q rest a w):wpList P ops Q rest a w :=h
theorem Zm2 (w:World):(zeroValue 242).run Tryz.prog w = .ok (.slice none 0 0) w :=by kernel_rfl
theorem Z56 (k:Int) (w:World) :
 Calls Tryz.prog 146 #[.int .i64 k] w fun r w' =>Z00 w w'∧((opsOf k=none∧r = .returned (.tuple #[.slice none 0 0, .bool false]))∨∃ cs v,opsOf k=some cs∧r = .returned (.tuple #[v, .bool true])∧OL w' v cs) :=by
 have hmm := @run_makeMap Tryz.prog
 go_enter Tryz.func146,Tryz.ntmps146
 go_wp2_with fail
 have HS:Hid (MS w (w.alloc (.map #[] 0)) w.heap.size []) :=Hd ⟨heap_alloc_last w _,(Mods.refl _ w).alloc _,Nat.le_refl _,fun p hp =>by cases hp⟩
 obtain ⟨wa,hwa⟩:∃ wa,wa=w.alloc (.map #[] 0) :=⟨_,rfl⟩
 rw [← hwa] at HS ⊢
 clear hwa hmm
 refine (Zaj _).mono ?_
 rintro r wb0a ⟨rfl,hk⟩
 have HS :=Hd (HS.out.keep hk)
 clear hk
 go_wp2_with ((with_reducible refine Z1a ?_); refine Z17 rfl 283 _ _ rfl 3 242 Tryz.underlying283 Tryz.underlying3 w.heap.size rfl rfl (by simp [Z3q]) (HS.out.keep ((Mods.refl _ _).alloc (.cells (Z37 [2]).toArray 248))).blk ?_)
 intro wc0 hb0 hm0
 have HS :=Hd ((HS.out.keep ((Mods.refl _ _).alloc (.cells (Z37 [2]).toArray 248))).ins (cs := [2]) (by decide) (OL.made [2]) hb0 hm0)
 clear hb0 hm0
 go_wp2_with fail
 refine (Z5b _).mono ?_
 rintro r wb1i ⟨rfl,hk⟩
 have HS :=Hd (HS.out.keep hk)
 clear hk
 go_wp2_with ((with_reducible refine Z1a ?_); refine Z17 rfl 283 _ _ rfl 3 242 Tryz.underlying283 Tryz.underlying3 w.heap.size rfl rfl (by simp [Z3q]) (HS.out.keep ((Mods.refl _ _).alloc (.cells (Z37 [0]).toArray 248))).blk ?_)
 intro wc1 hb1 hm1
 have HS :=Hd ((HS.out.keep ((Mods.refl _ _).alloc (.cells (Z37 [0]).toArray 248))).ins (cs := [0]) (by decide) (OL.made [0]) hb1 hm1)
 clear hb1 hm1
 go_wp2_with fail
 refine (Z5b _).mono ?_
 rintro r wb2i ⟨rfl,hk⟩
 have HS :=Hd (HS.out.keep hk)
 clear hk
 go_wp2_with ((with_reducible refine Z1a ?_); refine Z17 rfl 283 _ _ rfl 3 242 Tryz.underlying283 Tryz.underlying3 w.heap.size rfl rfl (by simp [Z3q]) (HS.out.keep ((Mods.refl _ _).alloc (.cells (Z37 [0]).toArray 248))).blk ?_)
 intro wc2 hb2 hm2
 have HS :=Hd ((HS.out.keep ((Mods.refl _ _).alloc (.cells (Z37 [0]).toArray 248))).ins (cs := [0]) (by decide) (OL.made [0]) hb2 hm2)
 clear hb2 hm2
 go_wp2_with fail
 refine (Z5b _).mono ?_
 rintro r wb3i ⟨rfl,hk⟩
 have HS :=Hd (HS.out.keep hk)
 clear hk
 go_wp2_with ((with_reducible refine Z1a ?_); refine Z17 rfl 283 _ _ rfl 3 242 Tryz.underlying283 Tryz.underlying3 w.heap.size rfl rfl (by simp [Z3q]) (HS.out.keep ((Mods.refl _ _).alloc (.cells (Z37 [0]).toArray 248))).blk ?_)
 intro wc3 hb3 hm3
 have HS :=Hd ((HS.out.keep ((Mods.refl _ _).alloc (.cells (Z37 [0]).toArray 248))).ins (cs := [0]) (by decide) (OL.made [0]) hb3 hm3)
 clear hb3 hm3
 go_wp2_with fail
 refine (Z5b _).mono ?_
 rintro r wb4i ⟨rfl,hk⟩
 have HS :=Hd (HS.out.keep hk)
 clear hk
 go_wp2_with fail
 refine (Zfz _).mono ?_
 rintro r wb4t ⟨rfl,hk⟩
 have HS :=Hd (HS.out.keep hk)
 clear hk
 go_wp2_with ((with_reducible refine Z1a ?_); refine Z17 rfl 283 _ _ rfl 3 242 Tryz.underlying283 Tryz.underlying3 w.heap.size rfl rfl (by simp [Z3q]) (HS.out.keep ((Mods.refl _ _).alloc (.cells (Z37 [0,1]).toArray 248))).blk ?_)
 intro wc4 hb4 hm4
 have HS :=Hd ((HS.out.keep ((Mods.refl _ _).alloc (.cells (Z37 [0,1]).toArray 248))).ins (cs := [0,1]) (by decide) (OL.made [0,1]) hb4 hm4)
 clear hb4 hm4
 go_wp2_with fail
 refine (Z5b _).mono ?_
 rintro r wb5i ⟨rfl,hk⟩
 have HS :=Hd (HS.out.keep hk)
 clear hk
 go_wp2_with fail
 refine (Zaj _).mono ?_
 rintro r wb5a ⟨rfl,hk⟩
 have HS :=Hd (HS.out.keep hk)
 clear hk
 go_wp2_with ((with_reducible refine Z1a ?_); refine Z17 rfl 283 _ _ rfl 3 242 Tryz.underlying283 Tryz.underlying3 w.heap.size rfl rfl (by simp [Z3q]) (HS.out.keep ((Mods.refl _ _).alloc (.cells (Z37 [0,2]).toArray 248))).blk ?_)
 intro wc5 hb5 hm5
 have HS :=Hd ((HS.out.keep ((Mods.refl _ _).alloc (.cells (Z37 [0,2]).toArray 248))).ins (cs := [0,2]) (by decide) (OL.made [0,2]) hb5 hm5)
 clear hb5 hm5
 go_wp2_with ((with_reducible refine Z1a ?_); refine Z17 rfl 283 _ _ rfl 3 242 Tryz.underlying283 Tryz.underlying3 w.heap.size rfl rfl (by simp [Z3q]) (HS.out.keep ((Mods.refl _ _).alloc (.cells (Z37 []).toArray 248))).blk ?_)
 intro wc6 hb6 hm6
 have HS :=Hd ((HS.out.keep ((Mods.refl _ _).alloc (.cells (Z37 []).toArray 248))).ins (cs := []) (by decide) (OL.made []) hb6 hm6)
 clear hb6 hm6
 obtain ⟨L,hL,hkeys⟩:∃ L:List (Int × Value),MS w wc6 w.heap.size L∧((∀ p∈L,¬ p.1=k)→opsOf k=none) :=⟨_,HS.out,fun h =>by
  simp at h
  rcases Z5t k with ⟨e,_⟩ | ⟨e,_⟩ | ⟨e,_⟩ | ⟨e,_⟩ | ⟨e,_⟩ | ⟨e,_⟩ | ⟨e,_⟩ | ⟨_,_,_,_,_,_,_,g⟩
  all_goals first | exact g | (subst e; simp at h)⟩
 clear HS
 have HL :=Hd hL
 have HKEYS :=Hd hkeys
 clear hL hkeys
 cases hr:Z3q L k with
 | none =>
  have HN :=Hd (HKEYS.out (Zgv hr))
  go_wp2_with ((with_reducible refine Z1a ?_); refine Z21 rfl 283 _ _ true rfl 3 242 Tryz.underlying283 Tryz.underlying3 _ rfl rfl (Zm2 _) HL.out.blk none hr ?_)
  go_wp2
  go_ret2
  exact ⟨HL.out.keeps, .inl ⟨HN.out,rfl⟩⟩
 | some v =>
  obtain ⟨q,hq,e1,e2⟩ :=Zh0 hr
  obtain ⟨cs,h1,h2⟩ :=HL.out.els q hq
  have HC:Hid (opsOf k=some cs∧OL wc6 v cs) :=Hd ⟨by rw [← e1]; exact h1,by rw [← e2]; exact h2⟩
  clear hq e1 e2 h1 h2
  go_wp2_with ((with_reducible refine Z1a ?_); refine Z21 rfl 283 _ _ true rfl 3 242 Tryz.underlying283 Tryz.underlying3 _ rfl rfl (Zm2 _) HL.out.blk (some v) hr ?_)
  go_wp2
  go_ret2
  exact ⟨HL.out.keeps, .inr ⟨cs,v,HC.out.1,rfl,HC.out.2⟩⟩
end Go.Proofs.YtecapfmmoejikaaGreat
namespace Go.Eg
open Go Go.RowKit
theorem Zcq {cs:List Nat} {j:Nat} (h:j<cs.length):sumZ (cs.take (j+1))=sumZ (cs.take j)+szO cs[j] :=by
 have app:∀ a b:List Nat,sumZ (a ++ b)=sumZ a+sumZ b :=fun a b =>by
  induction a with
  | nil =>simp [sumZ]
  | cons x r ih =>simp only [List.cons_append,sumZ,ih]; omega
 rw [List.take_succ_eq_append_getElem h,app]
 simp [sumZ]
theorem Zj9 (c:Nat):1≤szO c∧szO c≤8 :=by unfold szO; split <;> omega
def getO (c:Nat) (o:Od):Int :=if c=0 then IntKind.u64.wrap o.ix else if c=1 then IntKind.u64.wrap o.tg else o.am
def setO (c:Nat) (x:Int) (o:Od):Od :=if c=0 then { o with ix :=wrap64 x } else if c=1 then { o with tg :=wrap64 x } else { o with am :=x }
end Go.Eg
namespace Go.Proofs.YtecapfmmoejikaaGreat
open Go.RowKit Go.Eg
theorem Zet (cs:List Nat) (j:Nat) (hj:j<cs.length):(Z37 cs)[j * 3]? = some (.int .i64 ((szO cs[j]:Nat):Int))∧(Z37 cs)[j * 3+1]? = some (getV cs[j])∧(Z37 cs)[j * 3+2]? = some (setV cs[j]) :=by
 induction cs generalizing j with
 | nil =>simp at hj
 | cons c r ih =>
  have hx:([Value.int .i64 ((szO c:Nat):Int),getV c,setV c]:List Value).length=3 :=rfl
  cases j with
  | zero =>exact ⟨rfl,rfl,rfl⟩
  | succ j =>
   have :=ih j (by simpa using hj)
   have e:∀ q,(Z37 (c :: r))[(j+1) * 3+q]? = (Z37 r)[j * 3+q]? := fun q =>by
    show (([Value.int .i64 ((szO c:Nat):Int),getV c,setV c]:List Value) ++ Z37 r)[(j+1) * 3+q]? = _
    rw [List.getElem?_append_right (by omega),hx,show (j+1) * 3+q - 3=j * 3+q from by omega]
   have e0 :=e 0
   simp only [Nat.add_zero] at e0
   rw [e0,e,e]
   exact this
theorem OL.at {w:World} {v:Value} {cs:List Nat} (h:OL w v cs):∃ b,v = .slice (some ⟨b,0,none⟩) cs.length cs.length∧b<w.heap.size∧∀ w',Z00 w w'→∀ j (hj:j<cs.length),w'.cell? ⟨b,j * 3,none⟩=some (.int .i64 ((szO cs[j]:Nat):Int))∧w'.cell? ⟨b,j * 3+1,none⟩=some (getV cs[j])∧w'.cell? ⟨b,j * 3+2,none⟩=some (setV cs[j]) :=by
 obtain ⟨b,rfl,hb⟩ :=h
 refine ⟨b,rfl,Z0a hb,fun w' hk j hj =>?_⟩
 have hb' :=hk.at hb fun h =>h
 obtain ⟨h0,h1,h2⟩ :=Zet cs j hj
 exact ⟨by simp [World.cell?,hb',h0],by simp [World.cell?,hb',h1],by simp [World.cell?,hb',h2]⟩
theorem Z68 {k:Int} (h:opsOf k=none) (w:World):Calls Tryz.prog 146 #[.int .i64 k] w fun r w' =>r = .returned (.tuple #[.slice none 0 0, .bool false])∧Z00 w w' :=
 (Z56 k w).mono fun r w' ⟨hk,hr⟩ =>by
  rcases hr with ⟨_,hr⟩ | ⟨cs,v,hs,_,_⟩
  ·exact ⟨hr,hk⟩
  ·rw [h] at hs; cases hs
theorem Z6c {k:Int} {cs:List Nat} (h:opsOf k=some cs) (w:World):Calls Tryz.prog 146 #[.int .i64 k] w fun r w' => ∃ b,r = .returned (.tuple #[.slice (some ⟨b,0,none⟩) cs.length cs.length, .bool true])∧Z00 w w'∧b<w'.heap.size ∧
 ∀ w2,Z00 w' w2→∀ j (hj:j<cs.length),w2.cell? ⟨b,j * 3,none⟩=some (.int .i64 ((szO cs[j]:Nat):Int))∧w2.cell? ⟨b,j * 3+1,none⟩=some (getV cs[j])∧w2.cell? ⟨b,j * 3+2,none⟩=some (setV cs[j]) :=
 (Z56 k w).mono fun r w' ⟨hk,hr⟩ =>by
  rcases hr with ⟨hs,_⟩ | ⟨cs',v,hs,hr,hv⟩
  ·rw [h] at hs; cases hs
  ·rw [h] at hs
   cases hs
   obtain ⟨b,rfl,hb,hc⟩ :=hv.at
   exact ⟨b,hr,hk,hb,hc⟩
theorem Z4t (cs:List Nat) (j:Nat):sumZ (cs.take j)≤sumZ cs :=by
 have app:∀ a b:List Nat,sumZ (a ++ b)=sumZ a+sumZ b :=fun a b =>by
  induction a with
  | nil =>simp [sumZ]
  | cons x r ih =>simp only [List.cons_append,sumZ,ih]; omega
 have :=app (cs.take j) (cs.drop j)
 rw [List.take_append_drop] at this
 omega
theorem Z5g (k:Int) (w:World):Calls Tryz.prog 195 #[.int .i64 k] w fun r w' =>r = .returned (.int .i64 (Zbj k))∧Z00 w w' :=by
 cases hs:opsOf k with
 | none =>
  have e:Zbj k=0 :=by unfold Zbj; rw [hs]
  rw [e]
  have HO :=Hd (Z68 hs w)
  clear hs e
  go_enter Tryz.func195,Tryz.ntmps195
  go_wp2_with fail
  refine HO.out.mono ?_
  rintro r w1 ⟨rfl,hk1⟩
  have HK1 :=Hd hk1
  clear hk1
  go_wp2
  go_ret
  exact ⟨rfl,HK1.out⟩
 | some cs =>
  have e:Zbj k=((1+sumZ cs:Nat):Int) :=by unfold Zbj; rw [hs]
  rw [e]
  obtain ⟨hl,_,_,_,hz⟩ :=Z2w hs
  have HO :=Hd (Z6c hs w)
  clear hs e
  go_enter Tryz.func195,Tryz.ntmps195
  go_wp2_with fail
  refine HO.out.mono ?_
  rintro r w1 ⟨b,rfl,hk1,hb,hc⟩
  have HK1 :=Hd hk1
  have HC :=Hd hc
  clear hk1 hc
  go_wp2_with fail
  go_loopw [5,17] (fun s i wr => ∃ j:Nat,j≤cs.length∧i = .int .i64 j∧s = .int .i64 ((1+sumZ (cs.take j):Nat):Int)∧Z00 w1 wr) (fun _ i _ =>cs.length - (intOf i).toNat)
  case atStart =>exact ⟨0,Nat.zero_le _,rfl,rfl,Mods.refl _ _⟩
  case round =>
   obtain ⟨j,hj,rfl,rfl,hm⟩ :=hrel
   have HM :=Hd hm
   by_cases hlt:j<cs.length
   ·obtain ⟨x0,x1,x2⟩ :=HC.out wr hm j hlt
    have HT :=Hd (Zcq hlt)
    have hsz :=Zj9 cs[j]
    have hq:sumZ (cs.take j)≤20 :=by have :=Z4t cs j; omega
    have hbw :=cell_lt x0
    generalize sumZ (cs.take j)=q at *
    generalize cs[j]=c at *
    generalize szO c=z at *
    generalize gF c=gv at *
    generalize sF c=sv at *
    clear hm
    go_wp2
    go_roundw
    case rel =>exact ⟨j+1,by omega,by go_num,by rw [HT.out]; go_num,HM.out.alloc _⟩
    case measure =>simp [intOf]; omega
   ·have e:j=cs.length :=by omega
    subst e
    rw [List.take_length]
    clear hm
    go_wp2
    go_ret
    exact ⟨rfl,HK1.out.keep HM.out⟩
abbrev odB (o:Od):Obj := .cells o.cells 34 (0,0)
theorem Z2q {w:World} {b:Nat} {o:Od} (h:w.heap[b]? = some (odB o)):w.cell? ⟨b,0,none⟩=some (.int .i64 o.kd)∧w.cell? ⟨b,1,none⟩=some (.int .i64 o.ix)∧w.cell? ⟨b,2,none⟩=some (.int .i64 o.tg)∧w.cell? ⟨b,3,none⟩=some (.int .u64 o.am) :=
 ⟨by simp [World.cell?,h],by simp [World.cell?,h],by simp [World.cell?,h],by simp [World.cell?,h]⟩
theorem Z2h {w:World} {b:Nat} {o:Od} (h:w.heap[b]? = some (odB o)) (j:Nat):w.frozen? ⟨b,j,none⟩=false :=by simp [World.frozen?,h]
theorem Zil (c:Nat) (hc:c<3) (o:Od) (w:World):Calls Tryz.prog (gF c) #[o.val] w fun r w' =>r = .returned (.int .u64 (getO c o))∧Z00 w w' :=by
 obtain ⟨kd,ix,tg,am⟩ :=o
 match c,hc with
 | 0,_ =>
  go_enter Tryz.func226,Tryz.ntmps226
  go_wp2
  go_ret
  exact ⟨rfl,(Mods.refl _ w).alloc _⟩
 | 1,_ =>
  go_enter Tryz.func228,Tryz.ntmps228
  go_wp2
  go_ret
  exact ⟨rfl,(Mods.refl _ w).alloc _⟩
 | 2,_ =>
  go_enter Tryz.func224,Tryz.ntmps224
  go_wp2
  go_ret
  exact ⟨rfl,(Mods.refl _ w).alloc _⟩
theorem Zi8 (c:Nat) (hc:c<3) (o:Od) (b:Nat) (x:Int) (w:World) (hb:w.heap[b]? = some (odB o)) :
 Calls Tryz.prog (sF c) #[.pointer (some ⟨b,0,none⟩), .int .u64 x] w fun r w' =>r = .returned (.tuple #[])∧w'.heap[b]? = some (odB (setO c x o))∧Mods (fun i =>i=b) w w' :=by
 obtain ⟨c0,c1,c2,c3⟩ :=Z2q hb
 have f1 :=Z2h hb 1
 have f2 :=Z2h hb 2
 have f3 :=Z2h hb 3
 have HB :=Hd hb
 clear hb
 match c,hc with
 | 0,_ =>
  go_enter Tryz.func227,Tryz.ntmps227
  go_wp2
  go_end0
  exact ⟨rfl,heap_setCell_same w b 1 _ _ _ HB.out,(Mods.refl _ w).setCell _ _ fun _ =>rfl⟩
 | 1,_ =>
  go_enter Tryz.func229,Tryz.ntmps229
  go_wp2
  go_end0
  exact ⟨rfl,heap_setCell_same w b 2 _ _ _ HB.out,(Mods.refl _ w).setCell _ _ fun _ =>rfl⟩
 | 2,_ =>
  go_enter Tryz.func225,Tryz.ntmps225
  go_wp2
  go_end0
  exact ⟨rfl,heap_setCell_same w b 3 _ _ _ HB.out,(Mods.refl _ w).setCell _ _ fun _ =>rfl⟩
end Go.Proofs.YtecapfmmoejikaaGreat
