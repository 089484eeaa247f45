/- A part of the proofs of the top laws: RgsD RgsE. -/
import Derived.Laws.AppendOwn
import Derived.Deep.RegionHeld3
import Derived.Deep.RegionWith
import Derived.Deep.AppendLies
import Derived.Deep.RegionLaw
import Derived.Test.YtecapfmmoejikaaGreatPkAm
set_option maxRecDepth 4000
set_option maxHeartbeats 8000000
namespace Go.Proofs.YtecapfmmoejikaaGreat
open Go.RowKit Go.Eg
theorem Z0r {w:World} {g:Nat} {cs:Array Value} {t:TypeId} {fr:Nat × Nat} (h:w.heap[g]? = some (.cells cs t fr)) (j:Nat) {v:Value} (hv:cs[j]? = some v):w.cell? ⟨g,j,none⟩=some v :=by
 simp [World.cell?,h,hv]
theorem Z9a {w0 w':World} {p q:Addr} {x y:Value} (t1:w0.cell? p=some x) (t2:w0.cell? q=some y) (hd:Z00 w0 w'):w'.cell? p=some x∧w'.cell? q=some y :=⟨hd.cell t1 fun h =>h,hd.cell t2 fun h =>h⟩
theorem Znj {B:Nat} {w:World} {g m:Nat} {lv:Value} {cap:Int} {l:List Vd} {n:Nat} (h:Z1x B w g m lv cap l n) (v:Vd) (hv:v.ok) (hc:(l.length:Int)≠cap) (ho : ¬ totS l+v.bal≤maxU) :
 Calls Tryz.prog 84 #[.pointer (some ⟨g,0,none⟩),v.val] w fun r w' =>r = .returned (.tuple #[.int .i64 (-1), .int .i64 10])∧Z00 w w' :=by
 obtain ⟨a,c,rfl⟩ :=Z1j h.row
 obtain ⟨c0,c1,c2,c3,c4⟩ :=Z1d h.blk
 have AO :=Hd (show Z3p (fun j =>if j=0 then totS l else v.bal) 2=false from by unfold Z3p; rw [sum2]; exact decide_eq_false ho)
 have AV :=Hd (show addV (fun j =>if j=0 then totS l else v.bal) 2=0 from by unfold addV; rw [sum2]; exact if_neg ho)
 have A0 :=Hd (show 0≤totS l∧totS l≤maxU from ⟨Z2u h.ok,h.tot⟩)
 have A1 :=Hd (show 0≤v.bal∧v.bal≤maxU from ⟨hv.b0,hv.b1⟩)
 have hlt :=cell_lt c0
 have hcb:((l.length:Int) == cap)=false :=by simpa using hc
 clear h c2 c4 ho hc hv
 obtain ⟨bal,st,sl,rq,ex,wd,dl⟩ :=v
 generalize totS l=T at *
 go_enter_defers Tryz.func84,Tryz.ntmps84
 go_wp2
 go_quiet (fail)
 go_wp2_with fail
 obtain ⟨wx,hwx⟩:∃ wx,wx=(w.alloc (.cells (Vd.cells ⟨bal,st,sl,rq,ex,wd,dl⟩) 49)).drewN nq :=⟨_,rfl⟩
 have HX :=Hd (show Z00 w wx from hwx ▸ ((Mods.refl _ w).alloc _).drewN _)
 have t1:wx.cell? ⟨g,3,none⟩=some (.int .u64 T) :=HX.out.cell c3 fun h =>h
 have hvb :=(((Mods.refl (fun _ =>False) (w.alloc (.cells (Vd.cells ⟨bal,st,sl,rq,ex,wd,dl⟩) 49))).drewN nq)).at (heap_alloc_last w (.cells (Vd.cells ⟨bal,st,sl,rq,ex,wd,dl⟩) 49)) (fun h =>h)
 rw [← hwx] at hvb ⊢
 have t2:wx.cell? ⟨w.heap.size,0,none⟩=some (.int .u64 bal) :=Z0r hvb 0 rfl
 clear hwx c0 c1 c3 hvb
 go_region_held3 (fun w' =>w'.cell? ⟨g,3,none⟩=some (.int .u64 T)∧w'.cell? ⟨w.heap.size,0,none⟩=some (.int .u64 bal))
  (first
   | (simp [t1,t2]; done)
   | (refine Z9a t1 t2 ?_; exact ((Mods.refl _ wx).drew).alloc _))
  (first
   | (go_at_call 18; refine (Z1r _ 2 (fun j =>if j=0 then T else bal) _ ?_ (by omega)).mono ?_; (exact Zk8 _ _ _ _ A0.out A1.out); rw [AO.out,AV.out]; rintro e w' ⟨rfl,rfl⟩))
 go_wp2
 exact ⟨_,results_tmp2 rfl _ _ _,rfl,HX.out.keep (((Mods.refl _ wx).alloc _).drew)⟩
theorem Zds {S:Nat→Prop} {w0 w':World} {b:Nat} {x0 x1 x2 x3 x4 x5 x6:Value} (u0:w0.cell? ⟨b,0,none⟩=some x0) (u1:w0.cell? ⟨b,1,none⟩=some x1) (u2:w0.cell? ⟨b,2,none⟩=some x2) (u3:w0.cell? ⟨b,3,none⟩=some x3)
 (u4:w0.cell? ⟨b,4,none⟩=some x4) (u5:w0.cell? ⟨b,5,none⟩=some x5) (u6:w0.cell? ⟨b,6,none⟩=some x6) (hm:Mods S w0 w') (hb : ¬ S b) :
 w'.cell? ⟨b,0,none⟩=some x0∧w'.cell? ⟨b,1,none⟩=some x1∧w'.cell? ⟨b,2,none⟩=some x2∧w'.cell? ⟨b,3,none⟩=some x3∧w'.cell? ⟨b,4,none⟩=some x4∧w'.cell? ⟨b,5,none⟩=some x5∧w'.cell? ⟨b,6,none⟩=some x6 :=
 ⟨hm.cell u0 hb,hm.cell u1 hb,hm.cell u2 hb,hm.cell u3 hb,hm.cell u4 hb,hm.cell u5 hb,hm.cell u6 hb⟩
theorem Zdo {S:Nat→Prop} {w0 w':World} {g b:Nat} {x x0 x1 x2 x3 x4 x5 x6:Value} (y:w0.cell? ⟨g,1,none⟩=some x) (u0:w0.cell? ⟨b,0,none⟩=some x0) (u1:w0.cell? ⟨b,1,none⟩=some x1) (u2:w0.cell? ⟨b,2,none⟩=some x2) (u3:w0.cell? ⟨b,3,none⟩=some x3)
 (u4:w0.cell? ⟨b,4,none⟩=some x4) (u5:w0.cell? ⟨b,5,none⟩=some x5) (u6:w0.cell? ⟨b,6,none⟩=some x6) (hm:Mods S w0 w') (hg : ¬ S g) (hb : ¬ S b) :
 w'.cell? ⟨g,1,none⟩=some x∧w'.cell? ⟨b,0,none⟩=some x0∧w'.cell? ⟨b,1,none⟩=some x1∧w'.cell? ⟨b,2,none⟩=some x2∧w'.cell? ⟨b,3,none⟩=some x3∧w'.cell? ⟨b,4,none⟩=some x4∧w'.cell? ⟨b,5,none⟩=some x5∧w'.cell? ⟨b,6,none⟩=some x6 :=
 ⟨hm.cell y hg,hm.cell u0 hb,hm.cell u1 hb,hm.cell u2 hb,hm.cell u3 hb,hm.cell u4 hb,hm.cell u5 hb,hm.cell u6 hb⟩
theorem Zoo (v:Vd):∀ u∈v.cells.toList,u.oneCell'=true :=by
 intro u hu
 simp at hu
 rcases hu with rfl | rfl | rfl | rfl | rfl | rfl | rfl <;> rfl
theorem Zph:(Tryz.prog.info? 49).map (fun i =>(i.zero,i.size,i.bytes))=some (some (Vd.val ⟨0,0,false,0,0,0,0⟩),7,56) :=by kernel_rfl
theorem Zaq {x:Int} (h0:0≤x) (h1:x≤maxU):IntKind.u64.wrap x=x :=by
 unfold maxU at h1
 rw [IntKind.wrap_u64]
 exact Int.emod_eq_of_lt h0 (by omega)
theorem Z5x {x:Int} (h0 : -4096≤x) (h1:x≤1000000):wrap64 x=x :=IntWalk.wrap64_in x ⟨by omega,by omega⟩
theorem add_mid {B:Nat} {wy w1:World} {g m gb cb:Nat} {lv:Value} {cap:Int} {l:List Vd} {n:Nat} {v:Vd} {o:Obj} (H:Z1x B wy g m lv cap l n)
 (hown:w1.ownsRow B 49 7 (.slice (some ⟨gb,0,none⟩) (l.length+1) cb) (l.length+1) (Z10 l ++ v.cells.toList)) (hgrow:((wy.alloc o).drew).grownBy w1 lv.ownBlock) (hat:lv.ownBlock=some gb∨gb=wy.heap.size+1) :
 (w1.setCell ⟨g,1,none⟩ (.slice (some ⟨gb,0,none⟩) (l.length+1) cb)).heap[g]? = some (regB cap (.slice (some ⟨gb,0,none⟩) (l.length+1) cb) (actS l) (totS l) m) ∧
 IM (w1.setCell ⟨g,1,none⟩ (.slice (some ⟨gb,0,none⟩) (l.length+1) cb)) m n (cntS l) ∧
 (w1.setCell ⟨g,1,none⟩ (.slice (some ⟨gb,0,none⟩) (l.length+1) cb)).ownsRow B 49 7 (.slice (some ⟨gb,0,none⟩) (l.length+1) cb) (l.length+1) (Z10 (l ++ [v])) ∧
 Mods (RegS g m lv) wy (w1.setCell ⟨g,1,none⟩ (.slice (some ⟨gb,0,none⟩) (l.length+1) cb))∧gb≠g∧gb≠m :=by
 have hg :=Z0a H.blk
 have hm :=H.map.lt
 have m1:Mods (fun i =>lv.ownBlock=some i) wy w1 :=(((Mods.refl _ wy).alloc _).drew).grown hgrow fun _ _ h =>h
 have hb1 :=m1.at H.blk H.og
 have him:IM w1 m n (cntS l) :=H.map.mods m1 H.om
 have n1:gb≠g :=by
  rcases hat with h | h
  ·intro e; subst e; exact H.og h
  ·omega
 have n2:gb≠m :=by
  rcases hat with h | h
  ·intro e; subst e; exact H.om h
  ·omega
 have m2:Mods (fun i =>i=g) w1 (w1.setCell ⟨g,1,none⟩ (.slice (some ⟨gb,0,none⟩) (l.length+1) cb)) :=(Mods.refl _ w1).setCell _ _ fun _ =>rfl
 refine ⟨heap_setCell_same w1 g 1 _ _ _ hb1,him.mods m2 (fun e =>H.gm e.symm), ?_, ?_,n1,n2⟩
 ·rw [Zcv]
  exact m2.owns hown fun k hk e =>by simp [Value.ownBlock] at hk; omega
 ·exact (m1.weaken fun _ _ h =>.inr (.inr h)).seq m2 fun _ _ h =>.inl h
theorem Zn0 {B:Nat} {w wy w2 w3:World} {g m gb cb:Nat} {lv:Value} {cap:Int} {l:List Vd} {n:Nat} {v:Vd} (H:Z1x B wy g m lv cap l n) (hv:v.ok) (hc:(l.length:Int)≠cap) (ho:totS l+v.bal≤maxU) (hK:Z00 w wy)
 (hown:w2.ownsRow B 49 7 (.slice (some ⟨gb,0,none⟩) (l.length+1) cb) (l.length+1) (Z10 (l ++ [v]))) (hm2:Mods (RegS g m lv) wy w2) (n1:gb≠g) (n2:gb≠m) (hat:lv.ownBlock=some gb∨gb=wy.heap.size+1)
 (hb3:w3.heap[g]? = some (regB cap (.slice (some ⟨gb,0,none⟩) (l.length+1) cb) (if v.live=true then IntKind.u64.wrap (actS l+v.bal) else actS l) (IntKind.u64.wrap (totS l+v.bal)) m)) (hm3:IM w3 m (n+1) (fun y =>if y=v.st then wrap64 (cntS l v.st+1) else cntS l y)) (hm:Mods (Two g m) w2 w3) :
 ∃ lv',Z1x B w3 g m lv' cap (l ++ [v]) (n+1)∧Mods (RegS g m lv) w w3∧(∀ k,lv'.ownBlock=some k→lv.ownBlock=some k∨w.heap.size≤k) :=by
 have hl:(l ++ [v]).length=l.length+1 :=by simp
 have hlen:(l.length:Int)≤4096 :=by have :=H.len; have :=H.cap; omega
 have ha :=Z8d H.ok
 have hb0 :=hv.b0
 have ht0 :=Z2u H.ok
 have e1:(if v.live=true then IntKind.u64.wrap (actS l+v.bal) else actS l)=actS (l ++ [v]) :=by
  rw [Ze1]
  split
  ·exact Zaq (by omega) (by omega)
  ·omega
 have e2:IntKind.u64.wrap (totS l+v.bal)=totS (l ++ [v]) :=by
  rw [Z8l]
  exact Zaq (by omega) ho
 have e3:(fun y =>if y=v.st then wrap64 (cntS l v.st+1) else cntS l y)=cntS (l ++ [v]) :=by
  funext y
  rw [Ze4]
  have hr :=Z5h l v.st
  by_cases h:y=v.st
  ·subst h
   rw [if_pos rfl,if_pos rfl]
   exact Z5x (by omega) (by omega)
  ·rw [if_neg h,if_neg (fun e =>h e.symm)]
   omega
 rw [e1,e2] at hb3
 rw [e3] at hm3
 refine ⟨.slice (some ⟨gb,0,none⟩) (l.length+1) cb,⟨hb3, ?_,hm3,H.bg,H.bm,H.gm,by simp [Value.ownBlock]; exact n1,by simp [Value.ownBlock]; exact n2, ?_, ?_, ?_,H.cap⟩, ?_, ?_⟩
 ·rw [hl]
  exact hm.owns hown fun k hk e =>by simp [Value.ownBlock] at hk; subst hk; rcases e with e | e <;> omega
 ·intro x hx
  rcases List.mem_append.1 hx with h | h
  ·exact H.ok x h
  ·simp at h; subst h; exact hv
 ·rw [Z8l]; exact ho
 ·rw [hl]; have :=H.len; push_cast; omega
 ·exact ((hK.weaken (T :=RegS g m lv) fun _ _ h =>h.elim).trans hm2).seq hm fun _ _ h =>by
   rcases h with h | h
   ·exact .inl h
   ·exact .inr (.inl h)
 ·intro k hk
  simp [Value.ownBlock] at hk
  subst hk
  rcases hat with h | h
  ·exact .inl h
  ·exact .inr (by have :=hK.size; omega)
theorem Zhk {B:Nat} {w:World} {g m:Nat} {lv:Value} {cap:Int} {l:List Vd} {n:Nat} (h:Z1x B w g m lv cap l n) (v:Vd) (hv:v.ok) (hc:(l.length:Int)≠cap) (ho:totS l+v.bal≤maxU) (hn:n<4294967296) :
 Calls Tryz.prog 84 #[.pointer (some ⟨g,0,none⟩),v.val] w fun r w' =>r = .returned (.tuple #[.int .i64 l.length, .int .i64 0])∧∃ lv',Z1x B w' g m lv' cap (l ++ [v]) (n+1)∧Mods (RegS g m lv) w w'∧(∀ k,lv'.ownBlock=some k→lv.ownBlock=some k∨w.heap.size≤k) :=by
 obtain ⟨a,c,rfl⟩ :=Z1j h.row
 obtain ⟨c0,c1,c2,c3,c4⟩ :=Z1d h.blk
 have AO :=Hd (show Z3p (fun j =>if j=0 then totS l else v.bal) 2=true from by unfold Z3p; rw [sum2]; exact decide_eq_true ho)
 have AV :=Hd (show addV (fun j =>if j=0 then totS l else v.bal) 2=totS l+v.bal from by unfold addV; rw [sum2]; exact if_pos ho)
 have A0 :=Hd (show 0≤totS l∧totS l≤maxU from ⟨Z2u h.ok,h.tot⟩)
 have A1 :=Hd (show 0≤v.bal∧v.bal≤maxU from ⟨hv.b0,hv.b1⟩)
 have hlt :=cell_lt c0
 have hcb:((l.length:Int) == cap)=false :=by simpa using hc
 have H :=Hd h
 have HV :=Hd hv
 have HO :=Hd ho
 have HC :=Hd hc
 have HN :=Hd hn
 clear h c2 c4 ho hc hv hn
 obtain ⟨bal,st,sl,rq,ex,wd,dl⟩ :=v
 generalize hT:totS l=T at AO AV A0 HO c3
 have HT :=Hd hT
 clear hT
 go_enter_defers Tryz.func84,Tryz.ntmps84
 go_wp2
 go_quiet (fail)
 go_wp2_with fail
 obtain ⟨wx,hwx⟩:∃ wx,wx=(w.alloc (.cells (Vd.cells ⟨bal,st,sl,rq,ex,wd,dl⟩) 49)).drewN nq :=⟨_,rfl⟩
 have HX :=Hd (show Z00 w wx from hwx ▸ ((Mods.refl _ w).alloc _).drewN _)
 have t1:wx.cell? ⟨g,3,none⟩=some (.int .u64 T) :=HX.out.cell c3 fun h =>h
 have hvb :=(((Mods.refl (fun _ =>False) (w.alloc (.cells (Vd.cells ⟨bal,st,sl,rq,ex,wd,dl⟩) 49))).drewN nq)).at (heap_alloc_last w (.cells (Vd.cells ⟨bal,st,sl,rq,ex,wd,dl⟩) 49)) (fun h =>h)
 rw [← hwx] at hvb ⊢
 have t2:wx.cell? ⟨w.heap.size,0,none⟩=some (.int .u64 bal) :=Z0r hvb 0 rfl
 have HVB :=Hd hvb
 clear hwx c0 c1 c3 hvb
 go_region_held3 (fun w' =>w'.cell? ⟨g,3,none⟩=some (.int .u64 T)∧w'.cell? ⟨w.heap.size,0,none⟩=some (.int .u64 bal))
  (first
   | (simp [t1,t2]; done)
   | (refine Z9a t1 t2 ?_; exact ((Mods.refl _ wx).drew).alloc _))
  (first
   | (go_at_call 18; refine (Z1r _ 2 (fun j =>if j=0 then T else bal) _ ?_ (by omega)).mono ?_; (exact Zk8 _ _ _ _ A0.out A1.out); rw [AO.out,AV.out]; rintro e w' ⟨rfl,rfl⟩))
 obtain ⟨wy,hwy⟩:∃ wy,wy=(wx.alloc (Obj.cells #[Value.int IntKind.u64 T,Value.int IntKind.u64 bal] 22)).drew :=⟨_,rfl⟩
 have hY:Z00 wx wy :=hwy ▸ ((Mods.refl _ wx).alloc _).drew
 rw [← hwy]
 clear hwy t1 t2
 have HK :=Hd (HX.out.keep hY)
 have hvy :=hY.at HVB.out (fun h =>h)
 have u0:wy.cell? ⟨w.heap.size,0,none⟩=some (.int .u64 bal) :=Z0r hvy 0 rfl
 have u1:wy.cell? ⟨w.heap.size,1,none⟩=some (.int .i64 st) :=Z0r hvy 1 rfl
 have u2:wy.cell? ⟨w.heap.size,2,none⟩=some (.bool sl) :=Z0r hvy 2 rfl
 have u3:wy.cell? ⟨w.heap.size,3,none⟩=some (.int .i64 rq) :=Z0r hvy 3 rfl
 have u4:wy.cell? ⟨w.heap.size,4,none⟩=some (.int .i64 ex) :=Z0r hvy 4 rfl
 have u5:wy.cell? ⟨w.heap.size,5,none⟩=some (.int .i64 wd) :=Z0r hvy 5 rfl
 have u6:wy.cell? ⟨w.heap.size,6,none⟩=some (.int .i64 dl) :=Z0r hvy 6 rfl
 have HY :=Hd (H.out.keeps HK.out)
 obtain ⟨_,y1,_,_,_⟩ :=Z1d HY.out.blk
 have f1 :=Z6r HY.out.blk 1
 clear hY hvy HVB HX
 go_wp2
 obtain ⟨i0,hi,hz0,hz1,hz2⟩ :=info_parts Zph
 have hlen:l.length≤4096 :=by have :=H.out.len; have :=H.out.cap; omega
 have hB:B≤wy.heap.size :=by have :=H.out.bg; have :=Z0a HY.out.blk; omega
 have hown :=HY.out.row
 have HOW :=Hd hown
 have NG :=Hd (show ¬ (Value.slice a l.length c).ownBlock=some g from H.out.og)
 have NB :=Hd (show ¬ (Value.slice a l.length c).ownBlock=some w.heap.size from fun e =>Nat.lt_irrefl _ (H.out.row.lt _ e).2)
 have NB2 :=Hd (show ¬ (w.heap.size=g∨(Value.slice a l.length c).ownBlock=some w.heap.size) from fun e =>by rcases e with e | e; omega; exact NB.out e)
 clear hown
 have hgy:g<wy.heap.size :=Z0a HY.out.blk
 have hby:w.heap.size<wy.heap.size :=cell_lt u0
 refine wp_region_noPanic ?_
 go_region_law
  ((refine step_append_lies _ (by rfl) _ _ 36 (by rfl) B 49 i0 _ 7 56 Tryz.underlying36 hi hz0 hz1 hz2 (by rfl) (by decide) (.slice a l.length c) l.length (Z10 l) (by simp [Act.eval]) ((HOW.out.alloc _).drew) ⟨wy.heap.size,0,none⟩ 1 1 (Vd.cells ⟨bal,st,sl,rq,ex,wd,dl⟩).toList (by simp [Act.eval]) (by rfl) (World.news_of_block (fr :=(0,0)) (t :=49) (by exact heap_alloc_last wy _)) (Zoo _) (by omega) (by unfold maxLen; omega) (by omega) (by show B≤(wy.heap.push _).size; rw [Array.size_push]; omega) (wy.heap.size+1) (by show (wy.heap.push _).size=_; rw [Array.size_push]) ?_; intro gb cb w1 hown1 hgrow1 hat1 hlt1; have ys :=(Zdo (S :=fun i =>Value.ownBlock (.slice a l.length c)=some i) y1 u0 u1 u2 u3 u4 u5 u6 ((((Mods.refl _ wy).alloc _).drew).grown hgrow1 (fun _ _ h =>h)) NG.out NB.out).1; have yf:w1.frozen? ⟨g,1,none⟩=false :=(((((Mods.refl (fun i =>Value.ownBlock (.slice a l.length c)=some i) wy).alloc _).drew).grown hgrow1 (fun _ _ h =>h)).frozen (p :=⟨g,1,none⟩) (cell_lt y1) NG.out).trans f1))
 all_goals
  refine NoPanic.normal ?_
  go_wp2
  obtain ⟨k1,k2,k3,k4,k5,k6⟩ :=add_mid (v :=⟨bal,st,sl,rq,ex,wd,dl⟩) HY.out hown1 hgrow1 hat1
  refine leaves_cons (f :=124) (args := #[.pointer (some ⟨g,0,none⟩),Vd.val ⟨bal,st,sl,rq,ex,wd,dl⟩, .bool true]) (by simp) (by simp [go_sem]) ?_
  refine (Zag g m n cap (actS l) (totS l) _ (cntS l) _ _ _ k1 k2 HY.out.gm HN.out HV.out).mono ?_
  rintro e u' w3 ⟨rfl,rfl,hb3,hm3,hmd3⟩
  exact ⟨_,results_tmp2 rfl _ _ _,rfl,Zn0 HY.out HV.out HC.out (by rw [HT.out]; exact HO.out) HK.out k3 k4 k5 k6 hat1 hb3 hm3 hmd3⟩
def eqVd (v o:Vd):Bool :=v.bal == o.bal && (v.st == o.st && (v.sl == o.sl && (v.rq == o.rq && (v.ex == o.ex && (v.wd == o.wd && v.dl == o.dl)))))
theorem Zli (v o:Vd):eqVd v o=true↔v=o :=by
 obtain ⟨a0,a1,a2,a3,a4,a5,a6⟩ :=v
 obtain ⟨b0,b1,b2,b3,b4,b5,b6⟩ :=o
 simp [eqVd]
theorem eqV (v o:Vd) (w:World):(binOp .eql 49 v.val o.val).run Tryz.prog w = .ok (.bool (eqVd v o)) w :=by
 obtain ⟨a0,a1,a2,a3,a4,a5,a6⟩ :=v
 obtain ⟨b0,b1,b2,b3,b4,b5,b6⟩ :=o
 unfold eqVd
 simp only
 go_simp
 by_cases h0:a0=b0 <;> by_cases h1:a1=b1 <;> by_cases h2:a2=b2 <;> by_cases h3:a3=b3 <;> by_cases h4:a4=b4 <;> by_cases h5:a5=b5 <;> by_cases h6:a6=b6 <;> simp [h0,h1,h2,h3,h4,h5,h6]
theorem eqgV (x y:Operand) (v o:Vd) (w:World):(eqGuard .eql 49 x y v.val o.val).run Tryz.prog w = .ok () w :=by
 go_simp
theorem Zgf {ops:Array Oper} {rest:List Oper} {o:Oper} {a:Act} {w:World} {Q:Exit→Act→World→Prop} (hg:o.guard=none) (x y:Operand) (t2:TypeId) (ho:o.op = .binOp .eql 49 x y t2) (v u:Vd) (hx:a.eval x=v.val) (hy:a.eval y=u.val)
 (h:wpList Tryz.prog ops Q rest (a.put o.dst (.bool (eqVd v u))) w):wpList Tryz.prog ops Q (o :: rest) a w :=
 wpList_plain hg fun K hK =>by
  unfold Oper.wp execOp
  simp only [ho,hx,hy,Sem.run_bind,eqgV,eqV,Result.andThen_ok,Sem.run_pure]
  exact hK _ _ h
theorem Z7x {w:World} {B:Nat} {a:Option Addr} {c:Nat} {l:List Vd} (hrow:w.ownsRow B 49 7 (.slice a l.length c) l.length (Z10 l)) (i:Nat) (hi:i<l.length) :
 ∃ b,a=some ⟨b,0,none⟩∧B≤b∧∀ j,j<7→w.cell? ⟨b,i * 7+j,none⟩=l[i].cells.toList[j]?∧w.frozen? ⟨b,i * 7+j,none⟩=false :=by
 rcases hrow.2 with ⟨e,h0⟩ | ⟨b,cap',cur,hv,hg,hh,r⟩
 ·omega
 ·simp only [Value.slice.injEq] at hv
  obtain ⟨rfl,_,rfl⟩ :=hv
  exact ⟨b,rfl,hg,fun j hj =>⟨by rw [hrow.cellAt (i * 7+j) (by omega),Z8b l i hi j hj],hrow.frozenAt _⟩⟩
theorem Z1x.mono {B:Nat} {w:World} {g m:Nat} {lv:Value} {cap:Int} {l:List Vd} {n n':Nat} (h:Z1x B w g m lv cap l n) (hn:n≤n'):Z1x B w g m lv cap l n' :=
 ⟨h.blk,h.row,h.map.mono hn,h.bg,h.bm,h.gm,h.og,h.om,h.ok,h.tot,h.len,h.cap⟩
theorem set_self {l:List Vd} {i:Nat} {o:Vd} (h:l[i]? = some o):l.set i o=l :=by
 obtain ⟨hi,rfl⟩ :=List.getElem?_eq_some_iff.1 h
 exact List.set_getElem_self hi
theorem Zjv (l:List Vd) (i:Nat) (hi:i<l.length) (v:Vd) :
 (((((((Z10 l).set (i * 7) (.int .u64 v.bal)).set (i * 7+1) (.int .i64 v.st)).set (i * 7+2) (.bool v.sl)).set (i * 7+3) (.int .i64 v.rq)).set (i * 7+4) (.int .i64 v.ex)).set (i * 7+5) (.int .i64 v.wd)).set (i * 7+6) (.int .i64 v.dl)=Z10 (l.set i v) :=by
 induction l generalizing i with
 | nil =>simp at hi
 | cons x r ih =>
  have e:∀ (y:Vd) (r:List Vd),Z10 (y :: r)=y.cells.toList ++ Z10 r :=fun _ _ =>rfl
  cases i with
  | zero =>
   rw [List.set_cons_zero,e,e]
   simp
  | succ i =>
   rw [List.set_cons_succ,e,e]
   have hx:x.cells.toList.length=7 :=rfl
   have hs:∀ (ys:List Value) (j:Nat) (u:Value),(x.cells.toList ++ ys).set ((i+1) * 7+j) u=x.cells.toList ++ ys.set (i * 7+j) u :=fun ys j u =>by
    rw [List.set_append_right _ _ (by omega),hx,show (i+1) * 7+j - 7=i * 7+j from by omega]
   have h0 :=hs (Z10 r) 0 (.int .u64 v.bal)
   rw [Nat.add_zero,Nat.add_zero] at h0
   rw [h0,hs,hs,hs,hs,hs,hs]
   simp only [Nat.add_zero]
   rw [ih i (by simpa using hi)]
def putV (w:World) (b i:Nat) (v:Vd):World :=
 ((((((w.setCell ⟨b,i * 7,none⟩ (.int .u64 v.bal)).setCell ⟨b,i * 7+1,none⟩ (.int .i64 v.st)).setCell ⟨b,i * 7+2,none⟩ (.bool v.sl)).setCell ⟨b,i * 7+3,none⟩ (.int .i64 v.rq)).setCell ⟨b,i * 7+4,none⟩ (.int .i64 v.ex)).setCell ⟨b,i * 7+5,none⟩ (.int .i64 v.wd)).setCell ⟨b,i * 7+6,none⟩ (.int .i64 v.dl)
theorem Z6i (w:World) (b i:Nat) (v:Vd):Mods (fun k =>k=b) w (putV w b i v) :=by
 unfold putV
 exact (((((((Mods.refl (fun k =>k=b) w).setCell _ _ fun _ =>rfl).setCell _ _ fun _ =>rfl).setCell _ _ fun _ =>rfl).setCell _ _ fun _ =>rfl).setCell _ _ fun _ =>rfl).setCell _ _ fun _ =>rfl).setCell _ _ fun _ =>rfl
theorem Zbk {w:World} {B b c:Nat} {l:List Vd} (hrow:w.ownsRow B 49 7 (.slice (some ⟨b,0,none⟩) l.length c) l.length (Z10 l)) (i:Nat) (hi:i<l.length) (v:Vd) :
 (putV w b i v).ownsRow B 49 7 (.slice (some ⟨b,0,none⟩) (l.set i v).length c) (l.set i v).length (Z10 (l.set i v)) :=by
 rw [← Zjv l i hi v,List.length_set]
 unfold putV
 exact (((((((hrow.stored _ _).1.stored _ _).1.stored _ _).1.stored _ _).1.stored _ _).1.stored _ _).1.stored _ _).1
theorem Zng {B:Nat} {w wy w4 w6:World} {g m b c i:Nat} {cap:Int} {l:List Vd} {n:Nat} {v o:Vd} (H:Z1x B wy g m (.slice (some ⟨b,0,none⟩) l.length c) cap l n) (hv:v.ok) (ho:totS (l.set i v)≤maxU) (hK:Z00 w wy) (hi:i<l.length) (hl:l[i]? = some o)
 (hm4:Mods (Two g m) wy w4)
 (hb6:w6.heap[g]? = some (regB cap (.slice (some ⟨b,0,none⟩) l.length c) (if v.live=true then IntKind.u64.wrap ((if o.live=true then IntKind.u64.wrap (actS l+IntKind.u64.wrap (-o.bal)) else actS l)+v.bal) else if o.live=true then IntKind.u64.wrap (actS l+IntKind.u64.wrap (-o.bal)) else actS l) (IntKind.u64.wrap (IntKind.u64.wrap (totS l+IntKind.u64.wrap (-o.bal))+v.bal)) m))
 (hi6:IM w6 m (n+1+1) (fun y =>if y=v.st then wrap64 ((fun y =>if y=o.st then wrap64 (cntS l o.st+-1) else cntS l y) v.st+1) else (fun y =>if y=o.st then wrap64 (cntS l o.st+-1) else cntS l y) y))
 (hm6:Mods (Two g m) (putV w4 b i v).drew w6) :
 Z1x B w6 g m (.slice (some ⟨b,0,none⟩) l.length c) cap (l.set i v) (n+2)∧Mods (RegS g m (.slice (some ⟨b,0,none⟩) l.length c)) w w6 :=by
 obtain ⟨_,hoe⟩ :=List.getElem?_eq_some_iff.1 hl
 have hmem:o∈l :=hoe ▸ List.getElem_mem hi
 have hok :=H.ok o hmem
 have hb :=Zm7 H.ok hi
 rw [hoe] at hb
 have hlen:(l.length:Int)≤4096 :=by have :=H.len; have :=H.cap; omega
 have ha :=Z8d H.ok
 have hsub:∀ {x:Int},0≤x→x≤maxU→o.bal≤x→IntKind.u64.wrap (x+IntKind.u64.wrap (-o.bal))=x - o.bal :=fun {x} h0 h1 h2 =>by
  have :=hok.b0
  unfold maxU at h1
  rw [IntKind.wrap_u64,IntKind.wrap_u64]
  omega
 have ht :=H.tot
 have et:IntKind.u64.wrap (IntKind.u64.wrap (totS l+IntKind.u64.wrap (-o.bal))+v.bal)=totS (l.set i v) :=by
  rw [hsub (by omega) ht hb.1]
  have e :=Z2z hi v
  rw [hoe] at e
  rw [← e]
  exact Zaq (by have :=hok.b0; have :=hv.b0; rw [e]; omega) ho
 have ea:(if v.live=true then IntKind.u64.wrap ((if o.live=true then IntKind.u64.wrap (actS l+IntKind.u64.wrap (-o.bal)) else actS l)+v.bal) else if o.live=true then IntKind.u64.wrap (actS l+IntKind.u64.wrap (-o.bal)) else actS l)=actS (l.set i v) :=by
  have e :=Zll hi v
  rw [hoe] at e
  have hle:actS (l.set i v)≤totS (l.set i v)∧0≤actS (l.set i v) :=by
   have h :=Z8d (l :=l.set i v) fun x hx =>by
    rcases List.mem_or_eq_of_mem_set hx with h | h
    ·exact H.ok x h
    ·subst h; exact hv
   exact ⟨h.2,h.1⟩
  have h1:(if o.live=true then IntKind.u64.wrap (actS l+IntKind.u64.wrap (-o.bal)) else actS l)=actS l - if o.live=true then o.bal else 0 :=by
   split
   ·rename_i hlv
    rw [if_pos hlv] at hb
    exact hsub ha.1 (by omega) hb.2
   ·omega
  rw [h1,e]
  split
  ·rename_i hlv
   rw [if_pos hlv] at e
   exact Zaq (by omega) (by omega)
  ·omega
 have ec:(fun y =>if y=v.st then wrap64 ((fun y =>if y=o.st then wrap64 (cntS l o.st+-1) else cntS l y) v.st+1) else (fun y =>if y=o.st then wrap64 (cntS l o.st+-1) else cntS l y) y)=cntS (l.set i v) :=by
  funext y
  have e :=Z5w hi v y
  rw [hoe] at e
  rw [e]
  have r1 :=Z5h l v.st
  have r2 :=Z5h l o.st
  have r3 :=Z5h l y
  have w1:wrap64 (cntS l o.st+-1)=cntS l o.st+-1 :=Z5x (by omega) (by omega)
  by_cases h1:y=v.st
  ·subst h1
   by_cases h2:v.st=o.st
   ·simp only [h2,if_true,w1]
    rw [Z5x (by omega) (by omega)]
    omega
   ·have h3 : ¬ o.st=v.st :=fun e =>h2 e.symm
    simp only [if_true,if_neg h2,if_neg h3]
    rw [Z5x (by omega) (by omega)]
    omega
  ·have h1' : ¬ v.st=y :=fun e =>h1 e.symm
   by_cases h2:y=o.st
   ·subst h2
    simp only [if_neg h1,if_neg h1',if_true,w1]
    omega
   ·have h2' : ¬ o.st=y :=fun e =>h2 e.symm
    simp only [if_neg h1,if_neg h1',if_neg h2,if_neg h2']
    omega
 rw [et,ea] at hb6
 rw [ec] at hi6
 have nb:∀ k,(Value.slice (some ⟨b,0,none⟩) l.length c).ownBlock=some k→¬ Two g m k :=fun k hk e =>by
  rcases e with e | e
  ·exact H.og (e ▸ hk)
  ·exact H.om (e ▸ hk)
 have h4 :=hm4.owns H.row nb
 have h5 :=Zbk h4 i hi v
 have h6 :=((Mods.refl (fun _ =>False) (putV w4 b i v)).drew).owns h5 (fun _ _ h =>h)
 have h7 :=hm6.owns h6 nb
 rw [List.length_set] at h7
 refine ⟨⟨hb6,by rw [List.length_set]; exact h7,hi6,H.bg,H.bm,H.gm,H.og,H.om, ?_,ho,by rw [List.length_set]; exact H.len,H.cap⟩, ?_⟩
 ·intro x hx
  rcases List.mem_or_eq_of_mem_set hx with h | h
  ·exact H.ok x h
  ·subst h; exact hv
 ·have m1:Mods (RegS g m (.slice (some ⟨b,0,none⟩) l.length c)) w wy :=hK.weaken fun _ _ h =>h.elim
  have two:∀ k,Two g m k→RegS g m (.slice (some ⟨b,0,none⟩) l.length c) k :=fun k h =>by
   rcases h with h | h
   ·exact .inl h
   ·exact .inr (.inl h)
  exact ((m1.seq hm4 fun _ _ h =>two _ h).seq (Z6i w4 b i v).drew fun _ _ h =>.inr (.inr (by subst h; rfl))).seq hm6 fun _ _ h =>two _ h
theorem Z9g {P:Program} {ops rest:_} {Q:Exit→Act→World→Prop} {a:Act} {w:World} (h:wpList P ops Q rest a w):wpList P ops Q rest a w :=h
theorem Zoe {B:Nat} {w:World} {g m:Nat} {lv:Value} {cap:Int} {l:List Vd} {n:Nat} (h:Z1x B w g m lv cap l n) (v:Vd) (i:Int) (hi:i<0∨l.length≤i) :
 Calls Tryz.prog 136 #[.pointer (some ⟨g,0,none⟩), .int .i64 i,v.val] w fun r w' =>r = .returned (.int .i64 7)∧Z00 w w' :=by
 obtain ⟨bal,st,sl,rq,ex,wd,dl⟩ :=v
 have H :=Hd h
 clear h
 go_enter_defers Tryz.func136,Tryz.ntmps136
 go_wp2_with fail
 refine (Zal (H.out.keeps ((Mods.refl _ w).alloc _)) i hi).mono ?_
 rintro r w1 ⟨rfl,hk⟩
 have HK :=Hd (((Mods.refl (fun _ =>False) w).alloc (.cells (Vd.cells ⟨bal,st,sl,rq,ex,wd,dl⟩) 49)).keep hk)
 clear hk
 go_wp2
 exact ⟨_,results_tmp rfl _ _ _,rfl,HK.out.alloc _⟩
theorem Zgy {B:Nat} {w:World} {g m:Nat} {lv:Value} {cap:Int} {l:List Vd} {n:Nat} (h:Z1x B w g m lv cap l n) (v:Vd) (hv:v.ok) (i:Nat) (hi:i<l.length) (ho:totS (l.set i v)≤maxU) (hn:n+1<4294967296) :
 Calls Tryz.prog 136 #[.pointer (some ⟨g,0,none⟩), .int .i64 (i:Int),v.val] w fun r w' =>r = .returned (.int .i64 0)∧Z1x B w' g m lv cap (l.set i v) (n+2)∧Mods (RegS g m lv) w w' :=by
 have hbal :=Zm7 h.ok hi
 have hok :=h.ok l[i] (List.getElem_mem hi)
 have HB0 :=hok.b0
 have HG :=Hd (Z6z (h.keeps ((Mods.refl _ w).alloc (.cells v.cells 49))) i hi)
 obtain ⟨c0,c1,c2,c3,c4⟩ :=Z1d h.blk
 have HO :=Hd ho
 have hV0 :=hv.b0
 have hV1 :=hv.b1
 rw [Z2z hi] at ho
 have ht :=h.tot
 have hq:l[i]? = some l[i] :=List.getElem?_eq_getElem hi
 generalize l[i]=o at *
 have HL :=Hd hq
 obtain ⟨bal,st,sl,rq,ex,wd,dl⟩ :=v
 obtain ⟨bal',st',sl',rq',ex',wd',dl'⟩ :=o
 simp only at hbal HB0 ho hV0 hV1
 generalize hT:totS l=T at *
 have HT :=Hd hT
 have w1:IntKind.u64.wrap (T - bal')=T - bal' :=Zaq (by omega) (by omega)
 have w2:IntKind.u64.wrap (18446744073709551615 - (T - bal'))=18446744073709551615 - (T - bal') :=Zaq (by unfold maxU at ht; omega) (by unfold maxU; omega)
 have hlt :=cell_lt c3
 have hgt : ¬ 18446744073709551615 - (T - bal')<bal :=by unfold maxU at ho; omega
 have HI :=Hd hi
 have H :=Hd h
 have HV :=Hd hv
 have HOK :=Hd hok
 have HN :=Hd hn
 clear h c0 c1 c2 c4 ho hbal HB0 hok ht hi hq hT hv hV0 hV1 hn
 go_enter_defers Tryz.func136,Tryz.ntmps136
 go_wp2_with fail
 refine HG.out.mono ?_
 rintro r w3 ⟨rfl,hk⟩
 have hvb :=hk.at (heap_alloc_last w (.cells (Vd.cells ⟨bal,st,sl,rq,ex,wd,dl⟩) 49)) (fun h =>h)
 have c3 :=(((Mods.refl (fun _ =>False) w).alloc (.cells (Vd.cells ⟨bal,st,sl,rq,ex,wd,dl⟩) 49)).keep hk).cell c3 (fun h =>h)
 have HK :=Hd (((Mods.refl (fun _ =>False) w).alloc (.cells (Vd.cells ⟨bal,st,sl,rq,ex,wd,dl⟩) 49)).keep hk)
 have v0:w3.cell? ⟨w.heap.size,0,none⟩=some (.int .u64 bal) :=Z0r hvb 0 rfl
 have hg3 :=cell_lt c3
 have hv3 :=cell_lt v0
 have HVB :=Hd hvb
 clear hk hvb
 go_wp2
 go_quiet (fail)
 obtain ⟨wy,hwy⟩:∃ wy,wy=(w3.alloc (Obj.cells (Vd.cells ⟨bal',st',sl',rq',ex',wd',dl'⟩) 49)).drewN nq :=⟨_,rfl⟩
 have hY:Z00 w3 wy :=hwy ▸ ((Mods.refl _ w3).alloc _).drewN _
 have hob :=((Mods.refl (fun _ =>False) (w3.alloc (Obj.cells (Vd.cells ⟨bal',st',sl',rq',ex',wd',dl'⟩) 49))).drewN nq).at (heap_alloc_last w3 _) (fun h =>h)
 rw [← hwy] at hob ⊢
 clear hwy v0 c3
 have hvy :=hY.at HVB.out (fun h =>h)
 have HKY :=Hd (HK.out.keep hY)
 have u0:wy.cell? ⟨w.heap.size,0,none⟩=some (.int .u64 bal) :=Z0r hvy 0 rfl
 have u1:wy.cell? ⟨w.heap.size,1,none⟩=some (.int .i64 st) :=Z0r hvy 1 rfl
 have u2:wy.cell? ⟨w.heap.size,2,none⟩=some (.bool sl) :=Z0r hvy 2 rfl
 have u3:wy.cell? ⟨w.heap.size,3,none⟩=some (.int .i64 rq) :=Z0r hvy 3 rfl
 have u4:wy.cell? ⟨w.heap.size,4,none⟩=some (.int .i64 ex) :=Z0r hvy 4 rfl
 have u5:wy.cell? ⟨w.heap.size,5,none⟩=some (.int .i64 wd) :=Z0r hvy 5 rfl
 have u6:wy.cell? ⟨w.heap.size,6,none⟩=some (.int .i64 dl) :=Z0r hvy 6 rfl
 have o0:wy.cell? ⟨w3.heap.size,0,none⟩=some (.int .u64 bal') :=Z0r hob 0 rfl
 have o1:wy.cell? ⟨w3.heap.size,1,none⟩=some (.int .i64 st') :=Z0r hob 1 rfl
 have o2:wy.cell? ⟨w3.heap.size,2,none⟩=some (.bool sl') :=Z0r hob 2 rfl
 have o3:wy.cell? ⟨w3.heap.size,3,none⟩=some (.int .i64 rq') :=Z0r hob 3 rfl
 have o4:wy.cell? ⟨w3.heap.size,4,none⟩=some (.int .i64 ex') :=Z0r hob 4 rfl
 have o5:wy.cell? ⟨w3.heap.size,5,none⟩=some (.int .i64 wd') :=Z0r hob 5 rfl
 have o6:wy.cell? ⟨w3.heap.size,6,none⟩=some (.int .i64 dl') :=Z0r hob 6 rfl
 clear hob hvy hY HVB
 go_wp2_with ((with_reducible refine Z9g ?_); refine Zgf rfl (.tmp 30) (.tmp 31) _ rfl ⟨bal,st,sl,rq,ex,wd,dl⟩ ⟨bal',st',sl',rq',ex',wd',dl'⟩ rfl rfl ?_; refine Z0e.out ?_)
 have hE :=Zli ⟨bal,st,sl,rq,ex,wd,dl⟩ ⟨bal',st',sl',rq',ex',wd',dl'⟩
 generalize eqVd ⟨bal,st,sl,rq,ex,wd,dl⟩ ⟨bal',st',sl',rq',ex',wd',dl'⟩=eb at *
 have HE :=Hd hE
 clear hE
 refine Z0e.mk ?_
 cases eb
 ·go_wp2_with fail
  have HYR :=Hd (H.out.keeps HKY.out)
  refine (Zft g m n cap (actS l) T lv (cntS l) ⟨bal',st',sl',rq',ex',wd',dl'⟩ wy (HT.out ▸ HYR.out.blk) HYR.out.map HYR.out.gm (by have :=HN.out; omega) HOK.out).mono ?_
  rintro r w4 ⟨rfl,hb4,hm4,hmd4⟩
  have hb4 :=Hd hb4
  have hm4 :=Hd hm4
  have HM4 :=Hd hmd4
  have nb : ¬ Two g m w.heap.size :=by
   have :=Z0a H.out.blk
   have :=H.out.map.lt
   rintro (h | h) <;> omega
  obtain ⟨v0,v1,v2,v3,v4,v5,v6⟩ :=Zds u0 u1 u2 u3 u4 u5 u6 hmd4 nb
  clear u0 u1 u2 u3 u4 u5 u6 o0 o1 o2 o3 o4 o5 o6
  obtain ⟨x0,x1,x2,x3,x4⟩ :=Z1d hb4.out
  have hrow :=hmd4.owns HYR.out.row (fun k hk e =>by rcases e with e | e; exact HYR.out.og (e ▸ hk); exact HYR.out.om (e ▸ hk))
  have HROW :=Hd hrow
  obtain ⟨a,c,rfl⟩ :=Z1j hrow
  obtain ⟨b,rfl,hBb,hrc⟩ :=Z7x hrow i HI.out
  have hil:(i:Int)<(l.length:Int) :=by have :=HI.out; omega
  have ol:l[i]'HI.out=⟨bal',st',sl',rq',ex',wd',dl'⟩ :=by
   obtain ⟨_,h⟩ :=List.getElem?_eq_some_iff.1 HL.out
   exact h
  rw [ol] at hrc
  obtain ⟨r0,z0⟩ :=hrc 0 (by omega)
  obtain ⟨r1,z1⟩ :=hrc 1 (by omega)
  obtain ⟨r2,z2⟩ :=hrc 2 (by omega)
  obtain ⟨r3,z3⟩ :=hrc 3 (by omega)
  obtain ⟨r4,z4⟩ :=hrc 4 (by omega)
  obtain ⟨r5,z5⟩ :=hrc 5 (by omega)
  obtain ⟨r6,z6⟩ :=hrc 6 (by omega)
  rw [Nat.add_zero] at r0 z0
  clear hrc hmd4 hrow
  go_wp2_with fail
  refine wp_region_noPanic ?_
  go_region
  all_goals
   refine NoPanic.normal ?_
   go_wp2
   refine leaves_cons (f :=124) (args := #[.pointer (some ⟨g,0,none⟩),Vd.val ⟨bal,st,sl,rq,ex,wd,dl⟩, .bool true]) (by simp) (by simp [go_sem]) ?_
   have hbb:b≠g∧b≠m :=⟨fun e =>HYR.out.og (by rw [← e]; rfl),fun e =>HYR.out.om (by rw [← e]; rfl)⟩
   have hpm :=(Z6i w4 b i ⟨bal,st,sl,rq,ex,wd,dl⟩).drew
   refine (Zag g m (n+1) cap _ _ _ _ ⟨bal,st,sl,rq,ex,wd,dl⟩ _ (putV w4 b i ⟨bal,st,sl,rq,ex,wd,dl⟩).drew (hpm.at hb4.out (fun e =>hbb.1 e.symm)) (hm4.out.mods hpm (fun e =>hbb.2 e.symm)) HYR.out.gm (by have :=HN.out; omega) HV.out).mono ?_
   rintro e u' w6 ⟨rfl,rfl,hb6,hi6,hm6⟩
   exact ⟨_,results_tmp rfl _ _ _,rfl,Zng HYR.out HV.out HO.out HKY.out HI.out HL.out HM4.out (by rw [HT.out]; exact hb6) hi6 hm6⟩
 ·have ev :=HE.out.1 rfl
  simp only [Vd.mk.injEq] at ev
  obtain ⟨rfl,rfl,rfl,rfl,rfl,rfl,rfl⟩ :=ev
  go_wp2
  refine ⟨_,results_tmp rfl _ _ _,rfl, ?_,HKY.out.weaken fun _ _ h =>h.elim⟩
  rw [set_self HL.out]
  exact (H.out.keeps HKY.out).mono (by omega)
end Go.Proofs.YtecapfmmoejikaaGreat
