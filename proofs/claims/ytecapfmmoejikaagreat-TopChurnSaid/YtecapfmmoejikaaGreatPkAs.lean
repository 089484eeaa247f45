/- A part of the proofs of the top laws: RgsF. -/
import Derived.Laws.AppendOwnNone
import Derived.Test.YtecapfmmoejikaaGreatPkAr
set_option maxRecDepth 4000
set_option maxHeartbeats 8000000
namespace Go.Eg
open Go Go.RowKit
def VL (w:World) (v:Value) (l:List Vd):Prop :=
 ∃ a cap,v = .slice a l.length cap∧(a=none→cap=0)∧(0<l.length→∃ b off,a=some ⟨b,off,none⟩∧∀ i (hi:i<l.length) j,j<7→w.cell? ⟨b,off+i * 7+j,none⟩=l[i].cells.toList[j]?)
theorem VL.mods {S:Nat→Prop} {a b:World} {v:Value} {l:List Vd} (h:VL a v l) (hm:Mods S a b) (hS:∀ k,v.ownBlock=some k→¬ S k):VL b v l :=by
 obtain ⟨p,cap,rfl,h0,hx⟩ :=h
 refine ⟨p,cap,rfl,h0,fun hl =>?_⟩
 obtain ⟨g,off,rfl,hc⟩ :=hx hl
 refine ⟨g,off,rfl,fun i hi j hj =>?_⟩
 have h1 :=hc i hi j hj
 obtain ⟨u,hu⟩:∃ u,l[i].cells.toList[j]? = some u :=⟨_,List.getElem?_eq_getElem (l :=l[i].cells.toList) (i :=j) (by show j<7; exact hj)⟩
 rw [hu] at h1 ⊢
 exact hm.cell h1 (hS g rfl)
theorem VL.keeps {a b:World} {v:Value} {l:List Vd} (h:VL a v l) (hm:Z00 a b):VL b v l :=h.mods hm fun _ _ h =>h
theorem VL.slice {w:World} {v:Value} {l:List Vd} (h:VL w v l):∃ a cap,v = .slice a l.length cap :=by
 obtain ⟨a,cap,h,_⟩ :=h
 exact ⟨a,cap,h⟩
theorem VL.of_owns {w:World} {B:Nat} {e:TypeId} {v:Value} {l:List Vd} (h:w.ownsRow B e 7 v l.length (Z10 l)):VL w v l :=by
 rcases h.2 with ⟨rfl,h0⟩ | ⟨b,cap,cur,rfl,hg,hh,r⟩
 ·exact ⟨none,0,by rw [h0],fun _ =>rfl,fun hl =>by omega⟩
 ·refine ⟨_,cap,rfl,(fun h =>by cases h),fun hl =>⟨b,0,rfl,fun i hi j hj =>?_⟩⟩
  rw [Nat.zero_add,h.cellAt (i * 7+j) (by omega),Z8b l i hi j hj]
theorem VL.news {w:World} {b off cap:Nat} {l:List Vd} (h:VL w (.slice (some ⟨b,off,none⟩) l.length cap) l):∀ j u,(Z10 l)[j]? = some u→w.cell? ((⟨b,off,none⟩:Addr).add j)=some u :=by
 intro j u hu
 have hj:j<l.length * 7 :=by have :=(List.getElem?_eq_some_iff.1 hu).1; rw [Zda] at this; exact this
 obtain ⟨a,c,e,_,hx⟩ :=h
 simp only [Value.slice.injEq] at e
 obtain ⟨rfl,_,rfl⟩ :=e
 obtain ⟨b',off',e,hc⟩ :=hx (by omega)
 simp only [Option.some.injEq,Addr.mk.injEq,and_true] at e
 obtain ⟨rfl,rfl⟩ :=e
 have hd:j / 7<l.length :=by omega
 have h1 :=hc (j / 7) hd (j % 7) (by omega)
 have h2 :=Z8b l (j / 7) hd (j % 7) (by omega)
 rw [show j / 7 * 7+j % 7=j from by omega] at h2
 rw [addr_add,← hu,h2,← h1,show b=b from rfl,Nat.add_assoc,show j / 7 * 7+j % 7=j from by omega]
theorem Zhu (l:List Vd):∀ u∈Z10 l,u.oneCell'=true :=by
 intro u hu
 unfold Z10 at hu
 obtain ⟨v,_,h⟩ :=List.mem_flatMap.1 hu
 simp at h
 rcases h with rfl | rfl | rfl | rfl | rfl | rfl | rfl <;> rfl
theorem VL.at {w:World} {a:Option Addr} {cap:Nat} {l:List Vd} (h:VL w (.slice a l.length cap) l) (i:Nat) (hi:i<l.length) :
 ∃ b off,a=some ⟨b,off,none⟩∧w.cell? ⟨b,off+i * 7,none⟩=some (.int .u64 l[i].bal)∧w.cell? ⟨b,off+i * 7+1,none⟩=some (.int .i64 l[i].st)∧w.cell? ⟨b,off+i * 7+2,none⟩=some (.bool l[i].sl) ∧
  w.cell? ⟨b,off+i * 7+3,none⟩=some (.int .i64 l[i].rq)∧w.cell? ⟨b,off+i * 7+4,none⟩=some (.int .i64 l[i].ex)∧w.cell? ⟨b,off+i * 7+5,none⟩=some (.int .i64 l[i].wd)∧w.cell? ⟨b,off+i * 7+6,none⟩=some (.int .i64 l[i].dl) :=by
 obtain ⟨a',c,e,_,hx⟩ :=h
 simp only [Value.slice.injEq] at e
 obtain ⟨rfl,_,rfl⟩ :=e
 obtain ⟨b,off,rfl,hc⟩ :=hx (by omega)
 have c0 :=hc i hi 0 (by omega)
 rw [Nat.add_zero] at c0
 exact ⟨b,off,rfl,c0,hc i hi 1 (by omega),hc i hi 2 (by omega),hc i hi 3 (by omega),hc i hi 4 (by omega),hc i hi 5 (by omega),hc i hi 6 (by omega)⟩
theorem Zi2 {l:List Vd} {k:Nat} (hk:k<l.length):l.take (k+1)=l.take k ++ [l[k]] :=by simp
end Go.Eg
namespace Go.Proofs.YtecapfmmoejikaaGreat
open Go.RowKit Go.Eg
theorem Zo0:(Tryz.prog.info? 22).map (fun i =>(i.zero,i.size,i.bytes))=some (some (Value.int .u64 0),1,8) :=by kernel_rfl
theorem Zmg (v:Value) (l:List Vd) (w:World) (h:VL w v l) (hn:l.length≤8192) :
 Calls Tryz.prog 17 #[v] w fun r w' => ∃ v',r = .returned v'∧w'.ownsRow w.heap.size 22 1 v' l.length (l.map fun x =>Value.int .u64 x.bal)∧Z00 w w' :=by
 have H :=Hd h
 obtain ⟨a,cap,rfl⟩ :=h.slice
 obtain ⟨i0,hi,hz0,hz1,hz2⟩ :=info_parts Zo0
 clear h
 go_enter Tryz.func17,Tryz.ntmps17
 go_wp2
 go_loopw [3,4] (fun s i wr => ∃ k:Nat,k≤l.length∧i = .int .i64 k∧wr.ownsRow w.heap.size 22 1 s k ((l.take k).map fun x =>Value.int .u64 x.bal)∧Z00 w wr) (fun _ i _ =>l.length - (intOf i).toNat)
 case atStart =>exact ⟨0,Nat.zero_le _,rfl,World.ownsRow_nil _ _ _ _,Mods.refl _ _⟩
 case round =>
  obtain ⟨k,hk,rfl,hown,hm⟩ :=hrel
  have HM :=Hd hm
  by_cases hlt:k<l.length
  ·obtain ⟨b,off,rfl,x0,_⟩ :=(H.out.keeps hm).at k hlt
   have ht :=Zi2 hlt
   have HT :=Hd ht
   generalize hx:l[k].bal=x at *
   have HX :=Hd hx
   have hsz :=hm.size
   have hb :=cell_lt x0
   clear hm ht hx
   go_wp2_with (at_builtin; refine wpList_append_own _ rfl _ _ 59 rfl w.heap.size 22 i0 (.int .u64 0) 1 8 Tryz.underlying59 hi hz0 hz1 hz2 rfl (by decide) _ _ _ rfl (hown.alloc _) ⟨wr.heap.size,0,none⟩ 1 1 [.int .u64 x] rfl rfl (World.news_of_block (heap_alloc_last wr (.cells #[.int .u64 x] 22))) (fun u hu =>by simp at hu; subst hu; rfl) (by unfold maxLen; omega) (by omega) (by simp; omega) ?_)
   intro v' w3 hown3 hgrow _
   go_wp2
   go_roundw
   case rel => 
    refine ⟨k+1,by omega,by go_num, ?_, ?_⟩
    ·rw [HT.out,List.map_append,List.map_take]
     simp only [List.map_cons,List.map_nil,HX.out]
     exact hown3
    ·refine (HM.out.alloc _).grown hgrow fun j hj e =>?_
     have :=(hown.lt _ e).1
     omega
   case measure =>simp [intOf]; omega
  ·have hkn:k=l.length :=by omega
   subst hkn
   rw [List.take_length] at hown
   clear hm
   go_wp2
   go_ret
   exact ⟨_,rfl,hown,HM.out⟩
theorem Zjl {ops:Array Oper} {rest:List Oper} {o:Oper} {a:Act} {Q:Exit→Act→World→Prop} (w:World) (hgd:o.guard=none) (s x:Operand)
 (ho:o.op = .call { callee := .builtin .append,args := #[s,x],argTypes := #[36,36] })
 (B:Nat) (v:Value) (l0 l:List Vd) (hs:a.eval s=v) (hown:w.ownsRow B 49 7 v l0.length (Z10 l0)) (u:Value) (hx:a.eval x=u) (hu:VL w u l) (hn:l0.length+l.length≤8192) (hB:B≤w.heap.size)
 (h:∀ v' w',w'.ownsRow B 49 7 v' (l0 ++ l).length (Z10 (l0 ++ l))→w.grownBy w' v.ownBlock→wpList Tryz.prog ops Q rest (a.put o.dst v') w'):wpList Tryz.prog ops Q (o :: rest) a w :=by
 obtain ⟨i0,hi,hz0,hz1,hz2⟩ :=info_parts Zph
 have hU :=hu
 obtain ⟨ad,cap,rfl,h0,hc⟩ :=hu
 have hf:Z10 (l0 ++ l)=Z10 l0 ++ Z10 l :=by simp [Z10]
 cases ad with
 | none =>
  obtain rfl :=h0 rfl
  have hl:l = [] :=by
   by_cases e:0<l.length
   ·obtain ⟨_,_,e,_⟩ :=hc e
    cases e
   ·exact List.length_eq_zero_iff.1 (by omega)
  subst hl
  refine wpList_append_own_none hgd s x _ ho B _ i0 7 Tryz.underlying36 hi v l0.length (Z10 l0) hs hown hx (h v w ?_ ?_)
  ·simpa using hown
  ·exact ⟨rfl,rfl,rfl,Nat.le_refl _,fun _ _ _ =>rfl⟩
 | some ad =>
  refine wpList_append_own w hgd s x _ ho B _ i0 _ 7 56 Tryz.underlying36 hi hz0 hz1 hz2 rfl (by decide) v l0.length (Z10 l0) hs hown ad l.length cap (Z10 l) hx (Zda l) ?_ (Zhu l) (by unfold maxLen; omega) (by omega) hB ?_
  ·by_cases e:0<l.length
   ·obtain ⟨b,off,e,_⟩ :=hc e
    simp only [Option.some.injEq] at e
    subst e
    exact hU.news
   ·have:l = [] :=List.length_eq_zero_iff.1 (by omega)
    subst this
    intro j u hu
    simp [Z10] at hu
  ·intro v' w' ho' hg _
   refine h v' w' ?_ hg
   rw [hf,List.length_append]
   exact ho'
theorem Zlj (w:World) (n c:Nat) (ad:Addr):(binOp .eql 36 (.slice (some ad) n c) (.slice none 0 0)).run Tryz.prog w = .ok (.bool false) w :=rfl
theorem Ziw (w:World):(binOp .eql 36 (.slice none 0 0) (.slice none 0 0)).run Tryz.prog w = .ok (.bool true) w :=rfl
theorem clone_any (v:Value) (l:List Vd) (w:World) (h:VL w v l) (hn:l.length≤8192) :
 Calls Tryz.prog 69 #[v] w fun r w' => ∃ v',r = .returned v'∧w'.ownsRow w.heap.size 49 7 v' l.length (Z10 l)∧Z00 w w' :=by
 have H :=Hd h
 obtain ⟨a,cap,rfl,h0,hc⟩ :=h
 by_cases hnil:a=none
 ·have :=h0 hnil
  have hl:l = [] :=by
   by_cases e:0<l.length
   ·obtain ⟨_,_,e,_⟩ :=hc e
    rw [hnil] at e
    cases e
   ·exact List.length_eq_zero_iff.1 (by omega)
  subst this hnil hl
  have hsn :=Ziw
  go_enter Tryz.func69,Tryz.ntmps69
  go_wp2
  go_ret
  exact ⟨_,rfl,World.ownsRow_nil _ _ _ _,Mods.refl _ _⟩
 ·obtain ⟨ad,rfl⟩ :=Option.ne_none_iff_exists'.1 hnil
  clear h0 hc hnil
  have hsn :=Zlj
  go_enter Tryz.func69,Tryz.ntmps69
  go_wp2_with (at_builtin; refine Zjl _ rfl (.tmp 5) (.tmp 6) rfl w.heap.size (.slice (some ⟨w.heap.size,0,none⟩) 0 0) [] l rfl ?_ _ rfl (H.out.keeps ((Mods.refl _ w).alloc _)) (by simpa using hn) (by simp) ?_)
  ·exact World.ownsRow_lit w #[] 0 (Nat.le_refl _) (by unfold maxLen; omega) rfl
  ·intro v' w' ho hg
   have HO :=Hd ho
   have HG :=Hd hg
   obtain ⟨a',c',rfl⟩ :=Z1j ho
   clear ho hg
   go_wp2
   go_ret
   exact ⟨_,rfl,HO.out,((Mods.refl _ w).alloc _).grown HG.out (fun j hj e =>by simp [Value.ownBlock] at e; omega)⟩
theorem Za5 {B:Nat} {w:World} {g m:Nat} {lv:Value} {cap:Int} {l:List Vd} {n:Nat} (h:Z1x B w g m lv cap l n) :
 Calls Tryz.prog 39 #[.pointer (some ⟨g,0,none⟩)] w fun r w' => ∃ v',r = .returned v'∧w'.ownsRow w.heap.size 49 7 v' l.length (Z10 l)∧Z00 w w' :=by
 obtain ⟨_,c1,_,_,_⟩ :=Z1d h.blk
 have hlen:l.length≤4096 :=by have :=h.len; have :=h.cap; omega
 obtain ⟨a,c,rfl⟩ :=Z1j h.row
 have HC :=Hd (clone_any _ l w (VL.of_owns h.row) (by omega))
 clear h
 go_enter Tryz.func39,Tryz.ntmps39
 go_wp2_with fail
 refine HC.out.mono ?_
 rintro r w1 ⟨v',rfl,ho,hm⟩
 have HO :=Hd ho
 have HM :=Hd hm
 obtain ⟨a',c',rfl⟩ :=Z1j ho
 clear ho hm
 go_wp2
 go_ret
 exact ⟨_,rfl,HO.out,HM.out⟩
end Go.Proofs.YtecapfmmoejikaaGreat
