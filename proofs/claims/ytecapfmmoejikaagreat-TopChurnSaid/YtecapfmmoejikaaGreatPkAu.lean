/- A part of the proofs of the top laws: EngA EngB DeaA DeaB DeaC. -/
import Derived.Deep.RegionHeld3
import Derived.Test.YtecapfmmoejikaaGreatPkAp
import Derived.Test.YtecapfmmoejikaaGreatPkAs
import Derived.Test.YtecapfmmoejikaaGreatPkAt
import Derived.Test.YtecapfmmoejikaaGreatPkAv
set_option maxRecDepth 4000
set_option maxHeartbeats 8000000
namespace Go.Proofs.YtecapfmmoejikaaGreat
open Go.RowKit Go.Eg
@[reducible] def rcV (kd cd ix bl ep dl:Int) (av pv:Value) (vs:Int):Value := .agg #[.int .i64 kd, .int .i64 cd, .int .i64 ix, .int .i64 bl, .int .i64 ep, .int .i64 dl,av,pv, .int .i64 vs]
theorem Z7o (o:Od) (ix dl bl ep:Int) (w:World):Calls Tryz.prog 57 #[o.val, .int .i64 ix, .int .i64 dl, .int .i64 bl, .int .i64 ep] w fun r w' =>r = .returned (rcV o.kd 0 ix bl ep dl (.slice none 0 0) (.slice none 0 0) 0)∧Z00 w w' :=by
 obtain ⟨kd,oi,tg,am⟩ :=o
 go_enter Tryz.func57,Tryz.ntmps57
 go_wp2
 refine bodyPost_ret (v :=rcV kd 0 ix bl ep dl (.slice none 0 0) (.slice none 0 0) 0) (by simp [results,Tryz.results57,go_sem]) rfl ⟨rfl, ?_⟩
 (repeat' first | (with_reducible refine Mods.setCell ?_ _ _ (fun _ =>rfl)) | (with_reducible refine Mods.alloc ?_ _) | (with_reducible refine Mods.drewN ?_ _) | (with_reducible refine Mods.drew ?_) | (with_reducible exact Mods.refl _ _))
theorem Z7g (o:Od) (cd bl ep:Int) (w:World):Calls Tryz.prog 48 #[o.val, .int .i64 cd, .int .i64 bl, .int .i64 ep] w fun r w' =>r = .returned (rcV o.kd cd (-1) bl ep (-1) (.slice none 0 0) (.slice none 0 0) 0)∧Z00 w w' :=by
 obtain ⟨kd,oi,tg,am⟩ :=o
 go_enter Tryz.func48,Tryz.ntmps48
 go_wp2
 refine bodyPost_ret (v :=rcV kd cd (-1) bl ep (-1) (.slice none 0 0) (.slice none 0 0) 0) (by simp [results,Tryz.results48,go_sem]) rfl ⟨rfl, ?_⟩
 (repeat' first | (with_reducible refine Mods.setCell ?_ _ _ (fun _ =>rfl)) | (with_reducible refine Mods.alloc ?_ _) | (with_reducible refine Mods.drewN ?_ _) | (with_reducible refine Mods.drew ?_) | (with_reducible exact Mods.refl _ _))
theorem Z0q (cd:Int) (w:World):Calls Tryz.prog 56 #[.int .i64 cd] w fun r w' =>r = .returned (.agg #[.int .i64 cd, .int .i64 0, .int .i64 0])∧Z00 w w' :=by
 go_enter Tryz.func56,Tryz.ntmps56
 go_wp2
 refine bodyPost_ret (v := .agg #[.int .i64 cd, .int .i64 0, .int .i64 0]) (by simp [results,Tryz.results56,go_sem]) rfl ⟨rfl, ?_⟩
 (repeat' first | (with_reducible refine Mods.setCell ?_ _ _ (fun _ =>rfl)) | (with_reducible refine Mods.alloc ?_ _) | (with_reducible refine Mods.drewN ?_ _) | (with_reducible refine Mods.drew ?_) | (with_reducible exact Mods.refl _ _))
theorem Z2f (ix dl:Int) (w:World):Calls Tryz.prog 86 #[.int .i64 ix, .int .i64 dl] w fun r w' =>r = .returned (.agg #[.int .i64 0, .int .i64 ix, .int .i64 dl])∧Z00 w w' :=by
 go_enter Tryz.func86,Tryz.ntmps86
 go_wp2
 refine bodyPost_ret (v := .agg #[.int .i64 0, .int .i64 ix, .int .i64 dl]) (by simp [results,Tryz.results86,go_sem]) rfl ⟨rfl, ?_⟩
 (repeat' first | (with_reducible refine Mods.setCell ?_ _ _ (fun _ =>rfl)) | (with_reducible refine Mods.alloc ?_ _) | (with_reducible refine Mods.drewN ?_ _) | (with_reducible refine Mods.drew ?_) | (with_reducible exact Mods.refl _ _))
def wgt (l:List Int) (i:Int):Int :=if i<0∨l.length≤i then 0 else l.getD i.toNat 0
theorem Za3 (v:Value) (l:List Int) (B:Nat) (i:Int) (w:World) (hv:w.ownsRow B 22 1 v l.length (l.map fun x =>.int .u64 x)) :
 Calls Tryz.prog 187 #[v, .int .i64 i] w fun r w' =>r = .returned (.int .u64 (wgt l i))∧w=w' :=by
 obtain ⟨va,vc,rfl⟩ :=Z0c hv
 have HV :=Hd hv
 obtain ⟨R,hR⟩:∃ R,R=wgt l i :=⟨_,rfl⟩
 rw [← hR]
 have HR :=Hd hR
 clear hv hR
 by_cases h0:i<0
 ·have E :=Hd (HR.out.trans (if_pos (.inl h0)))
  go_enter Tryz.func187,Tryz.ntmps187
  go_wp2
  go_ret
  exact ⟨Z0p E.out.symm,rfl⟩
 ·by_cases h1:(l.length:Int)≤i
  ·have E :=Hd (HR.out.trans (if_pos (.inr h1)))
   go_enter Tryz.func187,Tryz.ntmps187
   go_wp2
   go_ret
   exact ⟨Z0p E.out.symm,rfl⟩
  ·obtain ⟨k,rfl⟩:∃ k:Nat,i=k :=⟨i.toNat,by omega⟩
   have hk:k<l.length :=by omega
   have E :=Hd (HR.out.trans (if_neg (by omega)))
   rcases HV.out.2 with ⟨_,h0'⟩ | ⟨g,cap,cur,hv,hg,hh,r⟩
   ·omega
   simp only [Value.slice.injEq] at hv
   obtain ⟨rfl,_,rfl⟩ :=hv
   have hc:w.cell? ⟨g,k,none⟩=some (.int .u64 l[k]) :=by
    rw [HV.out.cellAt k (by omega)]
    simp [hk]
   have hki:(k:Int)<(l.length:Int) :=by omega
   have E2 :=Hd (show l.getD (k:Int).toNat 0=l[k] from by simp [hk])
   clear hh r hg
   go_enter Tryz.func187,Tryz.ntmps187
   go_wp2
   go_ret
   exact ⟨Z0p (by rw [E.out,E2.out]),rfl⟩
theorem Zh6 {w:World} {B B':Nat} {e:TypeId} {size:Nat} {v:Value} {n:Nat} {xs:List Value} (h:w.ownsRow B e size v n xs) (hb:B'≤B):w.ownsRow B' e size v n xs :=by
 obtain ⟨h1,h2⟩ :=h
 rcases h2 with h2 | ⟨g,cap,cur,hv,hg,r⟩
 ·exact ⟨h1, .inl h2⟩
 ·exact ⟨h1, .inr ⟨g,cap,cur,hv,Nat.le_trans hb hg,r⟩⟩
theorem Zpt (w:World) (o:Obj) (a:Value) (t:TypeId):∀ (j:Nat) (v:Value),[a][j]? = some v→((w.alloc o).alloc (.cells #[a] t)).cell? ((⟨w.heap.size+1,0,none⟩:Addr).add j)=some v :=by
 intro j v hj
 have h :=heap_alloc_last (w.alloc o) (.cells #[a] t)
 rw [World.size_alloc] at h
 rw [addr_add]
 unfold World.cell?
 rw [h]
 simpa using hj
@[reducible] def tabV (g:Nat):Value := .agg #[.pointer (some ⟨g,0,none⟩)]
theorem Z67 {B:Nat} {w:World} {g m:Nat} {lv:Value} {cap:Int} {l:List Vd} {n:Nat} (h:Z1x B w g m lv cap l n) (v:Vd) (hv:v.ok) (i:Nat) (hi:i<l.length) (ho:totS (l.set i v)≤maxU) (hn:n+1<4294967296) :
 Calls Tryz.prog 91 #[tabV g, .int .i64 (i:Int),v.val] w fun r w' =>r = .returned (.tuple #[])∧Z1x B w' g m lv cap (l.set i v) (n+2)∧Mods (RegS g m lv) w w' :=by
 have HS :=Hd (fun (w':World) (hk:Z00 w w') =>Zgy (h.keeps hk) v hv i hi ho hn)
 clear h hv hi ho hn
 obtain ⟨bal,st,sl,rq,ex,wd,dl⟩ :=v
 go_enter Tryz.func91,Tryz.ntmps91
 go_wp2_with fail
 refine (HS.out _ (by (repeat' first | (with_reducible refine Mods.setCell ?_ _ _ (fun _ =>rfl)) | (with_reducible refine Mods.alloc ?_ _) | (with_reducible refine Mods.drewN ?_ _) | (with_reducible refine Mods.drew ?_) | (with_reducible exact Mods.refl _ _)))).mono ?_
 rintro r w1 ⟨rfl,hr,hm⟩
 have HR :=Hd hr
 have HM :=Hd (show Mods (RegS g m lv) w w1 from Mods.trans (by (repeat' first | (with_reducible refine Mods.setCell ?_ _ _ (fun _ =>rfl)) | (with_reducible refine Mods.alloc ?_ _) | (with_reducible refine Mods.drewN ?_ _) | (with_reducible refine Mods.drew ?_) | (with_reducible exact Mods.refl _ _))) hm)
 clear hr hm
 go_wp2
 go_end0
 exact ⟨rfl,HR.out,HM.out⟩
theorem Z8n {B:Nat} {w:World} {g m:Nat} {lv:Value} {cap:Int} {l:List Vd} {n:Nat} (h:Z1x B w g m lv cap l n) :
 Calls Tryz.prog 114 #[tabV g] w fun r w' => ∃ v,r = .returned v∧w'.ownsRow w.heap.size 22 1 v l.length (l.map fun x =>.int .u64 x.bal)∧Z00 w w' :=by
 have HALL :=Hd (fun (w':World) (hk:Z00 w w') =>Za5 (h.keeps hk))
 have hl4:l.length≤4096 :=by have :=h.len; have :=h.cap; omega
 clear h
 go_enter Tryz.func114,Tryz.ntmps114
 go_wp2_with fail
 refine (HALL.out _ (by (repeat' first | (with_reducible refine Mods.setCell ?_ _ _ (fun _ =>rfl)) | (with_reducible refine Mods.alloc ?_ _) | (with_reducible refine Mods.drewN ?_ _) | (with_reducible refine Mods.drew ?_) | (with_reducible exact Mods.refl _ _)))).mono ?_
 rintro r w1 ⟨v1,rfl,ho1,hk1⟩
 obtain ⟨va,vc,rfl⟩ :=Z0c ho1
 have HO1 :=Hd ho1
 have HK1 :=Hd (show Z00 w w1 from Mods.trans (by (repeat' first | (with_reducible refine Mods.setCell ?_ _ _ (fun _ =>rfl)) | (with_reducible refine Mods.alloc ?_ _) | (with_reducible refine Mods.drewN ?_ _) | (with_reducible refine Mods.drew ?_) | (with_reducible exact Mods.refl _ _))) hk1)
 clear ho1 hk1
 obtain ⟨i0,hi,hz0,hz1,hz2⟩ :=info_parts Zo0
 have HVL :=Hd (VL.of_owns HO1.out)
 have hs1 :=HK1.out.size
 go_wp2_with fail
 go_loopw [3,10] (fun s i wr => ∃ k:Nat,k≤l.length∧i = .int .i64 k∧wr.ownsRow w1.heap.size 22 1 s k ((l.map fun x =>Value.int .u64 x.bal).take k)∧Z00 w1 wr) (fun _ i _ =>l.length - (intOf i).toNat)
 case atStart =>exact ⟨0,Nat.zero_le _,rfl,World.ownsRow_nil _ _ _ _,Mods.refl _ _⟩
 case round =>
  obtain ⟨k,hk,rfl,hown,hm⟩ :=hrel
  have HM :=Hd hm
  by_cases hlt:k<l.length
  ·obtain ⟨b,off,rfl,x0,x1,x2,x3,x4,x5,x6⟩ :=(HVL.out.keeps hm).at k hlt
   have hki:(k:Int)<(l.length:Int) :=Int.ofNat_lt.2 hlt
   have ht :=take_snoc (fun x:Vd =>Value.int .u64 x.bal) hlt
   have HT :=Hd ht
   generalize l[k]=u at *
   obtain ⟨bal,st,sl,rq,ex,wd,dl⟩ :=u
   simp only at x0 x1 x2 x3 x4 x5 x6
   have hsz :=hm.size
   have hb :=cell_lt x0
   have HO :=Hd hown
   obtain ⟨sa,sc,rfl⟩ :=Z0c hown
   clear hm ht hown
   go_wp2_with (at_builtin; refine wpList_append_own _ rfl _ _ 59 rfl w1.heap.size 22 i0 (.int .u64 0) 1 8 Tryz.underlying59 hi hz0 hz1 hz2 rfl (by decide) _ _ _ rfl ((HO.out.alloc _).alloc _) ⟨wr.heap.size+1,0,none⟩ 1 1 [.int .u64 bal] rfl rfl (Zpt _ _ _ _) (fun u hu =>by simp at hu; subst hu; rfl) (by unfold maxLen; omega) (by omega) (by simp; omega) ?_)
   intro v' w3 hown3 hgrow _
   have HG :=Hd (Z3r (HM.out.alloc (.cells (Vd.cells ⟨bal,st,sl,rq,ex,wd,dl⟩) 49)) (HO.out.alloc _) (Nat.le_refl _) hgrow)
   have HO3 :=Hd (Eq.mp (congrArg (fun L =>w3.ownsRow w1.heap.size 22 1 v' (k+1) L) HT.out) hown3)
   clear hgrow hown3
   go_wp2
   go_roundw
   case rel =>exact ⟨k+1,by omega,by go_num,HO3.out,HG.out⟩
   case measure =>simp [intOf]; omega
  ·have hkn:k=l.length :=by omega
   subst hkn
   have HO :=Hd hown
   clear hm hown
   go_wp2
   go_ret
   refine ⟨_,rfl, ?_,HK1.out.keep HM.out⟩
   have h :=HO.out
   rw [List.take_of_length_le (by simp)] at h
   exact Zh6 h hs1
end Go.Proofs.YtecapfmmoejikaaGreat
namespace Go.Eg
def sumL:List Int→Int
 | [] =>0
 | x :: r =>x+sumL r
theorem Zer (a b:List Int):sumL (a ++ b)=sumL a+sumL b :=by
 induction a with
 | nil =>simp [sumL]
 | cons x a ih =>simp only [List.cons_append,sumL,ih]; omega
theorem Zch (l:List Int):∀ k,k≤l.length→sumF (fun j =>l.getD j 0) k=sumL (l.take k)
 | 0,_ =>rfl
 | k+1,h =>by
  have e:l.take (k+1)=l.take k ++ [l[k]] :=by simp
  rw [sumF,Zch l k (by omega),e,Zer]
  simp [sumL,show k<l.length from h]
end Go.Eg
namespace Go.Proofs.YtecapfmmoejikaaGreat
open Go.RowKit Go.Eg
theorem Zcl {w:World} {B:Nat} {e:TypeId} {v:Value} {l:List Int} (h:w.ownsRow B e 1 v l.length (l.map fun x =>Value.int .u64 x)) (hr:∀ x∈l,0≤x∧x≤maxU):Amts w v l.length (fun j =>l.getD j 0) :=by
 obtain ⟨a,c,rfl⟩ :=Z0c h
 refine ⟨⟨a,c,rfl,fun h0 =>?_⟩,fun j hj =>?_⟩
 ·rcases h.2 with ⟨_,h1⟩ | ⟨g,cap,cur,hv,hg,hh,r⟩
  ·omega
  ·simp only [Value.slice.injEq] at hv
   obtain ⟨rfl,_,rfl⟩ :=hv
   refine ⟨g,0,rfl,fun j hj =>?_⟩
   rw [Nat.zero_add,h.cellAt j (by omega)]
   simp [hj]
 ·have e:l.getD j 0=l[j] :=by simp [hj]
  simp only [e]
  exact hr _ (List.getElem_mem hj)
theorem Z60 {l:List Int} (hr:∀ x∈l,0≤x∧x≤maxU) (i:Int):0≤wgt l i∧wgt l i≤maxU :=by
 unfold wgt
 split
 ·unfold maxU; omega
 ·have hk:i.toNat<l.length :=by omega
  have e:l.getD i.toNat 0=l[i.toNat] :=by simp [hk]
  rw [e]
  exact hr _ (List.getElem_mem hk)
def wgts (l:List Int) (ix:List Int):List Int :=ix.map (wgt l)
theorem Z6g (v vi:Value) (l ix:List Int) (B B2:Nat) (w:World) (hv:w.ownsRow B 22 1 v l.length (l.map fun x =>.int .u64 x)) (hr:∀ x∈l,0≤x∧x≤maxU) (hi:w.ownsRow B2 3 1 vi ix.length (ix.map fun x =>.int .i64 x)) (hl:ix.length≤100000) :
 Calls Tryz.prog 127 #[v,vi] w fun r w' =>r = .returned (.tuple #[.int .u64 (if sumL (wgts l ix)≤maxU then sumL (wgts l ix) else 0), .bool (decide (sumL (wgts l ix)≤maxU))])∧Z00 w w' :=by
 obtain ⟨i0,hi0,hz0,hz1,hz2⟩ :=info_parts Zo0
 have HW :=Hd (fun (w':World) (hk:Z00 w w') (i:Int) =>Za3 v l B i w' (hk.owns hv fun _ _ h =>h))
 have HR :=Hd hr
 obtain ⟨ia,ic,rfl⟩ :=Z0c hi
 have HI :=Hd hi
 obtain ⟨S,hS⟩:∃ S,S=sumL (wgts l ix) :=⟨_,rfl⟩
 rw [← hS]
 have HS :=Hd hS
 have HE:Hid (Z3p (fun j =>(wgts l ix).getD j 0) (wgts l ix).length=decide (S≤maxU)∧addV (fun j =>(wgts l ix).getD j 0) (wgts l ix).length=if S≤maxU then S else 0) :=Hd (by
  have e:sumF (fun j =>(wgts l ix).getD j 0) (wgts l ix).length=S :=by rw [Zch _ _ (Nat.le_refl _),List.take_length,hS]
  unfold Z3p addV
  rw [e]
  exact ⟨rfl,rfl⟩)
 obtain ⟨SV,hSV⟩:∃ SV,SV=(if S≤maxU then S else 0) :=⟨_,rfl⟩
 obtain ⟨SB,hSB⟩:∃ SB,SB=decide (S≤maxU) :=⟨_,rfl⟩
 rw [← hSV,← hSB] at HE ⊢
 clear hv hr hi hS hSV hSB
 go_enter Tryz.func127,Tryz.ntmps127
 go_wp2
 go_loopw [6,11] (fun s i wr => ∃ k:Nat,k≤ix.length∧i = .int .i64 k∧wr.ownsRow w.heap.size 22 1 s k (((wgts l ix).map fun x =>Value.int .u64 x).take k)∧Z00 w wr) (fun _ i _ =>ix.length - (intOf i).toNat)
 case atStart =>exact ⟨0,Nat.zero_le _,rfl,World.ownsRow_nil _ _ _ _,Mods.refl _ _⟩
 case round =>
  obtain ⟨k,hk,rfl,hown,hm⟩ :=hrel
  have HM :=Hd hm
  by_cases hlt:k<ix.length
  ·have hki:(k:Int)<(ix.length:Int) :=Int.ofNat_lt.2 hlt
   have hkw:k<(wgts l ix).length :=by simpa [wgts] using hlt
   have ht :=take_snoc (fun x:Int =>Value.int .u64 x) hkw
   have hwk:(wgts l ix)[k]=wgt l ix[k] :=by simp [wgts]
   rw [hwk] at ht
   have HT :=Hd ht
   have hi2 :=hm.owns HI.out (fun _ _ h =>h)
   rcases hi2.2 with ⟨_,h0'⟩ | ⟨g,cap,cur,hv,hg,hh,r⟩
   ·omega
   simp only [Value.slice.injEq] at hv
   obtain ⟨rfl,_,rfl⟩ :=hv
   have hc:wr.cell? ⟨g,k,none⟩=some (.int .i64 ix[k]) :=by
    rw [hi2.cellAt k (by omega)]
    simp [hlt]
   have HWK :=Hd (HW.out wr hm ix[k])
   generalize ix[k]=x at *
   have HO :=Hd hown
   obtain ⟨sa,sc,rfl⟩ :=Z0c hown
   have hsz :=hm.size
   clear hm ht hown hi2 hh r hg hwk hkw
   go_wp2_with fail
   refine HWK.out.mono ?_
   rintro r w2 ⟨rfl,rfl⟩
   go_wp2_with (at_builtin; refine wpList_append_own _ rfl _ _ 59 rfl w.heap.size 22 i0 (.int .u64 0) 1 8 Tryz.underlying59 hi0 hz0 hz1 hz2 rfl (by decide) _ _ _ rfl (HO.out.alloc _) ⟨wr.heap.size,0,none⟩ 1 1 [.int .u64 (wgt l x)] rfl rfl (Z4a _ _ _) (fun u hu =>by simp at hu; subst hu; rfl) (by unfold maxLen; omega) (by omega) (by simp; omega) ?_)
   intro v' w3 hown3 hgrow _
   have HG :=Hd (Z3r HM.out HO.out (Nat.le_refl _) hgrow)
   have HO3 :=Hd (Eq.mp (congrArg (fun L =>w3.ownsRow w.heap.size 22 1 v' (k+1) L) HT.out) hown3)
   clear hgrow hown3
   go_wp2
   go_roundw
   case rel =>exact ⟨k+1,by omega,by go_num,HO3.out,HG.out⟩
   case measure =>simp [intOf]; omega
  ·have hkn:k=ix.length :=by omega
   subst hkn
   have hlen:(wgts l ix).length=ix.length :=by simp [wgts]
   rw [List.take_of_length_le (by simp [wgts])] at hown
   have hown':wr.ownsRow w.heap.size 22 1 u6 (wgts l ix).length ((wgts l ix).map fun x =>Value.int .u64 x) :=by rw [hlen]; exact hown
   have HAM :=Hd (Z1r _ _ _ wr (Zcl hown' (fun x hx =>by
    obtain ⟨i,_,rfl⟩ :=List.mem_map.1 hx
    exact Z60 HR.out i)) (by rw [hlen]; omega))
   rw [HE.out.1,HE.out.2] at HAM
   clear hm hown hown' hlen HE
   go_wp2_with fail
   refine HAM.out.mono ?_
   rintro r w2 ⟨rfl,rfl⟩
   go_wp2
   go_ret2
   exact ⟨rfl,HM.out⟩
def evL (l:List Vd) (i:Nat) (e:Int):List Vd :=match l[i]? with
 | none =>l
 | some v =>if Z0j v.st e=0 then l else l.set i { v with st :=Z0j v.st e }
theorem Z4b (s e:Int):(Lit.int .i64 (Z0j s e)).wf=true :=by
 have :=Zbi s e
 have h:Z0j s e=0∨Z0j s e=1∨Z0j s e=2∨Z0j s e=3∨Z0j s e=4∨Z0j s e=5∨Z0j s e=6∨Z0j s e=7 :=by omega
 rcases h with h | h | h | h | h | h | h | h <;> rw [h] <;> decide
theorem Z7t {B:Nat} {w:World} {g m:Nat} {lv:Value} {cap:Int} {l:List Vd} {n:Nat} (h:Z1x B w g m lv cap l n) (i:Nat) (hi:i<l.length) (e:Int) (he:(Lit.int .i64 e).wf=true) (hn:n+1<4294967296) :
 Calls Tryz.prog 110 #[tabV g, .int .i64 (i:Int), .int .i64 e] w fun r w' =>(∃ b,r = .returned (.bool b))∧Z1x B w' g m lv cap (evL l i e) (n+2)∧Mods (RegS g m lv) w w' :=by
 have HGET :=Hd (fun (w':World) (hk:Z00 w w') =>Z6z (h.keeps hk) i hi)
 have hok :=h.ok l[i] (List.getElem_mem hi)
 have HNX :=Hd (fun w' =>next_any l[i].st e w' hok.st he)
 have hev:evL l i e=if Z0j l[i].st e=0 then l else l.set i { l[i] with st :=Z0j l[i].st e } := by
  unfold evL
  rw [List.getElem?_eq_getElem hi]
 have H :=Hd h
 have HCH :=Hd (fun (w':World) (hk:Z00 w w') =>Z67 (h.keeps hk) { l[i] with st :=Z0j l[i].st e } ⟨hok.b0,hok.b1,Z4b _ _⟩ i hi (by
  rw [Z2z hi]
  have :=h.tot
  simp only
  omega) hn)
 have HEV :=Hd hev
 have HMONO :=Hd (fun (w':World) (hk:Z00 w w') =>(h.keeps hk).mono (show n≤n+2 by omega))
 generalize l[i]=v at *
 obtain ⟨bal,st,sl,rq,ex,wd,dl⟩ :=v
 simp only at HNX HCH HEV
 clear h hok hev he hn
 go_enter Tryz.func110,Tryz.ntmps110
 go_wp2_with fail
 refine (HGET.out _ (by (repeat' first | (with_reducible refine Mods.setCell ?_ _ _ (fun _ =>rfl)) | (with_reducible refine Mods.alloc ?_ _) | (with_reducible refine Mods.drewN ?_ _) | (with_reducible refine Mods.drew ?_) | (with_reducible exact Mods.refl _ _)))).mono ?_
 rintro r w1 ⟨rfl,hk1⟩
 have HK1 :=Hd (show Z00 w w1 from Mods.trans (by (repeat' first | (with_reducible refine Mods.setCell ?_ _ _ (fun _ =>rfl)) | (with_reducible refine Mods.alloc ?_ _) | (with_reducible refine Mods.drewN ?_ _) | (with_reducible refine Mods.drew ?_) | (with_reducible exact Mods.refl _ _))) hk1)
 have ht1:w1.heap[w.heap.size]? = some (.cells #[.pointer (some ⟨g,0,none⟩)] 75 (0,0)) :=hk1.at (heap_alloc_last w _) fun h =>h
 have HT1 :=Hd ht1
 have hlt :=Z0a ht1
 clear hk1 ht1
 go_wp2_with fail
 refine (HNX.out _).mono ?_
 rintro r w2 ⟨rfl,hb2⟩
 have k12:Z00 w1 w2 :=Mods.trans ((Mods.refl _ w1).alloc _) (Mods.of_below hb2)
 have bv:w2.heap[w1.heap.size]? = some (vdB ⟨bal,st,sl,rq,ex,wd,dl⟩) :=(hb2.block _ (by simp)).trans (heap_alloc_last w1 _)
 have bt :=k12.at HT1.out fun h =>h
 have HK2 :=Hd (HK1.out.keep k12)
 have HBV :=Hd bv
 by_cases h0:Z0j st e=0
 ·have E :=Hd (HEV.out.trans (if_pos h0))
  have hne:(Z0j st e != 0)=false :=by simp [h0]
  rw [hne]
  clear h0 hne hb2 k12 bv bt
  go_wp2
  go_ret
  rw [E.out]
  exact ⟨⟨_,rfl⟩,HMONO.out _ HK2.out,HK2.out.weaken fun _ _ h =>h.elim⟩
 ·have E :=Hd (HEV.out.trans (if_neg h0))
  have hne:(Z0j st e != 0)=true :=by simp [h0]
  rw [hne]
  have tc:w2.cell? ⟨w.heap.size,0,none⟩=some (.pointer (some ⟨g,0,none⟩)) :=by simp [World.cell?,bt]
  obtain ⟨v0,v1,v2,v3,v4,v5,v6⟩ :=Z0o bv
  simp only at v0 v1 v2 v3 v4 v5 v6
  have f1 :=Z06 bv 1
  have hne2:w.heap.size≠w1.heap.size :=by omega
  have HKW :=Hd (show ∀ u,Z00 w (w2.setCell ⟨w1.heap.size,1,none⟩ u) from fun u =>HK2.out.seq ((Mods.refl (fun i =>i=w1.heap.size) w2).setCell _ _ fun _ =>rfl) fun i hi e =>by omega)
  clear h0 hne hb2 k12 bv bt
  go_wp2_with fail
  refine (HCH.out _ (HKW.out _)).mono ?_
  rintro r w3 ⟨rfl,hr,hm⟩
  have HR :=Hd hr
  have HM :=Hd (show Mods (RegS g m lv) w w3 from Mods.trans ((HKW.out _).weaken fun _ _ h =>h.elim) hm)
  clear hr hm
  go_wp2
  go_ret
  rw [E.out]
  exact ⟨⟨_,rfl⟩,HR.out,HM.out⟩
def Z1t (v:Vd) (mn:Int):Int :=if v.st=2∧v.sl=false then (if v.bal<mn then 0 else v.bal - mn) else 0
theorem Zb5 (v:Vd) (hv:v.ok) (c:Nat→Int) (h5:0≤c 5) (w:World):Calls Tryz.prog 211 #[v.val,cfgV c] w fun r w' =>r = .returned (.int .u64 (Z1t v (c 5)))∧Z00 w w' :=by
 have HS :=Hd (fun w =>Z9f v.bal (c 5) w h5 hv.b1)
 obtain ⟨R,hR⟩:∃ R,R=Z1t v (c 5) :=⟨_,rfl⟩
 rw [← hR]
 have HR :=Hd hR
 clear hR hv h5
 obtain ⟨bal,st,sl,rq,ex,wd,dl⟩ :=v
 simp only at HS
 by_cases h2:st=2
 ·have e1:(st != 2)=false :=by simp [h2]
  cases sl with
  | true =>
   have E :=Hd (HR.out.trans (if_neg (by simp)))
   clear h2
   go_enter Tryz.func211,Tryz.ntmps211
   go_wp2
   go_ret
   refine ⟨Z0p E.out.symm, ?_⟩
   (repeat' first | (with_reducible refine Mods.setCell ?_ _ _ (fun _ =>rfl)) | (with_reducible refine Mods.alloc ?_ _) | (with_reducible refine Mods.drewN ?_ _) | (with_reducible refine Mods.drew ?_) | (with_reducible exact Mods.refl _ _))
  | false =>
   have E :=Hd (HR.out.trans (if_pos ⟨h2,rfl⟩))
   clear h2
   go_enter Tryz.func211,Tryz.ntmps211
   go_wp2_with fail
   refine (HS.out _).mono ?_
   rintro r w1 ⟨rfl,rfl⟩
   rw [← E.out]
   go_wp2
   go_ret
   refine ⟨rfl, ?_⟩
   (repeat' first | (with_reducible refine Mods.setCell ?_ _ _ (fun _ =>rfl)) | (with_reducible refine Mods.alloc ?_ _) | (with_reducible refine Mods.drewN ?_ _) | (with_reducible refine Mods.drew ?_) | (with_reducible exact Mods.refl _ _))
 ·have e1:(st != 2)=true :=by simpa using h2
  have E :=Hd (HR.out.trans (if_neg (fun h =>h2 h.1)))
  clear h2
  go_enter Tryz.func211,Tryz.ntmps211
  go_wp2
  go_ret
  refine ⟨Z0p E.out.symm, ?_⟩
  (repeat' first | (with_reducible refine Mods.setCell ?_ _ _ (fun _ =>rfl)) | (with_reducible refine Mods.alloc ?_ _) | (with_reducible refine Mods.drewN ?_ _) | (with_reducible refine Mods.drew ?_) | (with_reducible exact Mods.refl _ _))
theorem Zlw (w:World) (o:Obj) (c:Nat→Int) (t:TypeId):((w.alloc o).alloc (.cells (cfgC c) t)).heap[w.heap.size+1]? = some (.cells (cfgC c) t (0,0)) :=by
 have h :=heap_alloc_last (w.alloc o) (.cells (cfgC c) t)
 rw [World.size_alloc] at h
 exact h
theorem Zoz (w:World) (a b c:Obj):(((w.alloc a).alloc b).alloc c).heap[w.heap.size+2]? = some c :=by
 have h :=heap_alloc_last ((w.alloc a).alloc b) c
 rw [World.size_alloc,World.size_alloc] at h
 exact h
theorem Zd2 {v:Vd} (hv:v.ok) {mn:Int} (h:0≤mn):0≤Z1t v mn∧Z1t v mn≤v.bal :=by
 have :=hv.b0
 unfold Z1t
 split
 ·split <;> omega
 ·omega
def Z8z (v:Vd) (am mn:Int):Vd := { v with bal :=v.bal - min am (Z1t v mn) }
theorem Zat (v:Vd) (hv:v.ok) (am:Int) (h0:0≤am) (c:Nat→Int) (h5:0≤c 5) (w:World) :
 Calls Tryz.prog 179 #[v.val, .int .u64 am,cfgV c] w fun r w' =>r = .returned (.tuple #[(Z8z v am (c 5)).val, .int .u64 (min am (Z1t v (c 5)))])∧Z00 w w' :=by
 have HA :=Hd (fun w =>Zb5 v hv c h5 w)
 obtain ⟨a0,a1⟩ :=Zd2 hv h5
 obtain ⟨A,hA⟩:∃ A,A=Z1t v (c 5) :=⟨_,rfl⟩
 have hb1 :=hv.b1
 have hb0 :=hv.b0
 unfold Z8z
 rw [← hA] at HA a0 a1 ⊢
 clear hA hv
 obtain ⟨bal,st,sl,rq,ex,wd,dl⟩ :=v
 simp only at hb1 hb0 a1 ⊢
 obtain ⟨M,hM⟩:∃ M,M=min am A :=⟨_,rfl⟩
 rw [← hM]
 have hM0:0≤M∧M≤bal :=by omega
 have e1:IntKind.u64.wrap (bal - M)=bal - M :=uw (by omega) (by omega)
 by_cases hlt:A<am
 ·obtain rfl:M=A :=by omega
  clear hM
  go_enter Tryz.func179,Tryz.ntmps179
  go_wp2_with (refine Z03 rfl 24 _ rfl (w.heap.size+1) rfl 24 (cfgC c) (0,0) _ Tryz.underlying24 rfl Z0m (Z02 (Zlw w _ c _) _) ?_)
  refine (HA.out _).mono ?_
  rintro r w1 ⟨rfl,hk⟩
  have b0 :=hk.at (Z02 (Z02 (heap_alloc_last w (vdB ⟨bal,st,sl,rq,ex,wd,dl⟩)) _) _) fun h =>h
  have bz :=hk.at (Zoz w (vdB ⟨bal,st,sl,rq,ex,wd,dl⟩) (.cells (cfgC c) 24) (vdB vd0)) fun h =>h
  have HKW :=Hd (show Z00 w w1 from Mods.trans (by (repeat' first | (with_reducible refine Mods.setCell ?_ _ _ (fun _ =>rfl)) | (with_reducible refine Mods.alloc ?_ _) | (with_reducible refine Mods.drewN ?_ _) | (with_reducible refine Mods.drew ?_) | (with_reducible exact Mods.refl _ _))) hk)
  obtain ⟨c0,c1,c2,c3,c4,c5,c6⟩ :=Z0o b0
  simp only at c0 c1 c2 c3 c4 c5 c6
  obtain ⟨r0,r1,r2,r3,r4,r5,r6⟩ :=Z0o bz
  obtain ⟨g0,g1,g2,g3,g4,g5,g6⟩ :=Zew bz
  have f0 :=Z06 b0 0
  have hb :=Z0a b0
  have hz :=Z0a bz
  have B0 :=Hd b0
  have BZ :=Hd bz
  clear hk b0 bz
  go_wp2
  refine Z1g ?_
  intro W hW
  have hput :=Z33 (((Mods.refl (fun i =>i=w.heap.size) w1).setCell ⟨w.heap.size,0,none⟩ (.int .u64 (bal - M)) fun _ =>rfl).at BZ.out (by omega)) ⟨bal - M,st,sl,rq,ex,wd,dl⟩
  rw [show _=W from hW.symm] at hput
  have mW:Mods (fun i =>w.heap.size≤i) w1 W :=by
   rw [hW]
   (repeat' first | (with_reducible refine Mods.setCell ?_ _ _ (fun _ =>(by simp only; omega))) | (with_reducible refine Mods.alloc ?_ _) | (with_reducible refine Mods.drewN ?_ _) | (with_reducible refine Mods.drew ?_) | (with_reducible exact Mods.refl _ _))
  obtain ⟨p0,p1,p2,p3,p4,p5,p6⟩ :=Z0o hput
  exact bodyPost_ret (v := .tuple #[(⟨bal - M,st,sl,rq,ex,wd,dl⟩:Vd).val, .int .u64 M]) (by simp [results,Tryz.results179,go_sem,p0,p1,p2,p3,p4,p5,p6]) rfl ⟨rfl,HKW.out.seq mW fun i hi e =>by omega⟩
 ·obtain rfl:M=am :=by omega
  clear hM
  go_enter Tryz.func179,Tryz.ntmps179
  go_wp2_with (refine Z03 rfl 24 _ rfl (w.heap.size+1) rfl 24 (cfgC c) (0,0) _ Tryz.underlying24 rfl Z0m (Z02 (Zlw w _ c _) _) ?_)
  refine (HA.out _).mono ?_
  rintro r w1 ⟨rfl,hk⟩
  have b0 :=hk.at (Z02 (Z02 (heap_alloc_last w (vdB ⟨bal,st,sl,rq,ex,wd,dl⟩)) _) _) fun h =>h
  have bz :=hk.at (Zoz w (vdB ⟨bal,st,sl,rq,ex,wd,dl⟩) (.cells (cfgC c) 24) (vdB vd0)) fun h =>h
  have HKW :=Hd (show Z00 w w1 from Mods.trans (by (repeat' first | (with_reducible refine Mods.setCell ?_ _ _ (fun _ =>rfl)) | (with_reducible refine Mods.alloc ?_ _) | (with_reducible refine Mods.drewN ?_ _) | (with_reducible refine Mods.drew ?_) | (with_reducible exact Mods.refl _ _))) hk)
  obtain ⟨c0,c1,c2,c3,c4,c5,c6⟩ :=Z0o b0
  simp only at c0 c1 c2 c3 c4 c5 c6
  obtain ⟨r0,r1,r2,r3,r4,r5,r6⟩ :=Z0o bz
  obtain ⟨g0,g1,g2,g3,g4,g5,g6⟩ :=Zew bz
  have f0 :=Z06 b0 0
  have hb :=Z0a b0
  have hz :=Z0a bz
  have B0 :=Hd b0
  have BZ :=Hd bz
  clear hk b0 bz
  go_wp2
  refine Z1g ?_
  intro W hW
  have hput :=Z33 (((Mods.refl (fun i =>i=w.heap.size) w1).setCell ⟨w.heap.size,0,none⟩ (.int .u64 (bal - M)) fun _ =>rfl).at BZ.out (by omega)) ⟨bal - M,st,sl,rq,ex,wd,dl⟩
  rw [show _=W from hW.symm] at hput
  have mW:Mods (fun i =>w.heap.size≤i) w1 W :=by
   rw [hW]
   (repeat' first | (with_reducible refine Mods.setCell ?_ _ _ (fun _ =>(by simp only; omega))) | (with_reducible refine Mods.alloc ?_ _) | (with_reducible refine Mods.drewN ?_ _) | (with_reducible refine Mods.drew ?_) | (with_reducible exact Mods.refl _ _))
  obtain ⟨p0,p1,p2,p3,p4,p5,p6⟩ :=Z0o hput
  exact bodyPost_ret (v := .tuple #[(⟨bal - M,st,sl,rq,ex,wd,dl⟩:Vd).val, .int .u64 M]) (by simp [results,Tryz.results179,go_sem,p0,p1,p2,p3,p4,p5,p6]) rfl ⟨rfl,HKW.out.seq mW fun i hi e =>by omega⟩
end Go.Proofs.YtecapfmmoejikaaGreat
namespace Go.Eg
theorem sum3 (x y z:Int):sumF (fun j =>if j=0 then x else if j=1 then y else z) 3=x+y+z :=by simp [sumF]
end Go.Eg
namespace Go.Proofs.YtecapfmmoejikaaGreat
open Go.RowKit Go.Eg
def bndF (ah wt fc mc:Int):Option Int :=if ah+wt+fc≤maxU then (Z6y (ah+wt+fc) mc).map fun n =>max n 1 else none
theorem Zr9 (w:World) (x y z:Int) (t:TypeId) (hx:0≤x∧x≤maxU) (hy:0≤y∧y≤maxU) (hz:0≤z∧z≤maxU):Amts (w.alloc (.cells #[.int .u64 x, .int .u64 y, .int .u64 z] t)) (.slice (some ⟨w.heap.size,0,none⟩) 3 3) 3 (fun j =>if j=0 then x else if j=1 then y else z) :=
 Z7b (heap_alloc_last w _) 3 3 _ fun j hj =>by
  match j,hj with
  | 0,_ =>exact ⟨rfl,hx⟩
  | 1,_ =>exact ⟨rfl,hy⟩
  | 2,_ =>exact ⟨rfl,hz⟩
theorem Z9i (ah wt:Int) (c:Nat→Int) (hv:Vld c) (h9:0≤c 9) (ha0:0≤ah) (ha1:ah≤maxU) (hw0:0≤wt) (hw1:wt≤maxU) (w:World) :
 Calls Tryz.prog 216 #[.int .u64 ah, .int .u64 wt,cfgV c] w fun r w' =>r = .returned (.tuple #[.int .i64 ((bndF ah wt (c 9) (c 7)).getD 0), .bool (bndF ah wt (c 9) (c 7)).isSome])∧Z00 w w' :=by
 have h91:c 9≤maxU :=by have :=hv.c9; unfold maxU; omega
 have HA :=Hd (Z1r (.slice (some ⟨(w.alloc (.cells (cfgC c) 24)).heap.size,0,none⟩) 3 3) 3 (fun j =>if j=0 then ah else if j=1 then wt else c 9) ((w.alloc (.cells (cfgC c) 24)).alloc (.cells #[.int .u64 ah, .int .u64 wt, .int .u64 (c 9)] 22)) (Zr9 _ ah wt (c 9) _ ⟨ha0,ha1⟩ ⟨hw0,hw1⟩ ⟨h9,h91⟩) (by omega))
 unfold addV Z3p at HA
 rw [sum3,World.size_alloc] at HA
 have HE :=Hd (fun (h:ah+wt+c 9≤maxU) (w:World) =>Zh7 (ah+wt+c 9) (c 7) w (by omega) h hv.c7.1)
 have cc:(w.alloc (.cells (cfgC c) 24)).cell? ⟨w.heap.size,7,none⟩=some (.int .u64 (c 7)) :=by simp [go_sem]
 have cc9:(w.alloc (.cells (cfgC c) 24)).cell? ⟨w.heap.size,9,none⟩=some (.int .u64 (c 9)) :=by simp [go_sem]
 have K0 :=Hd (show Z00 w ((w.alloc (.cells (cfgC c) 24)).alloc (.cells #[.int .u64 ah, .int .u64 wt, .int .u64 (c 9)] 22)) from by (repeat' first | (with_reducible refine Mods.setCell ?_ _ _ (fun _ =>rfl)) | (with_reducible refine Mods.alloc ?_ _) | (with_reducible refine Mods.drewN ?_ _) | (with_reducible refine Mods.drew ?_) | (with_reducible exact Mods.refl _ _)))
 unfold bndF
 clear hv h9 ha0 ha1 hw0 hw1 h91
 by_cases hle:ah+wt+c 9≤maxU
 ·rw [if_pos hle]
  rw [if_pos hle,decide_eq_true hle] at HA
  have HE :=Hd (HE.out hle)
  generalize ah+wt+c 9=s at *
  clear hle
  cases he:Z6y s (c 7) with
  | none =>
   rw [he] at HE
   clear he
   go_enter Tryz.func216,Tryz.ntmps216
   go_wp2_with fail
   refine HA.out.mono ?_
   rintro r w1 ⟨rfl,rfl⟩
   go_wp2_with fail
   refine (HE.out _).mono ?_
   rintro r w1 ⟨rfl,rfl⟩
   simp only
   go_wp2
   go_ret2
   exact ⟨rfl,K0.out⟩
  | some n =>
   rw [he] at HE
   clear he
   rw [show Option.map (fun n:Int =>max n 1) (some n)=some (max n 1) from rfl]
   obtain ⟨M,hM⟩:∃ M,M=max n 1 :=⟨_,rfl⟩
   rw [← hM]
   go_enter Tryz.func216,Tryz.ntmps216
   go_wp2_with fail
   refine HA.out.mono ?_
   rintro r w1 ⟨rfl,rfl⟩
   go_wp2_with fail
   refine (HE.out _).mono ?_
   rintro r w1 ⟨rfl,rfl⟩
   simp only [Option.getD]
   by_cases hn:n<1
   ·obtain rfl:M=1 :=by omega
    clear hM
    go_wp2
    go_ret2
    exact ⟨rfl,K0.out⟩
   ·obtain rfl:M=n :=by omega
    clear hM
    go_wp2
    go_ret2
    exact ⟨rfl,K0.out⟩
 ·rw [if_neg hle]
  rw [if_neg hle,decide_eq_false hle] at HA
  clear hle HE
  go_enter Tryz.func216,Tryz.ntmps216
  go_wp2_with fail
  refine HA.out.mono ?_
  rintro r w1 ⟨rfl,rfl⟩
  simp only
  go_wp2
  go_ret2
  exact ⟨rfl,K0.out⟩
abbrev u1B (x:Int):Obj := .cells #[.int .u64 x] 22 (0,0)
abbrev cfB (c:Nat→Int):Obj := .cells (cfgC c) 24 (0,0)
theorem Zdd (ep ah wt:Int) (c:Nat→Int) (w:World) :
 Calls Tryz.prog 188 #[.int .i64 ep, .int .u64 ah, .int .u64 wt,cfgV c] w fun r w' =>r = .returned (.func (Fn.func 215) #[] #[.pointer (some ⟨w.heap.size+1,0,none⟩), .pointer (some ⟨w.heap.size+2,0,none⟩), .pointer (some ⟨w.heap.size+3,0,none⟩), .pointer (some ⟨w.heap.size,0,none⟩)]) ∧
  w'.heap[w.heap.size]? = some (oneB ep)∧w'.heap[w.heap.size+1]? = some (u1B ah)∧w'.heap[w.heap.size+2]? = some (u1B wt)∧w'.heap[w.heap.size+3]? = some (cfB c)∧Z00 w w' :=by
 go_enter Tryz.func188,Tryz.ntmps188
 go_wp2
 go_ret
 have h1 :=heap_alloc_last (w.alloc (oneB ep)) (u1B ah)
 have h2 :=heap_alloc_last ((w.alloc (oneB ep)).alloc (u1B ah)) (u1B wt)
 have h3 :=heap_alloc_last (((w.alloc (oneB ep)).alloc (u1B ah)).alloc (u1B wt)) (cfB c)
 rw [World.size_alloc] at h1
 rw [World.size_alloc,World.size_alloc] at h2
 rw [World.size_alloc,World.size_alloc,World.size_alloc] at h3
 refine ⟨rfl,Z02 (Z02 (Z02 (heap_alloc_last w _) _) _) _,Z02 (Z02 h1 _) _,Z02 h2 _,h3, ?_⟩
 (repeat' first | (with_reducible refine Mods.setCell ?_ _ _ (fun _ =>rfl)) | (with_reducible refine Mods.alloc ?_ _) | (with_reducible refine Mods.drewN ?_ _) | (with_reducible refine Mods.drew ?_) | (with_reducible exact Mods.refl _ _))
def Z8w (c:Nat→Int):Int :=((c 0 - 1) / minI (c 14 - c 16) (c 15 - c 16)) / c 13
theorem Zml {c:Nat→Int} (hv:Vld c):0≤Z8w c∧Z8w c≤4096 :=by
 obtain ⟨a0,a1⟩ :=hv.c0; obtain ⟨e0,e1,e2⟩ :=hv.c16; obtain ⟨d0,d1⟩ :=hv.c13
 have m1:1≤minI (c 14 - c 16) (c 15 - c 16) :=by unfold minI; split <;> omega
 have q0:0≤(c 0 - 1) / minI (c 14 - c 16) (c 15 - c 16) :=Int.ediv_nonneg (by omega) (by omega)
 have q1:(c 0 - 1) / minI (c 14 - c 16) (c 15 - c 16)≤c 0 - 1 :=Int.ediv_le_self _ (by omega)
 unfold Z8w
 have r0:0≤((c 0 - 1) / minI (c 14 - c 16) (c 15 - c 16)) / c 13 :=Int.ediv_nonneg q0 (by omega)
 have r1:((c 0 - 1) / minI (c 14 - c 16) (c 15 - c 16)) / c 13≤_ :=Int.ediv_le_self _ q0
 omega
theorem Zhm (c:Nat→Int) (w:World) (hv:Vld c):Calls Tryz.prog 189 #[cfgV c] w fun r w' =>r = .returned (.int .i64 (Z8w c))∧Below w.heap.size w w' :=by
 obtain ⟨a0,a1⟩ :=hv.c0; obtain ⟨e0,e1,e2⟩ :=hv.c16; obtain ⟨d0,d1⟩ :=hv.c13
 have m1:1≤minI (c 14 - c 16) (c 15 - c 16) :=by unfold minI; split <;> omega
 have HB :=Hd (fun w =>Zgh c w hv)
 unfold Z8w
 have q0:0≤(c 0 - 1) / minI (c 14 - c 16) (c 15 - c 16) :=Int.ediv_nonneg (by omega) (by omega)
 have q1:(c 0 - 1) / minI (c 14 - c 16) (c 15 - c 16)≤c 0 - 1 :=Int.ediv_le_self _ (by omega)
 generalize (c 0 - 1) / minI (c 14 - c 16) (c 15 - c 16)=q at *
 have r1:q.tdiv (c 13)=q / c 13 :=Int.tdiv_eq_ediv_of_nonneg q0
 have hz:(c 13 == 0)=false :=by simp; omega
 have s0:0≤q / c 13 :=Int.ediv_nonneg q0 (by omega)
 have s1:q / c 13≤q :=Int.ediv_le_self _ q0
 go_enter Tryz.func189,Tryz.ntmps189
 go_wp2_with fail
 have hC0:Alow (w.heap.size+1) (w.alloc (.cells (cfgC c) 24)) (w.alloc (.cells (cfgC c) 24)).drew :=⟨(Below.refl _ _).drew,by simp⟩
 refine wp_region_quiet (by kernel_rfl) (by kernel_rfl) hC0 ?_
 refine Z38 rfl 24 _ rfl w.heap.size rfl 24 (cfgC c) (0,0) _ Tryz.underlying24 rfl Z0m (fun wx hC =>(hC.block (by omega)).trans (heap_alloc_last w _)) ?_
 refine Z4o rfl (fun wx hC =>by go_simp) (fun wx hC =>hC.call (HB.out _)) ?_
 refine Z20 (v := .int .i64 q) rfl (fun wx hC =>by go_simp; rw [IntKind.wrap_i64]; omega) ?_
 refine Z20 (v := .pointer (some ⟨w.heap.size,13,none⟩)) rfl (fun wx hC =>by go_simp) ?_
 refine Z20 (v := .int .i64 (c 13)) rfl (fun wx hC =>by
  have hx :=hC.cell (p :=⟨w.heap.size,13,none⟩) (by simp)
  have hx0:wx.cell? ⟨w.heap.size,13,none⟩=some (.int .i64 (c 13)) :=by rw [hx]; simp [go_sem]
  go_simp) ?_
 refine Z20 (v := .int .i64 (q / c 13)) rfl (fun wx hC =>by go_simp; rw [if_neg (by omega)]; exact congrArg (fun z =>Result.ok (Next.value (Value.int IntKind.i64 z)) wx) (by rw [IntKind.wrap_i64]; omega)) ?_
 refine Z20 (v := .int .i64 (q / c 13)) rfl (fun wx hC =>by go_simp) ?_
 refine wpQuiet_nil ?_
 intro w2 hC
 have hb :=hC.1
 clear hC hC0
 go_frame
 go_wp2
 go_ret
 exact ⟨rfl,((Below.refl _ _).alloc (Nat.le_refl _) _).trans (hb.mono (by omega))⟩
def Zj7 (ep ah wt fc mc:Int) (more:List Int):Option Int :=(bndF ah wt fc mc).bind fun k =>Z1z (ep :: k :: 1 :: more) 0
theorem Zgu {ah wt fc mc k:Int} (h:bndF ah wt fc mc=some k):1≤k∧k≤1099511627776 :=by
 unfold bndF at h
 split at h
 ·unfold Z6y at h
  split at h
  ·cases h
  ·simp only [Option.map_some,Option.some.injEq] at h
   omega
 ·cases h
theorem amtI:(Tryz.prog.info? 3).map (fun i =>(i.zero,i.size,i.bytes))=some (some (.int .i64 0),1,8) :=by kernel_rfl
theorem Zdu (ep ah wt:Int) (c:Nat→Int) (hv:Vld c) (h9:0≤c 9) (ha0:0≤ah) (ha1:ah≤maxU) (hw0:0≤wt) (hw1:wt≤maxU) (b1 b2 b3 b4:Nat) (more:List Int) (v:Value) (B:Nat) (w:World)
 (h1:w.heap[b1]? = some (u1B ah)) (h2:w.heap[b2]? = some (u1B wt)) (h3:w.heap[b3]? = some (cfB c)) (h4:w.heap[b4]? = some (oneB ep)) (hm:w.ownsRow B 3 1 v more.length (more.map fun x =>.int .i64 x)) (hl:more.length≤50) :
 Calls Tryz.prog 215 #[v, .pointer (some ⟨b1,0,none⟩), .pointer (some ⟨b2,0,none⟩), .pointer (some ⟨b3,0,none⟩), .pointer (some ⟨b4,0,none⟩)] w fun r w' =>r = .returned (.tuple #[.int .i64 ((Zj7 ep ah wt (c 9) (c 7) more).getD 0), .bool (Zj7 ep ah wt (c 9) (c 7) more).isSome])∧Z00 w w' :=by
 have c1:w.cell? ⟨b1,0,none⟩=some (.int .u64 ah) :=by simp [World.cell?,h1]
 have c2:w.cell? ⟨b2,0,none⟩=some (.int .u64 wt) :=by simp [World.cell?,h2]
 have HBND :=Hd (fun w =>Z9i ah wt c hv h9 ha0 ha1 hw0 hw1 w)
 have H3 :=Hd h3
 have H4 :=Hd h4
 have HM :=Hd hm
 have hR:∀ k,bndF ah wt (c 9) (c 7)=some k→1≤k∧k≤1099511627776 :=fun k h =>Zgu h
 unfold Zj7
 obtain ⟨i0,hi0,hi1⟩ :=Option.map_eq_some_iff.1 amtI
 injection hi1 with hz0 hi1
 injection hi1 with hz1 hz2
 clear h1 h2 h3 h4 hm hv h9 ha0 ha1 hw0 hw1
 generalize bndF ah wt (c 9) (c 7)=F at *
 go_enter Tryz.func215,Tryz.ntmps215
 go_wp2_with (refine Z03 rfl 24 _ rfl b3 rfl 24 (cfgC c) (0,0) _ Tryz.underlying24 rfl Z0m H3.out ?_)
 refine (HBND.out _).mono ?_
 rintro r w1 ⟨rfl,hk⟩
 have HK :=Hd hk
 have d4:w1.cell? ⟨b4,0,none⟩=some (.int .i64 ep) :=by
  have :=hk.at H4.out fun h =>h
  simp [World.cell?,this]
 clear hk
 cases F with
 | none =>
  clear hR
  simp only [Option.getD_none,Option.isSome_none]
  go_wp2
  go_ret2
  exact ⟨rfl,HK.out⟩
 | some k =>
  simp only [Option.getD_some,Option.isSome_some]
  go_wp2
  go_region_held3 (fun w' =>w'.cell? ⟨b4,0,none⟩=some (.int .i64 ep))
   (first
    | assumption
    | (refine Mods.cell (S :=fun _ =>False) (a :=w1) ?_ d4 (fun h =>h); with_reducible first | assumption | exact (Mods.refl _ w1).drew.alloc _ | exact ((Mods.refl _ w1).alloc _).drew | exact (Mods.refl _ w1).drew | exact Mods.keep (by assumption) (by assumption)))
   (first
    | (refine Z99 _ (by rfl) (.tmp 21) (.tmp 22) 37 (by rfl) w1.heap.size 3 i0 (.int .i64 0) 1 8 Tryz.underlying37 hi0 hz0 hz1 hz2 rfl (by decide) (.slice (some ⟨w1.heap.size,0,none⟩) 2 2) 2 [.int .i64 k, .int .i64 1] (by simp [Act.eval]) (World.ownsRow_lit w1 #[.int .i64 k, .int .i64 1] 2 (Nat.le_refl _) (by decide) rfl).drew B v more.length (more.map fun x =>.int .i64 x) (by simp [Act.eval]) ((((Mods.refl _ w1).alloc _).drew.owns (HK.out.owns HM.out fun _ _ h =>h)) fun _ _ h =>h) (fun u hu =>by obtain ⟨y,_,rfl⟩ :=List.mem_map.1 hu; rfl) (by unfold maxLen; omega) (by omega) (by simp) ?_; intro v3 w3 ho3 hm3; have hk3:Z00 w1 w3 :=((Mods.refl _ w1).alloc _).drew.seq hm3 fun i hi e =>by simp [Value.ownBlock] at e; omega)
    | (go_at_call 186; refine (Z90 ep _ (k :: 1 :: more) w1.heap.size _ ?_ (by simp; omega)).mono ?_; (rw [show 2+more.length=(k :: 1 :: more).length by simp; omega] at ho3; exact ho3); rintro r w4 ⟨rfl,hk4⟩; have HK4 :=Hd (hk3.keep hk4)))
  rename_i HK4 _
  go_wp2
  go_ret2
  exact ⟨rfl,HK.out.keep HK4.out⟩
end Go.Proofs.YtecapfmmoejikaaGreat
