/- A part of the proofs of the top laws: MrgE ParB AsgB AsgC. -/
import Derived.Deep.AppendLies
import Derived.Test.YtecapfmmoejikaaGreatPkAz
set_option maxRecDepth 4000
set_option maxHeartbeats 8000000
namespace Go.Eg
def mrg1 (mb:Int) (l:List Vd) (p:Int × Int):List Vd :=
 if mrgR mb l p.1 p.2=0 then (l.set p.1.toNat (mrgS (vAt l p.1))).set p.2.toNat (mrgD (vAt l p.1) (vAt l p.2)) else l
def Z1k (mb:Int) (l:List Vd) (q:List (Int × Int)):List Vd :=q.foldl (mrg1 mb) l
theorem Zl8 (mb:Int) (l:List Vd) (p:Int × Int):(mrg1 mb l p).length=l.length :=by
 unfold mrg1
 split <;> simp
theorem Z5s (mb:Int) (q:List (Int × Int)):∀ l:List Vd,(Z1k mb l q).length=l.length :=by
 induction q with
 | nil =>intro l; rfl
 | cons p r ih =>intro l; exact (ih (mrg1 mb l p)).trans (Zl8 mb l p)
theorem Z5o {l:List Vd} (h:∀ x∈l,x.ok) {i:Int} (hi:inR l i):(vAt l i).ok :=h _ (List.mem_of_getElem? (Z44 hi))
theorem Z8v {mb:Int} {l:List Vd} {i j:Int} (h:mrgR mb l i j=0):inR l i∧inR l j∧i≠j∧mrgC mb (vAt l i) (vAt l j)=0 :=by
 unfold mrgR at h
 split at h
 ·cases h
 ·split at h
  ·cases h
  ·rename_i h1 h2
   exact ⟨Decidable.byContradiction fun e =>h1 (.inl e),Decidable.byContradiction fun e =>h1 (.inr e),h2,h⟩
theorem Zo3 (s:Vd):(mrgS s).ok :=⟨by simp [mrgS],by simp [mrgS,maxU],by simp [mrgS]; decide⟩
theorem Zn8 {mb:Int} {s d:Vd} (hs:s.ok) (hd:d.ok) (h:mrgC mb s d=0):(mrgD s d).ok :=by
 obtain ⟨-, -, -, -,h5, -⟩ :=Zca h
 have :=hs.b0
 have :=hd.b0
 exact ⟨by simp only [mrgD]; omega,by simp only [mrgD]; omega,hd.st⟩
theorem Znd {mb:Int} {l:List Vd} (h:∀ x∈l,x.ok) (p:Int × Int):∀ x∈mrg1 mb l p,x.ok :=by
 unfold mrg1
 split
 ·rename_i h0
  obtain ⟨h1,h2, -,h4⟩ :=Z8v h0
  intro x hx
  rcases List.mem_or_eq_of_mem_set hx with hx | rfl
  ·rcases List.mem_or_eq_of_mem_set hx with hx | rfl
   ·exact h x hx
   ·exact Zo3 _
  ·exact Zn8 (Z5o h h1) (Z5o h h2) h4
 ·exact h
theorem Zaa {mb:Int} (q:List (Int × Int)):∀ {l:List Vd},(∀ x∈l,x.ok)→∀ x∈Z1k mb l q,x.ok :=by
 induction q with
 | nil =>intro l h; exact h
 | cons p r ih =>intro l h; exact ih (Znd h p)
theorem Zde (mb:Int) (l:List Vd) (q:List (Int × Int)) (k:Nat) (hk:k<q.length):Z1k mb l (q.take (k+1))=mrg1 mb (Z1k mb l (q.take k)) q[k] :=by
 unfold Z1k
 rw [List.take_succ_eq_append_getElem hk,List.foldl_append]
 rfl
end Go.Eg
namespace Go.Proofs.YtecapfmmoejikaaGreat
open Go.RowKit Go.Eg
theorem Zpn:(Tryz.prog.info? 4).map (fun i =>(i.zero,i.size,i.bytes))=some (some (Value.bool false),1,1) :=by kernel_rfl
theorem Z87 {w:World} {B s n c:Nat} {e:TypeId} {a:Option Addr} {xs:List Value} (h:w.ownsRow B e s (.slice a n c) n xs):n≤c :=by
 rcases h.2 with ⟨e,_⟩ | ⟨g,cap,cur,e,_,_,r⟩
 ·injection e with _ e1 e2
  omega
 ·injection e with _ e1 e2
  have :=r.1
  omega
theorem Z0z {w:World} {B s n:Nat} {e:TypeId} {v:Value} {xs:List Value} (h:w.ownsRow B e s v n xs):∀ k,v.ownBlock=some k→B≤k∧k<w.heap.size :=by
 intro k hk
 rcases h.2 with ⟨rfl,_⟩ | ⟨g,cap,cur,rfl,hg,hh,r⟩
 ·cases hk
 ·injection hk with hk
  subst hk
  exact ⟨hg,Z0a hh⟩
theorem Zn7 {w:World} {B:Nat} {e:TypeId} {a:Option Addr} {n c:Nat} {l:List (Int × Int)} (h:w.ownsRow B e 2 (.slice a n c) l.length (Z16 l)) (k:Nat) (hk:k<l.length):∃ g,a=some ⟨g,0,none⟩∧n=l.length∧w.cell? ⟨g,k * 2,none⟩=some (.int .i64 l[k].1)∧w.cell? ⟨g,k * 2+1,none⟩=some (.int .i64 l[k].2) :=by
 have e0:∀ (l:List (Int × Int)) (k:Nat) (hk:k<l.length),(Z16 l)[k * 2]? = some (.int .i64 l[k].1)∧(Z16 l)[k * 2+1]? = some (.int .i64 l[k].2) :=by
  intro l
  induction l with
  | nil =>intro k hk; simp at hk
  | cons x r ih =>
   intro k hk
   cases k with
   | zero =>simp [Z16]
   | succ k =>
    have :=ih k (by simpa using hk)
    rw [show (k+1) * 2=k * 2+2 from by omega]
    simpa [Z16] using this
 have e1 :=e0 l k hk
 rcases h.2 with ⟨_,h0⟩ | ⟨g,cap,cur,hv,hg,hh,r⟩
 ·omega
 ·injection hv with hv1 hv2 hv3
  subst hv1 hv2 hv3
  exact ⟨g,rfl,rfl,by rw [h.cellAt (k * 2) (by omega),e1.1],by rw [h.cellAt (k * 2+1) (by omega),e1.2]⟩
theorem Zdw (v:Value) (l:List Vd) (hok:∀ x∈l,x.ok) (hn:l.length≤8192) (vq:Value) (q:List (Int × Int)) (B:Nat) (c:Nat→Int) (w:World) (hl:VL w v l) (hq:w.ownsRow B 92 2 vq q.length (Z16 q)) (hql:q.length≤8192) (hqc:(q.length:Int)≤c 17) :
 Calls Tryz.prog 115 #[v,vq,cfgV c] w fun r w' => ∃ v' vd,r = .returned (.tuple #[v',vd])∧w'.ownsRow w.heap.size 49 7 v' l.length (Z10 (Z1k (c 6) l q))∧Z00 w w' :=by
 obtain ⟨i0,hi0,hz0,hz1,hz2⟩ :=info_parts Zpn
 obtain ⟨qa,qc,rfl⟩ :=Z0c hq
 have HCL :=Hd (fun w' (hk:Z00 w w') =>clone_any v l w' (hl.mods hk fun _ _ h =>h) hn)
 have HOK :=Hd (fun k:Nat =>Zaa (mb :=c 6) (q.take k) hok)
 have HRQ :=Hd (fun (v:Value) (l:List Vd) (hok:∀ x∈l,x.ok) (i j:Int) (w:World) (hl:VL w v l) =>Z5m v l hok i j c w hl)
 have HAP :=Hd (fun (s d:Vd) (hs:s.ok) (hd:d.ok) (w:World) (h0:mrgC (c 6) s d=0) =>Zcf s d hs hd c w h0)
 have HQ :=Hd hq
 have hqcap :=Z87 hq
 have h17:(cfgC c)[17]? = some (.int .i64 (c 17)) :=rfl
 have hsz:(cfgC c).size=20 :=rfl
 obtain ⟨s17,hs17⟩:∃ x,x=c 17 :=⟨_,rfl⟩
 rw [← hs17] at h17 hqc
 rw [show cfgV c = .agg (cfgC c) from rfl] at HRQ HAP ⊢
 generalize cfgC c=cs at *
 have hs20:(Tryz.prog.info? 24).map (·.size)=some cs.toList.length :=by rw [Z0m]; simp [hsz]
 clear hs17 hok hl hq
 go_enter Tryz.func115,Tryz.ntmps115
 go_upto_region 1 with fail
 refine Z0l ?_
 intro wz hwz
 have BC :=Hd (Z0g hwz)
 have KZ :=Hd (Z0f hwz)
 have hzw:wz.heap.size=w.heap.size+1 :=by rw [hwz,World.size_alloc]
 clear hwz
 go_wp2_with fail
 refine (HCL.out _ KZ.out).mono ?_
 rintro r w1 ⟨vo,rfl,ho,hk1⟩
 have HK1 :=Hd (KZ.out.keep hk1)
 have HO :=Hd ho
 have bc1 :=hk1.at BC.out fun h =>h
 have BC1 :=Hd bc1
 have cc:w1.cell? ⟨w.heap.size,17,none⟩=some (.int .i64 s17) :=by rw [cell_of_row _ _ _ _ _ _ bc1]; exact h17
 clear ho hk1 bc1
 go_wp2_with fail
 clear cc h17 hqcap hqc
 go_loopw [9,23] (fun d i wr => ∃ k:Nat,k≤q.length∧i = .int .i64 k∧wr.ownsRow wz.heap.size 49 7 vo l.length (Z10 (Z1k (c 6) l (q.take k)))∧(∃ bs,wr.ownsRow w1.heap.size 4 1 d k bs)∧Mods (fun i =>vo.ownBlock=some i) w1 wr) (fun _ i _ =>q.length - (intOf i).toNat)
 case atStart =>exact ⟨0,Nat.zero_le _,rfl,HO.out,⟨[],World.ownsRow_nil _ _ _ _⟩,Mods.refl _ _⟩
 case round =>
  obtain ⟨k,hk,rfl,ho,⟨bs,hb⟩,hm⟩ :=hrel
  have HM :=Hd hm
  by_cases hlt:k<q.length
  ·have hki:(k:Int)<(q.length:Int) :=Int.ofNat_lt.2 hlt
   obtain ⟨L,hL⟩:∃ L,L=Z1k (c 6) l (q.take k) :=⟨_,rfl⟩
   have hLok :=HOK.out k
   have hLn:L.length=l.length :=by rw [hL,Z5s]
   have hstep :=Zde (c 6) l q k hlt
   rw [← hL] at ho hLok hstep
   obtain ⟨g,rfl, -,p0,p1⟩ :=Zn7 (hm.owns (HK1.out.owns HQ.out fun _ _ h =>h) fun i hi h =>by have :=(Z0z HO.out i h).1; have :=(Z0z HQ.out i hi).2; omega) k hlt
   generalize q[k]=p at *
   obtain ⟨p1',p2'⟩ :=p
   dsimp only at p0 p1
   have HST :=Hd hstep
   have HLK :=Hd hLok
   have HL :=Hd hL
   have HOW :=Hd ho
   have HB :=Hd hb
   obtain ⟨sa,sc,rfl⟩ :=Z0c hb
   have hvl :=VL.of_owns (l :=L) (by rw [hLn]; exact ho)
   have HVL :=Hd hvl
   have bcr :=hm.at BC1.out fun h =>by have :=(Z0z HO.out _ h).1; omega
   have BCR :=Hd bcr
   clear hm ho hb hstep hLok hL hvl bcr
   go_wp2_with (refine Z03 rfl 24 _ rfl w.heap.size rfl 24 cs (0,0) _ Tryz.underlying24 rfl hs20 (Z02 BCR.out _) ?_)
   refine (HRQ.out vo L HLK.out p1' p2' _ (HVL.out.mods (S :=fun _ =>False) ((Mods.refl _ wr).alloc _) fun _ _ h =>h)).mono ?_
   rintro r w2 ⟨rfl,hk2⟩
   have hk12:Z00 wr w2 :=((Mods.refl _ wr).alloc _).keep hk2
   have HK2 :=Hd hk12
   have hp :=hk2.at (heap_alloc_last wr (.cells #[.int .i64 p1', .int .i64 p2'] 92)) fun h =>h
   have HP :=Hd hp
   have hww :=HM.out.size
   have hw2 :=hk12.size
   clear hk2 hk12 hp p0 p1
   by_cases hR:mrgR (c 6) L p1' p2'=0
   ·obtain ⟨q1,q2,q3,q4⟩ :=Z8v hR
    have HS1 :=Hd (HST.out.trans (if_pos hR))
    rw [hR]
    have q11 :=q1.1
    have q12 :=q1.2
    have q21 :=q2.1
    have q22 :=q2.2
    rw [hLn] at q12 q22
    have HAP1 :=Hd (fun w =>HAP.out (vAt L p1') (vAt L p2') (Z5o HLK.out q1) (Z5o HLK.out q2) w q4)
    obtain ⟨i1,rfl⟩ :=Int.eq_ofNat_of_zero_le q11
    obtain ⟨j1,rfl⟩ :=Int.eq_ofNat_of_zero_le q21
    have hil:i1<L.length :=by omega
    have hjl:j1<L.length :=by omega
    obtain ⟨oa,oc,rfl⟩ :=Z0c HOW.out
    have how :=HOW.out
    rw [← hLn] at how
    obtain ⟨b,rfl,hbz, -⟩ :=Z7x how i1 hil
    have how2 :=HK2.out.owns how fun _ _ h =>h
    obtain ⟨b',off',cap',e1,r1⟩ :=Z2y (VL.of_owns (l :=L) how2) q1
    obtain ⟨b'',off'',cap'',e2,r2⟩ :=Z2y (VL.of_owns (l :=L) how2) q2
    injection e1 with e1 _ e1'
    injection e1 with e1
    injection e1 with e1 e1''
    subst e1 e1' e1''
    injection e2 with e2 _ e2'
    injection e2 with e2
    injection e2 with e2 e2''
    subst e2 e2' e2''
    rw [Nat.zero_add,Int.toNat_natCast] at r1 r2
    obtain ⟨p0,p1⟩ :=Z27 HP.out
    have HR1 :=Hd r1
    have HR2 :=Hd r2
    have HOW2 :=Hd how2
    have HSS :=Hd (fun (wx:World) (S:Nat→Prop) (hm:Mods S w2 wx) (h1 : ¬ S wr.heap.size) (h2 : ¬ S w.heap.size) =>(⟨hm.cell p0 h1,hm.cell p1 h1,Z49 (Z50 (HK2.out.at BCR.out fun h =>h)) hm h2⟩:wx.cell? ⟨wr.heap.size,0,none⟩=some (.int .i64 (i1:Int))∧wx.cell? ⟨wr.heap.size,1,none⟩=some (.int .i64 (j1:Int))∧wx.rangeAt w.heap.size 0 cs.toList))
    have hbr:b≠wr.heap.size∧b≠w.heap.size :=by have :=(Z0z HOW.out b rfl).2; omega
    have HBR :=Hd hbr
    clear hR q1 q2 q3 q4 how how2 r1 r2 p0 p1 hbr
    go_wp2_with fail
    refine Z07 (S :=(fun w' =>w'.cell? ⟨wr.heap.size,0,none⟩=some (.int .i64 (i1:Int))∧w'.cell? ⟨wr.heap.size,1,none⟩=some (.int .i64 (j1:Int))∧w'.rangeAt w.heap.size 0 cs.toList)) (by kernel_rfl) (by exact HSS.out _ (fun _ =>False) ((Mods.refl _ w2).drew) (fun h =>h) (fun h =>h)) (fun wc hD hH0 =>?_)
    have HKC :=Hd (show Mods (fun i =>i=b) w2 wc from hD.mods)
    have HKK :=Hd (show Z00 w2 wc from hD.mods)
    clear hD
    refine tk 0 rfl hH0 ?_
    try go_frame
    refine tk 1 rfl hH0 ?_
    try go_frame
    refine tk 2 rfl hH0 ?_
    try go_frame
    refine tk 3 rfl hH0 ?_
    try go_frame
    refine tk 4 rfl hH0 ?_
    try go_frame
    refine tk 5 rfl hH0 ?_
    try go_frame
    refine tk 6 rfl hH0 ?_
    try go_frame
    refine tk 7 rfl hH0 ?_
    try go_frame
    refine tk 8 rfl hH0 ?_
    try go_frame
    refine tk 9 rfl hH0 ?_
    try go_frame
    refine tk 11 rfl hH0 ?_
    try go_frame
    refine tk 12 rfl hH0 ?_
    try go_frame
    refine tk 13 rfl hH0 ?_
    try go_frame
    refine tk 14 rfl hH0 ?_
    try go_frame
    refine tkb 16 rfl hH0 (yieldsIf_load_mid (by rfl) 24 (.tmp 5) rfl w.heap.size 0 rfl cs.toList _ (fun _ h =>h.2.2) Tryz.underlying24 rfl hs20) ?_
    try go_frame
    refine rdy [10,15] (Z04 rfl (fun K hK =>?_) (Z04 rfl (fun K hK =>?_) AllReadyH.nil))
    ·refine Z22 (by rfl) 49 (.tmp 46) rfl b (i1 * 7) rfl (vAt L (i1:Int)).cells.toList _ (Z0n HR1.out HKK.out) Tryz.underlying49 rfl Z4n ?_
     refine hK.out _ _ ((HSS.out _ _ HKC.out (Ne.symm HBR.out.1) (Ne.symm HBR.out.2))) (fun hH1 =>?_)
     clear hK K hH0
     try go_frame
     refine rdy [15] (Z04 rfl (fun K hK =>?_) AllReadyH.nil)
     refine Z22 (by rfl) 49 (.tmp 51) rfl b (j1 * 7) rfl (vAt L (j1:Int)).cells.toList _ (Z0n HR2.out HKK.out) Tryz.underlying49 rfl Z4n ?_
     refine hK.out _ _ ((HSS.out _ _ HKC.out (Ne.symm HBR.out.1) (Ne.symm HBR.out.2))) (fun hH2 =>?_)
     clear hK K hH1
     try go_frame
     refine rdy [17] (Z04 rfl (fun K hK =>?_) AllReadyH.nil)
     go_simp
     refine (HAP1.out _).mono ?_
     rintro r wc ⟨rfl,hk⟩
     go_wp2_with fail
     refine hK.out _ _ ((HSS.out _ _ (HKC.out.keep hk) (Ne.symm HBR.out.1) (Ne.symm HBR.out.2))) (fun hH3 =>?_)
     clear hK K hH2
     try go_frame
     replace HKC :=Hd (HKC.out.keep hk)
     replace HKK :=Hd (HKK.out.keep hk)
     clear hk
     refine tk 18 rfl hH3 ?_
     try go_frame
     refine tk 19 rfl hH3 ?_
     try go_frame
     refine tk 20 rfl hH3 ?_
     try go_frame
     refine tk 21 rfl hH3 ?_
     try go_frame
     refine tk 22 rfl hH3 ?_
     try go_frame
     refine rdy [23] (Z04 rfl (fun K hK =>?_) AllReadyH.nil)
     refine Z3d (by rfl) (.tmp 58) (.tmp 55) rfl b i1 L (mrgS (vAt L (i1:Int))) (by rfl) (by rfl) (by omega) (HKK.out.owns HOW2.out fun _ _ h =>h) ?_
     intro wc hro hm
     refine hK.out _ _ ((HSS.out _ _ (HKC.out.trans hm) (Ne.symm HBR.out.1) (Ne.symm HBR.out.2))) (fun hH4 =>?_)
     clear hK K hH3
     try go_frame
     replace HKC :=Hd (HKC.out.trans hm)
     have HRO :=Hd hro
     clear hro hm
     refine tk 24 rfl hH4 ?_
     try go_frame
     refine rdy [25] (Z04 rfl (fun K hK =>?_) AllReadyH.nil)
     refine Z3d (by rfl) (.tmp 59) (.tmp 56) rfl b j1 (L.set i1 (mrgS (vAt L (i1:Int)))) (mrgD (vAt L (i1:Int)) (vAt L (j1:Int))) (by rfl) (by rfl) (by simp; omega) HRO.out ?_
     intro wc hro hm
     refine hK.out _ _ ((HSS.out _ _ (HKC.out.trans hm) (Ne.symm HBR.out.1) (Ne.symm HBR.out.2))) (fun hH5 =>?_)
     clear hK K hH4
     try go_frame
     replace HKC :=Hd (HKC.out.trans hm)
     replace HRO :=Hd hro
     clear hro hm
     refine wpAnyH_done (by kernel_rfl) ?_ _
     have hS :=Hd hH5
     clear hH5
     have hbw :=Z0z HOW.out b rfl
     have hb1 :=(Z0z HO.out b rfl).2
     have HB2 :=Hd (HKC.out.owns (HK2.out.owns HB.out fun _ _ h =>h) fun i hi h =>by have :=(Z0z HB.out i hi).1; omega)
     have HO2 :=Hd (show wc.ownsRow wz.heap.size 49 7 (Value.slice (some ⟨b,0,none⟩) l.length oc) l.length (Z10 (Z1k (c 6) l (q.take (k+1)))) from by
      have :=HRO.out
      rw [List.length_set,List.length_set,hLn] at this
      rw [HS1.out]
      exact this)
     have HM2 :=Hd ((HM.out.keep HK2.out).seq HKC.out fun i _ h =>by rw [h]; rfl)
     clear hbw hb1 HRO HKC
     have hsz5 :=HM2.out.size
     go_wp2_with (at_builtin; refine wpList_append_own _ rfl _ _ 208 rfl w1.heap.size 4 i0 (.bool false) 1 1 Tryz.underlying208 hi0 hz0 hz1 hz2 rfl (by decide) _ _ _ rfl (HB2.out.alloc _) ⟨wc.heap.size,0,none⟩ 1 1 [.bool true] rfl rfl (Z4a _ _ _) (fun u hu =>by simp at hu; subst hu; rfl) (by unfold maxLen; omega) (by omega) (by simp; omega) ?_)
     intro v' w5 hown3 hgrow _
     have hv' :=Z0z HB2.out
     have HG :=Hd (show Mods (fun i =>(Value.slice (some ⟨b,0,none⟩) l.length oc).ownBlock=some i) w1 w5 from (HM2.out.alloc _).seq ((Mods.refl (fun i =>(Value.slice sa k sc).ownBlock=some i) _).grown hgrow fun k _ h =>h) fun i hi h =>by have :=(hv' i h).1; omega)
     have HO5 :=Hd (show w5.ownsRow wz.heap.size 49 7 (Value.slice (some ⟨b,0,none⟩) l.length oc) l.length (Z10 (Z1k (c 6) l (q.take (k+1)))) from Mods.owns (S :=fun i =>(Value.slice sa k sc).ownBlock=some i) ((Mods.refl _ _).grown hgrow fun k _ h =>h) (HO2.out.alloc _) fun i hi h =>by have :=(hv' i h).1; have :=(Z0z HO.out i hi).2; omega)
     have HB5 :=Hd hown3
     clear hgrow hown3 hv'
     go_wp2
     go_roundw
     case rel =>exact ⟨k+1,by omega,by go_num,HO5.out,⟨_,HB5.out⟩,HG.out⟩
     case measure =>simp [intOf]; omega
    ·refine Z22 (by rfl) 49 (.tmp 51) rfl b (j1 * 7) rfl (vAt L (j1:Int)).cells.toList _ (Z0n HR2.out HKK.out) Tryz.underlying49 rfl Z4n ?_
     refine hK.out _ _ ((HSS.out _ _ HKC.out (Ne.symm HBR.out.1) (Ne.symm HBR.out.2))) (fun hH1 =>?_)
     clear hK K hH0
     try go_frame
     refine rdy [10] (Z04 rfl (fun K hK =>?_) AllReadyH.nil)
     refine Z22 (by rfl) 49 (.tmp 46) rfl b (i1 * 7) rfl (vAt L (i1:Int)).cells.toList _ (Z0n HR1.out HKK.out) Tryz.underlying49 rfl Z4n ?_
     refine hK.out _ _ ((HSS.out _ _ HKC.out (Ne.symm HBR.out.1) (Ne.symm HBR.out.2))) (fun hH2 =>?_)
     clear hK K hH1
     try go_frame
     refine rdy [17] (Z04 rfl (fun K hK =>?_) AllReadyH.nil)
     go_simp
     refine (HAP1.out _).mono ?_
     rintro r wc ⟨rfl,hk⟩
     go_wp2_with fail
     refine hK.out _ _ ((HSS.out _ _ (HKC.out.keep hk) (Ne.symm HBR.out.1) (Ne.symm HBR.out.2))) (fun hH3 =>?_)
     clear hK K hH2
     try go_frame
     replace HKC :=Hd (HKC.out.keep hk)
     replace HKK :=Hd (HKK.out.keep hk)
     clear hk
     refine tk 18 rfl hH3 ?_
     try go_frame
     refine tk 19 rfl hH3 ?_
     try go_frame
     refine tk 20 rfl hH3 ?_
     try go_frame
     refine tk 21 rfl hH3 ?_
     try go_frame
     refine tk 22 rfl hH3 ?_
     try go_frame
     refine rdy [23] (Z04 rfl (fun K hK =>?_) AllReadyH.nil)
     refine Z3d (by rfl) (.tmp 58) (.tmp 55) rfl b i1 L (mrgS (vAt L (i1:Int))) (by rfl) (by rfl) (by omega) (HKK.out.owns HOW2.out fun _ _ h =>h) ?_
     intro wc hro hm
     refine hK.out _ _ ((HSS.out _ _ (HKC.out.trans hm) (Ne.symm HBR.out.1) (Ne.symm HBR.out.2))) (fun hH4 =>?_)
     clear hK K hH3
     try go_frame
     replace HKC :=Hd (HKC.out.trans hm)
     have HRO :=Hd hro
     clear hro hm
     refine tk 24 rfl hH4 ?_
     try go_frame
     refine rdy [25] (Z04 rfl (fun K hK =>?_) AllReadyH.nil)
     refine Z3d (by rfl) (.tmp 59) (.tmp 56) rfl b j1 (L.set i1 (mrgS (vAt L (i1:Int)))) (mrgD (vAt L (i1:Int)) (vAt L (j1:Int))) (by rfl) (by rfl) (by simp; omega) HRO.out ?_
     intro wc hro hm
     refine hK.out _ _ ((HSS.out _ _ (HKC.out.trans hm) (Ne.symm HBR.out.1) (Ne.symm HBR.out.2))) (fun hH5 =>?_)
     clear hK K hH4
     try go_frame
     replace HKC :=Hd (HKC.out.trans hm)
     replace HRO :=Hd hro
     clear hro hm
     refine wpAnyH_done (by kernel_rfl) ?_ _
     have hS :=Hd hH5
     clear hH5
     have hbw :=Z0z HOW.out b rfl
     have hb1 :=(Z0z HO.out b rfl).2
     have HB2 :=Hd (HKC.out.owns (HK2.out.owns HB.out fun _ _ h =>h) fun i hi h =>by have :=(Z0z HB.out i hi).1; omega)
     have HO2 :=Hd (show wc.ownsRow wz.heap.size 49 7 (Value.slice (some ⟨b,0,none⟩) l.length oc) l.length (Z10 (Z1k (c 6) l (q.take (k+1)))) from by
      have :=HRO.out
      rw [List.length_set,List.length_set,hLn] at this
      rw [HS1.out]
      exact this)
     have HM2 :=Hd ((HM.out.keep HK2.out).seq HKC.out fun i _ h =>by rw [h]; rfl)
     clear hbw hb1 HRO HKC
     have hsz5 :=HM2.out.size
     go_wp2_with (at_builtin; refine wpList_append_own _ rfl _ _ 208 rfl w1.heap.size 4 i0 (.bool false) 1 1 Tryz.underlying208 hi0 hz0 hz1 hz2 rfl (by decide) _ _ _ rfl (HB2.out.alloc _) ⟨wc.heap.size,0,none⟩ 1 1 [.bool true] rfl rfl (Z4a _ _ _) (fun u hu =>by simp at hu; subst hu; rfl) (by unfold maxLen; omega) (by omega) (by simp; omega) ?_)
     intro v' w5 hown3 hgrow _
     have hv' :=Z0z HB2.out
     have HG :=Hd (show Mods (fun i =>(Value.slice (some ⟨b,0,none⟩) l.length oc).ownBlock=some i) w1 w5 from (HM2.out.alloc _).seq ((Mods.refl (fun i =>(Value.slice sa k sc).ownBlock=some i) _).grown hgrow fun k _ h =>h) fun i hi h =>by have :=(hv' i h).1; omega)
     have HO5 :=Hd (show w5.ownsRow wz.heap.size 49 7 (Value.slice (some ⟨b,0,none⟩) l.length oc) l.length (Z10 (Z1k (c 6) l (q.take (k+1)))) from Mods.owns (S :=fun i =>(Value.slice sa k sc).ownBlock=some i) ((Mods.refl _ _).grown hgrow fun k _ h =>h) (HO2.out.alloc _) fun i hi h =>by have :=(hv' i h).1; have :=(Z0z HO.out i hi).2; omega)
     have HB5 :=Hd hown3
     clear hgrow hown3 hv'
     go_wp2
     go_roundw
     case rel =>exact ⟨k+1,by omega,by go_num,HO5.out,⟨_,HB5.out⟩,HG.out⟩
     case measure =>simp [intOf]; omega
   ·have HS1 :=Hd (HST.out.trans (if_neg hR))
    have hb0:(mrgR (c 6) L p1' p2' == 0)=false :=by simp [hR]
    generalize mrgR (c 6) L p1' p2'=R at *
    have HB2 :=Hd (HK2.out.owns HB.out fun _ _ h =>h)
    have HO2 :=Hd (show w2.ownsRow wz.heap.size 49 7 vo l.length (Z10 (Z1k (c 6) l (q.take (k+1)))) from by rw [HS1.out]; exact HK2.out.owns HOW.out fun _ _ h =>h)
    have HM2 :=Hd (HM.out.keep HK2.out)
    clear hR
    have hsz5 :=HM2.out.size
    go_wp2_with (at_builtin; refine wpList_append_own _ rfl _ _ 208 rfl w1.heap.size 4 i0 (.bool false) 1 1 Tryz.underlying208 hi0 hz0 hz1 hz2 rfl (by decide) _ _ _ rfl (HB2.out.alloc _) ⟨w2.heap.size,0,none⟩ 1 1 [.bool false] rfl rfl (Z4a _ _ _) (fun u hu =>by simp at hu; subst hu; rfl) (by unfold maxLen; omega) (by omega) (by simp; omega) ?_)
    intro v' w5 hown3 hgrow _
    have hv' :=Z0z HB2.out
    have HG :=Hd (show Mods (fun i =>vo.ownBlock=some i) w1 w5 from (HM2.out.alloc _).seq ((Mods.refl (fun i =>(Value.slice sa k sc).ownBlock=some i) _).grown hgrow fun k _ h =>h) fun i hi h =>by have :=(hv' i h).1; omega)
    have HO5 :=Hd (show w5.ownsRow wz.heap.size 49 7 vo l.length (Z10 (Z1k (c 6) l (q.take (k+1)))) from Mods.owns (S :=fun i =>(Value.slice sa k sc).ownBlock=some i) ((Mods.refl _ _).grown hgrow fun k _ h =>h) (HO2.out.alloc _) fun i hi h =>by have :=(hv' i h).1; have :=(Z0z HO.out i hi).2; omega)
    have HB5 :=Hd hown3
    clear hgrow hown3 hv'
    go_wp2
    go_roundw
    case rel =>exact ⟨k+1,by omega,by go_num,HO5.out,⟨_,HB5.out⟩,HG.out⟩
    case measure =>simp [intOf]; omega
  ·have hkn:k=q.length :=by omega
   subst hkn
   rw [List.take_length] at ho
   have HOW :=Hd ho
   clear hm ho hb
   go_wp2
   go_ret2
   exact ⟨_,_,rfl,own_base HOW.out KZ.out.size,HK1.out.seq HM.out fun i hi h =>by have :=(Z0z HO.out i h).1; omega⟩
def Z1i (mn:Int) (s:List Vd × List Pm) (r:Int × Int):List Vd × List Pm :=
 if inR s.1 r.1 then (s.1.set r.1.toNat (Z8z (vAt s.1 r.1) r.2 mn),s.2 ++ [(r.1,min r.2 (Z1t (vAt s.1 r.1) mn),false)]) else s
theorem Z89 (w:World) (cs:Array Value) (t:TypeId):∀ (j:Nat) (u:Value),cs.toList[j]? = some u→(w.alloc (.cells cs t)).cell? ((⟨w.heap.size,0,none⟩:Addr).add j)=some u :=by
 intro j u hj
 rw [addr_add,Nat.zero_add,cell_of_row _ _ _ _ _ _ (heap_alloc_last w (.cells cs t))]
 simpa using hj
theorem Zn4:(Tryz.prog.info? 58).map (fun i =>(i.zero,i.size,i.bytes))=some (some zM,3,24) :=by kernel_rfl
structure Z9p (w:World) (bo bp Bp:Nat) (vo:Value) (L:List Vd) (ps:List Pm):Prop where
 ho:w.heap[bo]? = some (.cells #[vo] 36 (0,0))
 ow:w.ownsRow 0 49 7 vo L.length (Z10 L)
 hp:∃ vp,w.heap[bp]? = some (.cells #[vp] 44 (0,0))∧w.ownsRow Bp 58 3 vp ps.length (Z1u ps)
 lo:∀ k,vo.ownBlock=some k→k<bo
 op:bo<bp
 pB:bp<Bp
 Bw:Bp≤w.heap.size
def ParS (bp Bp:Nat) (vo:Value) (i:Nat):Prop :=vo.ownBlock=some i∨i=bp∨Bp≤i
theorem Z9p.keeps {w w':World} {bo bp Bp:Nat} {vo:Value} {L:List Vd} {ps:List Pm} (h:Z9p w bo bp Bp vo L ps) (hk:Z00 w w'):Z9p w' bo bp Bp vo L ps :=by
 obtain ⟨vp,h1,h2⟩ :=h.hp
 exact ⟨hk.at h.ho fun h =>h,hk.owns h.ow fun _ _ h =>h,⟨vp,hk.at h1 fun h =>h,hk.owns h2 fun _ _ h =>h⟩,h.lo,h.op,h.pB,Nat.le_trans h.Bw hk.size⟩
theorem Zgi {bo bp Bp bc:Nat} {vo:Value} {L:List Vd} {ps:List Pm} (r:Int × Int) (c:Nat→Int) (w:World) (h:Z9p w bo bp Bp vo L ps) (hc:w.heap[bc]? = some (cfB c)) (hcb:bc≠bp∧bc<Bp∧vo.ownBlock≠some bc) (hL:∀ x∈L,x.ok) (h0:0≤r.2) (h5:0≤c 5) (hn:ps.length≤100000) :
 Calls Tryz.prog 178 #[.agg #[.int .i64 r.1, .int .u64 r.2], .pointer (some ⟨bo,0,none⟩), .pointer (some ⟨bc,0,none⟩), .pointer (some ⟨bp,0,none⟩)] w fun e w' =>e = .returned (.tuple #[])∧Z9p w' bo bp Bp vo (Z1i (c 5) (L,ps) r).1 (Z1i (c 5) (L,ps) r).2∧Mods (ParS bp Bp vo) w w' :=by
 obtain ⟨i,am⟩ :=r
 dsimp only at h0 ⊢
 have H :=Hd h
 obtain ⟨va,vc,rfl⟩ :=Z0c h.ow
 have co:w.cell? ⟨bo,0,none⟩=some (.slice va L.length vc) :=by simp [World.cell?,h.ho]
 have HCO :=Hd co
 have hco2:∀ o,(w.alloc o).cell? ⟨bo,0,none⟩=some (.slice va L.length vc) :=fun o =>((Mods.refl (fun _ =>False) w).alloc o).cell co fun h =>h
 have HQ:∀ w:World,Z00 w (w.alloc (.cells #[.int .i64 i, .int .u64 am] 96)) :=fun w =>(Mods.refl _ w).alloc _
 have HW0 :=Hd (HQ w)
 by_cases hlo:i<0
 ·have hp:Z1i (c 5) (L,ps) (i,am)=(L,ps) :=if_neg fun h:inR L i =>by have :=h.1; omega
  rw [hp]
  clear h hc hp hL
  go_enter Tryz.func178,Tryz.ntmps178
  go_wp2_with fail
  exact bodyPost_ret (v := .tuple #[]) (by simp [results,Tryz.results178,go_sem]) rfl ⟨rfl,H.out.keeps HW0.out,HW0.out.weaken fun _ _ h =>h.elim⟩
 ·by_cases hup:(L.length:Int)≤i
  ·have hp:Z1i (c 5) (L,ps) (i,am)=(L,ps) :=if_neg fun h:inR L i =>by have :=h.2; omega
   rw [hp]
   clear h hc hp hL
   go_enter Tryz.func178,Tryz.ntmps178
   go_wp2_with fail
   exact bodyPost_ret (v := .tuple #[]) (by simp [results,Tryz.results178,go_sem]) rfl ⟨rfl,H.out.keeps HW0.out,HW0.out.weaken fun _ _ h =>h.elim⟩
  ·have hin:inR L i :=⟨by omega,by omega⟩
   have hok :=Z5o hL hin
   have HP :=Hd (show Z1i (c 5) (L,ps) (i,am)=(L.set i.toNat (Z8z (vAt L i) am (c 5)),ps ++ [(i,min am (Z1t (vAt L i) (c 5)),false)]) from if_pos hin)
   obtain ⟨p,rfl⟩ :=Int.eq_ofNat_of_zero_le hin.1
   have hpl:p<L.length :=by have :=hin.2; omega
   have hpi:(p:Int)<(L.length:Int) :=hin.2
   obtain ⟨b,rfl, -, -⟩ :=Z7x h.ow p hpl
   obtain ⟨b',off,cap',e1,r1⟩ :=Z2y (VL.of_owns h.ow) hin
   injection e1 with e1 _ e1'
   injection e1 with e1
   injection e1 with e1 e1''
   subst e1 e1' e1''
   rw [Nat.zero_add,Int.toNat_natCast] at r1
   rw [Int.toNat_natCast] at HP
   have HAP :=Hd (fun w =>Zat (vAt L p) hok am h0 c h5 w)
   have HV :=Hd hok
   obtain ⟨v0,hv0⟩:∃ x,x=vAt L p :=⟨_,rfl⟩
   rw [← hv0] at HAP HP r1
   obtain ⟨AM,hAM⟩:∃ x,x=min am (Z1t v0 (c 5)) :=⟨_,rfl⟩
   obtain ⟨NV,hNV⟩:∃ x,x=Z8z v0 am (c 5) :=⟨_,rfl⟩
   rw [← hAM,← hNV] at HAP HP
   have R1 :=Hd r1
   have HC :=Hd hc
   have hsz:(cfgC c).size=20 :=rfl
   unfold cfB at HC
   rw [show cfgV c = .agg (cfgC c) from rfl] at HAP
   generalize cfgC c=cs at *
   have hs20:(Tryz.prog.info? 24).map (·.size)=some cs.toList.length :=by rw [Z0m]; simp [hsz]
   clear hv0 hAM hNV r1 hc hL hok h hin HV HQ
   go_enter Tryz.func178,Tryz.ntmps178
   go_wp2_with fail
   refine Z0l ?_
   intro wz hwz
   obtain ⟨z0,z1⟩ :=Z27 (Z0g hwz)
   have kz :=Z0f hwz
   have KZ :=Hd kz
   have RZ :=Hd (Z0n R1.out kz)
   have CZ :=Hd (Z50 (kz.at HC.out fun h =>h))
   have cz :=kz.cell HCO.out fun h =>h
   have HSS :=Hd (fun wx (hk:Z00 wz wx) =>(⟨hk.cell cz fun h =>h,hk.cell z0 fun h =>h,hk.cell z1 fun h =>h,Z0n RZ.out hk,Z0n CZ.out hk⟩:wx.cell? ⟨bo,0,none⟩=some (.slice (some ⟨b,0,none⟩) L.length vc)∧wx.cell? ⟨w.heap.size,0,none⟩=some (.int .i64 (p:Int))∧wx.cell? ⟨w.heap.size,1,none⟩=some (.int .u64 am)∧wx.rangeAt b (p * 7) v0.cells.toList∧wx.rangeAt bc 0 cs.toList))
   clear hwz z0 z1 kz cz co hco2
   refine Z07 (S :=(fun w' =>w'.cell? ⟨bo,0,none⟩=some (.slice (some ⟨b,0,none⟩) L.length vc)∧w'.cell? ⟨w.heap.size,0,none⟩=some (.int .i64 (p:Int))∧w'.cell? ⟨w.heap.size,1,none⟩=some (.int .u64 am)∧w'.rangeAt b (p * 7) v0.cells.toList∧w'.rangeAt bc 0 cs.toList)) (by kernel_rfl) (by exact HSS.out _ (Mods.refl _ wz).drew) (fun wc hD hH0 =>?_)
   have HK :=Hd (show Z00 wz wc from hD.mods)
   clear hD
   refine tk 0 rfl hH0 ?_
   try go_frame
   refine tk 1 rfl hH0 ?_
   try go_frame
   refine tk 2 rfl hH0 ?_
   try go_frame
   refine tk 3 rfl hH0 ?_
   try go_frame
   refine tkb 4 rfl hH0 (yieldsIf_load_mid (by rfl) 49 (.tmp 21) rfl b (p * 7) rfl v0.cells.toList _ (fun _ h =>h.2.2.2.1) Tryz.underlying49 rfl Z4n) ?_
   try go_frame
   refine tk 5 rfl hH0 ?_
   try go_frame
   refine tk 6 rfl hH0 ?_
   try go_frame
   refine tkb 7 rfl hH0 (yieldsIf_load_mid (by rfl) 24 (.tmp 2) rfl bc 0 rfl cs.toList _ (fun _ h =>h.2.2.2.2) Tryz.underlying24 rfl hs20) ?_
   try go_frame
   refine rdy [8,12] (Z04 rfl (fun K hK =>?_) (Z04 rfl (fun K hK =>?_) AllReadyH.nil))
   ·go_simp
    refine (HAP.out _).mono ?_
    rintro r wc ⟨rfl,hk⟩
    go_wp2_with fail
    refine hK.out _ _ ((HSS.out _ (HK.out.keep hk))) (fun hH1 =>?_)
    clear hK K hH0
    try go_frame
    replace HK :=Hd (HK.out.keep hk)
    try replace HZ :=Hd (hk.at HZ.out fun h =>h)
    clear hk
    refine tk 9 rfl hH1 ?_
    try go_frame
    refine tk 10 rfl hH1 ?_
    try go_frame
    refine tk 11 rfl hH1 ?_
    try go_frame
    refine rdy [12] (Z04 rfl (fun K hK =>?_) AllReadyH.nil)
    go_simp
    have hsbn:wz.heap.size≤wc.heap.size :=HK.out.size
    generalize hsz5:wc.heap.size=z at *
    refine Z14 ?_
    intro wc hwd
    have hk :=Z0f hwd
    have hn :=Z0g hwd
    rw [hsz5] at hn
    refine hK.out _ _ ((HSS.out _ (HK.out.keep hk))) (fun hH2 =>?_)
    clear hK K hH1
    try go_frame
    replace HK :=Hd (HK.out.keep hk)
    have HZ :=Hd (show wc.heap[z]? = some (vdB vd0) from hn)
    have HZN :=Hd hsbn
    clear hwd hk hn hsz5 hsbn
    refine rdy [13] (Z04 rfl (fun K hK =>?_) AllReadyH.nil)
    refine Z0d (by rfl) (.tmp 5) (.tmp 27) rfl z NV vd0 (by rfl) (by rfl) HZ.out ?_
    intro wc hz hm
    have hk:Z00 wz wc :=HK.out.seq hm fun i hi e =>by have :=HZN.out; omega
    refine hK.out _ _ ((HSS.out _ hk)) (fun hH3 =>?_)
    clear hK K hH2
    try go_frame
    replace HK :=Hd hk
    have HF :=Hd hz
    clear hz hm hk HZ
    refine tk 14 rfl hH3 ?_
    try go_frame
    refine wpAnyH_done (by kernel_rfl) ?_ _
    have hS :=Hd hH3
    clear hH3
    have HPA :=Hd (H.out.keeps (KZ.out.keep HK.out))
    have hco :=(HSS.out _ HK.out).1
    have hc1 :=(HSS.out _ HK.out).2.1
    have hzlt :=HZN.out
    clear hS
    go_wp2_with (first
     | (refine Z0x rfl _ rfl z rfl NV HF.out ?_)
     | (refine Z4v rfl (.tmp 33) (.tmp 32) rfl b p L NV rfl rfl hpl HPA.out.ow ?_; refine Z0e.out ?_))
    refine Z0e.mk ?_
    intro w3 hro hm3
    obtain ⟨vp,hvp,hvo⟩ :=HPA.out.hp
    obtain ⟨pa,pc,rfl⟩ :=Z0c hvo
    have hge :=Z0z hvo
    have hlo :=HPA.out.lo b rfl
    have hop :=HPA.out.op
    have hpB :=HPA.out.pB
    have hBw :=HPA.out.Bw
    have hbz :=(Z0z HPA.out.ow b rfl).2
    have hvp3 :=hm3.at hvp (by omega)
    have hvo3 :=hm3.owns hvo fun k hk e =>by have :=(hge k hk).1; omega
    have cp:w3.cell? ⟨bp,0,none⟩=some (.slice pa ps.length pc) :=by simp [World.cell?,hvp3]
    have hc3 :=hm3.cell hc1 (show w.heap.size≠b from by have :=H.out.lo b rfl; have :=H.out.pB; have :=H.out.op; have :=H.out.Bw; omega)
    have HVP :=Hd hvp3
    have HVO :=Hd hvo3
    have HRO :=Hd hro
    have HM3 :=Hd hm3
    have hs3 :=hm3.size
    have HO3 :=Hd (hm3.at HPA.out.ho (by omega))
    obtain ⟨i0,hi0,hz0,hz1,hz2⟩ :=info_parts Zn4
    have HGE :=Hd hge
    clear hro hm3 hvp hvo hge hbz hvp3 hvo3 hco hc1
    go_wp2_with (at_builtin; refine Z0e.out ?_)
    refine Z0e.mk ?_
    refine wpList_append_own _ rfl _ _ 44 rfl Bp 58 i0 zM 3 24 Tryz.underlying44 hi0 hz0 hz1 hz2 rfl (by decide) _ _ _ rfl (HVO.out.alloc _) ⟨w3.heap.size,0,none⟩ 1 1 [.int .i64 (p:Int), .int .u64 AM, .bool false] rfl rfl (Z89 _ _ _) (fun u hu =>by simp at hu; rcases hu with rfl | rfl | rfl <;> rfl) (by unfold maxLen; omega) (by omega) (by simp; omega) ?_
    intro v' w4 hown4 hgrow _
    obtain ⟨na,nc,rfl⟩ :=Z0c hown4
    have hm4:Mods (fun i =>(Value.slice pa ps.length pc).ownBlock=some i) w3 w4 :=((Mods.refl _ w3).alloc _).seq ((Mods.refl (fun i =>(Value.slice pa ps.length pc).ownBlock=some i) _).grown hgrow fun k _ h =>h) fun i _ h =>h
    have hb4 :=hm4.at HVP.out fun h =>by have :=(HGE.out _ h).1; omega
    have cp4:w4.cell? ⟨bp,0,none⟩=some (.slice pa ps.length pc) :=by simp [World.cell?,hb4]
    have fr4:w4.frozen? ⟨bp,0,none⟩=false :=by simp [World.frozen?,hb4]
    have h5a :=heap_setCell_same w4 bp 0 _ _ (.slice na (ps.length+1) nc) hb4
    have hm5:Mods (fun i =>i=bp) w4 (w4.setCell ⟨bp,0,none⟩ (.slice na (ps.length+1) nc)) :=(Mods.refl _ w4).setCell _ _ fun _ =>rfl
    have hge4 :=Z0z hown4
    have HPE :=Hd (show Z9p (w4.setCell ⟨bp,0,none⟩ (.slice na (ps.length+1) nc)) bo bp Bp (.slice (some ⟨b,0,none⟩) L.length vc) (L.set p NV) (ps ++ [((p:Int),AM,false)]) from
     ⟨hm5.at (hm4.at HO3.out fun h =>by have :=(HGE.out _ h).1; omega) (by omega),
      by rw [List.length_set]; exact hm5.owns (hm4.owns HRO.out fun k hk h =>by have :=(HGE.out _ h).1; have :=HPA.out.lo k hk; omega) fun k hk e =>by have :=HPA.out.lo k hk; omega,
      ⟨_,h5a,by rw [Z79,List.length_append]; exact hm5.owns hown4 fun k hk e =>by have :=(hge4 k hk).1; omega⟩,
      HPA.out.lo,HPA.out.op,HPA.out.pB,by have :=hm4.size; have :=hm5.size; omega⟩)
    have HME :=Hd (show Mods (ParS bp Bp (.slice (some ⟨b,0,none⟩) L.length vc)) w (w4.setCell ⟨bp,0,none⟩ (.slice na (ps.length+1) nc)) from
     ((((KZ.out.keep HK.out).weaken fun _ _ h =>h.elim).seq HM3.out fun i _ h =>.inl (by rw [h]; rfl)).seq hm4 fun i _ h =>.inr (.inr (HGE.out _ h).1)).seq hm5 fun i _ h =>.inr (.inl h))
    clear hown4 hgrow hm4 hb4 h5a hm5 hge4
    go_wp2_with fail
    exact bodyPost_end (v := .tuple #[]) (by simp [results,Tryz.results178,go_sem]) rfl ⟨rfl,by rw [HP.out]; exact HPE.out,HME.out⟩
   ·go_simp
    have hsbn:wz.heap.size≤wc.heap.size :=HK.out.size
    generalize hsz5:wc.heap.size=z at *
    refine Z14 ?_
    intro wc hwd
    have hk :=Z0f hwd
    have hn :=Z0g hwd
    rw [hsz5] at hn
    refine hK.out _ _ ((HSS.out _ (HK.out.keep hk))) (fun hH1 =>?_)
    clear hK K hH0
    try go_frame
    replace HK :=Hd (HK.out.keep hk)
    have HZ :=Hd (show wc.heap[z]? = some (vdB vd0) from hn)
    have HZN :=Hd hsbn
    clear hwd hk hn hsz5 hsbn
    refine rdy [8] (Z04 rfl (fun K hK =>?_) AllReadyH.nil)
    go_simp
    refine (HAP.out _).mono ?_
    rintro r wc ⟨rfl,hk⟩
    go_wp2_with fail
    refine hK.out _ _ ((HSS.out _ (HK.out.keep hk))) (fun hH2 =>?_)
    clear hK K hH1
    try go_frame
    replace HK :=Hd (HK.out.keep hk)
    try replace HZ :=Hd (hk.at HZ.out fun h =>h)
    clear hk
    refine tk 9 rfl hH2 ?_
    try go_frame
    refine tk 10 rfl hH2 ?_
    try go_frame
    refine tk 11 rfl hH2 ?_
    try go_frame
    refine rdy [13] (Z04 rfl (fun K hK =>?_) AllReadyH.nil)
    refine Z0d (by rfl) (.tmp 5) (.tmp 27) rfl z NV vd0 (by rfl) (by rfl) HZ.out ?_
    intro wc hz hm
    have hk:Z00 wz wc :=HK.out.seq hm fun i hi e =>by have :=HZN.out; omega
    refine hK.out _ _ ((HSS.out _ hk)) (fun hH3 =>?_)
    clear hK K hH2
    try go_frame
    replace HK :=Hd hk
    have HF :=Hd hz
    clear hz hm hk HZ
    refine tk 14 rfl hH3 ?_
    try go_frame
    refine wpAnyH_done (by kernel_rfl) ?_ _
    have hS :=Hd hH3
    clear hH3
    have HPA :=Hd (H.out.keeps (KZ.out.keep HK.out))
    have hco :=(HSS.out _ HK.out).1
    have hc1 :=(HSS.out _ HK.out).2.1
    have hzlt :=HZN.out
    clear hS
    go_wp2_with (first
     | (refine Z0x rfl _ rfl z rfl NV HF.out ?_)
     | (refine Z4v rfl (.tmp 33) (.tmp 32) rfl b p L NV rfl rfl hpl HPA.out.ow ?_; refine Z0e.out ?_))
    refine Z0e.mk ?_
    intro w3 hro hm3
    obtain ⟨vp,hvp,hvo⟩ :=HPA.out.hp
    obtain ⟨pa,pc,rfl⟩ :=Z0c hvo
    have hge :=Z0z hvo
    have hlo :=HPA.out.lo b rfl
    have hop :=HPA.out.op
    have hpB :=HPA.out.pB
    have hBw :=HPA.out.Bw
    have hbz :=(Z0z HPA.out.ow b rfl).2
    have hvp3 :=hm3.at hvp (by omega)
    have hvo3 :=hm3.owns hvo fun k hk e =>by have :=(hge k hk).1; omega
    have cp:w3.cell? ⟨bp,0,none⟩=some (.slice pa ps.length pc) :=by simp [World.cell?,hvp3]
    have hc3 :=hm3.cell hc1 (show w.heap.size≠b from by have :=H.out.lo b rfl; have :=H.out.pB; have :=H.out.op; have :=H.out.Bw; omega)
    have HVP :=Hd hvp3
    have HVO :=Hd hvo3
    have HRO :=Hd hro
    have HM3 :=Hd hm3
    have hs3 :=hm3.size
    have HO3 :=Hd (hm3.at HPA.out.ho (by omega))
    obtain ⟨i0,hi0,hz0,hz1,hz2⟩ :=info_parts Zn4
    have HGE :=Hd hge
    clear hro hm3 hvp hvo hge hbz hvp3 hvo3 hco hc1
    go_wp2_with (at_builtin; refine Z0e.out ?_)
    refine Z0e.mk ?_
    refine wpList_append_own _ rfl _ _ 44 rfl Bp 58 i0 zM 3 24 Tryz.underlying44 hi0 hz0 hz1 hz2 rfl (by decide) _ _ _ rfl (HVO.out.alloc _) ⟨w3.heap.size,0,none⟩ 1 1 [.int .i64 (p:Int), .int .u64 AM, .bool false] rfl rfl (Z89 _ _ _) (fun u hu =>by simp at hu; rcases hu with rfl | rfl | rfl <;> rfl) (by unfold maxLen; omega) (by omega) (by simp; omega) ?_
    intro v' w4 hown4 hgrow _
    obtain ⟨na,nc,rfl⟩ :=Z0c hown4
    have hm4:Mods (fun i =>(Value.slice pa ps.length pc).ownBlock=some i) w3 w4 :=((Mods.refl _ w3).alloc _).seq ((Mods.refl (fun i =>(Value.slice pa ps.length pc).ownBlock=some i) _).grown hgrow fun k _ h =>h) fun i _ h =>h
    have hb4 :=hm4.at HVP.out fun h =>by have :=(HGE.out _ h).1; omega
    have cp4:w4.cell? ⟨bp,0,none⟩=some (.slice pa ps.length pc) :=by simp [World.cell?,hb4]
    have fr4:w4.frozen? ⟨bp,0,none⟩=false :=by simp [World.frozen?,hb4]
    have h5a :=heap_setCell_same w4 bp 0 _ _ (.slice na (ps.length+1) nc) hb4
    have hm5:Mods (fun i =>i=bp) w4 (w4.setCell ⟨bp,0,none⟩ (.slice na (ps.length+1) nc)) :=(Mods.refl _ w4).setCell _ _ fun _ =>rfl
    have hge4 :=Z0z hown4
    have HPE :=Hd (show Z9p (w4.setCell ⟨bp,0,none⟩ (.slice na (ps.length+1) nc)) bo bp Bp (.slice (some ⟨b,0,none⟩) L.length vc) (L.set p NV) (ps ++ [((p:Int),AM,false)]) from
     ⟨hm5.at (hm4.at HO3.out fun h =>by have :=(HGE.out _ h).1; omega) (by omega),
      by rw [List.length_set]; exact hm5.owns (hm4.owns HRO.out fun k hk h =>by have :=(HGE.out _ h).1; have :=HPA.out.lo k hk; omega) fun k hk e =>by have :=HPA.out.lo k hk; omega,
      ⟨_,h5a,by rw [Z79,List.length_append]; exact hm5.owns hown4 fun k hk e =>by have :=(hge4 k hk).1; omega⟩,
      HPA.out.lo,HPA.out.op,HPA.out.pB,by have :=hm4.size; have :=hm5.size; omega⟩)
    have HME :=Hd (show Mods (ParS bp Bp (.slice (some ⟨b,0,none⟩) L.length vc)) w (w4.setCell ⟨bp,0,none⟩ (.slice na (ps.length+1) nc)) from
     ((((KZ.out.keep HK.out).weaken fun _ _ h =>h.elim).seq HM3.out fun i _ h =>.inl (by rw [h]; rfl)).seq hm4 fun i _ h =>.inr (.inr (HGE.out _ h).1)).seq hm5 fun i _ h =>.inr (.inl h))
    clear hown4 hgrow hm4 hb4 h5a hm5 hge4
    go_wp2_with fail
    exact bodyPost_end (v := .tuple #[]) (by simp [results,Tryz.results178,go_sem]) rfl ⟨rfl,by rw [HP.out]; exact HPE.out,HME.out⟩
def lenOf:Value→Nat
 | .slice _ n _ =>n
 | _ =>0
def asgW (W fo vo:List Int):List Int :=(fo ++ vo).map (wgt W)
theorem Zkk {own:Nat→Nat} {w:World} {e:Nat} {c:Nat→Int} {E:En} {p:Ep} {N:Nat} (h:Z0i own w e c E p N) (ep lim:Int) (v:Value) (W:List Int) (B:Nat) (hv:w.ownsRow B 22 1 v W.length (W.map fun x =>.int .u64 x)) (hv0:∀ k,v.ownBlock=some k→own k=0) (hW:∀ x∈W,0≤x∧x≤maxU)
 (h0:0≤ep) (h1:ep≤1099511627776) (hl0:0≤lim) (hl1:lim≤maxU) (hc0:0≤E.car) :
 Calls Tryz.prog 172 #[.int .i64 ep, .pointer (some ⟨p.la,0,none⟩), .pointer (some ⟨p.me,0,none⟩), .int .u64 lim,v] w fun r w' => ∃ v',r = .returned v'∧∃ own' K,K=asgN (asgW W E.fo E.vo) (min (E.car+lim) maxU) ∧
  Z0i own' w' e c { E with fo :=E.fo.drop K,vo :=E.vo.drop (K - E.fo.length),car :=if K=(E.fo ++ E.vo).length then 0 else min (E.car+lim) maxU - sumT (asgW W E.fo E.vo) K } p N∧Ext own w own' w' ∧
  w'.ownsRow w.heap.size 51 3 v' K (Z4u (Z1p E.fo E.vo ep K))∧∀ k,v'.ownBlock=some k→own' k=0 :=by
 obtain ⟨C0,hC0⟩:∃ x,x=min (E.car+lim) maxU :=⟨_,rfl⟩
 have hm :=h.me (by decide)
 have HGR :=Hd (Z9y hm hl0 hl1)
 rw [← hC0] at HGR ⊢
 have hC00:0≤C0 :=by unfold maxU at hC0; omega
 have hC01:C0≤maxU :=by omega
 obtain ⟨ws,hws⟩:∃ ws,ws=asgW W E.fo E.vo :=⟨_,rfl⟩
 rw [← hws]
 have hwl:ws.length=(E.fo ++ E.vo).length :=by rw [hws,asgW,List.length_map]
 obtain ⟨K,hK⟩:∃ K,K=asgN ws C0 :=⟨_,rfl⟩
 have HKL :=Hd (show K≤(E.fo ++ E.vo).length from by rw [hK,← hwl]; exact Ziu _ _)
 have HLT :=Hd (fun k (hk:k≤K) =>by have :=Zj2 ws C0 k (by omega); rwa [← hK] at this)
 have HSM :=Hd (fun k (hk:k≤K) =>Zka (ws :=ws) hC00 k (by omega))
 have HWS :=Hd (show ∀ k (hk:k<ws.length),ws[k]=wgt W ((E.fo ++ E.vo).getD k 0) from fun k hk =>by
  have hk2:k<(E.fo ++ E.vo).length :=by omega
  simp only [hws,asgW,List.getElem_map,List.getD,List.getElem?_eq_getElem hk2,Option.getD_some])
 have hq4:(E.fo ++ E.vo).length≤8192 :=by
  obtain ⟨-, -,S0,S1,p0,q0, -,r0,r1, -⟩ :=h.la (by decide)
  have :=r0.2.2.2.1
  have :=r0.2.2.1
  have :=r1.2.2.2.1
  have :=r1.2.2.1
  rw [List.length_append]
  omega
 have HV :=Hd hv
 have HV0 :=Hd hv0
 have HWR :=Hd (Z60 hW)
 have H :=Hd h
 have HG :=Hd (fun (w':World) (h4:Z3s w' p.me C0) (hm:Mods (fun i =>i=p.me) w w') =>Zbx h h4 hm)
 obtain ⟨i0,hi0,hz0,hz1,hz2⟩ :=info_parts Zqs
 have hep:wrap64 (ep+1)=ep+1 :=Z1m (by omega) (by omega)
 have HKK :=Hd (show ∀ k,k≤K→(k=K∨(k<K∧∃ hk:k<ws.length,ws[k]≤C0 - sumT ws k)) from fun k hk =>by
  rcases Nat.lt_or_ge k K with h | h
  ·exact .inr ⟨h,(HLT.out k hk).1 h⟩
  ·exact .inl (by omega))
 obtain ⟨F,hF⟩:∃ F:Nat→Int × Int × Bool,F=fun k =>if k<(E.fo ++ E.vo).length then ((E.fo ++ E.vo).getD k 0,if k<E.fo.length then 0 else 1,true) else (0,0,false) :=⟨_,rfl⟩
 have HHD :=Hd (show ∀ k,Zdx (E.fo.drop k) (E.vo.drop (k - E.fo.length))=F k from fun k =>by rw [hF]; exact Znh E.fo E.vo k)
 have HF1 :=Hd (show ∀ k,k<(E.fo ++ E.vo).length→F k=((E.fo ++ E.vo).getD k 0,if k<E.fo.length then 0 else 1,true) from fun k h =>by rw [hF]; exact if_pos h)
 have HF2 :=Hd (show ∀ k,(E.fo ++ E.vo).length≤k→F k=(0,0,false) from fun k h =>by rw [hF]; exact if_neg (by omega))
 have HKQ :=Hd hK
 have HWL :=Hd hwl
 clear hF hm h hv hv0 hW hwl hC0 hl0 hl1 hc0 hws hK
 go_enter Tryz.func172,Tryz.ntmps172
 go_wp2_with fail
 refine HGR.out.mono ?_
 rintro r w1 ⟨⟨u1,rfl⟩,hm1,hM1⟩
 obtain ⟨own1,hE1,hX1⟩ :=HG.out w1 hm1 hM1
 have HHEAD :=Hd (Z8r (hE1.la (by decide)))
 have hh0 :=HHD.out 0
 rw [List.drop_zero,Nat.zero_sub,List.drop_zero] at hh0
 dsimp only at HHEAD
 rw [hh0] at HHEAD
 have HE1 :=Hd hE1
 have HX1 :=Hd hX1
 clear hm1 hM1 hE1 hX1 hh0
 go_wp2_with fail
 refine HHEAD.out.mono ?_
 rintro r w2 ⟨rfl,hd2⟩
 have HE2 :=Hd (show Z0i own1 w2 e c { E with fo :=E.fo.drop 0,vo :=E.vo.drop (0 - E.fo.length),car :=C0 - sumT ws 0 } p N from by
  rw [List.drop_zero,Nat.zero_sub,List.drop_zero,Z6n,Int.sub_zero]
  exact HE1.out.keeps hd2.mods)
 have HX2 :=Hd (HX1.out.trans (Ext.keeps (own :=own1) hd2.mods))
 clear hd2
 go_wp2_with fail
 go_loopw [12,13,14,15] (fun o i cl mo wr => ∃ k:Nat,k≤K∧i = .int .i64 (F k).1∧cl = .int .i64 (F k).2.1∧mo = .bool (F k).2.2∧∃ own',Z0i own' wr e c { E with fo :=E.fo.drop k,vo :=E.vo.drop (k - E.fo.length),car :=C0 - sumT ws k } p N∧Ext own w own' wr∧wr.ownsRow w.heap.size 51 3 o k (Z4u (Z1p E.fo E.vo ep k))∧∀ j,o.ownBlock=some j→own' j=0) (fun o _ _ _ _ =>K - lenOf o)
 case atStart =>exact ⟨0,Nat.zero_le _,rfl,rfl,rfl,own1,HE2.out,HX2.out,World.ownsRow_nil _ _ _ _,fun j hj =>by cases hj⟩
 case round =>
  obtain ⟨k,hk,rfl,rfl,rfl,own3,hE,hX,ho,hz⟩ :=hrel
  obtain ⟨oa,oc,rfl⟩ :=Z0c ho
  have HX :=Hd hX
  have HO :=Hd ho
  have HZ :=Hd hz
  have HE :=Hd hE
  by_cases hlen:k<(E.fo ++ E.vo).length
  ·have hFk :=HF1.out k hlen
   obtain ⟨cl,hcl⟩:∃ x:Int,x=if k<E.fo.length then 0 else 1 :=⟨_,rfl⟩
   have hAS :=Ze5 E.fo E.vo ep k
   rw [← hcl] at hFk hAS
   obtain ⟨q,hq⟩:∃ x,x=(E.fo ++ E.vo).getD k 0 :=⟨_,rfl⟩
   have hwk :=HWS.out k (by have :=HWL.out; omega)
   rw [← hq] at hFk hAS hwk
   rw [hFk]
   have hvr :=hX.owns HV.out HV0.out
   have HWT :=Hd (fun w' (hk:Z00 wr w') =>Za3 v W B q w' (hk.owns hvr fun _ _ h =>h))
   have hyr :=HWR.out q
   have hme :=hE.me (by decide)
   dsimp only at hme
   obtain ⟨X,hX'⟩:∃ x,x=C0 - sumT ws k :=⟨_,rfl⟩
   have HXX :=Hd hX'
   rw [← hX'] at hme
   obtain ⟨y,hy⟩:∃ x,x=wgt W q :=⟨_,rfl⟩
   rw [← hy] at hwk HWT hyr
   have HTK :=Hd (Zbp hme hyr.1 hyr.2)
   have HMG :=Hd (fun (w':World) (x:Int) (h4:Z3s w' p.me x) (hm:Mods (fun i =>i=p.me) wr w') =>Zbx hE h4 hm)
   have HPP :=Hd (Zop E.fo E.vo k)
   have HNE :=Hd (ne_k hlen)
   have HFK :=Hd hFk
   have HAS :=Hd hAS
   have HQQ :=Hd hq
   rcases HKK.out k hk with hkK | ⟨hkK,hk2,hle⟩
   ·have hnl : ¬ y≤X :=fun hle =>by
     have :=(HLT.out k hk).2 ⟨by have :=HWL.out; omega,by rw [hwk,← hX']; exact hle⟩
     omega
    have hd:decide (y≤X)=false :=decide_eq_false hnl
    rw [hd,if_neg hnl] at HTK
    have HKn :=Hd (show K≠(E.fo ++ E.vo).length from by omega)
    clear hFk hAS hq hwk hvr hyr hme hX' hy hnl hd hE hX ho hz hcl
    go_wp2_with fail
    refine (HWT.out _ (Mods.refl _ _)).mono ?_
    rintro r w3 ⟨rfl,rfl⟩
    go_wp2_with fail
    refine HTK.out.mono ?_
    rintro r w4 ⟨rfl,hm4,hM4⟩
    obtain ⟨own4,hE4,hX4⟩ :=HMG.out w4 X hm4 hM4
    have HE4 :=Hd hE4
    have HX4 :=Hd hX4
    clear hm4 hM4 hE4 hX4
    go_wp2
    go_ret
    subst hkK
    refine ⟨_,rfl,own4,k,HKQ.out, ?_,HX.out.trans HX4.out,HX4.out.owns HO.out HZ.out,fun j hj =>(HX4.out.old j (HO.out.lt j hj).2).trans (HZ.out j hj)⟩
    rw [if_neg HKn.out,← HXX.out]
    exact HE4.out
   ·rw [hwk,← hX'] at hle
    have hd:decide (y≤X)=true :=decide_eq_true hle
    rw [hd,if_pos hle] at HTK
    have HSS :=Hd (show C0 - sumT ws (k+1)=X - y from by rw [Zco ws k hk2,hwk,hX']; omega)
    clear hFk hAS hq hwk hvr hyr hme hX' hy hd hE hX ho hz hcl hle
    go_wp2_with fail
    refine (HWT.out _ (Mods.refl _ _)).mono ?_
    rintro r w3 ⟨rfl,rfl⟩
    go_wp2_with fail
    refine HTK.out.mono ?_
    rintro r w4 ⟨rfl,hm4,hM4⟩
    obtain ⟨own4,hE4,hX4⟩ :=HMG.out w4 (X - y) hm4 hM4
    have HPOP :=Hd (Zr7 hE4 HNE.out)
    dsimp only at HPOP
    rw [HPP.out] at HPOP
    have HX4 :=Hd hX4
    clear hm4 hM4 hE4 hX4
    go_wp2_with fail
    refine HPOP.out.mono ?_
    rintro r w5 ⟨⟨u5,rfl⟩,own5,hE5,hX5⟩
    have hX35 :=HX4.out.trans hX5
    have HX5 :=Hd (HX.out.trans hX35)
    have hO5 :=hX35.owns HO.out HZ.out
    have HO5 :=Hd hO5
    have HZ5 :=Hd (show ∀ j,(Value.slice oa k oc).ownBlock=some j→own5 j=0 from fun j hj =>(hX35.old j (HO.out.lt j hj).2).trans (HZ.out j hj))
    have HE5 :=Hd hE5
    have hs5 :=HX5.out.mods.size
    have hk8:k≤8192 :=by omega
    clear hX35 hO5 hE5 hX5
    go_wp2_with (at_builtin; refine Z0e.out ?_)
    refine Z0e.mk ?_
    refine wpList_append_lies _ rfl _ _ 43 rfl w.heap.size 51 i0 _ 3 24 Tryz.underlying43 hi0 hz0 hz1 hz2 rfl (by decide) _ _ _ rfl (HO5.out.alloc _) ⟨w5.heap.size,0,none⟩ 1 1 [.int .i64 q, .int .i64 cl, .int .i64 (ep+1)] rfl rfl (Z89 _ _ _) (fun u hu =>by simp at hu; rcases hu with rfl | rfl | rfl <;> rfl) (by decide) (by unfold maxLen; omega) (by omega) (by simp; omega) _ rfl ?_
    intro ng nc w6 hown6 hgrow hng _
    have hm6:Mods (fun i =>(Value.slice oa k oc).ownBlock=some i) w5 w6 :=((Mods.refl _ w5).alloc _).seq ((Mods.refl (fun i =>(Value.slice oa k oc).ownBlock=some i) _).grown hgrow fun k _ h =>h) fun i _ h =>h
    have hE6 :=HE5.out.loc hm6 fun i _ hi =>HZ5.out i hi
    have HX6 :=Hd (Z1l HX5.out hm6 fun i hi h =>by have :=(HO5.out.lt i h).1; omega)
    have HO6 :=Hd (show w6.ownsRow w.heap.size 51 3 (.slice (some ⟨ng,0,none⟩) (k+1) nc) (k+1) (Z4u (Z1p E.fo E.vo ep (k+1))) from by rw [HAS.out,Zg5]; exact hown6)
    have HZ6 :=Hd (show ∀ j,(Value.slice (some ⟨ng,0,none⟩) (k+1) nc).ownBlock=some j→own5 j=0 from fun j hj =>by
     injection hj with hj
     rcases hng with h | h
     ·exact HZ5.out j (hj ▸ h)
     ·exact HE5.out.new j (by rw [← hj,h]; simp))
    have HHEAD :=Hd (Z8r (hE6.la (by decide)))
    dsimp only at HHEAD
    rw [HHD.out (k+1)] at HHEAD
    have HE6 :=Hd hE6
    clear hgrow hown6 hm6 hE6 hng
    go_wp2_with fail
    refine HHEAD.out.mono ?_
    rintro r w7 ⟨rfl,hd7⟩
    have HE7 :=Hd (HE6.out.keeps hd7.mods)
    have HX7 :=Hd (HX6.out.trans (Ext.keeps (own :=own5) hd7.mods))
    have HO7 :=Hd ((hd7.mods (S :=fun _ =>False)).owns HO6.out fun _ _ h =>h)
    clear hd7
    go_wp2
    go_roundw
    case rel =>exact ⟨k+1,by omega,rfl,rfl,rfl,own5,by rw [HSS.out]; exact HE7.out,HX7.out,HO7.out,HZ6.out⟩
    case measure =>simp [lenOf]; omega
  ·have hFk :=HF2.out k (by omega)
   have hKk:k=K :=by have :=HKL.out; omega
   have HKn :=Hd (show K=(E.fo ++ E.vo).length from by have :=HKL.out; omega)
   rw [hFk]
   have hme :=hE.me (by decide)
   dsimp only at hme
   have HDR :=Hd (Zbe hme)
   have HMG :=Hd (fun (w':World) (x:Int) (h4:Z3s w' p.me x) (hm:Mods (fun i =>i=p.me) wr w') =>Zbx hE h4 hm)
   clear hFk hme hE hX ho hz
   go_wp2_with fail
   refine HDR.out.mono ?_
   rintro r w4 ⟨⟨u4,rfl⟩,hm4,hM4⟩
   obtain ⟨own4,hE4,hX4⟩ :=HMG.out w4 0 hm4 hM4
   have HE4 :=Hd hE4
   have HX4 :=Hd hX4
   clear hm4 hM4 hE4 hX4
   go_wp2
   go_ret
   subst hKk
   refine ⟨_,rfl,own4,k,HKQ.out, ?_,HX.out.trans HX4.out,HX4.out.owns HO.out HZ.out,fun j hj =>(HX4.out.old j (HO.out.lt j hj).2).trans (HZ.out j hj)⟩
   rw [if_pos HKn.out]
   exact HE4.out
theorem Z7j:∀ (l:List Int) (s x:Int),0≤s→s≤1099511627776→Z1z l s=some x→0≤x∧x≤1099511627776 :=by
 intro l
 induction l with
 | nil =>intro s x h0 h1 h; simp only [Z1z,Option.some.injEq] at h; omega
 | cons n r ih =>
  intro s x h0 h1 h
  unfold Z1z at h
  split at h
  ·cases h
  ·exact ih (s+n) x (by omega) (by omega) h
theorem Z7l {v:Vd} (hv:v.ok) (hw:v.wd≤1099511627776) (ex un:Int):(Z2m ex un v).2.ok∧(Z2m ex un v).2.bal≤v.bal∧0≤(Z2m ex un v).2.wd∧(Z2m ex un v).2.wd≤1099511627776 :=by
 have h0 :=hv.b0
 have hz:(⟨0,0,false,0,0,0,0⟩:Vd).ok :=⟨by simp,by simp [maxU],by decide⟩
 unfold Z2m seq2 Z4d
 by_cases hc:v.st=3∧v.ex = -1
 ·rw [if_pos hc]
  simp only [ne_eq,not_true_eq_false,if_false]
  unfold Z1b
  cases hl:Z1z [ex,un] 0 with
  | none =>
   simp only [Int.reduceEq,not_false_eq_true,if_true]
   exact ⟨hz,h0,by omega,by omega⟩
  | some x =>
   have :=Z7j _ _ _ (by omega) (by omega) hl
   simp only [not_true_eq_false,if_false]
   exact ⟨⟨hv.b0,hv.b1,hv.st⟩,Int.le_refl _,by omega,by omega⟩
 ·rw [if_neg hc]
  simp only [ne_eq,Int.reduceEq,not_false_eq_true,if_true]
  exact ⟨hz,h0,by omega,by omega⟩
def asg1 (L:Nat) (un:Int) (s:List Vd × (Nat→List (Int × Int)) × List Int) (a:As):List Vd × (Nat→List (Int × Int)) × List Int :=
 (s.1.set a.1.toNat (Z2m a.2.2 un (vAt s.1 a.1)).2,putB L s.2.1 (Z2m a.2.2 un (vAt s.1 a.1)).2.wd a.1,s.2.2 ++ [a.1])
structure AsgI (vs:List Vd) (T:Int) (M M2:Nat) (s:List Vd × (Nat→List (Int × Int)) × List Int):Prop where
 len:s.1.length=vs.length
 ok:∀ x∈s.1,x.ok
 tot:totS s.1≤T
 wd:∀ x∈s.1,x.wd≤1099511627776
 bkl:∀ j,(s.2.1 j).length≤M
 lvl:s.2.2.length≤M2
theorem Zo7 (L:Nat) (bk:Nat→List (Int × Int)) (ep it:Int) (j:Nat):(putB L bk ep it j).length≤(bk j).length+1 :=by
 unfold putB
 split <;> simp
theorem AsgI.step {L:Nat} {un:Int} {vs:List Vd} {T:Int} {M M2:Nat} {s:List Vd × (Nat→List (Int × Int)) × List Int} (h:AsgI vs T M M2 s) {a:As} (ha:inR vs a.1):AsgI vs T (M+1) (M2+1) (asg1 L un s a) :=by
 have hin:inR s.1 a.1 :=⟨ha.1,by rw [h.len]; exact ha.2⟩
 have hi:a.1.toNat<s.1.length :=by have :=hin.1; have :=hin.2; omega
 have hmem:vAt s.1 a.1∈s.1 :=List.mem_of_getElem? (Z44 hin)
 obtain ⟨q1,q2,q3,q4⟩ :=Z7l (h.ok _ hmem) (h.wd _ hmem) a.2.2 un
 have e:s.1[a.1.toNat]=vAt s.1 a.1 :=by
  have :=Z44 hin
  rw [List.getElem?_eq_getElem hi] at this
  exact Option.some.inj this
 refine ⟨by simp only [asg1,List.length_set]; exact h.len,fun x hx =>?_, ?_,fun x hx =>?_,fun j =>?_,by simp only [asg1,List.length_append,List.length_cons,List.length_nil]; have :=h.lvl; omega⟩
 ·rcases List.mem_or_eq_of_mem_set hx with hx | rfl
  ·exact h.ok x hx
  ·exact q1
 ·show totS (s.1.set _ _)≤T
  rw [Z2z hi,e]
  have :=h.tot
  omega
 ·rcases List.mem_or_eq_of_mem_set hx with hx | rfl
  ·exact h.wd x hx
  ·exact q4
 ·have :=h.bkl j
  have :=Zo7 L s.2.1 (Z2m a.2.2 un (vAt s.1 a.1)).2.wd a.1 j
  simp only [asg1]
  omega
theorem AsgI.fold {L:Nat} {un:Int} {vs:List Vd} {T:Int}:∀ (q:List As) {M M2:Nat} {s:List Vd × (Nat→List (Int × Int)) × List Int},AsgI vs T M M2 s→(∀ a∈q,inR vs a.1)→AsgI vs T (M+q.length) (M2+q.length) (q.foldl (asg1 L un) s) :=by
 intro q
 induction q with
 | nil =>intro M M2 s h _; exact h
 | cons a q ih =>
  intro M M2 s h hq
  have :=ih (h.step (L :=L) (un :=un) (hq a List.mem_cons_self)) fun x hx =>hq x (List.mem_cons_of_mem _ hx)
  rw [List.length_cons]
  rwa [show M+1+q.length=M+(q.length+1) from by omega,show M2+1+q.length=M2+(q.length+1) from by omega] at this
def Z29 (E:En) (lim:Int):Nat :=asgN (asgW (E.vs.map (·.bal)) E.fo E.vo) (min (E.car+lim) maxU)
def Z42 (E:En) (ep lim:Int):List As :=Z1p E.fo E.vo ep (Z29 E lim)
def Z23 (c:Nat→Int) (E:En) (ep lim:Int):En :=
 let s :=(Z42 E ep lim).foldl (asg1 (c 12).toNat (c 10)) (E.vs,E.bk,E.lv)
 { E with fo :=E.fo.drop (Z29 E lim),vo :=E.vo.drop (Z29 E lim - E.fo.length),car :=if Z29 E lim=(E.fo ++ E.vo).length then 0 else min (E.car+lim) maxU - sumT (asgW (E.vs.map (·.bal)) E.fo E.vo) (Z29 E lim),vs :=s.1,bk :=s.2.1,lv :=s.2.2 }
section
variable {own:Nat→Nat} {w w':World} {e:Nat} {c:Nat→Int} {E:En} {p:Ep} {N:Nat}
theorem Z98 (h:Z0i own w e c E p N) {lv lv':Value} (ho:∀ k,lv.ownBlock=some k→own k=12∧k≠e) {l:List Int} (hb:w'.heap[e]? = some (engB c p lv')) (hr:w'.ownsRow 0 3 1 lv' l.length (l.map fun x =>.int .i64 x)) (hk:∀ k,lv'.ownBlock=some k→lv.ownBlock=some k∨w.heap.size≤k) (hm:Mods (fun i =>i=e∨lv.ownBlock=some i) w w'):Goes own w e c p { E with lv :=l } N w' :=by
 have hS:∀ i,i<w.heap.size→(i=e∨lv.ownBlock=some i)→own i=12 :=fun i _ hi =>by
  rcases hi with hi | hi
  ·rw [hi]; exact h.oe
  ·exact (ho i hi).1
 have he:e<w.heap.size :=h.lt (by rw [h.oe]; decide)
 refine ⟨upd own w w' 12,(h.frame hm (k :=12) hS).blk' ⟨lv',hb,hr,fun k hk' =>?_⟩,Ext.upd hm (by decide) hS⟩
 rcases hk k hk' with h1 | h1
 ·exact ⟨by rw [Z5q (h.lt (by rw [(ho k h1).1]; decide))]; exact (ho k h1).1,(ho k h1).2⟩
 ·exact ⟨Zaw h1 (hr.lt k hk').2,by omega⟩
end
end Go.Proofs.YtecapfmmoejikaaGreat
