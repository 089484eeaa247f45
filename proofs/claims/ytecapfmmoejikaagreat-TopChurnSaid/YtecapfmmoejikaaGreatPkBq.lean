/- A part of the proofs of the top laws: RplC Runs Fits Tmc. -/
import Derived.Test.YtecapfmmoejikaaGreatPkBo
set_option maxRecDepth 4000
set_option maxHeartbeats 8000000
namespace Go.Proofs.YtecapfmmoejikaaGreat
open Go.RowKit Go.Eg
abbrev rsZ:Array Value := #[.slice none 0 0, .int .i64 0, .int .i64 0, .slice none 0 0, .int .u64 0, .int .u64 0, .int .u64 0, .int .u64 0, .slice none 0 0, .slice none 0 0, .slice none 0 0, .slice none 0 0, .slice none 0 0, .int .i64 0, .int .u64 0, .int .i64 0]
theorem Z8s:(Tryz.prog.info? 68).map (·.size)=some 16 :=by kernel_rfl
theorem Z39 {P:Program} {fn:Func} {p u:Tmp} {ty:TypeId} (h:fn.results=#[.cell p ty, .tmp u]) (tmps:Array Value) (w:World) (g:Nat) (t:TypeId) (cs:Array Value) (fr:Nat × Nat) (d:TypeDesc) (z:Value)
 (hp:tmps.getD p undef = .pointer (some ⟨g,0,none⟩)) (hz:tmps.getD u undef=z) (hg:w.heap[g]? = some (.cells cs t fr))
 (hu:P.underlying ty=some d) (hd:(match d with | .struct _ | .array _ _ =>true | _ =>false)=true) (hi:(P.info? ty).map (·.size)=some cs.size) :
 (results fn tmps).run P w = .ok (.tuple #[.agg cs,z]) w :=by
 have hp':tmps[p]?.getD undef = .pointer (some ⟨g,0,none⟩) :=by simpa using hp
 have hz':tmps[u]?.getD undef=z :=by simpa using hz
 simp [results,h,hp',hz',asAddr,run_loadVar_row w g t ty cs fr d hg hu hd hi]
theorem Zp2 {b:List Int}:(decF b b.length 0).length≤b.length :=by
 have key:∀ (f:Nat) (i:Int),(decF b f i).length≤f :=by
  intro f
  induction f with
  | zero =>intro i; exact Nat.le_refl _
  | succ f ih =>
   intro i
   rw [decF]
   split
   ·have :=ih (decR b i).2.1; rw [List.length_cons]; omega
   ·exact Nat.zero_le _
 exact key _ _
theorem run_any (c:Nat→Int) (v:Value) (b:List Int) (w:World) (hV:Vld c) (hk:chk c=0) (h9:0≤c 9) (h18:0≤c 18) (hv:BL w v b) (hb:Bytes b) (hlen:b.length≤400) (hpos:0<b.length) (hok:∀ o∈decF b b.length 0,o.ok) :
 Calls Tryz.prog 23 #[cfgV c,v] w fun r w' =>(∃ oa oc vv ac vp vf vo vm vq un,r = .returned (.tuple #[.agg (#[.slice oa (decF b b.length 0).length oc] ++ snC (Z05 c (decF b b.length 0)).b ((Z05 c (decF b b.length 0)).b / c 13) vv (Z05 c (decF b b.length 0)).led.d (Z05 c (decF b b.length 0)).led.p (Z05 c (decF b b.length 0)).led.b ac vp vf vo vm vq (Z05 c (decF b b.length 0)).cur (Z05 c (decF b b.length 0)).car un), .int .i64 0])∧(#[Value.slice oa (decF b b.length 0).length oc] ++ snC (Z05 c (decF b b.length 0)).b ((Z05 c (decF b b.length 0)).b / c 13) vv (Z05 c (decF b b.length 0)).led.d (Z05 c (decF b b.length 0)).led.p (Z05 c (decF b b.length 0)).led.b ac vp vf vo vm vq (Z05 c (decF b b.length 0)).cur (Z05 c (decF b b.length 0)).car un).toList.all (·.oneCell')=true)∧Z00 w w' :=by
 have hmf:∀ (fn:Fn) (first cap:Array Value) (w:World),(Instr.makeFunc fn first cap).run Tryz.prog w = .ok (.func fn first cap) w :=fun _ _ _ _ =>rfl
 obtain ⟨l,hl⟩:∃ l,l=decF b b.length 0 :=⟨_,rfl⟩
 have hll:l.length≤b.length :=by rw [hl]; exact Zp2
 rw [← hl] at hok ⊢
 have HDEC :=Hd (fun (w':World) (hk':Z00 w w') =>Zg7 v b w' (hv.keeps hk') hb (by omega) hpos)
 rw [← hl] at HDEC
 have HPER :=Hd (fun v w hv ob hvo hb =>Ze7 c v l w hV hk h9 h18 hv hok (by omega) ob hvo hb)
 obtain ⟨va,vc,rfl⟩:∃ va vc,v = .slice va b.length vc :=by obtain ⟨a,c,h,_⟩ :=hv; exact ⟨a,c,h⟩
 have hB3 :=Hd (Z48 w (.cells (cfgC c) 24) (.cells rsZ 68) (siBx (.slice none 0 0) 66))
 obtain ⟨w3,hw3⟩:∃ x,x=(((w.alloc (.cells (cfgC c) 24)).alloc (.cells rsZ 68)).alloc (siBx (.slice none 0 0) 66)) :=⟨_,rfl⟩
 rw [← hw3] at hB3
 have HW3 :=Hd hw3
 obtain ⟨z,hz⟩:∃ z,z=w.heap.size :=⟨_,rfl⟩
 rw [← hz] at hB3
 have HZ :=Hd hz
 clear hv hb hV hk hok hl h9 h18 hw3 hz
 go_enter Tryz.func23,Tryz.ntmps23
 go_upto_region 2 with (fail)
 refine Z0l ?_
 intro wx hwx
 obtain rfl:w3=wx :=HW3.out.trans hwx.symm
 clear hwx
 rw [← HZ.out]
 have HS :=Hd (fun (w':World) (hk:Mods (fun i =>i=z+1+1) w3 w') =>(Z2l (hk.at hB3.out.1 (show ¬ z=z+1+1 by omega)):w'.rangeAt z 0 (cfgC c).toList))
 refine Z07 (S :=(fun w' =>w'.rangeAt z 0 (cfgC c).toList)) (by kernel_rfl) (by exact HS.out _ (Mods.refl _ w3).drew) (fun wc hD hH0 =>?_)
 have HK :=Hd (show Z00 w3 wc from hD.mods)
 have HSZ :=Hd (show ∀ (T:Nat→Prop) (w':World),Mods T w3 w'→z+3≤w'.heap.size from fun T w' h =>by have :=h.size; have :=hB3.out.2.2.2.1; omega)
 clear hD
 refine tkb 0 rfl hH0 (yieldsIf_load_mid (by rfl) 24 (.tmp 2) rfl z 0 rfl (cfgC c).toList _ (fun _ h =>h) Tryz.underlying24 rfl Z0m) ?_
 try go_frame
 refine tk 1 rfl hH0 ?_
 try go_frame
 refine tk 3 rfl hH0 ?_
 try go_frame
 refine rdy [2,8] (Z04 rfl (fun K hK =>?_) (Z04 rfl (fun K hK =>?_) AllReadyH.nil))
 ·go_simp
  refine (HDEC.out _ (hB3.out.2.2.2.2.keep HK.out)).mono ?_
  have hszo :=HSZ.out _ _ HK.out
  rintro r wc ⟨v',rfl,ho,hk⟩
  obtain ⟨da,dc,rfl⟩ :=Z0c ho
  have HD :=Hd (show OdL wc (.slice da l.length dc) l∧∀ k,(Value.slice da l.length dc).ownBlock=some k→z+3≤k from ⟨OdL.of_owns ho,fun k hk =>Nat.le_trans hszo (ho.lt k hk).1⟩)
  replace HK :=Hd (HK.out.keep hk)
  (try replace HB :=Hd (And.intro (hk.at HB.out.1 fun h =>h) HB.out.2))
  clear ho hk hszo
  go_wp2_with fail
  refine hK.out _ _ ((by first | exact HS.out _ (HK.out.weaken fun _ _ h =>h.elim) | exact HS.out _ HK.out)) (fun hH1 =>?_)
  clear hK K hH0
  try go_frame
  refine rdy [4,8] (Z04 rfl (fun K hK =>?_) (Z04 rfl (fun K hK =>?_) AllReadyH.nil))
  ·go_simp
   refine (HPER.out _ _ HD.out.1 (z+1+1) (fun h =>by have :=HD.out.2 _ h; omega) (HK.out.at hB3.out.2.2.1 (fun h =>h))).mono ?_
   rintro r wc ⟨⟨vv,ac,vp,vf,vo,vm,vq,un,rfl,hone⟩,⟨ov,xs,ho,hw⟩,hm⟩
   obtain ⟨oa,oc,rfl⟩ :=Z0c hw
   replace HK :=Hd ((HK.out.weaken fun _ _ h =>h.elim).trans hm)
   have HR :=Hd ho
   (try replace HB :=Hd (And.intro (hm.at HB.out.1 (by have :=HB.out.2; omega)) HB.out.2))
   clear ho hw hm
   go_wp2_with fail
   refine hK.out _ _ ((by first | exact HS.out _ (HK.out.weaken fun _ _ h =>h.elim) | exact HS.out _ HK.out)) (fun hH2 =>?_)
   clear hK K hH1
   try go_frame
   refine tk 5 rfl hH2 ?_
   try go_frame
   refine tk 6 rfl hH2 ?_
   try go_frame
   refine tk 7 rfl hH2 ?_
   try go_frame
   refine rdy [8] (Z04 rfl (fun K hK =>?_) AllReadyH.nil)
   go_simp
   have hszo :=HSZ.out _ _ HK.out
   generalize hsb:wc.heap.size=sb at *
   refine Z14 ?_
   intro wc hwd
   have hk :=Z0f hwd
   have hn :=Z0g hwd
   rw [hsb] at hn
   replace HK :=Hd (HK.out.seq hk fun _ _ h =>h.elim)
   have HB :=Hd (show wc.heap[sb]? = some (.cells snZ 41 (0,0))∧z+3≤sb from ⟨hn,hszo⟩)
   (try replace HD :=Hd (And.intro (HD.out.1.keeps hk) HD.out.2))
   (try replace HR :=Hd (hk.at HR.out fun h =>h))
   clear hwd hk hn hsb hszo
   refine hK.out _ _ ((by first | exact HS.out _ (HK.out.weaken fun _ _ h =>h.elim) | exact HS.out _ HK.out)) (fun hH3 =>?_)
   clear hK K hH2
   try go_frame
   refine rdy [9] (Z04 rfl (fun K hK =>?_) AllReadyH.nil)
   refine Z3g (by rfl) (.tmp 7) (.tmp 15) rfl sb (snC (Z05 c l).b ((Z05 c l).b / c 13) vv (Z05 c l).led.d (Z05 c l).led.p (Z05 c l).led.b ac vp vf vo vm vq (Z05 c l).cur (Z05 c l).car un) snZ (by rfl) (by rfl) HB.out.1 rfl rfl hone ?_
   intro wc hz hm
   replace HR :=Hd (hm.at HR.out (by have :=HB.out.2; omega))
   replace HK :=Hd (show Mods (fun i =>i=z+1+1) w3 wc from HK.out.seq hm fun i hi h =>by have :=HB.out.2; have :=hB3.out.2.2.2.1; omega)
   replace HB :=Hd (And.intro hz HB.out.2)
   clear hz hm
   refine hK.out _ _ (HS.out _ HK.out) (fun hH4 =>?_)
   clear hK K hH3
   try go_frame
   refine tk 10 rfl hH4 ?_
   try go_frame
   refine wpAnyH_done (by kernel_rfl) ?_ _
   have hS :=Hd hH4
   clear hH4
   clear hS
   have c6:wc.cell? ⟨z+1+1,0,none⟩=some (.slice oa l.length oc) :=by simp [World.cell?,HR.out]
   have bz :=HK.out.at hB3.out.2.1 (show ¬ z+1=z+1+1 by omega)
   have BZ :=Hd bz
   have h16:((#[.slice oa l.length oc, .int .i64 (Z05 c l).b, .int .i64 ((Z05 c l).b / c 13),vv, .int .u64 (Z05 c l).led.d, .int .u64 (Z05 c l).led.p, .int .u64 (Z05 c l).led.b, .int .u64 ac,vp,vf,vo,vm,vq, .int .i64 (Z05 c l).cur, .int .u64 (Z05 c l).car, .int .i64 un]:Array Value).toList.all (·.oneCell'))=true :=by
    have h :=hone
    rw [← Array.all_toList] at h
    simpa [Value.oneCell'] using h
   have H16 :=Hd h16
   clear bz hone h16
   go_wp2_with ((with_reducible refine Z1a ?_); (first | (refine Z03 rfl 41 _ rfl sb rfl 41 (snC (Z05 c l).b ((Z05 c l).b / c 13) vv (Z05 c l).led.d (Z05 c l).led.p (Z05 c l).led.b ac vp vf vo vm vq (Z05 c l).cur (Z05 c l).car un) (0,0) _ Tryz.underlying41 rfl Z96 HB.out.1 ?_) | (refine Z2d rfl 68 _ #[.slice oa l.length oc, .int .i64 (Z05 c l).b, .int .i64 ((Z05 c l).b / c 13),vv, .int .u64 (Z05 c l).led.d, .int .u64 (Z05 c l).led.p, .int .u64 (Z05 c l).led.b, .int .u64 ac,vp,vf,vo,vm,vq, .int .i64 (Z05 c l).cur, .int .u64 (Z05 c l).car, .int .i64 un] rfl (by kernel_rfl) ?_) | (refine Z11 rfl 68 _ _ rfl (z+1) #[.slice oa l.length oc, .int .i64 (Z05 c l).b, .int .i64 ((Z05 c l).b / c 13),vv, .int .u64 (Z05 c l).led.d, .int .u64 (Z05 c l).led.p, .int .u64 (Z05 c l).led.b, .int .u64 ac,vp,vf,vo,vm,vq, .int .i64 (Z05 c l).cur, .int .u64 (Z05 c l).car, .int .i64 un] rfl rfl 68 rsZ Z8s rfl H16.out BZ.out ?_)))
   refine bodyPost_ret (v := .tuple #[.agg #[.slice oa l.length oc, .int .i64 (Z05 c l).b, .int .i64 ((Z05 c l).b / c 13),vv, .int .u64 (Z05 c l).led.d, .int .u64 (Z05 c l).led.p, .int .u64 (Z05 c l).led.b, .int .u64 ac,vp,vf,vo,vm,vq, .int .i64 (Z05 c l).cur, .int .u64 (Z05 c l).car, .int .i64 un], .int .i64 0]) (Z39 Tryz.results23 _ _ (z+1) 68 #[.slice oa l.length oc, .int .i64 (Z05 c l).b, .int .i64 ((Z05 c l).b / c 13),vv, .int .u64 (Z05 c l).led.d, .int .u64 (Z05 c l).led.p, .int .u64 (Z05 c l).led.b, .int .u64 ac,vp,vf,vo,vm,vq, .int .i64 (Z05 c l).cur, .int .u64 (Z05 c l).car, .int .i64 un] (0,0) _ (.int .i64 0) rfl rfl (setRow_heap wc (z+1) _ #[.slice oa l.length oc, .int .i64 (Z05 c l).b, .int .i64 ((Z05 c l).b / c 13),vv, .int .u64 (Z05 c l).led.d, .int .u64 (Z05 c l).led.p, .int .u64 (Z05 c l).led.b, .int .u64 ac,vp,vf,vo,vm,vq, .int .i64 (Z05 c l).cur, .int .u64 (Z05 c l).car, .int .i64 un] _ _ BZ.out) Tryz.underlying68 rfl Z8s) rfl ?_
   refine ⟨⟨oa,oc,vv,ac,vp,vf,vo,vm,vq,un,rfl,by simpa using H16.out⟩, ?_⟩
   exact (hB3.out.2.2.2.2.seq HK.out fun i hi h =>by have :=HZ.out; omega).seq ((Mods.refl (fun i =>i=z+1) wc).setRow (z+1) #[.slice oa l.length oc, .int .i64 (Z05 c l).b, .int .i64 ((Z05 c l).b / c 13),vv, .int .u64 (Z05 c l).led.d, .int .u64 (Z05 c l).led.p, .int .u64 (Z05 c l).led.b, .int .u64 ac,vp,vf,vo,vm,vq, .int .i64 (Z05 c l).cur, .int .u64 (Z05 c l).car, .int .i64 un] fun _ =>rfl) fun i hi h =>by have :=HZ.out; omega
  ·go_simp
   have hszo :=HSZ.out _ _ HK.out
   generalize hsb:wc.heap.size=sb at *
   refine Z14 ?_
   intro wc hwd
   have hk :=Z0f hwd
   have hn :=Z0g hwd
   rw [hsb] at hn
   replace HK :=Hd (HK.out.seq hk fun _ _ h =>h.elim)
   have HB :=Hd (show wc.heap[sb]? = some (.cells snZ 41 (0,0))∧z+3≤sb from ⟨hn,hszo⟩)
   (try replace HD :=Hd (And.intro (HD.out.1.keeps hk) HD.out.2))
   (try replace HR :=Hd (hk.at HR.out fun h =>h))
   clear hwd hk hn hsb hszo
   refine hK.out _ _ ((by first | exact HS.out _ (HK.out.weaken fun _ _ h =>h.elim) | exact HS.out _ HK.out)) (fun hH2 =>?_)
   clear hK K hH1
   try go_frame
   refine rdy [4] (Z04 rfl (fun K hK =>?_) AllReadyH.nil)
   go_simp
   refine (HPER.out _ _ HD.out.1 (z+1+1) (fun h =>by have :=HD.out.2 _ h; omega) (HK.out.at hB3.out.2.2.1 (fun h =>h))).mono ?_
   rintro r wc ⟨⟨vv,ac,vp,vf,vo,vm,vq,un,rfl,hone⟩,⟨ov,xs,ho,hw⟩,hm⟩
   obtain ⟨oa,oc,rfl⟩ :=Z0c hw
   replace HK :=Hd ((HK.out.weaken fun _ _ h =>h.elim).trans hm)
   have HR :=Hd ho
   (try replace HB :=Hd (And.intro (hm.at HB.out.1 (by have :=HB.out.2; omega)) HB.out.2))
   clear ho hw hm
   go_wp2_with fail
   refine hK.out _ _ ((by first | exact HS.out _ (HK.out.weaken fun _ _ h =>h.elim) | exact HS.out _ HK.out)) (fun hH3 =>?_)
   clear hK K hH2
   try go_frame
   refine tk 5 rfl hH3 ?_
   try go_frame
   refine tk 6 rfl hH3 ?_
   try go_frame
   refine tk 7 rfl hH3 ?_
   try go_frame
   refine rdy [9] (Z04 rfl (fun K hK =>?_) AllReadyH.nil)
   refine Z3g (by rfl) (.tmp 7) (.tmp 15) rfl sb (snC (Z05 c l).b ((Z05 c l).b / c 13) vv (Z05 c l).led.d (Z05 c l).led.p (Z05 c l).led.b ac vp vf vo vm vq (Z05 c l).cur (Z05 c l).car un) snZ (by rfl) (by rfl) HB.out.1 rfl rfl hone ?_
   intro wc hz hm
   replace HR :=Hd (hm.at HR.out (by have :=HB.out.2; omega))
   replace HK :=Hd (show Mods (fun i =>i=z+1+1) w3 wc from HK.out.seq hm fun i hi h =>by have :=HB.out.2; have :=hB3.out.2.2.2.1; omega)
   replace HB :=Hd (And.intro hz HB.out.2)
   clear hz hm
   refine hK.out _ _ (HS.out _ HK.out) (fun hH4 =>?_)
   clear hK K hH3
   try go_frame
   refine tk 10 rfl hH4 ?_
   try go_frame
   refine wpAnyH_done (by kernel_rfl) ?_ _
   have hS :=Hd hH4
   clear hH4
   clear hS
   have c6:wc.cell? ⟨z+1+1,0,none⟩=some (.slice oa l.length oc) :=by simp [World.cell?,HR.out]
   have bz :=HK.out.at hB3.out.2.1 (show ¬ z+1=z+1+1 by omega)
   have BZ :=Hd bz
   have h16:((#[.slice oa l.length oc, .int .i64 (Z05 c l).b, .int .i64 ((Z05 c l).b / c 13),vv, .int .u64 (Z05 c l).led.d, .int .u64 (Z05 c l).led.p, .int .u64 (Z05 c l).led.b, .int .u64 ac,vp,vf,vo,vm,vq, .int .i64 (Z05 c l).cur, .int .u64 (Z05 c l).car, .int .i64 un]:Array Value).toList.all (·.oneCell'))=true :=by
    have h :=hone
    rw [← Array.all_toList] at h
    simpa [Value.oneCell'] using h
   have H16 :=Hd h16
   clear bz hone h16
   go_wp2_with ((with_reducible refine Z1a ?_); (first | (refine Z03 rfl 41 _ rfl sb rfl 41 (snC (Z05 c l).b ((Z05 c l).b / c 13) vv (Z05 c l).led.d (Z05 c l).led.p (Z05 c l).led.b ac vp vf vo vm vq (Z05 c l).cur (Z05 c l).car un) (0,0) _ Tryz.underlying41 rfl Z96 HB.out.1 ?_) | (refine Z2d rfl 68 _ #[.slice oa l.length oc, .int .i64 (Z05 c l).b, .int .i64 ((Z05 c l).b / c 13),vv, .int .u64 (Z05 c l).led.d, .int .u64 (Z05 c l).led.p, .int .u64 (Z05 c l).led.b, .int .u64 ac,vp,vf,vo,vm,vq, .int .i64 (Z05 c l).cur, .int .u64 (Z05 c l).car, .int .i64 un] rfl (by kernel_rfl) ?_) | (refine Z11 rfl 68 _ _ rfl (z+1) #[.slice oa l.length oc, .int .i64 (Z05 c l).b, .int .i64 ((Z05 c l).b / c 13),vv, .int .u64 (Z05 c l).led.d, .int .u64 (Z05 c l).led.p, .int .u64 (Z05 c l).led.b, .int .u64 ac,vp,vf,vo,vm,vq, .int .i64 (Z05 c l).cur, .int .u64 (Z05 c l).car, .int .i64 un] rfl rfl 68 rsZ Z8s rfl H16.out BZ.out ?_)))
   refine bodyPost_ret (v := .tuple #[.agg #[.slice oa l.length oc, .int .i64 (Z05 c l).b, .int .i64 ((Z05 c l).b / c 13),vv, .int .u64 (Z05 c l).led.d, .int .u64 (Z05 c l).led.p, .int .u64 (Z05 c l).led.b, .int .u64 ac,vp,vf,vo,vm,vq, .int .i64 (Z05 c l).cur, .int .u64 (Z05 c l).car, .int .i64 un], .int .i64 0]) (Z39 Tryz.results23 _ _ (z+1) 68 #[.slice oa l.length oc, .int .i64 (Z05 c l).b, .int .i64 ((Z05 c l).b / c 13),vv, .int .u64 (Z05 c l).led.d, .int .u64 (Z05 c l).led.p, .int .u64 (Z05 c l).led.b, .int .u64 ac,vp,vf,vo,vm,vq, .int .i64 (Z05 c l).cur, .int .u64 (Z05 c l).car, .int .i64 un] (0,0) _ (.int .i64 0) rfl rfl (setRow_heap wc (z+1) _ #[.slice oa l.length oc, .int .i64 (Z05 c l).b, .int .i64 ((Z05 c l).b / c 13),vv, .int .u64 (Z05 c l).led.d, .int .u64 (Z05 c l).led.p, .int .u64 (Z05 c l).led.b, .int .u64 ac,vp,vf,vo,vm,vq, .int .i64 (Z05 c l).cur, .int .u64 (Z05 c l).car, .int .i64 un] _ _ BZ.out) Tryz.underlying68 rfl Z8s) rfl ?_
   refine ⟨⟨oa,oc,vv,ac,vp,vf,vo,vm,vq,un,rfl,by simpa using H16.out⟩, ?_⟩
   exact (hB3.out.2.2.2.2.seq HK.out fun i hi h =>by have :=HZ.out; omega).seq ((Mods.refl (fun i =>i=z+1) wc).setRow (z+1) #[.slice oa l.length oc, .int .i64 (Z05 c l).b, .int .i64 ((Z05 c l).b / c 13),vv, .int .u64 (Z05 c l).led.d, .int .u64 (Z05 c l).led.p, .int .u64 (Z05 c l).led.b, .int .u64 ac,vp,vf,vo,vm,vq, .int .i64 (Z05 c l).cur, .int .u64 (Z05 c l).car, .int .i64 un] fun _ =>rfl) fun i hi h =>by have :=HZ.out; omega
 ·go_simp
  have hszo :=HSZ.out _ _ HK.out
  generalize hsb:wc.heap.size=sb at *
  refine Z14 ?_
  intro wc hwd
  have hk :=Z0f hwd
  have hn :=Z0g hwd
  rw [hsb] at hn
  replace HK :=Hd (HK.out.seq hk fun _ _ h =>h.elim)
  have HB :=Hd (show wc.heap[sb]? = some (.cells snZ 41 (0,0))∧z+3≤sb from ⟨hn,hszo⟩)
  (try replace HD :=Hd (And.intro (HD.out.1.keeps hk) HD.out.2))
  (try replace HR :=Hd (hk.at HR.out fun h =>h))
  clear hwd hk hn hsb hszo
  refine hK.out _ _ ((by first | exact HS.out _ (HK.out.weaken fun _ _ h =>h.elim) | exact HS.out _ HK.out)) (fun hH1 =>?_)
  clear hK K hH0
  try go_frame
  refine rdy [2] (Z04 rfl (fun K hK =>?_) AllReadyH.nil)
  go_simp
  refine (HDEC.out _ (hB3.out.2.2.2.2.keep HK.out)).mono ?_
  have hszo :=HSZ.out _ _ HK.out
  rintro r wc ⟨v',rfl,ho,hk⟩
  obtain ⟨da,dc,rfl⟩ :=Z0c ho
  have HD :=Hd (show OdL wc (.slice da l.length dc) l∧∀ k,(Value.slice da l.length dc).ownBlock=some k→z+3≤k from ⟨OdL.of_owns ho,fun k hk =>Nat.le_trans hszo (ho.lt k hk).1⟩)
  replace HK :=Hd (HK.out.keep hk)
  (try replace HB :=Hd (And.intro (hk.at HB.out.1 fun h =>h) HB.out.2))
  clear ho hk hszo
  go_wp2_with fail
  refine hK.out _ _ ((by first | exact HS.out _ (HK.out.weaken fun _ _ h =>h.elim) | exact HS.out _ HK.out)) (fun hH2 =>?_)
  clear hK K hH1
  try go_frame
  refine rdy [4] (Z04 rfl (fun K hK =>?_) AllReadyH.nil)
  go_simp
  refine (HPER.out _ _ HD.out.1 (z+1+1) (fun h =>by have :=HD.out.2 _ h; omega) (HK.out.at hB3.out.2.2.1 (fun h =>h))).mono ?_
  rintro r wc ⟨⟨vv,ac,vp,vf,vo,vm,vq,un,rfl,hone⟩,⟨ov,xs,ho,hw⟩,hm⟩
  obtain ⟨oa,oc,rfl⟩ :=Z0c hw
  replace HK :=Hd ((HK.out.weaken fun _ _ h =>h.elim).trans hm)
  have HR :=Hd ho
  (try replace HB :=Hd (And.intro (hm.at HB.out.1 (by have :=HB.out.2; omega)) HB.out.2))
  clear ho hw hm
  go_wp2_with fail
  refine hK.out _ _ ((by first | exact HS.out _ (HK.out.weaken fun _ _ h =>h.elim) | exact HS.out _ HK.out)) (fun hH3 =>?_)
  clear hK K hH2
  try go_frame
  refine tk 5 rfl hH3 ?_
  try go_frame
  refine tk 6 rfl hH3 ?_
  try go_frame
  refine tk 7 rfl hH3 ?_
  try go_frame
  refine rdy [9] (Z04 rfl (fun K hK =>?_) AllReadyH.nil)
  refine Z3g (by rfl) (.tmp 7) (.tmp 15) rfl sb (snC (Z05 c l).b ((Z05 c l).b / c 13) vv (Z05 c l).led.d (Z05 c l).led.p (Z05 c l).led.b ac vp vf vo vm vq (Z05 c l).cur (Z05 c l).car un) snZ (by rfl) (by rfl) HB.out.1 rfl rfl hone ?_
  intro wc hz hm
  replace HR :=Hd (hm.at HR.out (by have :=HB.out.2; omega))
  replace HK :=Hd (show Mods (fun i =>i=z+1+1) w3 wc from HK.out.seq hm fun i hi h =>by have :=HB.out.2; have :=hB3.out.2.2.2.1; omega)
  replace HB :=Hd (And.intro hz HB.out.2)
  clear hz hm
  refine hK.out _ _ (HS.out _ HK.out) (fun hH4 =>?_)
  clear hK K hH3
  try go_frame
  refine tk 10 rfl hH4 ?_
  try go_frame
  refine wpAnyH_done (by kernel_rfl) ?_ _
  have hS :=Hd hH4
  clear hH4
  clear hS
  have c6:wc.cell? ⟨z+1+1,0,none⟩=some (.slice oa l.length oc) :=by simp [World.cell?,HR.out]
  have bz :=HK.out.at hB3.out.2.1 (show ¬ z+1=z+1+1 by omega)
  have BZ :=Hd bz
  have h16:((#[.slice oa l.length oc, .int .i64 (Z05 c l).b, .int .i64 ((Z05 c l).b / c 13),vv, .int .u64 (Z05 c l).led.d, .int .u64 (Z05 c l).led.p, .int .u64 (Z05 c l).led.b, .int .u64 ac,vp,vf,vo,vm,vq, .int .i64 (Z05 c l).cur, .int .u64 (Z05 c l).car, .int .i64 un]:Array Value).toList.all (·.oneCell'))=true :=by
   have h :=hone
   rw [← Array.all_toList] at h
   simpa [Value.oneCell'] using h
  have H16 :=Hd h16
  clear bz hone h16
  go_wp2_with ((with_reducible refine Z1a ?_); (first | (refine Z03 rfl 41 _ rfl sb rfl 41 (snC (Z05 c l).b ((Z05 c l).b / c 13) vv (Z05 c l).led.d (Z05 c l).led.p (Z05 c l).led.b ac vp vf vo vm vq (Z05 c l).cur (Z05 c l).car un) (0,0) _ Tryz.underlying41 rfl Z96 HB.out.1 ?_) | (refine Z2d rfl 68 _ #[.slice oa l.length oc, .int .i64 (Z05 c l).b, .int .i64 ((Z05 c l).b / c 13),vv, .int .u64 (Z05 c l).led.d, .int .u64 (Z05 c l).led.p, .int .u64 (Z05 c l).led.b, .int .u64 ac,vp,vf,vo,vm,vq, .int .i64 (Z05 c l).cur, .int .u64 (Z05 c l).car, .int .i64 un] rfl (by kernel_rfl) ?_) | (refine Z11 rfl 68 _ _ rfl (z+1) #[.slice oa l.length oc, .int .i64 (Z05 c l).b, .int .i64 ((Z05 c l).b / c 13),vv, .int .u64 (Z05 c l).led.d, .int .u64 (Z05 c l).led.p, .int .u64 (Z05 c l).led.b, .int .u64 ac,vp,vf,vo,vm,vq, .int .i64 (Z05 c l).cur, .int .u64 (Z05 c l).car, .int .i64 un] rfl rfl 68 rsZ Z8s rfl H16.out BZ.out ?_)))
  refine bodyPost_ret (v := .tuple #[.agg #[.slice oa l.length oc, .int .i64 (Z05 c l).b, .int .i64 ((Z05 c l).b / c 13),vv, .int .u64 (Z05 c l).led.d, .int .u64 (Z05 c l).led.p, .int .u64 (Z05 c l).led.b, .int .u64 ac,vp,vf,vo,vm,vq, .int .i64 (Z05 c l).cur, .int .u64 (Z05 c l).car, .int .i64 un], .int .i64 0]) (Z39 Tryz.results23 _ _ (z+1) 68 #[.slice oa l.length oc, .int .i64 (Z05 c l).b, .int .i64 ((Z05 c l).b / c 13),vv, .int .u64 (Z05 c l).led.d, .int .u64 (Z05 c l).led.p, .int .u64 (Z05 c l).led.b, .int .u64 ac,vp,vf,vo,vm,vq, .int .i64 (Z05 c l).cur, .int .u64 (Z05 c l).car, .int .i64 un] (0,0) _ (.int .i64 0) rfl rfl (setRow_heap wc (z+1) _ #[.slice oa l.length oc, .int .i64 (Z05 c l).b, .int .i64 ((Z05 c l).b / c 13),vv, .int .u64 (Z05 c l).led.d, .int .u64 (Z05 c l).led.p, .int .u64 (Z05 c l).led.b, .int .u64 ac,vp,vf,vo,vm,vq, .int .i64 (Z05 c l).cur, .int .u64 (Z05 c l).car, .int .i64 un] _ _ BZ.out) Tryz.underlying68 rfl Z8s) rfl ?_
  refine ⟨⟨oa,oc,vv,ac,vp,vf,vo,vm,vq,un,rfl,by simpa using H16.out⟩, ?_⟩
  exact (hB3.out.2.2.2.2.seq HK.out fun i hi h =>by have :=HZ.out; omega).seq ((Mods.refl (fun i =>i=z+1) wc).setRow (z+1) #[.slice oa l.length oc, .int .i64 (Z05 c l).b, .int .i64 ((Z05 c l).b / c 13),vv, .int .u64 (Z05 c l).led.d, .int .u64 (Z05 c l).led.p, .int .u64 (Z05 c l).led.b, .int .u64 ac,vp,vf,vo,vm,vq, .int .i64 (Z05 c l).cur, .int .u64 (Z05 c l).car, .int .i64 un] fun _ =>rfl) fun i hi h =>by have :=HZ.out; omega
def cR (i:Nat):Int :=if i=13 then 1 else dflt i
def opsR:List Od := [⟨1,0,0,20⟩,⟨7,0,0,0⟩,⟨2,0,0,0⟩] ++ List.replicate 4 ⟨7,0,0,0⟩
def bytR:List Int :=opsR.flatMap encB
theorem Zex:bytR.length=17 :=by decide +kernel
theorem Zf7:decF bytR bytR.length 0=opsR :=by kernel_rfl
theorem Zq1:(Z05 cR opsR).b=5 :=by decide +kernel
theorem Zov:(Z05 cR opsR).led.p=20 :=by decide +kernel
theorem chkR:chk cR=0 :=by decide +kernel
theorem Zo9:Bytes bytR :=by unfold Bytes; decide +kernel
theorem Zih:∀ o∈opsR,o.ok∧Zcy o=true∧∃ cs,opsOf o.kd=some cs :=by
 intro o ho
 have h:o=⟨1,0,0,20⟩∨o=⟨7,0,0,0⟩∨o=⟨2,0,0,0⟩ :=by
  simp [opsR] at ho
  rcases ho with h | h | h | h <;> simp [h]
 rcases h with rfl | rfl | rfl
 ·exact ⟨⟨by decide,by decide,by decide,by decide⟩,by decide +kernel,_,rfl⟩
 ·exact ⟨⟨by decide,by decide,by decide,by decide⟩,by decide +kernel,_,rfl⟩
 ·exact ⟨⟨by decide,by decide,by decide,by decide⟩,by decide +kernel,_,rfl⟩
theorem Zoj:Z2o.setIfInBounds 13 (.int .i64 1)=cfgC cR :=by kernel_rfl
theorem Zqh (w:World):Calls Tryz.prog 8 #[] w fun r w' =>r = .returned (.bool true)∧Z00 w w' :=by
 have HDF :=Hd (fun w =>Zel w)
 have HTK :=Hd (fun w =>Zhz 4 w (by omega) (by omega))
 go_enter Tryz.func8,Tryz.ntmps8
 go_wp2_with fail
 refine (HDF.out _).mono ?_
 rintro r w1 ⟨rfl,hb⟩
 have hk1:Z00 w w1 :=Mods.of_below hb
 have HK1 :=Hd hk1
 clear hb hk1
 obtain ⟨Z,hZ⟩:∃ Z,Z=w1.heap.size :=⟨_,rfl⟩
 have hs0 :=heap_alloc_last w1 (.cells Z2o 24)
 have c13:(w1.alloc (.cells Z2o 24)).cell? ⟨w1.heap.size,13,none⟩=some (.int .i64 4) :=by rw [cell_of_row _ _ _ _ _ _ hs0]; rfl
 have f13:(w1.alloc (.cells Z2o 24)).frozen? ⟨w1.heap.size,13,none⟩=false :=by unfold World.frozen?; rw [hs0]; rfl
 have HS0 :=Hd hs0
 clear hs0
 go_upto_region 3 with ((with_reducible refine Z1a ?_); (refine Z2c (t :=24) (old :=zeroCells) (cs :=Z2o) rfl 24 _ _ rfl rfl rfl Z0m rfl rfl ?_))
 refine Z0l ?_
 intro wx hwx
 have hz:wx.heap[w1.heap.size]? = some (.cells (cfgC cR) 24 (0,0)) :=by
  rw [← Zoj]
  exact Z0g hwx
 have hkx:Z00 w1 wx :=Z0f hwx
 rw [← hZ] at hz ⊢
 have HBZ :=Hd hz
 have HKX :=Hd (HK1.out.keep hkx)
 have HZL :=Hd (Z0a hz)
 clear hz hkx hwx c13 f13 HS0 hZ
 have hlit:(wx.alloc (.cells #[.int .i64 1, .int .i64 0, .int .i64 0, .int .u64 20, .int .i64 7, .int .i64 0, .int .i64 0, .int .u64 0, .int .i64 2, .int .i64 0, .int .i64 0, .int .u64 0] 34)).ownsRow wx.heap.size 34 4 (.slice (some ⟨wx.heap.size,0,none⟩) 3 3) 3 (Z15 [⟨1,0,0,20⟩,⟨7,0,0,0⟩,⟨2,0,0,0⟩]) :=World.ownsRow_lit wx _ 3 (Nat.le_refl _) (by unfold maxLen; omega) rfl
 have HLI :=Hd hlit
 clear hlit
 go_wp2_with fail
 refine (HTK.out _).mono ?_
 rintro r w2 ⟨v2,rfl,ho2,hk2⟩
 have HO1 :=Hd (hk2.owns HLI.out fun _ _ h =>h)
 have HV2 :=Hd (show OdL w2 v2 (List.replicate 4 ⟨7,0,0,0⟩) from OdL.of_owns (l :=List.replicate 4 ⟨7,0,0,0⟩) ho2)
 have HS2 :=Hd (show wx.heap.size≤w2.heap.size from by have :=hk2.size; rw [World.size_alloc] at this; omega)
 have HK2 :=Hd (((Mods.refl (fun _ =>False) wx).alloc _).keep hk2)
 obtain ⟨ta,tc,rfl⟩ :=Z0c ho2
 clear ho2 hk2
 go_wp2_with (at_builtin; refine Zah _ rfl (.tmp 12) (.tmp 13) rfl wx.heap.size (.slice (some ⟨wx.heap.size,0,none⟩) 3 3) [⟨1,0,0,20⟩,⟨7,0,0,0⟩,⟨2,0,0,0⟩] (List.replicate 4 ⟨7,0,0,0⟩) rfl HO1.out _ rfl HV2.out (by simp) HS2.out ?_; refine Z0e.out ?_)
 refine Z0e.mk ?_
 intro v3 w3 ho3 hg3
 have hk3:Z00 wx w3 :=HK2.out.grown hg3 fun j hj e =>by simp [Value.ownBlock] at e; omega
 have hod:OdL w3 v3 opsR :=OdL.of_owns (l :=opsR) ho3
 obtain ⟨va,vc,rfl⟩ :=hod.slice
 have HEN :=Hd (Zh3 _ opsR w3 hod (by decide) Zih)
 have HK3 :=Hd hk3
 clear ho3 hg3 hk3 hod HO1 HV2 HLI
 go_wp2_with fail
 refine HEN.out.mono ?_
 rintro r w4 ⟨v4,rfl,ho4,hk4⟩
 have HBL :=Hd (show BL w4 v4 bytR from BO.bl ho4)
 obtain ⟨ba,bc,rfl⟩ :=BO.slice ho4
 have HK4 :=Hd (HK3.out.keep hk4)
 have hz4 :=(HK4.out).at HBZ.out fun h =>h
 have hV :=Zog chkR
 have HRU :=Hd (run_any cR (.slice ba bytR.length bc) bytR w4 hV chkR (by decide +kernel) (by decide +kernel) HBL.out Zo9 (by rw [Zex]; omega) (by rw [Zex]; omega) (by rw [Zf7]; exact fun o ho =>(Zih o ho).1))
 rw [Zf7,Zq1,Zov] at HRU
 obtain ⟨PD,hPD⟩:∃ x,x=(Z05 cR opsR).led.d :=⟨_,rfl⟩
 obtain ⟨PB,hPB⟩:∃ x,x=(Z05 cR opsR).led.b :=⟨_,rfl⟩
 obtain ⟨PC,hPC⟩:∃ x,x=(Z05 cR opsR).cur :=⟨_,rfl⟩
 obtain ⟨PR,hPR⟩:∃ x,x=(Z05 cR opsR).car :=⟨_,rfl⟩
 rw [← hPD,← hPB,← hPC,← hPR,show (5:Int) / cR 13=5 from by decide +kernel,show opsR.length=7 from rfl] at HRU
 have hbl:(List.flatMap encB opsR)=bytR :=rfl
 rw [hbl]
 clear ho4 hk4 hV hPD hPB hPC hPR hbl HEN
 generalize bytR.length=BN at *
 go_wp2_with ((with_reducible refine Z1a ?_); (refine Z03 rfl 24 _ rfl Z rfl 24 (cfgC cR) (0,0) _ Tryz.underlying24 rfl Z0m hz4 ?_))
 refine HRU.out.mono ?_
 rintro r w5 ⟨⟨oa,oc,vv,ac,vp,vf,vo,vm,vq,un,rfl,hone⟩,hk5⟩
 have hrs:(#[.slice oa 7 oc] ++ snC 5 5 vv PD 20 PB ac vp vf vo vm vq PC PR un:Array Value)=#[.slice oa 7 oc, .int .i64 5, .int .i64 5,vv, .int .u64 PD, .int .u64 20, .int .u64 PB, .int .u64 ac,vp,vf,vo,vm,vq, .int .i64 PC, .int .u64 PR, .int .i64 un] :=rfl
 rw [hrs] at hone ⊢
 obtain ⟨RS,hRS⟩:∃ RS:Array Value,RS=#[.slice oa 7 oc, .int .i64 5, .int .i64 5,vv, .int .u64 PD, .int .u64 20, .int .u64 PB, .int .u64 ac,vp,vf,vo,vm,vq, .int .i64 PC, .int .u64 PR, .int .i64 un] :=⟨_,rfl⟩
 rw [← hRS] at hone ⊢
 have hl :=heap_alloc_last w5 (.cells RS 68)
 have e0:(w5.alloc (.cells RS 68)).cell? ⟨w5.heap.size,0,none⟩=some (.slice oa 7 oc) :=by rw [cell_of_row _ _ _ _ _ _ hl,hRS]; rfl
 have e2:(w5.alloc (.cells RS 68)).cell? ⟨w5.heap.size,2,none⟩=some (.int .i64 5) :=by rw [cell_of_row _ _ _ _ _ _ hl,hRS]; rfl
 have e5:(w5.alloc (.cells RS 68)).cell? ⟨w5.heap.size,5,none⟩=some (.int .u64 20) :=by rw [cell_of_row _ _ _ _ _ _ hl,hRS]; rfl
 have hsz:(Tryz.prog.info? 68).map (·.size)=some RS.size :=by rw [Z8s,hRS]; rfl
 have hold:rsZ.size=RS.size :=by rw [hRS]; rfl
 have HKF :=Hd (show Z00 w (w5.alloc (.cells RS 68)) from ((HKX.out.keep HK4.out).keep hk5).alloc _)
 clear hk5 hRS hrs hl hz4
 go_wp2_with ((with_reducible refine Z1a ?_); (refine Z2c (t :=68) (old :=rsZ) (cs :=RS) rfl 68 _ _ rfl rfl rfl hsz hold hone ?_))
 go_wp2
 go_ret
 exact ⟨rfl,HKF.out⟩
structure Zr4 (c:Nat→Int) (n:Nat):Prop where
 chk:chk c=0
 c0:c 0≤100
 c14:c 14≤200
 c15:c 15≤200
 c17:c 17≤200
 c1:c 1≤200
 n:n≤400
theorem Zod (c:Nat→Int) (a:Option Addr) (n cap:Nat) (w:World) (hn:n≤9223372036854775807) :
 Calls Tryz.prog 7 #[cfgV c, .slice a n cap] w fun r w' =>(r = .returned (.int .i64 0)∨r = .returned (.int .i64 1)∧Zr4 c n)∧Z00 w w' :=by
 have HC :=Hd (fun w =>Zce c w)
 have hx :=heap_alloc_last w (.cells (cfgC c) 24)
 go_enter Tryz.func7,Tryz.ntmps7
 go_wp2_with ((with_reducible refine Z1a ?_); (refine Z03 rfl 24 _ rfl w.heap.size rfl 24 (cfgC c) (0,0) _ Tryz.underlying24 rfl Z0m hx ?_))
 refine (HC.out _).mono ?_
 rintro r w1 ⟨rfl,hb⟩
 have hk1:Z00 (w.alloc (.cells (cfgC c) 24)) w1 :=Mods.of_below hb
 have HK :=Hd (show Z00 w w1 from ((Mods.refl _ w).alloc _).keep hk1)
 have hz :=hk1.at hx fun h =>h
 have x0:w1.cell? ⟨w.heap.size,0,none⟩=some (.int .i64 (c 0)) :=by rw [cell_of_row _ _ _ _ _ _ hz]; rfl
 have x14:w1.cell? ⟨w.heap.size,14,none⟩=some (.int .i64 (c 14)) :=by rw [cell_of_row _ _ _ _ _ _ hz]; rfl
 have x15:w1.cell? ⟨w.heap.size,15,none⟩=some (.int .i64 (c 15)) :=by rw [cell_of_row _ _ _ _ _ _ hz]; rfl
 have x17:w1.cell? ⟨w.heap.size,17,none⟩=some (.int .i64 (c 17)) :=by rw [cell_of_row _ _ _ _ _ _ hz]; rfl
 have x1:w1.cell? ⟨w.heap.size,1,none⟩=some (.int .i64 (c 1)) :=by rw [cell_of_row _ _ _ _ _ _ hz]; rfl
 obtain ⟨ch,hch⟩:∃ x,x=chk c :=⟨_,rfl⟩
 rw [← hch]
 have HCH :=Hd hch
 clear hb hk1 hx hz hch HC
 go_wp2
 all_goals
  refine bodyPost_ret (results_tmp rfl _ _ _) rfl ⟨?_,HK.out⟩
  first
   | exact .inl rfl
   | exact .inr ⟨rfl,⟨by have :=HCH.out; omega,by omega,by omega,by omega,by omega,by omega,by omega⟩⟩
def Zlu:List IntKind := [.i64, .i64, .u64, .u64, .u64, .u64, .u64, .u64, .u64, .u64, .i64, .i64, .i64, .i64, .i64, .i64, .i64, .i64, .u64, .u64]
theorem Zpz {c:Nat→Int} (h:∀ (i:Nat) (k:IntKind),Zlu[i]? = some k→(Lit.int k (c i)).wf=true):0≤c 9∧0≤c 18 :=
 ⟨(bounds_u64 (h 9 .u64 rfl)).1,(bounds_u64 (h 18 .u64 rfl)).1⟩
theorem Zok (b ep:Int) (vv:Value) (d p bu ac:Int) (vp vf vo vm vq:Value) (cu ca un:Int) (w:World) (hv:vv.oneCell'=true):(Instr.field 41 (.agg (snC b ep vv d p bu ac vp vf vo vm vq cu ca un)) 2).run Tryz.prog w = .ok vv w :=by
 cases vv <;> first | kernel_rfl | (simp [Value.oneCell'] at hv)
theorem Zrj {vs:List Vd} {j:Nat} (hj:j<vs.length):inR vs (j:Int) :=⟨by omega,by omega⟩
theorem Zrk {vs:List Vd} {j:Nat} (hj:j<vs.length):vAt vs (j:Int)=vs[j] :=by
 unfold vAt
 rw [Int.toNat_natCast]
 simp [List.getD,hj]
end Go.Proofs.YtecapfmmoejikaaGreat
