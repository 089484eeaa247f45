/- A part of the proofs of the top laws: Tick Snap. -/
import Derived.Test.YtecapfmmoejikaaGreatPkBj
set_option maxRecDepth 4000
set_option maxHeartbeats 8000000
namespace Go.Proofs.YtecapfmmoejikaaGreat
open Go.RowKit Go.Eg
theorem Z9u:(Tryz.prog.info? 46).map (·.size)=some 9 :=by kernel_rfl
abbrev rcC (kd cd ix bl ep dl:Int) (av pv:Value) (vs:Int):Array Value := #[.int .i64 kd, .int .i64 cd, .int .i64 ix, .int .i64 bl, .int .i64 ep, .int .i64 dl,av,pv, .int .i64 vs]
abbrev rcB (kd cd ix bl ep dl:Int) (av pv:Value) (vs:Int):Obj := .cells (rcC kd cd ix bl ep dl av pv vs) 46 (0,0)
theorem Z1s {ops:Array Oper} {o:Oper} {a:Act} {w:World} {K:Act→World→Prop} {Q:Exit→Act→World→Prop} {E:Prop} (hw:Region.wanted o (yielded ops a.tmps)=true) (x y:Operand) (ho:o.op = .store 46 x y)
 (g:Nat) (cs cs':Array Value) (hx:a.eval x = .pointer (some ⟨g,0,none⟩)) (hy:a.eval y = .agg cs) (hg:w.heap[g]? = some (.cells cs' 46 (0,0))) (hs:cs'.size=cs.size) (h9:cs.size=9) (h1:cs.all (fun x =>x.oneCell')=true)
 (h:∀ w',w'.heap[g]? = some (.cells cs 46 (0,0))→Mods (fun i =>i=g) w w'→K (a.put o.dst undef) w') :
 if Region.wanted o (yielded ops a.tmps)=true then Oper.wp Tryz.prog o a w K Q else E :=by
 rw [if_pos hw]
 exact wp_store_row 46 x y ho g cs hx hy _ cs' hg (by rw [Z9u,h9]) hs h1 (h _ (setRow_heap w g _ _ _ _ hg) ((Mods.refl _ w).setRow g _ fun _ =>rfl))
theorem Zmf:(Tryz.prog.info? 34).map (·.size)=some 4 :=by kernel_rfl
theorem Zlr {own:Nat→Nat} {w:World} {e:Nat} {c:Nat→Int} {E:En} {p:Ep} {N:Nat} (h:Z0i own w e c E p N) (hV:Vld c) (o:Od) {n0:Nat} (hI:Inv c E n0) (hn:n0≤9000) (hN:N+500000<4294967296) :
 Calls Tryz.prog 49 #[.pointer (some ⟨e,0,none⟩),o.val] w fun r w' => ∃ aa ac pa pc,r = .returned (rcV o.kd 0 (-1) (E.b+1) ((E.b+1) / c 13) (-1) (.slice aa (Zbw c E).length ac) (.slice pa (pyS c (Z4s c E)).2.length pc) (Z6b c (Z4s c E))) ∧
  ∃ own',Z0i own' w' e c (Zan c E) p (N+400000)∧Ext own w own' w'∧w'.ownsRow w.heap.size 51 3 (.slice aa (Zbw c E).length ac) (Zbw c E).length (Z4u (Zbw c E)) ∧
  w'.ownsRow w.heap.size 58 3 (.slice pa (pyS c (Z4s c E)).2.length pc) (pyS c (Z4s c E)).2.length (Z1u (pyS c (Z4s c E)).2) :=by
 obtain ⟨kd,oix,otg,am⟩ :=o
 have H :=Hd h
 have HI :=Hd hI
 have h0 :=hI.b0
 have h1 :=hI.b1
 have hp1 :=hI.tk1 hV (by omega)
 have HTK :=Hd (fun (w':World) (hk:Z00 w w') =>Zqz (h.keeps hk) h0 (by omega) hV.c13.1)
 clear h hI h0 h1
 go_enter Tryz.func49,Tryz.ntmps49
 have HP1 :=Hd hp1
 obtain ⟨E1,hE1⟩:∃ x,x=Z4s c E :=⟨_,rfl⟩
 obtain ⟨AO,hAO⟩:∃ x,x=Zbw c E :=⟨_,rfl⟩
 obtain ⟨R,hR⟩:∃ x,x=(pyS c E1).2 :=⟨_,rfl⟩
 obtain ⟨VN,hVN⟩:∃ x,x=Z6b c E1 :=⟨_,rfl⟩
 unfold Zan
 rw [← hE1,← hR,← hVN,← hAO]
 have HE1 :=Hd hE1
 have HAO :=Hd hAO
 have HR :=Hd hR
 have HVN :=Hd hVN
 obtain ⟨lv,hblk, -, -⟩ :=H.out.blk (by decide)
 have c21 :=(Z09 hblk).2.1
 clear hp1 hE1 hAO hR hVN hblk
 have hS0 :=Z3u w (odB ⟨kd,oix,otg,am⟩) (rcB 0 0 0 0 0 0 (.slice none 0 0) (.slice none 0 0) 0)
 obtain ⟨z1,z2,z3,z4⟩ :=hS0
 have c21' :=z4.cell c21 fun h =>h
 go_wp2_with fail
 refine (HTK.out _ z4).mono ?_
 rintro r w1 ⟨rfl,own1,hE1,hX1⟩
 obtain ⟨z,hz⟩:∃ z,z=w.heap.size :=⟨_,rfl⟩
 rw [← hz] at z1 z2 z3 ⊢
 have HZZ :=Hd hz
 have hz0:own z=0 :=H.out.new z (by omega)
 have hz1:own (z+1)=0 :=H.out.new (z+1) (by omega)
 have b1 :=hX1.at z1 hz0
 have b2 :=hX1.at z2 hz1
 have hws:z+2≤w1.heap.size :=by have :=hX1.mods.size; omega
 have HX1 :=Hd ((Ext.keeps (own :=own) z4).trans hX1)
 have HE :=Hd (show Z0i own1 w1 e c (enUp E) p N from hE1)
 have HB1 :=Hd b1
 have HB2 :=Hd b2
 have HWS :=Hd hws
 clear hE1 hX1 z1 z2 z3 z4 c21 c21' hz hz0 hz1 b1 b2 hws
 rename_i Q0 K2 a2 K1 a1 K0 a0
 have tail:∀ (u13 u14 u15:Value) (aa:Option Addr) (ac:Nat) (wx:World) (ownx:Nat→Nat),Z0i ownx wx e c E1 p (N+300000)→Ext own w ownx wx→(wx.heap[z]? = some (odB ⟨kd,oix,otg,am⟩)∧ownx z=0)→(wx.heap[z+1]? = some (rcB 0 0 0 0 0 0 (.slice none 0 0) (.slice none 0 0) 0)∧ownx (z+1)=0) →
  wx.ownsRow (z+2) 51 3 (.slice aa AO.length ac) AO.length (Z4u AO)→(∀ k,(Value.slice aa AO.length ac).ownBlock=some k→ownx k=0) →
  K2 { tmps := #[.pointer (some ⟨e,0,none⟩),(Od.val ⟨kd,oix,otg,am⟩),undef, .pointer (some ⟨z,0,none⟩), .pointer (some ⟨z+1,0,none⟩), .slice aa AO.length ac,undef,undef,undef, .pointer (some ⟨e,0,none⟩), .pointer (some ⟨e,0,none⟩), .pointer (some ⟨e,21,none⟩), .pointer (some ⟨p.ck,0,none⟩),u13,u14,u15,
   undef,undef,undef,undef,undef,undef,undef,undef,undef,undef,undef,undef,undef,undef,undef,undef,undef,undef,undef,undef,undef,undef,undef,undef],defers := [] } wx :=by
  intro u13 u14 u15 aa ac wx ownx fE fX f1 f2 fr fz
  refine a2 _ _ ?_
  have hI1 :=HP1.out
  rw [← HE1.out] at hI1
  have hsup:totS E1.vs+totS E1.vs≤maxU :=by
   have h1 :=hI1.sum
   have h2 :=hI1.lok.sc
   have h3 :=hI1.lc
   have h4 :=hV.c4
   unfold Led.sup at h1
   unfold maxU
   omega
  have hcur:E1.cur≤4096 :=by
   have h1 :=hI1.cur
   have h2 :=hI1.len
   have h3 :=hV.c0
   omega
  have h13:1≤c 13 :=hV.c13.1
  have hPY :=ePay fE hV hI1.b0 (by have :=hI1.b1; omega) hcur hsup hI1.pr (by omega)
  rw [← HR.out,← HVN.out] at hPY
  have HPY :=Hd hPY
  have hEb:E1.b=E.b+1 :=by
   rw [HE1.out]
   unfold Z4s
   split <;> rfl
  have HEB :=Hd hEb
  have HEB0 :=Hd (show 0≤E1.b∧E1.b≤1000001 from ⟨hI1.b0,by have :=hI1.b1; omega⟩)
  have FX :=Hd fX
  have F1 :=Hd f1
  have F2 :=Hd f2
  have FR :=Hd fr
  have FZ :=Hd fz
  have hfs:z+2≤wx.heap.size :=by have :=Z0a f2.1; omega
  clear hI1 hsup hcur hPY hEb fE fX f1 f2 fr fz
  go_wp2_with fail
  refine HPY.out.mono ?_
  rintro r w5 ⟨pv,rfl,own5,hE5,hX5,hr5,hz5⟩
  obtain ⟨pa,pc,rfl⟩ :=Z0c hr5
  have HE5 :=Hd hE5
  have HX5 :=Hd (FX.out.trans hX5)
  have G1 :=Hd (hX5.at F1.out.1 F1.out.2)
  have G2 :=Hd (hX5.at F2.out.1 F2.out.2)
  have GR :=Hd (hX5.owns FR.out FZ.out)
  have GP :=Hd (show w5.ownsRow (z+2) _ 3 _ _ _ from own_base hr5 hfs)
  have hcx :=(Z09 (hE5.blk (by decide)).choose_spec.1).2.1
  have hox :=Z2l (hX5.at F1.out.1 F1.out.2).1
  have hf5:z+2≤w5.heap.size :=Nat.le_trans hfs hX5.mods.size
  obtain ⟨cs,hcs⟩:∃ cs,cs=(Od.cells ⟨kd,oix,otg,am⟩).toList :=⟨_,rfl⟩
  rw [← hcs] at hox
  have hs4:(Tryz.prog.info? 34).map (·.size)=some cs.length :=by rw [Zmf,hcs]; rfl
  have HCS :=Hd hcs
  have HS :=Hd (fun (w':World) (hk:Z00 w5 w') =>(⟨Z0n hox hk,hk.cell hcx fun h =>h⟩:w'.rangeAt z 0 cs∧w'.cell? ⟨e,21,none⟩=some (.pointer (some ⟨p.ck,0,none⟩))))
  have HBL :=Hd (fun (w':World) (hk:Z00 w5 w') =>Z2b p.ck E1.b (c 13) w' ((HE5.out.keeps hk).ck (by decide)))
  have HEPO :=Hd (fun (w':World) (hk:Z00 w5 w') =>Z12 p.ck E1.b (c 13) w' ((HE5.out.keeps hk).ck (by decide)) HEB0.out.1 HEB0.out.2 h13)
  have HAC :=Hd (fun (w':World) =>Z7o ⟨kd,oix,otg,am⟩ (-1) (-1) E1.b (E1.b / c 13) w')
  obtain ⟨ep,hep⟩:∃ x,x=E1.b / c 13 :=⟨_,rfl⟩
  rw [← hep] at HEPO HAC
  rw [show (Od.val ⟨kd,oix,otg,am⟩) = .agg cs.toArray from by rw [hcs]] at HAC
  have HEPE :=Hd hep
  clear hE5 hX5 hr5 hz5 hcx hox hep hcs hfs
  go_wp2_with fail
  go_cut [8] (fun s8 wd => ∃ g,s8 = .pointer (some ⟨g,0,none⟩)∧w5.heap.size≤g∧wd.heap[g]? = some (rcB kd 0 (-1) E1.b ep (-1) (.slice none 0 0) (.slice none 0 0) 0)∧Z00 w5 wd)
  case first =>
   refine Z07 (S :=(fun w' =>w'.rangeAt z 0 cs∧w'.cell? ⟨e,21,none⟩=some (.pointer (some ⟨p.ck,0,none⟩)))) (by kernel_rfl) (by exact HS.out _ (Mods.refl _ w5).drew) (fun wc hD hH0 =>?_)
   have HK :=Hd (show Z00 w5 wc from hD.mods)
   clear hD
   refine tkb 0 rfl hH0 (yieldsIf_load_mid (by rfl) 34 (.tmp 3) rfl z 0 rfl cs _ (fun _ h =>h.1) Tryz.underlying34 rfl hs4) ?_
   try go_frame
   refine tk 1 rfl hH0 ?_
   try go_frame
   refine tk 2 rfl hH0 ?_
   try go_frame
   refine tk 3 rfl hH0 ?_
   try go_frame
   refine tk 4 rfl hH0 ?_
   try go_frame
   refine tk 6 rfl hH0 ?_
   try go_frame
   refine tk 7 rfl hH0 ?_
   try go_frame
   refine tk 8 rfl hH0 ?_
   try go_frame
   refine tk 9 rfl hH0 ?_
   try go_frame
   refine rdy [5,12] (Z04 rfl (fun K hK =>?_) (Z04 rfl (fun K hK =>?_) AllReadyH.nil))
   ·go_simp
    refine (HBL.out _ HK.out).mono ?_
    rintro r wc ⟨rfl,hwe⟩
    have hk :=Mods.of_eq (S :=fun _ =>False) hwe
    go_wp2_with fail
    refine hK.out _ _ (HS.out _ (HK.out.keep hk)) (fun hH1 =>?_)
    clear hK K hH0
    try go_frame
    replace HK :=Hd (HK.out.keep hk)
    try replace HZ :=Hd (hk.at HZ.out fun h =>h)
    clear hk hwe
    refine rdy [10,12] (Z04 rfl (fun K hK =>?_) (Z04 rfl (fun K hK =>?_) AllReadyH.nil))
    ·go_simp
     refine (HEPO.out _ HK.out).mono ?_
     rintro r wc ⟨rfl,hk⟩
     go_wp2_with fail
     refine hK.out _ _ (HS.out _ (HK.out.keep hk)) (fun hH2 =>?_)
     clear hK K hH1
     try go_frame
     replace HK :=Hd (HK.out.keep hk)
     try replace HZ :=Hd (hk.at HZ.out fun h =>h)
     clear hk
     refine rdy [11,12] (Z04 rfl (fun K hK =>?_) (Z04 rfl (fun K hK =>?_) AllReadyH.nil))
     ·go_simp
      refine (HAC.out _).mono ?_
      rintro r wc ⟨rfl,hk⟩
      go_wp2_with fail
      refine hK.out _ _ (HS.out _ (HK.out.keep hk)) (fun hH3 =>?_)
      clear hK K hH2
      try go_frame
      replace HK :=Hd (HK.out.keep hk)
      try replace HZ :=Hd (hk.at HZ.out fun h =>h)
      clear hk
      refine rdy [12] (Z04 rfl (fun K hK =>?_) AllReadyH.nil)
      go_simp
      have hsbn:w5.heap.size≤wc.heap.size :=HK.out.size
      generalize hsz5:wc.heap.size=zr at *
      refine Z14 ?_
      intro wc hwd
      have hk :=Z0f hwd
      have hn :=Z0g hwd
      rw [hsz5] at hn
      refine hK.out _ _ (HS.out _ (HK.out.keep hk)) (fun hH4 =>?_)
      clear hK K hH3
      try go_frame
      replace HK :=Hd (HK.out.keep hk)
      have HZ :=Hd (show wc.heap[zr]? = some (rcB 0 0 0 0 0 0 (.slice none 0 0) (.slice none 0 0) 0) from hn)
      have HZN :=Hd hsbn
      clear hwd hk hn hsz5 hsbn
      refine rdy [13] (Z04 rfl (fun K hK =>?_) AllReadyH.nil)
      refine Z1s (by rfl) (.tmp 8) (.tmp 32) rfl zr (rcC kd 0 (-1) E1.b ep (-1) (.slice none 0 0) (.slice none 0 0) 0) _ (by rfl) (by rfl) HZ.out rfl rfl (by rw [← Array.all_toList]; rfl) ?_
      intro wc hz hm
      have hk:Z00 w5 wc :=HK.out.seq hm fun i hi e =>by have :=HZN.out; omega
      refine hK.out _ _ (HS.out _ hk) (fun hH5 =>?_)
      clear hK K hH4
      try go_frame
      replace HK :=Hd hk
      have HF :=Hd hz
      clear hz hm hk HZ
      refine wpAnyH_done (by kernel_rfl) ?_ _
      have hS :=Hd hH5
      clear hH5
      go_wp2_with fail
      go_meet
      case rel =>exact ⟨_,rfl,HZN.out,HF.out,HK.out⟩
     ·go_simp
      have hsbn:w5.heap.size≤wc.heap.size :=HK.out.size
      generalize hsz5:wc.heap.size=zr at *
      refine Z14 ?_
      intro wc hwd
      have hk :=Z0f hwd
      have hn :=Z0g hwd
      rw [hsz5] at hn
      refine hK.out _ _ (HS.out _ (HK.out.keep hk)) (fun hH3 =>?_)
      clear hK K hH2
      try go_frame
      replace HK :=Hd (HK.out.keep hk)
      have HZ :=Hd (show wc.heap[zr]? = some (rcB 0 0 0 0 0 0 (.slice none 0 0) (.slice none 0 0) 0) from hn)
      have HZN :=Hd hsbn
      clear hwd hk hn hsz5 hsbn
      refine rdy [11] (Z04 rfl (fun K hK =>?_) AllReadyH.nil)
      go_simp
      refine (HAC.out _).mono ?_
      rintro r wc ⟨rfl,hk⟩
      go_wp2_with fail
      refine hK.out _ _ (HS.out _ (HK.out.keep hk)) (fun hH4 =>?_)
      clear hK K hH3
      try go_frame
      replace HK :=Hd (HK.out.keep hk)
      try replace HZ :=Hd (hk.at HZ.out fun h =>h)
      clear hk
      refine rdy [13] (Z04 rfl (fun K hK =>?_) AllReadyH.nil)
      refine Z1s (by rfl) (.tmp 8) (.tmp 32) rfl zr (rcC kd 0 (-1) E1.b ep (-1) (.slice none 0 0) (.slice none 0 0) 0) _ (by rfl) (by rfl) HZ.out rfl rfl (by rw [← Array.all_toList]; rfl) ?_
      intro wc hz hm
      have hk:Z00 w5 wc :=HK.out.seq hm fun i hi e =>by have :=HZN.out; omega
      refine hK.out _ _ (HS.out _ hk) (fun hH5 =>?_)
      clear hK K hH4
      try go_frame
      replace HK :=Hd hk
      have HF :=Hd hz
      clear hz hm hk HZ
      refine wpAnyH_done (by kernel_rfl) ?_ _
      have hS :=Hd hH5
      clear hH5
      go_wp2_with fail
      go_meet
      case rel =>exact ⟨_,rfl,HZN.out,HF.out,HK.out⟩
    ·go_simp
     have hsbn:w5.heap.size≤wc.heap.size :=HK.out.size
     generalize hsz5:wc.heap.size=zr at *
     refine Z14 ?_
     intro wc hwd
     have hk :=Z0f hwd
     have hn :=Z0g hwd
     rw [hsz5] at hn
     refine hK.out _ _ (HS.out _ (HK.out.keep hk)) (fun hH2 =>?_)
     clear hK K hH1
     try go_frame
     replace HK :=Hd (HK.out.keep hk)
     have HZ :=Hd (show wc.heap[zr]? = some (rcB 0 0 0 0 0 0 (.slice none 0 0) (.slice none 0 0) 0) from hn)
     have HZN :=Hd hsbn
     clear hwd hk hn hsz5 hsbn
     refine rdy [10] (Z04 rfl (fun K hK =>?_) AllReadyH.nil)
     go_simp
     refine (HEPO.out _ HK.out).mono ?_
     rintro r wc ⟨rfl,hk⟩
     go_wp2_with fail
     refine hK.out _ _ (HS.out _ (HK.out.keep hk)) (fun hH3 =>?_)
     clear hK K hH2
     try go_frame
     replace HK :=Hd (HK.out.keep hk)
     try replace HZ :=Hd (hk.at HZ.out fun h =>h)
     clear hk
     refine rdy [11] (Z04 rfl (fun K hK =>?_) AllReadyH.nil)
     go_simp
     refine (HAC.out _).mono ?_
     rintro r wc ⟨rfl,hk⟩
     go_wp2_with fail
     refine hK.out _ _ (HS.out _ (HK.out.keep hk)) (fun hH4 =>?_)
     clear hK K hH3
     try go_frame
     replace HK :=Hd (HK.out.keep hk)
     try replace HZ :=Hd (hk.at HZ.out fun h =>h)
     clear hk
     refine rdy [13] (Z04 rfl (fun K hK =>?_) AllReadyH.nil)
     refine Z1s (by rfl) (.tmp 8) (.tmp 32) rfl zr (rcC kd 0 (-1) E1.b ep (-1) (.slice none 0 0) (.slice none 0 0) 0) _ (by rfl) (by rfl) HZ.out rfl rfl (by rw [← Array.all_toList]; rfl) ?_
     intro wc hz hm
     have hk:Z00 w5 wc :=HK.out.seq hm fun i hi e =>by have :=HZN.out; omega
     refine hK.out _ _ (HS.out _ hk) (fun hH5 =>?_)
     clear hK K hH4
     try go_frame
     replace HK :=Hd hk
     have HF :=Hd hz
     clear hz hm hk HZ
     refine wpAnyH_done (by kernel_rfl) ?_ _
     have hS :=Hd hH5
     clear hH5
     go_wp2_with fail
     go_meet
     case rel =>exact ⟨_,rfl,HZN.out,HF.out,HK.out⟩
   ·go_simp
    have hsbn:w5.heap.size≤wc.heap.size :=HK.out.size
    generalize hsz5:wc.heap.size=zr at *
    refine Z14 ?_
    intro wc hwd
    have hk :=Z0f hwd
    have hn :=Z0g hwd
    rw [hsz5] at hn
    refine hK.out _ _ (HS.out _ (HK.out.keep hk)) (fun hH1 =>?_)
    clear hK K hH0
    try go_frame
    replace HK :=Hd (HK.out.keep hk)
    have HZ :=Hd (show wc.heap[zr]? = some (rcB 0 0 0 0 0 0 (.slice none 0 0) (.slice none 0 0) 0) from hn)
    have HZN :=Hd hsbn
    clear hwd hk hn hsz5 hsbn
    refine rdy [5] (Z04 rfl (fun K hK =>?_) AllReadyH.nil)
    go_simp
    refine (HBL.out _ HK.out).mono ?_
    rintro r wc ⟨rfl,hwe⟩
    have hk :=Mods.of_eq (S :=fun _ =>False) hwe
    go_wp2_with fail
    refine hK.out _ _ (HS.out _ (HK.out.keep hk)) (fun hH2 =>?_)
    clear hK K hH1
    try go_frame
    replace HK :=Hd (HK.out.keep hk)
    try replace HZ :=Hd (hk.at HZ.out fun h =>h)
    clear hk hwe
    refine rdy [10] (Z04 rfl (fun K hK =>?_) AllReadyH.nil)
    go_simp
    refine (HEPO.out _ HK.out).mono ?_
    rintro r wc ⟨rfl,hk⟩
    go_wp2_with fail
    refine hK.out _ _ (HS.out _ (HK.out.keep hk)) (fun hH3 =>?_)
    clear hK K hH2
    try go_frame
    replace HK :=Hd (HK.out.keep hk)
    try replace HZ :=Hd (hk.at HZ.out fun h =>h)
    clear hk
    refine rdy [11] (Z04 rfl (fun K hK =>?_) AllReadyH.nil)
    go_simp
    refine (HAC.out _).mono ?_
    rintro r wc ⟨rfl,hk⟩
    go_wp2_with fail
    refine hK.out _ _ (HS.out _ (HK.out.keep hk)) (fun hH4 =>?_)
    clear hK K hH3
    try go_frame
    replace HK :=Hd (HK.out.keep hk)
    try replace HZ :=Hd (hk.at HZ.out fun h =>h)
    clear hk
    refine rdy [13] (Z04 rfl (fun K hK =>?_) AllReadyH.nil)
    refine Z1s (by rfl) (.tmp 8) (.tmp 32) rfl zr (rcC kd 0 (-1) E1.b ep (-1) (.slice none 0 0) (.slice none 0 0) 0) _ (by rfl) (by rfl) HZ.out rfl rfl (by rw [← Array.all_toList]; rfl) ?_
    intro wc hz hm
    have hk:Z00 w5 wc :=HK.out.seq hm fun i hi e =>by have :=HZN.out; omega
    refine hK.out _ _ (HS.out _ hk) (fun hH5 =>?_)
    clear hK K hH4
    try go_frame
    replace HK :=Hd hk
    have HF :=Hd hz
    clear hz hm hk HZ
    refine wpAnyH_done (by kernel_rfl) ?_ _
    have hS :=Hd hH5
    clear hH5
    go_wp2_with fail
    go_meet
    case rel =>exact ⟨_,rfl,HZN.out,HF.out,HK.out⟩
  case rest =>
   obtain ⟨zr,rfl,hzn,hz,hk⟩ :=hcut
   have r2 :=hk.at G2.out.1 fun h =>h
   have hzn1:z+1≠zr :=by omega
   have e1:(wc.setCell ⟨zr,6,none⟩ (.slice aa AO.length ac)).heap[zr]? = some (rcB kd 0 (-1) E1.b ep (-1) (.slice aa AO.length ac) (.slice none 0 0) 0) :=heap_setCell_same wc zr 6 _ _ _ hz
   have e2:((wc.setCell ⟨zr,6,none⟩ (.slice aa AO.length ac)).setCell ⟨zr,7,none⟩ (.slice pa R.length pc)).heap[zr]? = some (rcB kd 0 (-1) E1.b ep (-1) (.slice aa AO.length ac) (.slice pa R.length pc) 0) :=heap_setCell_same _ zr 7 _ _ _ e1
   have e3:(((wc.setCell ⟨zr,6,none⟩ (.slice aa AO.length ac)).setCell ⟨zr,7,none⟩ (.slice pa R.length pc)).setCell ⟨zr,8,none⟩ (.int .i64 VN)).heap[zr]? = some (rcB kd 0 (-1) E1.b ep (-1) (.slice aa AO.length ac) (.slice pa R.length pc) VN) :=heap_setCell_same _ zr 8 _ _ _ e2
   have x0:wc.cell? ⟨zr,6,none⟩=some (.slice none 0 0) :=by simp [World.cell?,hz]
   have y0:wc.frozen? ⟨zr,6,none⟩=false :=by simp [World.frozen?,hz]
   have x1:(wc.setCell ⟨zr,6,none⟩ (.slice aa AO.length ac)).cell? ⟨zr,7,none⟩=some (.slice none 0 0) :=by simp [World.cell?,e1]
   have y1:(wc.setCell ⟨zr,6,none⟩ (.slice aa AO.length ac)).frozen? ⟨zr,7,none⟩=false :=by simp [World.frozen?,e1]
   have x2:((wc.setCell ⟨zr,6,none⟩ (.slice aa AO.length ac)).setCell ⟨zr,7,none⟩ (.slice pa R.length pc)).cell? ⟨zr,8,none⟩=some (.int .i64 0) :=by simp [World.cell?,e2]
   have y2:((wc.setCell ⟨zr,6,none⟩ (.slice aa AO.length ac)).setCell ⟨zr,7,none⟩ (.slice pa R.length pc)).frozen? ⟨zr,8,none⟩=false :=by simp [World.frozen?,e2]
   have hm3:Mods (fun i =>i=zr) wc (((wc.setCell ⟨zr,6,none⟩ (.slice aa AO.length ac)).setCell ⟨zr,7,none⟩ (.slice pa R.length pc)).setCell ⟨zr,8,none⟩ (.int .i64 VN)) :=(((Mods.refl (fun i =>i=zr) wc).setCell _ _ fun _ =>rfl).setCell _ _ fun _ =>rfl).setCell _ _ fun _ =>rfl
   have R3 :=Hd (hm3.at r2 hzn1)
   have HK3 :=Hd (hk.seq hm3 fun i hi h =>by omega)
   have E3 :=Hd e3
   clear hk hz r2 e1 e2 e3 hm3
   go_upto_region 7 with (fail)
   refine Z0l ?_
   intro wd hwd
   have h1 :=E3.out
   have h2 :=R3.out
   have h3 :=HK3.out
   rw [← hwd] at h1 h2 h3
   have M1 :=Hd h1
   have M2 :=Hd h2
   have M3 :=Hd h3
   clear h1 h2 h3 hwd x0 y0 x1 y1 x2 y2 E3 R3 HK3
   go_wp2_with ((with_reducible refine Z9g ?_); refine Z0e.out ?_)
   refine Z0e.mk ?_
   refine Z03 rfl 46 _ rfl zr rfl 46 (rcC kd 0 (-1) E1.b ep (-1) (.slice aa AO.length ac) (.slice pa R.length pc) VN) (0,0) _ Tryz.underlying46 rfl Z9u M1.out ?_
   go_wp2_with ((with_reducible refine Z9g ?_); refine Z0e.out ?_)
   refine Z0e.mk ?_
   refine Z11 rfl 46 _ _ rfl (z+1) (rcC kd 0 (-1) E1.b ep (-1) (.slice aa AO.length ac) (.slice pa R.length pc) VN) rfl rfl 46 (rcC 0 0 0 0 0 0 (.slice none 0 0) (.slice none 0 0) 0) Z9u rfl rfl M2.out ?_
   go_wp2
   have hmz:Mods (fun i =>i=z+1) wd (wd.setRow (z+1) (rcC kd 0 (-1) E1.b ep (-1) (.slice aa AO.length ac) (.slice pa R.length pc) VN)) :=(Mods.refl _ wd).setRow _ _ fun _ =>rfl
   have hz5:own5 (z+1)=0 :=G2.out.2
   have hE9 :=(HE5.out.keeps M3.out).loc hmz fun i _ h =>by rw [h]; exact hz5
   have hX9 :=Z1l (HX5.out.trans (Ext.keeps (own :=own5) M3.out)) hmz fun i hi h =>by have :=HZZ.out; omega
   refine bodyPost_ret (v := .agg (rcC kd 0 (-1) E1.b ep (-1) (.slice aa AO.length ac) (.slice pa R.length pc) VN)) (results_cell_row Tryz.results49 _ _ (z+1) 46 (rcC kd 0 (-1) E1.b ep (-1) (.slice aa AO.length ac) (.slice pa R.length pc) VN) (0,0) _ rfl (setRow_heap _ _ _ _ _ _ M2.out) Tryz.underlying46 rfl Z9u) rfl ?_
   refine ⟨aa,ac,pa,pc,by rw [HEPE.out,HEB.out],own5,hE9.mono (by omega),hX9, ?_, ?_⟩
   ·rw [← HZZ.out]
    exact own_base (hmz.owns (M3.out.owns GR.out fun _ _ h =>h) fun k hk h =>by have :=(GR.out.lt k hk).1; omega) (by omega)
   ·rw [← HZZ.out]
    exact own_base (hmz.owns (M3.out.owns GP.out fun _ _ h =>h) fun k hk h =>by have :=(GP.out.lt k hk).1; omega) (by omega)
 clear a2
 by_cases hm:(E.b+1) % c 13=0
 ·have hm1:((E.b+1) % c 13 == 0)=true :=by simp [hm]
  rw [hm1]
  have HBD :=Hd (Zie HE.out hV (HI.out.bndOk hV hm hn) (by omega))
  have e1:Z9r c (enUp E)=E1 :=by rw [HE1.out,Z4s,if_pos hm]
  have e2:Z65 c (enUp E)=AO :=by rw [HAO.out,Zbw,if_pos hm]
  rw [e1,e2] at HBD
  clear e1 e2 hm hm1
  go_wp2_with fail
  refine HBD.out.mono ?_
  rintro r w2 ⟨v,rfl,own2,hE2,hX2,hr2,hz2⟩
  obtain ⟨aa,ac,rfl⟩ :=Z0c hr2
  have T :=Hd (tail (.bool true) (.pointer (some ⟨e,0,none⟩)) (.slice aa AO.length ac) aa ac w2 own2 hE2 (HX1.out.trans hX2) (hX2.at HB1.out.1 HB1.out.2) (hX2.at HB2.out.1 HB2.out.2) (own_base hr2 HWS.out) hz2)
  clear tail hE2 hX2 hr2 hz2
  go_wp2_with fail
  exact T.out
 ·have hm1:((E.b+1) % c 13 == 0)=false :=by simp [hm]
  rw [hm1]
  have e1:enUp E=E1 :=by rw [HE1.out,Z4s,if_neg hm]
  have e2:([]:List As)=AO :=by rw [HAO.out,Zbw,if_neg hm]
  have hE2 :=HE.out
  rw [e1] at hE2
  have T :=Hd (tail (.bool false) undef undef none 0 w1 own1 (hE2.mono (by omega)) HX1.out HB1.out HB2.out (by rw [← e2]; exact World.ownsRow_nil _ _ _ _) (fun k hk =>by cases hk))
  rw [← e2] at T
  clear tail hE2 e1 e2 hm hm1
  go_wp2_with fail
  exact T.out
abbrev snC (b ep:Int) (vv:Value) (d p bu ac:Int) (vp vf vo vm vq:Value) (cu ca un:Int):Array Value := #[.int .i64 b, .int .i64 ep,vv, .int .u64 d, .int .u64 p, .int .u64 bu, .int .u64 ac,vp,vf,vo,vm,vq, .int .i64 cu, .int .u64 ca, .int .i64 un]
abbrev snB (b ep:Int) (vv:Value) (d p bu ac:Int) (vp vf vo vm vq:Value) (cu ca un:Int):Obj := .cells (snC b ep vv d p bu ac vp vf vo vm vq cu ca un) 41 (0,0)
abbrev totB (d p b:Int):Obj := .cells #[.int .u64 d, .int .u64 p, .int .u64 b] 101 (0,0)
theorem Z96:(Tryz.prog.info? 41).map (·.size)=some 15 :=by kernel_rfl
theorem Z3g {ops:Array Oper} {o:Oper} {a:Act} {w:World} {K:Act→World→Prop} {Q:Exit→Act→World→Prop} {E:Prop} (hw:Region.wanted o (yielded ops a.tmps)=true) (x y:Operand) (ho:o.op = .store 41 x y)
 (g:Nat) (cs cs':Array Value) (hx:a.eval x = .pointer (some ⟨g,0,none⟩)) (hy:a.eval y = .agg cs) (hg:w.heap[g]? = some (.cells cs' 41 (0,0))) (hs:cs'.size=cs.size) (h9:cs.size=15) (h1:cs.all (fun x =>x.oneCell')=true)
 (h:∀ w',w'.heap[g]? = some (.cells cs 41 (0,0))→Mods (fun i =>i=g) w w'→K (a.put o.dst undef) w') :
 if Region.wanted o (yielded ops a.tmps)=true then Oper.wp Tryz.prog o a w K Q else E :=by
 rw [if_pos hw]
 exact wp_store_row 41 x y ho g cs hx hy _ cs' hg (by rw [Z96,h9]) hs h1 (h _ (setRow_heap w g _ _ _ _ hg) ((Mods.refl _ w).setRow g _ fun _ =>rfl))
theorem Ze2 (g:Nat) (s:Led) (w:World) (hb:w.heap[g]? = some (ledB s)) :
 Calls Tryz.prog 36 #[.pointer (some ⟨g,0,none⟩)] w fun r w' =>r = .returned (.agg #[.int .u64 s.d, .int .u64 s.p, .int .u64 s.b])∧Z00 w w' :=by
 obtain ⟨c0,c1,c2,c3⟩ :=Z54 hb
 have hlt :=Z0a hb
 clear hb
 go_enter Tryz.func36,Tryz.ntmps36
 go_wp2
 exact bodyPost_ret (v := .agg #[.int .u64 s.d, .int .u64 s.p, .int .u64 s.b]) (by simp [results,Tryz.results36,go_sem]) rfl ⟨rfl,(Mods.refl _ w).alloc _⟩
theorem Zrg {own:Nat→Nat} {w:World} {e:Nat} {c:Nat→Int} {E:En} {p:Ep} {N:Nat} (h:Z0i own w e c E p N) (hb0:0≤E.b) (hb1:E.b≤1000001) (h13:1≤c 13) :
 Calls Tryz.prog 12 #[.pointer (some ⟨e,0,none⟩)] w fun r w' => ∃ a1 c1 a2 c2 a3 c3 a4 c4 a5 n5 c5 a6 n6 c6 un,r = .returned (.agg (snC E.b (E.b / c 13) (.slice a1 E.vs.length c1) E.led.d E.led.p E.led.b (actS E.vs) (.slice a2 E.pe.length c2) (.slice a3 E.fo.length c3) (.slice a4 E.vo.length c4) (.slice a5 n5 c5) (.slice a6 n6 c6) E.cur E.car un)) ∧
  w'.ownsRow w.heap.size 49 7 (.slice a1 E.vs.length c1) E.vs.length (Z10 E.vs)∧w'.ownsRow w.heap.size 3 1 (.slice a3 E.fo.length c3) E.fo.length (E.fo.map fun x =>.int .i64 x)∧w'.ownsRow w.heap.size 3 1 (.slice a4 E.vo.length c4) E.vo.length (E.vo.map fun x =>.int .i64 x)∧Z00 w w' :=by
 have H :=Hd h
 have HTOT :=Hd (fun (w':World) (hk:Z00 w w') =>Ze2 p.ld E.led w' ((h.keeps hk).ld (by decide)).1)
 have HBL :=Hd (fun (w':World) (hk:Z00 w w') =>Z2b p.ck E.b (c 13) w' ((h.keeps hk).ck (by decide)))
 have HEP :=Hd (fun (w':World) (hk:Z00 w w') =>Z12 p.ck E.b (c 13) w' ((h.keeps hk).ck (by decide)) hb0 hb1 h13)
 have HALL :=Hd (fun (w':World) (hk:Z00 w w') =>eAll (h.keeps hk))
 have HAC :=Hd (fun (w':World) (hk:Z00 w w') =>Zi5 (h.keeps hk))
 have HPE :=Hd (fun (w':World) (hk:Z00 w w') =>Z4y ((h.keeps hk).pe (by decide)))
 have HFO :=Hd (fun (w':World) (hk:Z00 w w') =>Z77 ((h.keeps hk).la (by decide)) 0 (.inl rfl))
 have HVO :=Hd (fun (w':World) (hk:Z00 w w') =>Z77 ((h.keeps hk).la (by decide)) 1 (.inr rfl))
 have HMG :=Hd (fun (w':World) (hk:Z00 w w') =>Z7n ((h.keeps hk).mg (by decide)))
 have HPR :=Hd (fun (w':World) (hk:Z00 w w') =>Z7q ((h.keeps hk).pr (by decide)))
 have HCU :=Hd (fun (w':World) (hk:Z00 w w') =>Zi3 p.cu E.cur w' ((h.keeps hk).cu (by decide)))
 have HCA :=Hd (fun (w':World) (hk:Z00 w w') =>Z83 ((h.keeps hk).me (by decide)))
 have HBK :=Hd (fun (w':World) (hk:Z00 w w') =>Zgc ((h.keeps hk).bo (by decide)))
 obtain ⟨lv,hblk, -, -⟩ :=h.blk (by decide)
 have HC :=Hd (fun (w':World) (hk:Z00 w w') =>Z09 (hk.at hblk fun h =>h))
 clear h hblk
 obtain ⟨z,hz⟩:∃ z,z=w.heap.size :=⟨_,rfl⟩
 have HZ :=Hd hz
 obtain ⟨w0,hw0⟩:∃ x,x=w.alloc (snB 0 0 (.slice none 0 0) 0 0 0 0 (.slice none 0 0) (.slice none 0 0) (.slice none 0 0) (.slice none 0 0) (.slice none 0 0) 0 0 0) :=⟨_,rfl⟩
 have Z0 :=Hd (show w0.heap[z]? = some (snB 0 0 (.slice none 0 0) 0 0 0 0 (.slice none 0 0) (.slice none 0 0) (.slice none 0 0) (.slice none 0 0) (.slice none 0 0) 0 0 0) from by rw [hw0,hz]; exact heap_alloc_last w _)
 have HK0 :=Hd (show Z00 w w0 from by rw [hw0]; exact (Mods.refl _ w).alloc _)
 have HW0 :=Hd hw0
 have HW1 :=Hd (show w.heap.size=z from hz.symm)
 clear hz hw0
 go_enter Tryz.func12,Tryz.ntmps12
 go_upto_region 3 with (fail)
 refine Z0l ?_
 intro wx hwx
 obtain rfl:w0=wx :=HW0.out.trans hwx.symm
 clear hwx
 rw [← HZ.out]
 have cc :=HC.out _ HK0.out
 obtain ⟨d0,d21,d22,d23,d24,d25,d26,d27,d28,d29,d30⟩ :=cc
 go_wp2_with fail
 refine (HTOT.out _ HK0.out).mono ?_
 rintro r w1 ⟨rfl,hk⟩
 have HK1 :=Hd (HK0.out.keep hk)
 have Z1 :=Hd (hk.at Z0.out fun h =>h)
 clear hk d0 d21 d22 d23 d24 d25 d26 d27 d28 d29 d30
 obtain ⟨zt,hzt⟩:∃ x,x=w1.heap.size :=⟨_,rfl⟩
 have hzz:z<zt :=by rw [hzt]; exact Z0a Z1.out
 have HZT :=Hd hzt
 have HZZ :=Hd hzz
 have HTZ :=Hd (show ¬ zt=z from by omega)
 have HEZ :=Hd (show ¬ e=z from fun h1 =>by have h2 :=H.out.lt (i :=e) (by rw [H.out.oe]; decide); have :=HZ.out; omega)
 obtain ⟨w2,hw2⟩:∃ x,x=w1.alloc (totB E.led.d E.led.p E.led.b) :=⟨_,rfl⟩
 have T2 :=Hd (show w2.heap[zt]? = some (totB E.led.d E.led.p E.led.b) from by rw [hw2,hzt]; exact heap_alloc_last w1 _)
 have HK2 :=Hd (show Z00 w w2 from by rw [hw2]; exact HK1.out.alloc _)
 have Z2 :=Hd (show w2.heap[z]? = some (snB 0 0 (.slice none 0 0) 0 0 0 0 (.slice none 0 0) (.slice none 0 0) (.slice none 0 0) (.slice none 0 0) (.slice none 0 0) 0 0 0) from by rw [hw2]; exact Z02 Z1.out _)
 have HZW :=Hd (show z+1≤w2.heap.size from Z0a Z2.out)
 have HW2 :=Hd hw2
 clear hzt hw2 hzz
 go_upto_region 4 with (fail)
 refine Z0l ?_
 intro wx hwx
 obtain rfl:w2=wx :=HW2.out.trans hwx.symm
 clear hwx
 rw [← HZT.out]
 have HS :=Hd (fun (w':World) (hk:Z00 w2 w') =>(⟨HC.out _ (HK2.out.keep hk),Z0b (hk.at T2.out fun h =>h)⟩:(w'.cell? ⟨e,0,none⟩=some (.pointer (some ⟨p.rg,0,none⟩))∧w'.cell? ⟨e,21,none⟩=some (.pointer (some ⟨p.ck,0,none⟩))∧w'.cell? ⟨e,22,none⟩=some (.pointer (some ⟨p.ld,0,none⟩))∧w'.cell? ⟨e,23,none⟩=some (.pointer (some ⟨p.bo,0,none⟩))∧w'.cell? ⟨e,24,none⟩=some lv∧w'.cell? ⟨e,25,none⟩=some (.pointer (some ⟨p.cu,0,none⟩))∧w'.cell? ⟨e,26,none⟩=some (.pointer (some ⟨p.me,0,none⟩))∧w'.cell? ⟨e,27,none⟩=some (.pointer (some ⟨p.la,0,none⟩))∧w'.cell? ⟨e,28,none⟩=some (.pointer (some ⟨p.pe,0,none⟩))∧w'.cell? ⟨e,29,none⟩=some (.pointer (some ⟨p.mg,0,none⟩))∧w'.cell? ⟨e,30,none⟩=some (.pointer (some ⟨p.pr,0,none⟩)))∧w'.cell? ⟨zt,0,none⟩=some (.int .u64 E.led.d)∧w'.cell? ⟨zt,1,none⟩=some (.int .u64 E.led.p)∧w'.cell? ⟨zt,2,none⟩=some (.int .u64 E.led.b)))
 refine Z07 (S :=(fun w' =>(w'.cell? ⟨e,0,none⟩=some (.pointer (some ⟨p.rg,0,none⟩))∧w'.cell? ⟨e,21,none⟩=some (.pointer (some ⟨p.ck,0,none⟩))∧w'.cell? ⟨e,22,none⟩=some (.pointer (some ⟨p.ld,0,none⟩))∧w'.cell? ⟨e,23,none⟩=some (.pointer (some ⟨p.bo,0,none⟩))∧w'.cell? ⟨e,24,none⟩=some lv∧w'.cell? ⟨e,25,none⟩=some (.pointer (some ⟨p.cu,0,none⟩))∧w'.cell? ⟨e,26,none⟩=some (.pointer (some ⟨p.me,0,none⟩))∧w'.cell? ⟨e,27,none⟩=some (.pointer (some ⟨p.la,0,none⟩))∧w'.cell? ⟨e,28,none⟩=some (.pointer (some ⟨p.pe,0,none⟩))∧w'.cell? ⟨e,29,none⟩=some (.pointer (some ⟨p.mg,0,none⟩))∧w'.cell? ⟨e,30,none⟩=some (.pointer (some ⟨p.pr,0,none⟩)))∧w'.cell? ⟨zt,0,none⟩=some (.int .u64 E.led.d)∧w'.cell? ⟨zt,1,none⟩=some (.int .u64 E.led.p)∧w'.cell? ⟨zt,2,none⟩=some (.int .u64 E.led.b))) (by kernel_rfl) (by exact HS.out _ (Mods.refl _ w2).drew) (fun wc hD hH0 =>?_)
 have HK :=Hd (show Z00 w2 wc from hD.mods)
 clear hD
 refine tk 0 rfl hH0 ?_
 try go_frame
 refine tk 1 rfl hH0 ?_
 try go_frame
 refine tk 2 rfl hH0 ?_
 try go_frame
 refine tk 3 rfl hH0 ?_
 try go_frame
 refine tk 5 rfl hH0 ?_
 try go_frame
 refine tk 6 rfl hH0 ?_
 try go_frame
 refine tk 7 rfl hH0 ?_
 try go_frame
 refine tk 8 rfl hH0 ?_
 try go_frame
 refine tk 10 rfl hH0 ?_
 try go_frame
 refine tk 11 rfl hH0 ?_
 try go_frame
 refine tk 12 rfl hH0 ?_
 try go_frame
 refine tk 13 rfl hH0 ?_
 try go_frame
 refine tk 14 rfl hH0 ?_
 try go_frame
 refine tk 16 rfl hH0 ?_
 try go_frame
 refine tk 17 rfl hH0 ?_
 try go_frame
 refine tk 18 rfl hH0 ?_
 try go_frame
 refine tk 19 rfl hH0 ?_
 try go_frame
 refine tk 20 rfl hH0 ?_
 try go_frame
 refine tk 21 rfl hH0 ?_
 try go_frame
 refine tk 22 rfl hH0 ?_
 try go_frame
 refine tk 23 rfl hH0 ?_
 try go_frame
 refine tk 24 rfl hH0 ?_
 try go_frame
 refine tk 25 rfl hH0 ?_
 try go_frame
 refine tk 26 rfl hH0 ?_
 try go_frame
 refine tk 28 rfl hH0 ?_
 try go_frame
 refine tk 29 rfl hH0 ?_
 try go_frame
 refine tk 30 rfl hH0 ?_
 try go_frame
 refine tk 31 rfl hH0 ?_
 try go_frame
 refine tk 33 rfl hH0 ?_
 try go_frame
 refine tk 34 rfl hH0 ?_
 try go_frame
 refine tk 35 rfl hH0 ?_
 try go_frame
 refine tk 36 rfl hH0 ?_
 try go_frame
 refine tk 38 rfl hH0 ?_
 try go_frame
 refine tk 39 rfl hH0 ?_
 try go_frame
 refine tk 40 rfl hH0 ?_
 try go_frame
 refine tk 41 rfl hH0 ?_
 try go_frame
 refine tk 43 rfl hH0 ?_
 try go_frame
 refine tk 44 rfl hH0 ?_
 try go_frame
 refine tk 45 rfl hH0 ?_
 try go_frame
 refine tk 46 rfl hH0 ?_
 try go_frame
 refine tk 48 rfl hH0 ?_
 try go_frame
 refine tk 49 rfl hH0 ?_
 try go_frame
 refine tk 50 rfl hH0 ?_
 try go_frame
 refine tk 51 rfl hH0 ?_
 try go_frame
 refine tk 53 rfl hH0 ?_
 try go_frame
 refine tk 54 rfl hH0 ?_
 try go_frame
 refine tk 55 rfl hH0 ?_
 try go_frame
 refine tk 56 rfl hH0 ?_
 try go_frame
 refine tk 58 rfl hH0 ?_
 try go_frame
 refine tk 59 rfl hH0 ?_
 try go_frame
 refine tk 60 rfl hH0 ?_
 try go_frame
 refine tk 61 rfl hH0 ?_
 try go_frame
 refine tk 63 rfl hH0 ?_
 try go_frame
 refine tk 64 rfl hH0 ?_
 try go_frame
 refine tk 65 rfl hH0 ?_
 try go_frame
 refine tk 66 rfl hH0 ?_
 try go_frame
 refine rdy [4] (Z04 rfl (fun K hK =>?_) AllReadyH.nil)
 go_simp
 refine (HBL.out _ (HK2.out.keep HK.out)).mono ?_
 rintro r wc ⟨rfl,hwe⟩
 have hk :=Mods.of_eq (S :=fun _ =>False) hwe
 clear hwe
 go_wp2_with fail
 refine hK.out _ _ (HS.out _ (HK.out.keep hk)) (fun hH1 =>?_)
 clear hK K hH0
 try go_frame
 replace HK :=Hd (HK.out.keep hk)
 clear hk
 refine rdy [9] (Z04 rfl (fun K hK =>?_) AllReadyH.nil)
 go_simp
 refine (HEP.out _ (HK2.out.keep HK.out)).mono ?_
 rintro r wc ⟨rfl,hk⟩
 go_wp2_with fail
 refine hK.out _ _ (HS.out _ (HK.out.keep hk)) (fun hH2 =>?_)
 clear hK K hH1
 try go_frame
 replace HK :=Hd (HK.out.keep hk)
 clear hk
 refine rdy [15] (Z04 rfl (fun K hK =>?_) AllReadyH.nil)
 go_simp
 refine (HALL.out _ (HK2.out.keep HK.out)).mono ?_
 rintro r wc ⟨va1,rfl,hro,hk⟩
 obtain ⟨a1,c1,rfl⟩ :=Z0c hro
 have hro2 :=own_base hro (show z+1≤_ from Nat.le_trans HZW.out HK.out.size)
 go_wp2_with fail
 refine hK.out _ _ (HS.out _ (HK.out.keep hk)) (fun hH3 =>?_)
 clear hK K hH2
 try go_frame
 replace HK :=Hd (HK.out.keep hk)
 have R1 :=Hd hro2
 clear hk hro hro2
 refine rdy [27] (Z04 rfl (fun K hK =>?_) AllReadyH.nil)
 go_simp
 refine (HAC.out _ (HK2.out.keep HK.out)).mono ?_
 rintro r wc ⟨rfl,hwe⟩
 have hk :=Mods.of_eq (S :=fun _ =>False) hwe
 clear hwe
 go_wp2_with fail
 refine hK.out _ _ (HS.out _ (HK.out.keep hk)) (fun hH4 =>?_)
 clear hK K hH3
 try go_frame
 replace HK :=Hd (HK.out.keep hk)
 replace R1 :=Hd (hk.owns R1.out fun _ _ h =>h)
 clear hk
 refine rdy [32] (Z04 rfl (fun K hK =>?_) AllReadyH.nil)
 go_simp
 refine (HPE.out _ (HK2.out.keep HK.out)).mono ?_
 rintro r wc ⟨va2,rfl,hro,hk⟩
 obtain ⟨a2,c2,rfl⟩ :=Z0c hro
 have hro2 :=own_base hro (show z+1≤_ from Nat.le_trans HZW.out HK.out.size)
 go_wp2_with fail
 refine hK.out _ _ (HS.out _ (HK.out.keep hk)) (fun hH5 =>?_)
 clear hK K hH4
 try go_frame
 replace HK :=Hd (HK.out.keep hk)
 replace R1 :=Hd (hk.owns R1.out fun _ _ h =>h)
 have R2 :=Hd hro2
 clear hk hro hro2
 refine rdy [37] (Z04 rfl (fun K hK =>?_) AllReadyH.nil)
 go_simp
 refine (HFO.out _ (HK2.out.keep HK.out)).mono ?_
 rintro r wc ⟨va3,rfl,hro,hk⟩
 simp only [if_true] at hro
 obtain ⟨a3,c3,rfl⟩ :=Z0c hro
 have hro2 :=own_base hro (show z+1≤_ from Nat.le_trans HZW.out HK.out.size)
 go_wp2_with fail
 refine hK.out _ _ (HS.out _ (HK.out.keep hk)) (fun hH6 =>?_)
 clear hK K hH5
 try go_frame
 replace HK :=Hd (HK.out.keep hk)
 replace R1 :=Hd (hk.owns R1.out fun _ _ h =>h)
 replace R2 :=Hd (hk.owns R2.out fun _ _ h =>h)
 have R3 :=Hd hro2
 clear hk hro hro2
 refine rdy [42] (Z04 rfl (fun K hK =>?_) AllReadyH.nil)
 go_simp
 refine (HVO.out _ (HK2.out.keep HK.out)).mono ?_
 rintro r wc ⟨va4,rfl,hro,hk⟩
 simp only [if_false,Int.reduceEq] at hro
 obtain ⟨a4,c4,rfl⟩ :=Z0c hro
 have hro2 :=own_base hro (show z+1≤_ from Nat.le_trans HZW.out HK.out.size)
 go_wp2_with fail
 refine hK.out _ _ (HS.out _ (HK.out.keep hk)) (fun hH7 =>?_)
 clear hK K hH6
 try go_frame
 replace HK :=Hd (HK.out.keep hk)
 replace R1 :=Hd (hk.owns R1.out fun _ _ h =>h)
 replace R2 :=Hd (hk.owns R2.out fun _ _ h =>h)
 replace R3 :=Hd (hk.owns R3.out fun _ _ h =>h)
 have R4 :=Hd hro2
 clear hk hro hro2
 refine rdy [47] (Z04 rfl (fun K hK =>?_) AllReadyH.nil)
 go_simp
 refine (HMG.out _ (HK2.out.keep HK.out)).mono ?_
 rintro r wc ⟨va5,rfl,hro,hk⟩
 obtain ⟨a5,c5,rfl⟩ :=Z0c hro
 have hro2 :=own_base hro (show z+1≤_ from Nat.le_trans HZW.out HK.out.size)
 go_wp2_with fail
 refine hK.out _ _ (HS.out _ (HK.out.keep hk)) (fun hH8 =>?_)
 clear hK K hH7
 try go_frame
 replace HK :=Hd (HK.out.keep hk)
 replace R1 :=Hd (hk.owns R1.out fun _ _ h =>h)
 replace R2 :=Hd (hk.owns R2.out fun _ _ h =>h)
 replace R3 :=Hd (hk.owns R3.out fun _ _ h =>h)
 replace R4 :=Hd (hk.owns R4.out fun _ _ h =>h)
 have R5 :=Hd hro2
 clear hk hro hro2
 refine rdy [52] (Z04 rfl (fun K hK =>?_) AllReadyH.nil)
 go_simp
 refine (HPR.out _ (HK2.out.keep HK.out)).mono ?_
 rintro r wc ⟨va6,rfl,hro,hk⟩
 obtain ⟨a6,c6,rfl⟩ :=Z0c hro
 have hro2 :=own_base hro (show z+1≤_ from Nat.le_trans HZW.out HK.out.size)
 go_wp2_with fail
 refine hK.out _ _ (HS.out _ (HK.out.keep hk)) (fun hH9 =>?_)
 clear hK K hH8
 try go_frame
 replace HK :=Hd (HK.out.keep hk)
 replace R1 :=Hd (hk.owns R1.out fun _ _ h =>h)
 replace R2 :=Hd (hk.owns R2.out fun _ _ h =>h)
 replace R3 :=Hd (hk.owns R3.out fun _ _ h =>h)
 replace R4 :=Hd (hk.owns R4.out fun _ _ h =>h)
 replace R5 :=Hd (hk.owns R5.out fun _ _ h =>h)
 have R6 :=Hd hro2
 clear hk hro hro2
 refine rdy [57] (Z04 rfl (fun K hK =>?_) AllReadyH.nil)
 go_simp
 refine (HCU.out _ (HK2.out.keep HK.out)).mono ?_
 rintro r wc ⟨rfl,hwe⟩
 have hk :=Mods.of_eq (S :=fun _ =>False) hwe
 clear hwe
 go_wp2_with fail
 refine hK.out _ _ (HS.out _ (HK.out.keep hk)) (fun hH10 =>?_)
 clear hK K hH9
 try go_frame
 replace HK :=Hd (HK.out.keep hk)
 replace R1 :=Hd (hk.owns R1.out fun _ _ h =>h)
 replace R2 :=Hd (hk.owns R2.out fun _ _ h =>h)
 replace R3 :=Hd (hk.owns R3.out fun _ _ h =>h)
 replace R4 :=Hd (hk.owns R4.out fun _ _ h =>h)
 replace R5 :=Hd (hk.owns R5.out fun _ _ h =>h)
 replace R6 :=Hd (hk.owns R6.out fun _ _ h =>h)
 clear hk
 refine rdy [62] (Z04 rfl (fun K hK =>?_) AllReadyH.nil)
 go_simp
 refine (HCA.out _ (HK2.out.keep HK.out)).mono ?_
 rintro r wc ⟨rfl,hk⟩
 go_wp2_with fail
 refine hK.out _ _ (HS.out _ (HK.out.keep hk)) (fun hH11 =>?_)
 clear hK K hH10
 try go_frame
 replace HK :=Hd (HK.out.keep hk)
 replace R1 :=Hd (hk.owns R1.out fun _ _ h =>h)
 replace R2 :=Hd (hk.owns R2.out fun _ _ h =>h)
 replace R3 :=Hd (hk.owns R3.out fun _ _ h =>h)
 replace R4 :=Hd (hk.owns R4.out fun _ _ h =>h)
 replace R5 :=Hd (hk.owns R5.out fun _ _ h =>h)
 replace R6 :=Hd (hk.owns R6.out fun _ _ h =>h)
 clear hk
 refine rdy [67] (Z04 rfl (fun K hK =>?_) AllReadyH.nil)
 go_simp
 refine (HBK.out _ (HK2.out.keep HK.out)).mono ?_
 rintro r wc ⟨⟨un,rfl⟩,hwe⟩
 have hk :=Mods.of_eq (S :=fun _ =>False) hwe
 clear hwe
 go_wp2_with fail
 refine hK.out _ _ (HS.out _ (HK.out.keep hk)) (fun hH12 =>?_)
 clear hK K hH11
 try go_frame
 replace HK :=Hd (HK.out.keep hk)
 replace R1 :=Hd (hk.owns R1.out fun _ _ h =>h)
 replace R2 :=Hd (hk.owns R2.out fun _ _ h =>h)
 replace R3 :=Hd (hk.owns R3.out fun _ _ h =>h)
 replace R4 :=Hd (hk.owns R4.out fun _ _ h =>h)
 replace R5 :=Hd (hk.owns R5.out fun _ _ h =>h)
 replace R6 :=Hd (hk.owns R6.out fun _ _ h =>h)
 clear hk
 refine tk 68 rfl hH12 ?_
 try go_frame
 refine rdy [69] (Z04 rfl (fun K hK =>?_) AllReadyH.nil)
 refine Z3g (by rfl) (.tmp 2) (.tmp 80) rfl z (snC E.b (E.b / c 13) (.slice a1 E.vs.length c1) E.led.d E.led.p E.led.b (actS E.vs) (.slice a2 E.pe.length c2) (.slice a3 E.fo.length c3) (.slice a4 E.vo.length c4) (.slice a5 E.mg.length c5) (.slice a6 E.pr.length c6) E.cur E.car un) (snC 0 0 (.slice none 0 0) 0 0 0 0 (.slice none 0 0) (.slice none 0 0) (.slice none 0 0) (.slice none 0 0) (.slice none 0 0) 0 0 0) (by rfl) (by rfl) (HK.out.at Z2.out fun h =>h) rfl rfl (by rw [← Array.all_toList]; rfl) ?_
 intro wc hz hm
 have hkS :=HS.out _ HK.out
 obtain ⟨⟨s0,s1,s2,s3,s4,s5,s6,s7,s8,s9,s10⟩,s11,s12,s13⟩ :=hkS
 refine hK.out _ _ (⟨⟨hm.cell s0 HEZ.out,hm.cell s1 HEZ.out,hm.cell s2 HEZ.out,hm.cell s3 HEZ.out,hm.cell s4 HEZ.out,hm.cell s5 HEZ.out,hm.cell s6 HEZ.out,hm.cell s7 HEZ.out,hm.cell s8 HEZ.out,hm.cell s9 HEZ.out,hm.cell s10 HEZ.out⟩,hm.cell s11 HTZ.out,hm.cell s12 HTZ.out,hm.cell s13 HTZ.out⟩) (fun hH13 =>?_)
 clear hK K hH12
 try go_frame
 have HF :=Hd hz
 have HM :=Hd hm
 have HKF :=Hd ((HK2.out.keep HK.out).seq hm fun i hi h =>by have :=HZ.out; omega)
 replace R1 :=Hd (hm.owns R1.out fun k hk h =>by have :=(R1.out.lt k hk).1; omega)
 clear R2
 replace R3 :=Hd (hm.owns R3.out fun k hk h =>by have :=(R3.out.lt k hk).1; omega)
 replace R4 :=Hd (hm.owns R4.out fun k hk h =>by have :=(R4.out.lt k hk).1; omega)
 clear R5
 clear R6
 clear hz hm s0 s1 s2 s3 s4 s5 s6 s7 s8 s9 s10 s11 s12 s13
 refine wpAnyH_done (by kernel_rfl) ?_ _
 have hS :=Hd hH13
 clear hH13
 clear hS
 go_wp2
 refine bodyPost_ret (v := .agg (snC E.b (E.b / c 13) (.slice a1 E.vs.length c1) E.led.d E.led.p E.led.b (actS E.vs) (.slice a2 E.pe.length c2) (.slice a3 E.fo.length c3) (.slice a4 E.vo.length c4) (.slice a5 E.mg.length c5) (.slice a6 E.pr.length c6) E.cur E.car un)) (results_cell_row Tryz.results12 _ _ z 41 (snC E.b (E.b / c 13) (.slice a1 E.vs.length c1) E.led.d E.led.p E.led.b (actS E.vs) (.slice a2 E.pe.length c2) (.slice a3 E.fo.length c3) (.slice a4 E.vo.length c4) (.slice a5 E.mg.length c5) (.slice a6 E.pr.length c6) E.cur E.car un) (0,0) _ rfl HF.out Tryz.underlying41 rfl Z96) rfl ?_
 exact ⟨a1,c1,a2,c2,a3,c3,a4,c4,a5,_,c5,a6,_,c6,un,rfl,own_base R1.out (by have :=HW1.out; omega),own_base R3.out (by have :=HW1.out; omega),own_base R4.out (by have :=HW1.out; omega),HKF.out⟩
end Go.Proofs.YtecapfmmoejikaaGreat
