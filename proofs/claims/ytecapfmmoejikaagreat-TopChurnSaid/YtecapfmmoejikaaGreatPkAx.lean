/- A part of the proofs of the top laws: Vd MrgA MrgB MrgC PenD. -/
import Derived.Deep.MidRow
import Derived.Test.YtecapfmmoejikaaGreatPkAw
import Derived.Test.YtecapfmmoejikaaGreatPkAp
set_option maxRecDepth 4000
set_option maxHeartbeats 8000000
namespace Go.Proofs.YtecapfmmoejikaaGreat
open Go.RowKit Go.Eg
theorem Z4n:(Tryz.prog.info? 49).map (·.size)=some 7 :=by kernel_rfl
theorem Z2l {w:World} {b:Nat} {cs:Array Value} {t:TypeId} {fr:Nat × Nat} (h:w.heap[b]? = some (.cells cs t fr)):w.rangeAt b 0 cs.toList :=by
 intro j v hj
 have h1 :=cell_of_row w b (0+j) cs t fr h
 rw [h1,Nat.zero_add]
 simpa using hj
theorem Zbz {w:World} {g:Nat} {u v:Vd} (h:w.heap[g]? = some (vdB u)):(w.setRow g v.cells).heap[g]? = some (vdB v) :=setRow_heap w g _ _ _ _ h
theorem Z13 {ops:Array Oper} {S:World→Prop} {o:Oper} {a:Act} (hw:Region.wanted o (yielded ops a.tmps)=true) (x:Operand) (ho:o.op = .load 49 x)
 (g:Nat) (hx:a.eval x = .pointer (some ⟨g,0,none⟩)) (v:Vd) (hS:∀ w,S w→w.heap[g]? = some (vdB v)):YieldsIf Tryz.prog ops S o v.val a :=
 yieldsIf_load_mid hw 49 x ho g 0 hx v.cells.toList _ (fun w h =>Z2l (hS w h)) Tryz.underlying49 rfl Z4n
theorem Z0d {ops:Array Oper} {o:Oper} {a:Act} {w:World} {K:Act→World→Prop} {Q:Exit→Act→World→Prop} {E:Prop} (hw:Region.wanted o (yielded ops a.tmps)=true) (x y:Operand) (ho:o.op = .store 49 x y)
 (g:Nat) (v u:Vd) (hx:a.eval x = .pointer (some ⟨g,0,none⟩)) (hy:a.eval y=v.val) (hg:w.heap[g]? = some (vdB u))
 (h:∀ w',w'.heap[g]? = some (vdB v)→Mods (fun i =>i=g) w w'→K (a.put o.dst undef) w') :
 if Region.wanted o (yielded ops a.tmps)=true then Oper.wp Tryz.prog o a w K Q else E :=by
 rw [if_pos hw]
 exact wp_store_row 49 x y ho g v.cells hx hy _ u.cells hg Z4n rfl (by rw [← Array.all_toList]; rfl) (h _ (Zbz hg) ((Mods.refl _ w).setRow g _ fun _ =>rfl))
theorem Z0x {ops:Array Oper} {rest:List Oper} {o:Oper} {a:Act} {w:World} {Q:Exit→Act→World→Prop} (hw:Region.wanted o (yielded ops a.tmps)=true) (x:Operand) (ho:o.op = .load 49 x)
 (g:Nat) (hx:a.eval x = .pointer (some ⟨g,0,none⟩)) (v:Vd) (hg:w.heap[g]? = some (vdB v))
 (h:wpList Tryz.prog ops Q rest (a.put o.dst v.val) w):wpList Tryz.prog ops Q (o :: rest) a w :=
 Z03 hw 49 x ho g hx 49 v.cells (0,0) _ Tryz.underlying49 rfl Z4n hg h
theorem Z8q {ops:Array Oper} {rest:List Oper} {o:Oper} {a:Act} {w:World} {Q:Exit→Act→World→Prop} (hw:Region.wanted o (yielded ops a.tmps)=true) (x y:Operand) (ho:o.op = .store 49 x y)
 (g:Nat) (v u:Vd) (hx:a.eval x = .pointer (some ⟨g,0,none⟩)) (hy:a.eval y=v.val) (hg:w.heap[g]? = some (vdB u))
 (h:∀ w',w'.heap[g]? = some (vdB v)→Mods (fun i =>i=g) w w'→wpList Tryz.prog ops Q rest (a.put o.dst undef) w'):wpList Tryz.prog ops Q (o :: rest) a w :=
 Z11 hw 49 x y ho g v.cells hx hy _ u.cells Z4n rfl rfl hg (h _ (Zbz hg) ((Mods.refl _ w).setRow g _ fun _ =>rfl))
theorem Znv (s d:Vd) (c:Nat→Int) (w:World):Calls Tryz.prog 220 #[s.val,d.val,cfgV c] w fun r w' =>r = .returned (.bool (decide (s.st=2∧d.st=2)))∧Z00 w w' :=by
 rw [show cfgV c = .agg (cfgC c) from rfl]
 generalize cfgC c=cs
 have heq:∀ w,(Op.equalIn 10000 92 (.agg #[.int .i64 s.st, .int .i64 d.st]) (.agg #[.int .i64 2, .int .i64 2])).run Tryz.prog w = .ok (s.st == 2 && d.st == 2) w :=fun w =>Z8h w 9998 Tryz.underlying92 Tryz.underlying3 (by kernel_rfl) _ _ _ _
 have hb:(s.st == 2 && d.st == 2)=decide (s.st=2∧d.st=2) :=by rw [Bool.eq_iff_iff]; simp
 rw [hb] at heq
 generalize decide (s.st=2∧d.st=2)=r at *
 clear hb
 go_enter Tryz.func220,Tryz.ntmps220
 go_wp2
 go_ret
 exact ⟨rfl,(((Mods.refl _ w).alloc _).alloc _).alloc _⟩
theorem Znl (s d:Vd) (c:Nat→Int) (w:World):Calls Tryz.prog 221 #[s.val,d.val,cfgV c] w fun r w' =>r = .returned (.bool (!s.sl && !d.sl))∧Z00 w w' :=by
 rw [show cfgV c = .agg (cfgC c) from rfl]
 generalize cfgC c=cs
 obtain ⟨sb,ss,sl,s3,s4,s5,s6⟩ :=s
 obtain ⟨db,ds,dl,d3,d4,d5,d6⟩ :=d
 cases sl <;> cases dl
 all_goals
  go_enter Tryz.func221,Tryz.ntmps221
  go_wp2
  go_ret
  exact ⟨rfl,(((Mods.refl _ w).alloc _).alloc _).alloc _⟩
theorem Zmy (s d:Vd) (hs:s.ok) (hd:d.ok) (c:Nat→Int) (w:World):Calls Tryz.prog 222 #[s.val,d.val,cfgV c] w fun r w' =>r = .returned (.bool (decide (s.bal+d.bal≤maxU∧s.bal+d.bal≤c 6)))∧Z00 w w' :=by
 have h6:(cfgC c)[6]? = some (.int .u64 (c 6)) :=rfl
 rw [show cfgV c = .agg (cfgC c) from rfl]
 generalize cfgC c=cs at *
 obtain ⟨V,hV⟩:∃ V,V=decide (s.bal+d.bal≤maxU∧s.bal+d.bal≤c 6) :=⟨_,rfl⟩
 rw [← hV]
 have HA :=Hd (fun (w:World) =>Z1r (.slice (some ⟨w.heap.size,0,none⟩) 2 2) 2 (fun j =>if j=0 then s.bal else d.bal) _ (Zk8 w s.bal d.bal 22 ⟨hs.b0,hs.b1⟩ ⟨hd.b0,hd.b1⟩) (by omega))
 unfold addV Z3p at HA
 rw [show sumF (fun j =>if j=0 then s.bal else d.bal) 2=s.bal+d.bal by simp [sumF]] at HA
 have HV :=Hd hV
 clear hV hs hd
 generalize s.bal+d.bal=S at *
 by_cases hle:S≤maxU
 ·rw [if_pos hle,decide_eq_true hle] at HA
  have HV2 :=Hd (show V=decide (S≤c 6) by rw [HV.out]; simp [hle])
  clear hle
  go_enter Tryz.func222,Tryz.ntmps222
  go_upto_region 1 with fail
  refine Z0l ?_
  intro wz hwz
  obtain ⟨bs,bd,bc,_,kz⟩ :=Z48 w (vdB s) (vdB d) (.cells cs 24 (0,0))
  rw [← (show wz=_ from hwz)] at bs bd bc kz
  have cs0 :=(Z0o bs).1
  have cd0 :=(Z0o bd).1
  have cc:wz.cell? ⟨w.heap.size+1+1,6,none⟩=some (.int .u64 (c 6)) :=by rw [cell_of_row _ _ _ _ _ _ bc]; exact h6
  have ccA:∀ o,(wz.alloc o).cell? ⟨w.heap.size+1+1,6,none⟩=some (.int .u64 (c 6)) :=fun o =>((Mods.refl (fun _ =>False) wz).alloc o).cell cc fun h =>h
  have KZ :=Hd kz
  clear hwz bs bd bc kz
  go_wp2_with fail
  refine (HA.out wz).mono ?_
  rintro r w1 ⟨rfl,rfl⟩
  go_wp2
  go_ret
  exact ⟨by rw [HV2.out]; rfl,KZ.out.alloc _⟩
 ·rw [if_neg hle,decide_eq_false hle] at HA
  have HV3 :=Hd (show V=false by rw [HV.out]; simp [hle])
  clear hle
  go_enter Tryz.func222,Tryz.ntmps222
  go_upto_region 1 with fail
  refine Z0l ?_
  intro wz hwz
  obtain ⟨bs,bd,bc,_,kz⟩ :=Z48 w (vdB s) (vdB d) (.cells cs 24 (0,0))
  rw [← (show wz=_ from hwz)] at bs bd bc kz
  have cs0 :=(Z0o bs).1
  have cd0 :=(Z0o bd).1
  have cc:wz.cell? ⟨w.heap.size+1+1,6,none⟩=some (.int .u64 (c 6)) :=by rw [cell_of_row _ _ _ _ _ _ bc]; exact h6
  have ccA:∀ o,(wz.alloc o).cell? ⟨w.heap.size+1+1,6,none⟩=some (.int .u64 (c 6)) :=fun o =>((Mods.refl (fun _ =>False) wz).alloc o).cell cc fun h =>h
  have KZ :=Hd kz
  clear hwz bs bd bc kz
  go_wp2_with fail
  refine (HA.out wz).mono ?_
  rintro r w1 ⟨rfl,rfl⟩
  go_wp2
  go_ret
  exact ⟨by rw [HV3.out]; rfl,KZ.out.alloc _⟩
theorem Zgp (w:World):Calls Tryz.prog 194 #[] w fun r w' =>r = .returned (.slice (some ⟨w.heap.size,0,none⟩) 3 3)∧w'=w.alloc (.cells #[.func (Fn.func 220) #[] #[], .int .i64 8, .func (Fn.func 221) #[] #[], .int .i64 9, .func (Fn.func 222) #[] #[], .int .i64 3] 278) :=by
 go_enter Tryz.func194,Tryz.ntmps194
 go_wp2
 go_ret
 exact ⟨rfl,rfl⟩
end Go.Proofs.YtecapfmmoejikaaGreat
namespace Go.Eg
def mrgC (mb:Int) (s d:Vd):Int :=if (decide (s.st=2∧d.st=2))=false then 8 else if (!s.sl && !d.sl)=false then 9 else if (decide (s.bal+d.bal≤maxU∧s.bal+d.bal≤mb))=false then 3 else 0
end Go.Eg
namespace Go.Proofs.YtecapfmmoejikaaGreat
open Go.RowKit Go.Eg
abbrev chkB:Obj := .cells #[.func (Fn.func 220) #[] #[], .int .i64 8, .func (Fn.func 221) #[] #[], .int .i64 9, .func (Fn.func 222) #[] #[], .int .i64 3] 278
theorem Zix {w:World} {b:Nat} (h:w.heap[b]? = some chkB):w.cell? ⟨b,0,none⟩=some (.func (Fn.func 220) #[] #[])∧w.cell? ⟨b,1,none⟩=some (.int .i64 8)∧w.cell? ⟨b,2,none⟩=some (.func (Fn.func 221) #[] #[])∧w.cell? ⟨b,3,none⟩=some (.int .i64 9)∧w.cell? ⟨b,4,none⟩=some (.func (Fn.func 222) #[] #[])∧w.cell? ⟨b,5,none⟩=some (.int .i64 3) :=by
 unfold World.cell?
 rw [h]
 exact ⟨rfl,rfl,rfl,rfl,rfl,rfl⟩
theorem Z7u (s d:Vd) (hs:s.ok) (hd:d.ok) (c:Nat→Int) (w:World):Calls Tryz.prog 140 #[s.val,d.val,cfgV c] w fun r w' =>r = .returned (.int .i64 (mrgC (c 6) s d))∧Z00 w w' :=by
 have H1 :=Hd (fun w =>Znv s d c w)
 have H2 :=Hd (fun w =>Znl s d c w)
 have H3 :=Hd (fun w =>Zmy s d hs hd c w)
 obtain ⟨X,hX⟩:∃ X,X=mrgC (c 6) s d :=⟨_,rfl⟩
 rw [← hX]
 unfold mrgC at hX
 generalize decide (s.st=2∧d.st=2)=b1 at *
 generalize (!s.sl && !d.sl)=b2 at *
 generalize decide (s.bal+d.bal≤maxU∧s.bal+d.bal≤c 6)=b3 at *
 have HX :=Hd hX
 clear hX hs hd
 have hsz:(cfgC c).size=20 :=rfl
 rw [show cfgV c = .agg (cfgC c) from rfl] at H1 H2 H3 ⊢
 generalize cfgC c=cs at *
 have hs20:(Tryz.prog.info? 24).map (·.size)=some cs.size :=by rw [Z0m,hsz]
 go_enter Tryz.func140,Tryz.ntmps140
 go_upto_region 1 with fail
 refine Z0l ?_
 intro wz hwz
 obtain ⟨bs,bd,bc,_,kz⟩ :=Z48 w (vdB s) (vdB d) (.cells cs 24 (0,0))
 rw [← (show wz=_ from hwz)] at bs bd bc kz
 have KZ :=Hd kz
 have BS :=Hd bs
 have BD :=Hd bd
 have BC :=Hd bc
 clear hwz bs bd bc kz
 go_wp2_with fail
 refine (Zgp _).mono ?_
 rintro r w1 ⟨rfl,hw1⟩
 have hkk :=Z0f hw1
 have BK :=Hd (show w1.heap[wz.heap.size]? = some chkB from Z0g hw1)
 have HK1 :=Hd hkk
 clear hw1 hkk
 go_wp2
 go_loopw [11] (fun i wr =>Z00 w1 wr∧(i = .int .i64 0∨(i = .int .i64 1∧b1=true)∨(i = .int .i64 2∧b1=true∧b2=true)∨(i = .int .i64 3∧b1=true∧b2=true∧b3=true))) (fun i _ =>3 - (intOf i).toNat)
 case atStart =>exact ⟨Mods.refl _ _, .inl rfl⟩
 case round =>
  obtain ⟨hk,hi⟩ :=hrel
  have HK :=Hd hk
  have CS :=Hd ((HK1.out.keep hk).at BS.out fun h =>h)
  have CD :=Hd ((HK1.out.keep hk).at BD.out fun h =>h)
  have CC :=Hd ((HK1.out.keep hk).at BC.out fun h =>h)
  obtain ⟨k0,k1,k2,k3,k4,k5⟩ :=Zix (hk.at BK.out fun h =>h)
  clear hk
  rcases hi with rfl | ⟨rfl,rfl⟩ | ⟨rfl,rfl,rfl⟩ | ⟨rfl,rfl,rfl,rfl⟩
  ·go_wp2_with (first
    | (refine Z0x rfl _ rfl w.heap.size rfl s (Z02 CS.out _) ?_)
    | (refine Z0x rfl _ rfl (w.heap.size+1) rfl d (Z02 CD.out _) ?_)
    | (refine Z03 rfl 24 _ rfl (w.heap.size+1+1) rfl 24 cs (0,0) _ Tryz.underlying24 rfl hs20 (Z02 CC.out _) ?_))
   refine (H1.out _).mono ?_
   rintro r w2 ⟨rfl,hk2⟩
   have hc :=(Z27 (hk2.at (heap_alloc_last wr _) fun h =>h)).2
   have HK2 :=Hd (HK.out.keep (((Mods.refl _ wr).alloc _).keep hk2))
   clear hk2 k0 k1 k2 k3 k4 k5
   cases b1
   ·go_wp2
    go_ret
    exact ⟨by rw [HX.out]; rfl,KZ.out.keep (HK1.out.keep HK2.out)⟩
   ·go_wp2
    exact ⟨⟨HK2.out,by simp⟩,by simp [intOf]⟩
  ·go_wp2_with (first
    | (refine Z0x rfl _ rfl w.heap.size rfl s (Z02 CS.out _) ?_)
    | (refine Z0x rfl _ rfl (w.heap.size+1) rfl d (Z02 CD.out _) ?_)
    | (refine Z03 rfl 24 _ rfl (w.heap.size+1+1) rfl 24 cs (0,0) _ Tryz.underlying24 rfl hs20 (Z02 CC.out _) ?_))
   refine (H2.out _).mono ?_
   rintro r w2 ⟨rfl,hk2⟩
   have hc :=(Z27 (hk2.at (heap_alloc_last wr _) fun h =>h)).2
   have HK2 :=Hd (HK.out.keep (((Mods.refl _ wr).alloc _).keep hk2))
   clear hk2 k0 k1 k2 k3 k4 k5
   cases b2
   ·go_wp2
    go_ret
    exact ⟨by rw [HX.out]; rfl,KZ.out.keep (HK1.out.keep HK2.out)⟩
   ·go_wp2
    exact ⟨⟨HK2.out,by simp⟩,by simp [intOf]⟩
  ·go_wp2_with (first
    | (refine Z0x rfl _ rfl w.heap.size rfl s (Z02 CS.out _) ?_)
    | (refine Z0x rfl _ rfl (w.heap.size+1) rfl d (Z02 CD.out _) ?_)
    | (refine Z03 rfl 24 _ rfl (w.heap.size+1+1) rfl 24 cs (0,0) _ Tryz.underlying24 rfl hs20 (Z02 CC.out _) ?_))
   refine (H3.out _).mono ?_
   rintro r w2 ⟨rfl,hk2⟩
   have hc :=(Z27 (hk2.at (heap_alloc_last wr _) fun h =>h)).2
   have HK2 :=Hd (HK.out.keep (((Mods.refl _ wr).alloc _).keep hk2))
   clear hk2 k0 k1 k2 k3 k4 k5
   cases b3
   ·go_wp2
    go_ret
    exact ⟨by rw [HX.out]; rfl,KZ.out.keep (HK1.out.keep HK2.out)⟩
   ·go_wp2
    exact ⟨⟨HK2.out,by simp⟩,by simp [intOf]⟩
  ·clear k0 k1 k2 k3 k4 k5
   go_wp2
   go_ret
   exact ⟨by rw [HX.out]; rfl,KZ.out.keep (HK1.out.keep HK.out)⟩
end Go.Proofs.YtecapfmmoejikaaGreat
namespace Go.Eg
def mrgS (s:Vd):Vd := { s with bal :=0,st :=7 }
def mrgD (s d:Vd):Vd := { d with bal :=d.bal+s.bal }
theorem Zca {mb:Int} {s d:Vd} (h:mrgC mb s d=0):s.st=2∧d.st=2∧s.sl=false∧d.sl=false∧s.bal+d.bal≤maxU∧s.bal+d.bal≤mb :=by
 unfold mrgC at h
 split at h
 ·cases h
 ·split at h
  ·cases h
  ·split at h
   ·cases h
   ·rename_i h1 h2 h3
    simp at h1 h2 h3
    exact ⟨h1.1,h1.2,h2.1,h2.2,h3.1,h3.2⟩
end Go.Eg
namespace Go.Proofs.YtecapfmmoejikaaGreat
open Go.RowKit Go.Eg
theorem Zcf (s d:Vd) (hs:s.ok) (hd:d.ok) (c:Nat→Int) (w:World) (h0:mrgC (c 6) s d=0):Calls Tryz.prog 176 #[s.val,d.val,cfgV c] w fun r w' =>r = .returned (.tuple #[(mrgS s).val,(mrgD s d).val, .int .i64 0])∧Z00 w w' :=by
 have HCK :=Hd (fun w =>Z7u s d hs hd c w)
 rw [h0] at HCK
 obtain ⟨q1,q2,q3,q4,q5,q6⟩ :=Zca h0
 have hb1 :=hs.b0
 have hb2 :=hd.b0
 have HNX :=Hd (fun w =>next_any 2 6 w (by decide) (by decide))
 obtain ⟨sb,ss,sl,s3,s4,s5,s6⟩ :=s
 obtain ⟨db,ds,dl,d3,d4,d5,d6⟩ :=d
 simp only at q1 q2 q3 q4 q5 q6 hb1 hb2
 subst q1 q2 q3 q4
 have hw:IntKind.u64.wrap (db+sb)=db+sb :=uw (by omega) (by omega)
 obtain ⟨RS,hRS⟩:∃ x,x=mrgS ⟨sb,2,false,s3,s4,s5,s6⟩ :=⟨_,rfl⟩
 obtain ⟨RD,hRD⟩:∃ x,x=mrgD ⟨sb,2,false,s3,s4,s5,s6⟩ ⟨db,2,false,d3,d4,d5,d6⟩ :=⟨_,rfl⟩
 have HRS :=Hd hRS
 have HRD :=Hd hRD
 rw [← hRS,← hRD]
 have hsz:(cfgC c).size=20 :=rfl
 rw [show cfgV c = .agg (cfgC c) from rfl] at HCK ⊢
 generalize cfgC c=cs at *
 have hs20:(Tryz.prog.info? 24).map (·.size)=some cs.size :=by rw [Z0m,hsz]
 clear h0 q5 q6 hs hd hb1 hb2 hRS hRD hsz
 go_enter Tryz.func176,Tryz.ntmps176
 go_upto_region 1 with fail
 refine Z0l ?_
 intro wz hwz
 obtain ⟨bs,bd,bc,b6,b7,bz,kz⟩ :=Zfm w (vdB ⟨sb,2,false,s3,s4,s5,s6⟩) (vdB ⟨db,2,false,d3,d4,d5,d6⟩) (.cells cs 24 (0,0)) (vdB vd0) (vdB vd0)
 rw [← (show wz=_ from hwz)] at bs bd bc b6 b7 bz kz
 have KZ :=Hd kz
 have BS :=Hd bs
 have BD :=Hd bd
 have BC :=Hd bc
 have B6 :=Hd b6
 have B7 :=Hd b7
 have BZ :=Hd bz
 clear hwz bs bd bc kz b6 b7 bz
 go_wp2_with (first
  | (refine Z0x rfl _ rfl w.heap.size rfl _ BS.out ?_)
  | (refine Z0x rfl _ rfl (w.heap.size+1) rfl _ BD.out ?_)
  | (refine Z03 rfl 24 _ rfl (w.heap.size+1+1) rfl 24 cs (0,0) _ Tryz.underlying24 rfl hs20 BC.out ?_))
 refine (HCK.out _).mono ?_
 rintro r w2 ⟨rfl,hk2⟩
 have hs2 :=hk2.at BS.out fun h =>h
 have hd2 :=hk2.at BD.out fun h =>h
 obtain ⟨e0,e1, -, -, -, -, -⟩ :=Z0o hs2
 obtain ⟨f0, -, -, -, -, -, -⟩ :=Z0o hd2
 have fr1 :=Z06 hs2 0
 have fr2 :=Z06 hd2 0
 have hne:w.heap.size+1≠w.heap.size :=by omega
 obtain ⟨w3,hw3⟩:∃ x,x=(w2.setCell ⟨w.heap.size+1,0,none⟩ (.int .u64 (db+sb))).setCell ⟨w.heap.size,0,none⟩ (.int .u64 0) :=⟨_,rfl⟩
 have hd3:w3.heap[w.heap.size+1]? = some (vdB ⟨db+sb,2,false,d3,d4,d5,d6⟩) :=by
  rw [hw3]
  exact (Below.heap_setCell _ _ _ _ hne).trans (heap_setCell_same w2 (w.heap.size+1) 0 _ _ _ hd2)
 have hs3:w3.heap[w.heap.size]? = some (vdB ⟨0,2,false,s3,s4,s5,s6⟩) :=by
  rw [hw3]
  exact heap_setCell_same _ w.heap.size 0 _ _ _ ((Below.heap_setCell _ _ _ _ (Ne.symm hne)).trans hs2)
 have hm3:Mods (fun i =>w.heap.size≤i) w2 w3 :=by
  rw [hw3]
  exact ((Mods.refl _ w2).setCell _ _ fun _ =>Nat.le_succ _).setCell _ _ fun _ =>Nat.le_refl _
 have HS3 :=Hd hs3
 have HD3 :=Hd hd3
 have HM3 :=Hd (show Mods (fun i =>w.heap.size≤i) wz w3 from (hk2.weaken fun _ _ h =>h.elim).trans hm3)
 have HZ6 :=Hd (show w2.heap[w.heap.size+1+1+1]? = some (vdB vd0) from hk2.at B6.out fun h =>h)
 have HZ7 :=Hd (show w2.heap[w.heap.size+1+1+1+1]? = some (vdB vd0) from hk2.at B7.out fun h =>h)
 have HW3 :=Hd hw3
 have H36 :=Hd (show w3.heap[w.heap.size+1+1+1]? = some (vdB vd0) from by rw [hw3]; exact (Below.heap_setCell _ _ _ _ (by dsimp only; omega)).trans ((Below.heap_setCell _ _ _ _ (by dsimp only; omega)).trans HZ6.out))
 have H37 :=Hd (show w3.heap[w.heap.size+1+1+1+1]? = some (vdB vd0) from by rw [hw3]; exact (Below.heap_setCell _ _ _ _ (by dsimp only; omega)).trans ((Below.heap_setCell _ _ _ _ (by dsimp only; omega)).trans HZ7.out))
 clear hs2 hd2 hs3 hd3 hm3 hk2 hw3
 go_wp2_with fail
 rw [← HW3.out]
 refine (HNX.out _).mono ?_
 rintro r w4 ⟨rfl,hb4⟩
 rw [show Z0j 2 6=7 from by decide]
 have k4:Mods (fun i =>w.heap.size≤i) w3 w4 :=Mods.of_below hb4
 have hs4:w4.heap[w.heap.size]? = some (vdB ⟨0,2,false,s3,s4,s5,s6⟩) :=(hb4.block _ (Z0a HS3.out)).trans HS3.out
 have hd4:w4.heap[w.heap.size+1]? = some (vdB ⟨db+sb,2,false,d3,d4,d5,d6⟩) :=(hb4.block _ (Z0a HD3.out)).trans HD3.out
 have h46 :=(hb4.block _ (Z0a H36.out)).trans H36.out
 have h47 :=(hb4.block _ (Z0a H37.out)).trans H37.out
 have fr3 :=Z06 hs4 1
 have g1 :=(Z0o hs4).2.1
 have HS4 :=Hd hs4
 have HD4 :=Hd hd4
 have H46 :=Hd h46
 have H47 :=Hd h47
 have HM4 :=Hd (HM3.out.trans k4)
 clear hs4 hd4 h46 h47 hb4 k4 e0 e1 f0 fr1 fr2 hne hw
 go_wp2_with fail
 refine Z0l ?_
 intro w5 hw5
 have hs5:w5.heap[w.heap.size]? = some (vdB RS) :=by rw [hw5,HRS.out]; exact heap_setCell_same w4 w.heap.size 1 _ _ _ HS4.out
 have hd5:w5.heap[w.heap.size+1]? = some (vdB RD) :=by rw [hw5,HRD.out]; exact (Below.heap_setCell _ _ _ _ (by dsimp only; omega)).trans HD4.out
 have h56:w5.heap[w.heap.size+1+1+1]? = some (vdB vd0) :=by rw [hw5]; exact (Below.heap_setCell _ _ _ _ (by dsimp only; omega)).trans H46.out
 have h57:w5.heap[w.heap.size+1+1+1+1]? = some (vdB vd0) :=by rw [hw5]; exact (Below.heap_setCell _ _ _ _ (by dsimp only; omega)).trans H47.out
 have HM5 :=Hd (show Mods (fun i =>w.heap.size≤i) wz w5 from by rw [hw5]; exact HM4.out.setCell _ _ fun _ =>Nat.le_refl _)
 have HS5 :=Hd hs5
 have HD5 :=Hd hd5
 have H56 :=Hd h56
 have H57 :=Hd h57
 clear hw5 hs5 hd5 h56 h57 fr3 g1
 refine Z07 (S :=(fun w' =>w'.heap[w.heap.size]? = some (vdB RS)∧w'.heap[w.heap.size+1]? = some (vdB RD))) (by kernel_rfl) (by exact ⟨HS5.out,HD5.out⟩) (fun wc hD hH0 =>?_)
 have HK :=Hd (show Mods (fun i =>i=w.heap.size+1+1+1∨i=w.heap.size+1+1+1+1) w5 wc from hD.mods)
 have hq:wc.heap=w5.heap :=hD.heap
 clear hD
 have HS :=Hd (HK.out.at HS5.out (by omega))
 have HD :=Hd (HK.out.at HD5.out (by omega))
 have H6 :=Hd (show wc.heap[w.heap.size+1+1+1]? = some (vdB vd0) from by rw [hq]; exact H56.out)
 have H7 :=Hd (show wc.heap[w.heap.size+1+1+1+1]? = some (vdB vd0) from by rw [hq]; exact H57.out)
 clear hq
 refine tkb 0 rfl hH0 (Z13 (by rfl) (.tmp 3) rfl w.heap.size rfl RS (fun _ h =>h.1)) ?_
 try go_frame
 refine tkb 1 rfl hH0 (Z13 (by rfl) (.tmp 4) rfl (w.heap.size+1) rfl RD (fun _ h =>h.2)) ?_
 try go_frame
 refine rdy [2] (Z04 rfl (fun K hK =>?_) AllReadyH.nil)
 refine Z0d (by rfl) (.tmp 6) (.tmp 33) rfl (w.heap.size+1+1+1) RS vd0 (by rfl) (by rfl) H6.out ?_
 intro wc hf hm
 refine hK.out _ _ (⟨hm.at HS.out (by omega),hm.at HD.out (by omega)⟩) (fun hH1 =>?_)
 clear hK K hH0
 try go_frame
 replace HS :=Hd (hm.at HS.out (by omega))
 replace HD :=Hd (hm.at HD.out (by omega))
 replace H7 :=Hd (hm.at H7.out (by omega))
 replace HK :=Hd (HK.out.trans (hm.weaken fun _ _ h =>.inl h))
 have HF :=Hd hf
 clear hm hf H6
 refine rdy [3] (Z04 rfl (fun K hK =>?_) AllReadyH.nil)
 refine Z0d (by rfl) (.tmp 7) (.tmp 34) rfl (w.heap.size+1+1+1+1) RD vd0 (by rfl) (by rfl) H7.out ?_
 intro wc hg hm
 refine hK.out _ _ (⟨hm.at HS.out (by omega),hm.at HD.out (by omega)⟩) (fun hH2 =>?_)
 clear hK K hH1
 try go_frame
 replace HF :=Hd (hm.at HF.out (by omega))
 replace HK :=Hd (HK.out.trans (hm.weaken fun _ _ h =>.inr h))
 have HG :=Hd hg
 clear hm hg HS HD H7
 refine tk 4 rfl hH2 ?_
 try go_frame
 refine wpAnyH_done (by kernel_rfl) ?_ _
 have hS :=Hd hH2
 clear hH2
 go_wp2_with fail
 obtain ⟨p0,p1,p2,p3,p4,p5,p6⟩ :=Z0o HF.out
 obtain ⟨r0,r1,r2,r3,r4,r5,r6⟩ :=Z0o HG.out
 exact bodyPost_ret (v := .tuple #[RS.val,RD.val, .int .i64 0]) (by simp [results,Tryz.results176,go_sem,p0,p1,p2,p3,p4,p5,p6,r0,r1,r2,r3,r4,r5,r6]) rfl ⟨rfl,KZ.out.seq (HM5.out.trans (HK.out.weaken fun i _ h =>by omega)) fun i hi h =>by omega⟩
def payF (ep:Int) (v:Vd):Int × Vd :=seq2 (evC 5) (dueC ep) v
theorem Zgo (v:Vd) (hv:v.ok) (ep:Int) (w:World):Calls Tryz.prog 121 #[v.val, .int .i64 ep] w fun r w' =>r = .returned (.tuple #[(payF ep v).2.val, .int .u64 (if (payF ep v).1=0 then v.bal else 0), .int .i64 (payF ep v).1])∧Z00 w w' :=by
 obtain ⟨X,hX⟩:∃ X,X=payF ep v :=⟨_,rfl⟩
 rw [← hX]
 have HX :=Hd hX
 obtain ⟨R,hR⟩:∃ R,R=(if X.1=0 then v.bal else 0) :=⟨_,rfl⟩
 rw [← hR]
 have HR :=Hd hR
 clear hR
 have HAP :=Hd (fun b1 be sb w =>Zc9 v hv ep b1 be sb w)
 rw [show seq2 (evC 5) (dueC ep) v=X from hX.symm] at HAP
 clear hX hv
 go_enter Tryz.func121,Tryz.ntmps121
 go_wp2
 refine Z0l ?_
 intro wz hwz
 have kz:Z00 w wz :=by rw [hwz]; (repeat' first | (with_reducible refine Mods.setCell ?_ _ _ (fun _ =>rfl)) | (with_reducible refine Mods.alloc ?_ _) | (with_reducible refine Mods.drewN ?_ _) | (with_reducible refine Mods.drew ?_) | (with_reducible exact Mods.refl _ _))
 have bv:wz.heap[w.heap.size]? = some (vdB v) :=by rw [hwz]; exact Z02 (Z02 (heap_alloc_last w _) _) _
 have be:wz.heap[w.heap.size+1]? = some (oneB ep) :=by
  rw [hwz]
  have h :=heap_alloc_last (w.alloc (vdB v)) (oneB ep)
  rw [World.size_alloc] at h
  exact Z02 h _
 have bz:wz.heap[w.heap.size+2]? = some (vdB vd0) :=by
  rw [hwz]
  have h :=heap_alloc_last ((w.alloc (vdB v)).alloc (oneB ep)) (vdB vd0)
  rw [World.size_alloc,World.size_alloc] at h
  exact h
 have KZ :=Hd kz
 have BV :=Hd bv
 have BE :=Hd be
 have BZ :=Hd bz
 clear hwz kz be bz bv
 go_cut [8,9] (fun s8 s9 wx => ∃ z,s8 = .pointer (some ⟨z,0,none⟩)∧s9 = .int .i64 X.1∧wz.heap.size≤z∧wx.heap[z]? = some (vdB X.2)∧Z00 wz wx)
 case first =>
  refine Z07 (S :=Z00 wz) (by kernel_rfl) (by exact (Mods.refl _ wz).drew) (fun wc hD hH0 =>?_)
  refine tkb 0 rfl hH0 (Z13 (by rfl) (.tmp 2) rfl w.heap.size rfl v (fun _ h =>h.at BV.out fun h =>h)) ?_
  try go_frame
  refine tk 2 rfl hH0 ?_
  try go_frame
  refine rdy [1,8] (Z04 rfl (fun K hK =>?_) (Z04 rfl (fun K hK =>?_) AllReadyH.nil))
  ·go_simp
   refine (Z3x 5 _).mono ?_
   rintro r wc ⟨rfl,hb,hk⟩
   go_wp2_with fail
   refine hK.out _ _ ((Mods.keep (by assumption) hk)) (fun hH1 =>?_)
   clear hK K hH0
   try go_frame
   try replace HZ :=Hd (hk.at HZ.out fun h =>h)
   have HB :=Hd hb
   clear hb hk
   refine rdy [3,8] (Z04 rfl (fun K hK =>?_) (Z04 rfl (fun K hK =>?_) AllReadyH.nil))
   ·go_simp
    generalize hsz:wc.heap.size=sb
    refine Z14 ?_
    intro wc hwd
    have hk :=Z0f hwd
    have hn :=Z0g hwd
    rw [hsz] at hn
    refine hK.out _ _ ((Mods.keep (by assumption) hk)) (fun hH2 =>?_)
    clear hK K hH1
    try go_frame
    have HS :=Hd (Z27 hn)
    replace HB :=Hd (hk.at HB.out fun h =>h)
    try replace HZ :=Hd (hk.at HZ.out fun h =>h)
    clear hwd hk hn hsz
    refine rdy [4,8] (Z04 rfl (fun K hK =>?_) (Z04 rfl (fun K hK =>?_) AllReadyH.nil))
    ·go_simp
     refine (HAP.out (w.heap.size+1) _ _ wc (Mods.at (S :=fun _ =>False) (a :=wz) (by assumption) BE.out fun h =>h) HB.out HS.out.1 HS.out.2).mono ?_
     rintro r wc ⟨rfl,hk⟩
     go_wp2_with fail
     refine hK.out _ _ ((Mods.keep (by assumption) hk)) (fun hH3 =>?_)
     clear hK K hH2
     try go_frame
     try replace HZ :=Hd (hk.at HZ.out fun h =>h)
     clear hk HS HB
     refine tk 5 rfl hH3 ?_
     try go_frame
     refine tk 6 rfl hH3 ?_
     try go_frame
     refine tk 7 rfl hH3 ?_
     try go_frame
     refine rdy [8] (Z04 rfl (fun K hK =>?_) AllReadyH.nil)
     go_simp
     have hzn:wz.heap.size≤wc.heap.size :=Mods.size (S :=fun _ =>False) (by assumption)
     generalize hsz:wc.heap.size=z at *
     refine Z14 ?_
     intro wc hwd
     have hk :=Z0f hwd
     have hn :=Z0g hwd
     rw [hsz] at hn
     refine hK.out _ _ ((Mods.keep (by assumption) hk)) (fun hH4 =>?_)
     clear hK K hH3
     try go_frame
     have HZN :=Hd hzn
     have HZ :=Hd (show wc.heap[z]? = some (vdB vd0) from hn)
     try replace HB :=Hd (hk.at HB.out fun h =>h)
     try replace HS :=Hd (Z5z HS.out.1 HS.out.2 hk)
     clear hwd hk hn hsz hzn
     refine rdy [9] (Z04 rfl (fun K hK =>?_) AllReadyH.nil)
     refine Z0d (by rfl) (.tmp 8) (.tmp 17) rfl _ X.2 vd0 (by rfl) (by rfl) HZ.out ?_
     intro wc hz hm
     refine hK.out _ _ ((Mods.seq (by assumption) hm (fun i hi e =>by have :=HZN.out; omega))) (fun hH5 =>?_)
     clear hK K hH4
     try go_frame
     have HF :=Hd hz
     clear hz hm HZ
     refine tk 10 rfl hH5 ?_
     try go_frame
     refine wpAnyH_done (by kernel_rfl) ?_ _
     have hS :=Hd hH5
     clear hH5
     go_wp2_with fail
     go_meet
     case rel =>exact ⟨_,rfl,rfl,HZN.out,HF.out,hS.out⟩
    ·go_simp
     have hzn:wz.heap.size≤wc.heap.size :=Mods.size (S :=fun _ =>False) (by assumption)
     generalize hsz:wc.heap.size=z at *
     refine Z14 ?_
     intro wc hwd
     have hk :=Z0f hwd
     have hn :=Z0g hwd
     rw [hsz] at hn
     refine hK.out _ _ ((Mods.keep (by assumption) hk)) (fun hH3 =>?_)
     clear hK K hH2
     try go_frame
     have HZN :=Hd hzn
     have HZ :=Hd (show wc.heap[z]? = some (vdB vd0) from hn)
     try replace HB :=Hd (hk.at HB.out fun h =>h)
     try replace HS :=Hd (Z5z HS.out.1 HS.out.2 hk)
     clear hwd hk hn hsz hzn
     refine rdy [4] (Z04 rfl (fun K hK =>?_) AllReadyH.nil)
     go_simp
     refine (HAP.out (w.heap.size+1) _ _ wc (Mods.at (S :=fun _ =>False) (a :=wz) (by assumption) BE.out fun h =>h) HB.out HS.out.1 HS.out.2).mono ?_
     rintro r wc ⟨rfl,hk⟩
     go_wp2_with fail
     refine hK.out _ _ ((Mods.keep (by assumption) hk)) (fun hH4 =>?_)
     clear hK K hH3
     try go_frame
     try replace HZ :=Hd (hk.at HZ.out fun h =>h)
     clear hk HS HB
     refine tk 5 rfl hH4 ?_
     try go_frame
     refine tk 6 rfl hH4 ?_
     try go_frame
     refine tk 7 rfl hH4 ?_
     try go_frame
     refine rdy [9] (Z04 rfl (fun K hK =>?_) AllReadyH.nil)
     refine Z0d (by rfl) (.tmp 8) (.tmp 17) rfl _ X.2 vd0 (by rfl) (by rfl) HZ.out ?_
     intro wc hz hm
     refine hK.out _ _ ((Mods.seq (by assumption) hm (fun i hi e =>by have :=HZN.out; omega))) (fun hH5 =>?_)
     clear hK K hH4
     try go_frame
     have HF :=Hd hz
     clear hz hm HZ
     refine tk 10 rfl hH5 ?_
     try go_frame
     refine wpAnyH_done (by kernel_rfl) ?_ _
     have hS :=Hd hH5
     clear hH5
     go_wp2_with fail
     go_meet
     case rel =>exact ⟨_,rfl,rfl,HZN.out,HF.out,hS.out⟩
   ·go_simp
    have hzn:wz.heap.size≤wc.heap.size :=Mods.size (S :=fun _ =>False) (by assumption)
    generalize hsz:wc.heap.size=z at *
    refine Z14 ?_
    intro wc hwd
    have hk :=Z0f hwd
    have hn :=Z0g hwd
    rw [hsz] at hn
    refine hK.out _ _ ((Mods.keep (by assumption) hk)) (fun hH2 =>?_)
    clear hK K hH1
    try go_frame
    have HZN :=Hd hzn
    have HZ :=Hd (show wc.heap[z]? = some (vdB vd0) from hn)
    try replace HB :=Hd (hk.at HB.out fun h =>h)
    try replace HS :=Hd (Z5z HS.out.1 HS.out.2 hk)
    clear hwd hk hn hsz hzn
    refine rdy [3] (Z04 rfl (fun K hK =>?_) AllReadyH.nil)
    go_simp
    generalize hsz:wc.heap.size=sb
    refine Z14 ?_
    intro wc hwd
    have hk :=Z0f hwd
    have hn :=Z0g hwd
    rw [hsz] at hn
    refine hK.out _ _ ((Mods.keep (by assumption) hk)) (fun hH3 =>?_)
    clear hK K hH2
    try go_frame
    have HS :=Hd (Z27 hn)
    replace HB :=Hd (hk.at HB.out fun h =>h)
    try replace HZ :=Hd (hk.at HZ.out fun h =>h)
    clear hwd hk hn hsz
    refine rdy [4] (Z04 rfl (fun K hK =>?_) AllReadyH.nil)
    go_simp
    refine (HAP.out (w.heap.size+1) _ _ wc (Mods.at (S :=fun _ =>False) (a :=wz) (by assumption) BE.out fun h =>h) HB.out HS.out.1 HS.out.2).mono ?_
    rintro r wc ⟨rfl,hk⟩
    go_wp2_with fail
    refine hK.out _ _ ((Mods.keep (by assumption) hk)) (fun hH4 =>?_)
    clear hK K hH3
    try go_frame
    try replace HZ :=Hd (hk.at HZ.out fun h =>h)
    clear hk HS HB
    refine tk 5 rfl hH4 ?_
    try go_frame
    refine tk 6 rfl hH4 ?_
    try go_frame
    refine tk 7 rfl hH4 ?_
    try go_frame
    refine rdy [9] (Z04 rfl (fun K hK =>?_) AllReadyH.nil)
    refine Z0d (by rfl) (.tmp 8) (.tmp 17) rfl _ X.2 vd0 (by rfl) (by rfl) HZ.out ?_
    intro wc hz hm
    refine hK.out _ _ ((Mods.seq (by assumption) hm (fun i hi e =>by have :=HZN.out; omega))) (fun hH5 =>?_)
    clear hK K hH4
    try go_frame
    have HF :=Hd hz
    clear hz hm HZ
    refine tk 10 rfl hH5 ?_
    try go_frame
    refine wpAnyH_done (by kernel_rfl) ?_ _
    have hS :=Hd hH5
    clear hH5
    go_wp2_with fail
    go_meet
    case rel =>exact ⟨_,rfl,rfl,HZN.out,HF.out,hS.out⟩
  ·go_simp
   have hzn:wz.heap.size≤wc.heap.size :=Mods.size (S :=fun _ =>False) (by assumption)
   generalize hsz:wc.heap.size=z at *
   refine Z14 ?_
   intro wc hwd
   have hk :=Z0f hwd
   have hn :=Z0g hwd
   rw [hsz] at hn
   refine hK.out _ _ ((Mods.keep (by assumption) hk)) (fun hH1 =>?_)
   clear hK K hH0
   try go_frame
   have HZN :=Hd hzn
   have HZ :=Hd (show wc.heap[z]? = some (vdB vd0) from hn)
   try replace HB :=Hd (hk.at HB.out fun h =>h)
   try replace HS :=Hd (Z5z HS.out.1 HS.out.2 hk)
   clear hwd hk hn hsz hzn
   refine rdy [1] (Z04 rfl (fun K hK =>?_) AllReadyH.nil)
   go_simp
   refine (Z3x 5 _).mono ?_
   rintro r wc ⟨rfl,hb,hk⟩
   go_wp2_with fail
   refine hK.out _ _ ((Mods.keep (by assumption) hk)) (fun hH2 =>?_)
   clear hK K hH1
   try go_frame
   try replace HZ :=Hd (hk.at HZ.out fun h =>h)
   have HB :=Hd hb
   clear hb hk
   refine rdy [3] (Z04 rfl (fun K hK =>?_) AllReadyH.nil)
   go_simp
   generalize hsz:wc.heap.size=sb
   refine Z14 ?_
   intro wc hwd
   have hk :=Z0f hwd
   have hn :=Z0g hwd
   rw [hsz] at hn
   refine hK.out _ _ ((Mods.keep (by assumption) hk)) (fun hH3 =>?_)
   clear hK K hH2
   try go_frame
   have HS :=Hd (Z27 hn)
   replace HB :=Hd (hk.at HB.out fun h =>h)
   try replace HZ :=Hd (hk.at HZ.out fun h =>h)
   clear hwd hk hn hsz
   refine rdy [4] (Z04 rfl (fun K hK =>?_) AllReadyH.nil)
   go_simp
   refine (HAP.out (w.heap.size+1) _ _ wc (Mods.at (S :=fun _ =>False) (a :=wz) (by assumption) BE.out fun h =>h) HB.out HS.out.1 HS.out.2).mono ?_
   rintro r wc ⟨rfl,hk⟩
   go_wp2_with fail
   refine hK.out _ _ ((Mods.keep (by assumption) hk)) (fun hH4 =>?_)
   clear hK K hH3
   try go_frame
   try replace HZ :=Hd (hk.at HZ.out fun h =>h)
   clear hk HS HB
   refine tk 5 rfl hH4 ?_
   try go_frame
   refine tk 6 rfl hH4 ?_
   try go_frame
   refine tk 7 rfl hH4 ?_
   try go_frame
   refine rdy [9] (Z04 rfl (fun K hK =>?_) AllReadyH.nil)
   refine Z0d (by rfl) (.tmp 8) (.tmp 17) rfl _ X.2 vd0 (by rfl) (by rfl) HZ.out ?_
   intro wc hz hm
   refine hK.out _ _ ((Mods.seq (by assumption) hm (fun i hi e =>by have :=HZN.out; omega))) (fun hH5 =>?_)
   clear hK K hH4
   try go_frame
   have HF :=Hd hz
   clear hz hm HZ
   refine tk 10 rfl hH5 ?_
   try go_frame
   refine wpAnyH_done (by kernel_rfl) ?_ _
   have hS :=Hd hH5
   clear hH5
   go_wp2_with fail
   go_meet
   case rel =>exact ⟨_,rfl,rfl,HZN.out,HF.out,hS.out⟩
 case rest =>
  obtain ⟨z,rfl,rfl,hzn,hz,hk⟩ :=hcut
  have hzl :=Z0a BZ.out
  have hzne:z≠w.heap.size+1+1 :=by omega
  clear hzn hzl
  have HZ :=Hd hz
  have HK :=Hd hk
  have BZ' :=Hd (hk.at BZ.out fun h =>h)
  have BV' :=Hd (hk.at BV.out fun h =>h)
  clear hz hk
  by_cases h0:X.1=0
  ·have hne:(X.1 != 0)=false :=by simp [h0]
   have H0 :=Hd h0
   have HRE :=Hd (HR.out.trans (if_pos h0))
   clear h0
   go_wp2
   refine Z07 (S :=(fun w' =>w'.heap[z]? = some (vdB X.2)∧w'.cell? ⟨w.heap.size,0,none⟩=some (.int .u64 v.bal))) (by kernel_rfl) (by exact ⟨HZ.out,(Z0o BV'.out).1⟩) (fun wc hD hH0 =>?_)
   refine tkb 0 rfl hH0 (Z13 (by rfl) (.tmp 8) rfl z rfl X.2 (fun _ h =>h.1)) ?_
   try go_frame
   refine tk 1 rfl hH0 ?_
   try go_frame
   refine tk 2 (v := .int .u64 v.bal) rfl hH0 ?_
   try go_frame
   refine rdy [3] (Z04 rfl (fun K hK =>?_) AllReadyH.nil)
   refine Z0d (by rfl) (.tmp 4) (.tmp 23) rfl (w.heap.size+1+1) X.2 vd0 (by rfl) (by rfl) (hD.mods (S :=fun _ =>False) |>.at BZ'.out fun h =>h) ?_
   intro wf hf hmf
   refine hK.out _ _ (⟨((hD.mods (S :=fun i =>i=w.heap.size+1+1)).trans hmf).at HZ.out hzne,(Z0o (((hD.mods (S :=fun i =>i=w.heap.size+1+1)).trans hmf).at BV'.out (by omega))).1⟩) (fun hH1 =>?_)
   clear hK K hH0
   try go_frame
   refine tk 4 rfl hH1 ?_
   try go_frame
   refine tk 5 rfl hH1 ?_
   try go_frame
   refine wpAnyH_done (by kernel_rfl) ?_ _
   have hS :=Hd hH1
   clear hH1
   go_wp2
   obtain ⟨p0,p1,p2,p3,p4,p5,p6⟩ :=Z0o hf
   exact bodyPost_ret (v := .tuple #[X.2.val, .int .u64 R, .int .i64 X.1]) (by simp [results,Tryz.results121,go_sem,p0,p1,p2,p3,p4,p5,p6,HRE.out,H0.out]) rfl ⟨rfl,(KZ.out.keep HK.out).seq (hD.mods.trans hmf) fun i hi e =>by omega⟩
  ·have hne:(X.1 != 0)=true :=by simpa using h0
   have HRE :=Hd (HR.out.trans (if_neg h0))
   clear h0
   go_wp2_with (first | (refine Z0x rfl _ rfl z rfl X.2 HZ.out ?_) | (refine Z8q rfl _ _ rfl (w.heap.size+1+1) X.2 vd0 rfl rfl BZ'.out ?_; intro wf hf hmf))
   obtain ⟨p0,p1,p2,p3,p4,p5,p6⟩ :=Z0o hf
   exact bodyPost_ret (v := .tuple #[X.2.val, .int .u64 R, .int .i64 X.1]) (by simp [results,Tryz.results121,go_sem,p0,p1,p2,p3,p4,p5,p6,HRE.out]) rfl ⟨rfl,(KZ.out.keep HK.out).seq hmf fun i hi e =>by omega⟩
end Go.Proofs.YtecapfmmoejikaaGreat
