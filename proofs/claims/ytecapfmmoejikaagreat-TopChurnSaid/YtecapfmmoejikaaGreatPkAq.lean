/- A part of the proofs of the top laws: ConfC ConfD ConfE. -/
import Derived.Test.YtecapfmmoejikaaGreatPkAl
import Derived.Test.YtecapfmmoejikaaGreatPkAb
set_option maxRecDepth 4000
set_option maxHeartbeats 8000000
namespace Go.Proofs.YtecapfmmoejikaaGreat
open Go.RowKit Go.Eg
theorem Z0m:(Tryz.prog.info? 24).map (·.size)=some 20 :=by kernel_rfl
def dflt (i:Nat):Int := [16,8,16,64,1024,8,128,32,4,64,2,5,4,4,6,4,2,2,1,4].getD i 0
@[reducible] def Z2o:Array Value := #[.int .i64 16, .int .i64 8, .int .u64 16, .int .u64 64, .int .u64 1024, .int .u64 8, .int .u64 128, .int .u64 32, .int .u64 4, .int .u64 64, .int .i64 2, .int .i64 5, .int .i64 4, .int .i64 4, .int .i64 6, .int .i64 4, .int .i64 2, .int .i64 2, .int .u64 1, .int .u64 4]
@[reducible] def zeroCells:Array Value := #[.int .i64 0, .int .i64 0, .int .u64 0, .int .u64 0, .int .u64 0, .int .u64 0, .int .u64 0, .int .u64 0, .int .u64 0, .int .u64 0, .int .i64 0, .int .i64 0, .int .i64 0, .int .i64 0, .int .i64 0, .int .i64 0, .int .i64 0, .int .i64 0, .int .u64 0, .int .u64 0]
theorem Zel (w:World) :
 Calls Tryz.prog 21 #[] w fun r w' =>r = .returned (.agg Z2o)∧Below w.heap.size w w' :=by
 go_enter Tryz.func21,Tryz.ntmps21
 go_wp2_with (first | (refine Z2d rfl 24 _ Z2o rfl (by kernel_rfl) ?_) | (refine Z2c (t :=24) (old :=zeroCells) (cs :=Z2o) rfl 24 _ _ rfl rfl rfl Z0m rfl rfl ?_))
 exact bodyPost_ret (v := .agg Z2o) (results_cell_row (p :=0) Tryz.results21 _ _ w.heap.size _ _ _ _ rfl (heap_alloc_last w _) Tryz.underlying24 rfl Z0m) rfl ⟨rfl,(Below.refl _ _).alloc (Nat.le_refl _) _⟩
@[reducible] def cfgC (c:Nat→Int):Array Value := #[.int .i64 (c 0), .int .i64 (c 1), .int .u64 (c 2), .int .u64 (c 3), .int .u64 (c 4), .int .u64 (c 5), .int .u64 (c 6), .int .u64 (c 7), .int .u64 (c 8), .int .u64 (c 9), .int .i64 (c 10), .int .i64 (c 11), .int .i64 (c 12), .int .i64 (c 13), .int .i64 (c 14), .int .i64 (c 15), .int .i64 (c 16), .int .i64 (c 17), .int .u64 (c 18), .int .u64 (c 19)]
theorem Zj8 (c:Nat→Int) (w:World) (n:Int)
 (
  hch:∀ w:World,Calls Tryz.prog 65 #[cfgV c] w fun r w' =>r = .returned (.int .i64 n)∧Below w.heap.size w w') :
  Calls Tryz.prog 24 #[cfgV c] w fun r w' =>r = .returned (.bool (n == 0))∧Below w.heap.size w w' :=by
 have HC :=Hd hch
 clear hch
 go_enter Tryz.func24,Tryz.ntmps24
 go_wp2_with (first | (refine Z03 rfl 24 _ rfl w.heap.size rfl 24 (cfgC c) (0,0) _ Tryz.underlying24 rfl Z0m (heap_alloc_last w _) ?_) | (go_at_call 65; refine (HC.out _).mono ?_; rintro r w1 ⟨rfl,hb⟩))
 go_ret
 exact ⟨rfl,((Below.refl _ _).alloc (Nat.le_refl _) _).trans (hb.mono (by simp))⟩
theorem Zfv (c:Nat→Int) (w:World):Calls Tryz.prog 58 #[cfgV c] w fun r w' =>r = .returned (.int .i64 (wrap64 (c 14 - c 16)))∧Below w.heap.size w w' :=by
 go_enter Tryz.func58,Tryz.ntmps58
 go_wp2
 go_ret
 exact ⟨rfl,(Below.refl _ _).alloc (Nat.le_refl _) _⟩
theorem Zc6 (c:Nat→Int) (w:World):Calls Tryz.prog 59 #[cfgV c] w fun r w' =>r = .returned (.int .i64 (wrap64 (c 15 - c 16)))∧Below w.heap.size w w' :=by
 go_enter Tryz.func59,Tryz.ntmps59
 go_wp2
 go_ret
 exact ⟨rfl,(Below.refl _ _).alloc (Nat.le_refl _) _⟩
@[reducible] def Z0w:Array Value := #[.func (.func 148) #[] #[], .func (.func 150) #[] #[], .func (.func 151) #[] #[], .func (.func 152) #[] #[], .func (.func 153) #[] #[], .func (.func 155) #[] #[], .func (.func 156) #[] #[], .func (.func 157) #[] #[], .func (.func 158) #[] #[], .func (.func 159) #[] #[], .func (.func 160) #[] #[], .func (.func 161) #[] #[], .func (.func 162) #[] #[], .func (.func 163) #[] #[], .func (.func 164) #[] #[], .func (.func 165) #[] #[], .func (.func 166) #[] #[], .func (.func 167) #[] #[], .func (.func 168) #[] #[], .func (.func 169) #[] #[]]
@[reducible] def Zlg:Array Value := #[.nilFunc, .nilFunc, .nilFunc, .nilFunc, .nilFunc, .nilFunc, .nilFunc, .nilFunc, .nilFunc, .nilFunc, .nilFunc, .nilFunc, .nilFunc, .nilFunc, .nilFunc, .nilFunc, .nilFunc, .nilFunc, .nilFunc, .nilFunc]
theorem Zlz:(Tryz.prog.info? 195).map (·.size)=some 20 :=by kernel_rfl
theorem Z9t (w:World) :
 Calls Tryz.prog 105 #[] w fun r w' =>r = .returned (.agg Z0w)∧Below w.heap.size w w' :=by
 go_enter Tryz.func105,Tryz.ntmps105
 go_wp2_with (refine Z2c (t :=195) (old :=Zlg) (cs :=Z0w) rfl 195 _ _ rfl rfl rfl Zlz rfl rfl ?_)
 exact bodyPost_ret (v := .agg Z0w) (results_cell_row (p :=0) Tryz.results105 _ _ w.heap.size _ _ _ _ rfl (heap_alloc_last w _) Tryz.underlying195 rfl Zlz) rfl ⟨rfl,(Below.refl _ _).alloc (Nat.le_refl _) _⟩
def Z45 (c:Nat→Int):Nat→Nat→Int
 | _,0 =>0
 | k,n+1 =>if okC c k=true then Z45 c (k+1) n else k+1
def chk (c:Nat→Int):Int :=Z45 c 0 20
theorem Z0u (c:Nat→Int):∀ (n k m:Nat),k≤m→m<k+n→(∀ j,k≤j→j<m→okC c j=true)→okC c m=false→Z45 c k n=m+1
 | 0,k,m,h1,h2,_,_ =>by omega
 | n+1,k,m,h1,h2,h3,h4 =>by
  rw [Z45]
  by_cases hk:k=m
  ·subst hk; rw [if_neg (by rw [h4]; simp)]
  ·rw [if_pos (h3 k (Nat.le_refl _) (by omega))]
   exact Z0u c n (k+1) m (by omega) (by omega) (fun j a b =>h3 j (by omega) b) h4
theorem Z94 (c:Nat→Int):∀ (n k:Nat),(∀ j,k≤j→j<k+n→okC c j=true)→Z45 c k n=0
 | 0,_,_ =>rfl
 | n+1,k,h =>by
  rw [Z45,if_pos (h k (Nat.le_refl _) (by omega))]
  exact Z94 c n (k+1) (fun j a b =>h j (by omega) (by omega))
theorem idx0 (w:World):(Instr.index 195 (.agg Z0w) (.int .i64 0)).run Tryz.prog w = .ok (.agg #[.func (.func 148) #[] #[]]) w :=by kernel_rfl
theorem idx1 (w:World):(Instr.index 195 (.agg Z0w) (.int .i64 1)).run Tryz.prog w = .ok (.agg #[.func (.func 150) #[] #[]]) w :=by kernel_rfl
theorem idx2 (w:World):(Instr.index 195 (.agg Z0w) (.int .i64 2)).run Tryz.prog w = .ok (.agg #[.func (.func 151) #[] #[]]) w :=by kernel_rfl
theorem idx3 (w:World):(Instr.index 195 (.agg Z0w) (.int .i64 3)).run Tryz.prog w = .ok (.agg #[.func (.func 152) #[] #[]]) w :=by kernel_rfl
theorem idx4 (w:World):(Instr.index 195 (.agg Z0w) (.int .i64 4)).run Tryz.prog w = .ok (.agg #[.func (.func 153) #[] #[]]) w :=by kernel_rfl
theorem idx5 (w:World):(Instr.index 195 (.agg Z0w) (.int .i64 5)).run Tryz.prog w = .ok (.agg #[.func (.func 155) #[] #[]]) w :=by kernel_rfl
theorem idx6 (w:World):(Instr.index 195 (.agg Z0w) (.int .i64 6)).run Tryz.prog w = .ok (.agg #[.func (.func 156) #[] #[]]) w :=by kernel_rfl
theorem idx7 (w:World):(Instr.index 195 (.agg Z0w) (.int .i64 7)).run Tryz.prog w = .ok (.agg #[.func (.func 157) #[] #[]]) w :=by kernel_rfl
theorem idx8 (w:World):(Instr.index 195 (.agg Z0w) (.int .i64 8)).run Tryz.prog w = .ok (.agg #[.func (.func 158) #[] #[]]) w :=by kernel_rfl
theorem idx9 (w:World):(Instr.index 195 (.agg Z0w) (.int .i64 9)).run Tryz.prog w = .ok (.agg #[.func (.func 159) #[] #[]]) w :=by kernel_rfl
theorem Zra (w:World):(Instr.index 195 (.agg Z0w) (.int .i64 10)).run Tryz.prog w = .ok (.agg #[.func (.func 160) #[] #[]]) w :=by kernel_rfl
theorem Zrf (w:World):(Instr.index 195 (.agg Z0w) (.int .i64 11)).run Tryz.prog w = .ok (.agg #[.func (.func 161) #[] #[]]) w :=by kernel_rfl
theorem Zqx (w:World):(Instr.index 195 (.agg Z0w) (.int .i64 12)).run Tryz.prog w = .ok (.agg #[.func (.func 162) #[] #[]]) w :=by kernel_rfl
theorem Zr2 (w:World):(Instr.index 195 (.agg Z0w) (.int .i64 13)).run Tryz.prog w = .ok (.agg #[.func (.func 163) #[] #[]]) w :=by kernel_rfl
theorem Zqq (w:World):(Instr.index 195 (.agg Z0w) (.int .i64 14)).run Tryz.prog w = .ok (.agg #[.func (.func 164) #[] #[]]) w :=by kernel_rfl
theorem Zr3 (w:World):(Instr.index 195 (.agg Z0w) (.int .i64 15)).run Tryz.prog w = .ok (.agg #[.func (.func 165) #[] #[]]) w :=by kernel_rfl
theorem Zql (w:World):(Instr.index 195 (.agg Z0w) (.int .i64 16)).run Tryz.prog w = .ok (.agg #[.func (.func 166) #[] #[]]) w :=by kernel_rfl
theorem Zr0 (w:World):(Instr.index 195 (.agg Z0w) (.int .i64 17)).run Tryz.prog w = .ok (.agg #[.func (.func 167) #[] #[]]) w :=by kernel_rfl
theorem Zrh (w:World):(Instr.index 195 (.agg Z0w) (.int .i64 18)).run Tryz.prog w = .ok (.agg #[.func (.func 168) #[] #[]]) w :=by kernel_rfl
theorem Zqo (w:World):(Instr.index 195 (.agg Z0w) (.int .i64 19)).run Tryz.prog w = .ok (.agg #[.func (.func 169) #[] #[]]) w :=by kernel_rfl
structure CRel (c:Nat→Int) (w wr:World) (k:Nat):Prop where
 ok:∀ j,j<k→okC c j=true
 below:Below (w.heap.size+1) (w.alloc (.cells (cfgC c) 24)) wr
theorem CRel.box {c:Nat→Int} {w wr:World} {k:Nat} (h:CRel c w wr k):wr.heap[w.heap.size]? = some (.cells (cfgC c) 24 (0,0)) :=
 (h.below.block w.heap.size (by omega)).trans (heap_alloc_last w _)
theorem check_any (c:Nat→Int) (w:World) :
 Calls Tryz.prog 65 #[cfgV c] w fun r w' =>r = .returned (.int .i64 (chk c))∧Below w.heap.size w w' :=by
 go_enter Tryz.func65,Tryz.ntmps65
 go_wp2_with fail
 refine (Z9t _).mono ?_
 rintro r w1 ⟨rfl,hb0⟩
 have hb1:Below (w.heap.size+1) (w.alloc (.cells (cfgC c) 24)) w1 :=by simpa using hb0
 clear hb0
 go_wp2_with fail
 go_loopw [6] (fun i wr => ∃ k:Nat,k≤20∧i = .int .i64 k∧CRel c w wr k) (fun i _ =>20 - (intOf i).toNat)
 case atStart =>exact ⟨0,Nat.zero_le _,rfl,fun j hj =>by omega,hb1⟩
 case round =>
  obtain ⟨k,hk,rfl,hrl⟩ :=hrel
  have HO :=Hd hrl.ok
  have hbox :=hrl.box
  have hbl :=hrl.below
  clear hrl hb1
  by_cases hlt:k<20
  ·match k,hlt with
   | 0,_ =>
    have ix :=idx0
    rw [show ((0:Nat):Int)=0 from rfl]
    cases hok:okC c 0 with
    | true =>
     have HK :=Hd hok
     clear hok
     go_wp2_with (first | (refine Z03 rfl 24 _ rfl w.heap.size rfl 24 (cfgC c) (0,0) _ Tryz.underlying24 rfl Z0m (Z02 hbox _) ?_) | (go_at_call 148; refine (Zpl c _).mono ?_; rw [HK.out]; rintro r w2 ⟨rfl,hb2⟩))
     have hb3 :=(hbl.alloc (by have :=hbl.size; simp at this; omega) _).trans (hb2.mono (by have :=hbl.size; simp at this ⊢; omega))
     go_roundw
     case rel =>exact ⟨1,by omega,rfl,fun j hj =>by
      by_cases h:j=0
      ·subst h; exact HK.out
      ·exact HO.out j (by omega),hb3⟩
     case measure =>simp [intOf]
    | false =>
     have HK :=Hd hok
     clear hok
     go_wp2_with (first | (refine Z03 rfl 24 _ rfl w.heap.size rfl 24 (cfgC c) (0,0) _ Tryz.underlying24 rfl Z0m (Z02 hbox _) ?_) | (go_at_call 148; refine (Zpl c _).mono ?_; rw [HK.out]; rintro r w2 ⟨rfl,hb2⟩))
     have hb3 :=(hbl.alloc (by have :=hbl.size; simp at this; omega) _).trans (hb2.mono (by have :=hbl.size; simp at this ⊢; omega))
     go_ret
     exact ⟨Z0p (Z0u c 20 0 0 (by omega) (by omega) (fun j _ h =>HO.out j h) HK.out).symm,((Below.refl _ _).alloc (Nat.le_refl _) _).trans (hb3.mono (by omega))⟩
   | 1,_ =>
    have ix :=idx1
    rw [show ((1:Nat):Int)=1 from rfl]
    cases hok:okC c 1 with
    | true =>
     have HK :=Hd hok
     clear hok
     go_wp2_with (first | (refine Z03 rfl 24 _ rfl w.heap.size rfl 24 (cfgC c) (0,0) _ Tryz.underlying24 rfl Z0m (Z02 hbox _) ?_) | (go_at_call 150; refine (Zp1 c _).mono ?_; rw [HK.out]; rintro r w2 ⟨rfl,hb2⟩))
     have hb3 :=(hbl.alloc (by have :=hbl.size; simp at this; omega) _).trans (hb2.mono (by have :=hbl.size; simp at this ⊢; omega))
     go_roundw
     case rel =>exact ⟨2,by omega,rfl,fun j hj =>by
      by_cases h:j=1
      ·subst h; exact HK.out
      ·exact HO.out j (by omega),hb3⟩
     case measure =>simp [intOf]
    | false =>
     have HK :=Hd hok
     clear hok
     go_wp2_with (first | (refine Z03 rfl 24 _ rfl w.heap.size rfl 24 (cfgC c) (0,0) _ Tryz.underlying24 rfl Z0m (Z02 hbox _) ?_) | (go_at_call 150; refine (Zp1 c _).mono ?_; rw [HK.out]; rintro r w2 ⟨rfl,hb2⟩))
     have hb3 :=(hbl.alloc (by have :=hbl.size; simp at this; omega) _).trans (hb2.mono (by have :=hbl.size; simp at this ⊢; omega))
     go_ret
     exact ⟨Z0p (Z0u c 20 0 1 (by omega) (by omega) (fun j _ h =>HO.out j h) HK.out).symm,((Below.refl _ _).alloc (Nat.le_refl _) _).trans (hb3.mono (by omega))⟩
   | 2,_ =>
    have ix :=idx2
    rw [show ((2:Nat):Int)=2 from rfl]
    cases hok:okC c 2 with
    | true =>
     have HK :=Hd hok
     clear hok
     go_wp2_with (first | (refine Z03 rfl 24 _ rfl w.heap.size rfl 24 (cfgC c) (0,0) _ Tryz.underlying24 rfl Z0m (Z02 hbox _) ?_) | (go_at_call 151; refine (Zq9 c _).mono ?_; rw [HK.out]; rintro r w2 ⟨rfl,hb2⟩))
     have hb3 :=(hbl.alloc (by have :=hbl.size; simp at this; omega) _).trans (hb2.mono (by have :=hbl.size; simp at this ⊢; omega))
     go_roundw
     case rel =>exact ⟨3,by omega,rfl,fun j hj =>by
      by_cases h:j=2
      ·subst h; exact HK.out
      ·exact HO.out j (by omega),hb3⟩
     case measure =>simp [intOf]
    | false =>
     have HK :=Hd hok
     clear hok
     go_wp2_with (first | (refine Z03 rfl 24 _ rfl w.heap.size rfl 24 (cfgC c) (0,0) _ Tryz.underlying24 rfl Z0m (Z02 hbox _) ?_) | (go_at_call 151; refine (Zq9 c _).mono ?_; rw [HK.out]; rintro r w2 ⟨rfl,hb2⟩))
     have hb3 :=(hbl.alloc (by have :=hbl.size; simp at this; omega) _).trans (hb2.mono (by have :=hbl.size; simp at this ⊢; omega))
     go_ret
     exact ⟨Z0p (Z0u c 20 0 2 (by omega) (by omega) (fun j _ h =>HO.out j h) HK.out).symm,((Below.refl _ _).alloc (Nat.le_refl _) _).trans (hb3.mono (by omega))⟩
   | 3,_ =>
    have ix :=idx3
    rw [show ((3:Nat):Int)=3 from rfl]
    cases hok:okC c 3 with
    | true =>
     have HK :=Hd hok
     clear hok
     go_wp2_with (first | (refine Z03 rfl 24 _ rfl w.heap.size rfl 24 (cfgC c) (0,0) _ Tryz.underlying24 rfl Z0m (Z02 hbox _) ?_) | (go_at_call 152; refine (Zot c _).mono ?_; rw [HK.out]; rintro r w2 ⟨rfl,hb2⟩))
     have hb3 :=(hbl.alloc (by have :=hbl.size; simp at this; omega) _).trans (hb2.mono (by have :=hbl.size; simp at this ⊢; omega))
     go_roundw
     case rel =>exact ⟨4,by omega,rfl,fun j hj =>by
      by_cases h:j=3
      ·subst h; exact HK.out
      ·exact HO.out j (by omega),hb3⟩
     case measure =>simp [intOf]
    | false =>
     have HK :=Hd hok
     clear hok
     go_wp2_with (first | (refine Z03 rfl 24 _ rfl w.heap.size rfl 24 (cfgC c) (0,0) _ Tryz.underlying24 rfl Z0m (Z02 hbox _) ?_) | (go_at_call 152; refine (Zot c _).mono ?_; rw [HK.out]; rintro r w2 ⟨rfl,hb2⟩))
     have hb3 :=(hbl.alloc (by have :=hbl.size; simp at this; omega) _).trans (hb2.mono (by have :=hbl.size; simp at this ⊢; omega))
     go_ret
     exact ⟨Z0p (Z0u c 20 0 3 (by omega) (by omega) (fun j _ h =>HO.out j h) HK.out).symm,((Below.refl _ _).alloc (Nat.le_refl _) _).trans (hb3.mono (by omega))⟩
   | 4,_ =>
    have ix :=idx4
    rw [show ((4:Nat):Int)=4 from rfl]
    cases hok:okC c 4 with
    | true =>
     have HK :=Hd hok
     clear hok
     go_wp2_with (first | (refine Z03 rfl 24 _ rfl w.heap.size rfl 24 (cfgC c) (0,0) _ Tryz.underlying24 rfl Z0m (Z02 hbox _) ?_) | (go_at_call 153; refine (Zpy c _).mono ?_; rw [HK.out]; rintro r w2 ⟨rfl,hb2⟩))
     have hb3 :=(hbl.alloc (by have :=hbl.size; simp at this; omega) _).trans (hb2.mono (by have :=hbl.size; simp at this ⊢; omega))
     go_roundw
     case rel =>exact ⟨5,by omega,rfl,fun j hj =>by
      by_cases h:j=4
      ·subst h; exact HK.out
      ·exact HO.out j (by omega),hb3⟩
     case measure =>simp [intOf]
    | false =>
     have HK :=Hd hok
     clear hok
     go_wp2_with (first | (refine Z03 rfl 24 _ rfl w.heap.size rfl 24 (cfgC c) (0,0) _ Tryz.underlying24 rfl Z0m (Z02 hbox _) ?_) | (go_at_call 153; refine (Zpy c _).mono ?_; rw [HK.out]; rintro r w2 ⟨rfl,hb2⟩))
     have hb3 :=(hbl.alloc (by have :=hbl.size; simp at this; omega) _).trans (hb2.mono (by have :=hbl.size; simp at this ⊢; omega))
     go_ret
     exact ⟨Z0p (Z0u c 20 0 4 (by omega) (by omega) (fun j _ h =>HO.out j h) HK.out).symm,((Below.refl _ _).alloc (Nat.le_refl _) _).trans (hb3.mono (by omega))⟩
   | 5,_ =>
    have ix :=idx5
    rw [show ((5:Nat):Int)=5 from rfl]
    cases hok:okC c 5 with
    | true =>
     have HK :=Hd hok
     clear hok
     go_wp2_with (first | (refine Z03 rfl 24 _ rfl w.heap.size rfl 24 (cfgC c) (0,0) _ Tryz.underlying24 rfl Z0m (Z02 hbox _) ?_) | (go_at_call 155; refine (Zpd c _).mono ?_; rw [HK.out]; rintro r w2 ⟨rfl,hb2⟩))
     have hb3 :=(hbl.alloc (by have :=hbl.size; simp at this; omega) _).trans (hb2.mono (by have :=hbl.size; simp at this ⊢; omega))
     go_roundw
     case rel =>exact ⟨6,by omega,rfl,fun j hj =>by
      by_cases h:j=5
      ·subst h; exact HK.out
      ·exact HO.out j (by omega),hb3⟩
     case measure =>simp [intOf]
    | false =>
     have HK :=Hd hok
     clear hok
     go_wp2_with (first | (refine Z03 rfl 24 _ rfl w.heap.size rfl 24 (cfgC c) (0,0) _ Tryz.underlying24 rfl Z0m (Z02 hbox _) ?_) | (go_at_call 155; refine (Zpd c _).mono ?_; rw [HK.out]; rintro r w2 ⟨rfl,hb2⟩))
     have hb3 :=(hbl.alloc (by have :=hbl.size; simp at this; omega) _).trans (hb2.mono (by have :=hbl.size; simp at this ⊢; omega))
     go_ret
     exact ⟨Z0p (Z0u c 20 0 5 (by omega) (by omega) (fun j _ h =>HO.out j h) HK.out).symm,((Below.refl _ _).alloc (Nat.le_refl _) _).trans (hb3.mono (by omega))⟩
   | 6,_ =>
    have ix :=idx6
    rw [show ((6:Nat):Int)=6 from rfl]
    cases hok:okC c 6 with
    | true =>
     have HK :=Hd hok
     clear hok
     go_wp2_with (first | (refine Z03 rfl 24 _ rfl w.heap.size rfl 24 (cfgC c) (0,0) _ Tryz.underlying24 rfl Z0m (Z02 hbox _) ?_) | (go_at_call 156; refine (Zq6 c _).mono ?_; rw [HK.out]; rintro r w2 ⟨rfl,hb2⟩))
     have hb3 :=(hbl.alloc (by have :=hbl.size; simp at this; omega) _).trans (hb2.mono (by have :=hbl.size; simp at this ⊢; omega))
     go_roundw
     case rel =>exact ⟨7,by omega,rfl,fun j hj =>by
      by_cases h:j=6
      ·subst h; exact HK.out
      ·exact HO.out j (by omega),hb3⟩
     case measure =>simp [intOf]
    | false =>
     have HK :=Hd hok
     clear hok
     go_wp2_with (first | (refine Z03 rfl 24 _ rfl w.heap.size rfl 24 (cfgC c) (0,0) _ Tryz.underlying24 rfl Z0m (Z02 hbox _) ?_) | (go_at_call 156; refine (Zq6 c _).mono ?_; rw [HK.out]; rintro r w2 ⟨rfl,hb2⟩))
     have hb3 :=(hbl.alloc (by have :=hbl.size; simp at this; omega) _).trans (hb2.mono (by have :=hbl.size; simp at this ⊢; omega))
     go_ret
     exact ⟨Z0p (Z0u c 20 0 6 (by omega) (by omega) (fun j _ h =>HO.out j h) HK.out).symm,((Below.refl _ _).alloc (Nat.le_refl _) _).trans (hb3.mono (by omega))⟩
   | 7,_ =>
    have ix :=idx7
    rw [show ((7:Nat):Int)=7 from rfl]
    cases hok:okC c 7 with
    | true =>
     have HK :=Hd hok
     clear hok
     go_wp2_with (first | (refine Z03 rfl 24 _ rfl w.heap.size rfl 24 (cfgC c) (0,0) _ Tryz.underlying24 rfl Z0m (Z02 hbox _) ?_) | (go_at_call 157; refine (Zq3 c _).mono ?_; rw [HK.out]; rintro r w2 ⟨rfl,hb2⟩))
     have hb3 :=(hbl.alloc (by have :=hbl.size; simp at this; omega) _).trans (hb2.mono (by have :=hbl.size; simp at this ⊢; omega))
     go_roundw
     case rel =>exact ⟨8,by omega,rfl,fun j hj =>by
      by_cases h:j=7
      ·subst h; exact HK.out
      ·exact HO.out j (by omega),hb3⟩
     case measure =>simp [intOf]
    | false =>
     have HK :=Hd hok
     clear hok
     go_wp2_with (first | (refine Z03 rfl 24 _ rfl w.heap.size rfl 24 (cfgC c) (0,0) _ Tryz.underlying24 rfl Z0m (Z02 hbox _) ?_) | (go_at_call 157; refine (Zq3 c _).mono ?_; rw [HK.out]; rintro r w2 ⟨rfl,hb2⟩))
     have hb3 :=(hbl.alloc (by have :=hbl.size; simp at this; omega) _).trans (hb2.mono (by have :=hbl.size; simp at this ⊢; omega))
     go_ret
     exact ⟨Z0p (Z0u c 20 0 7 (by omega) (by omega) (fun j _ h =>HO.out j h) HK.out).symm,((Below.refl _ _).alloc (Nat.le_refl _) _).trans (hb3.mono (by omega))⟩
   | 8,_ =>
    have ix :=idx8
    rw [show ((8:Nat):Int)=8 from rfl]
    cases hok:okC c 8 with
    | true =>
     have HK :=Hd hok
     clear hok
     go_wp2_with (first | (refine Z03 rfl 24 _ rfl w.heap.size rfl 24 (cfgC c) (0,0) _ Tryz.underlying24 rfl Z0m (Z02 hbox _) ?_) | (go_at_call 158; refine (Zqb c _).mono ?_; rw [HK.out]; rintro r w2 ⟨rfl,hb2⟩))
     have hb3 :=(hbl.alloc (by have :=hbl.size; simp at this; omega) _).trans (hb2.mono (by have :=hbl.size; simp at this ⊢; omega))
     go_roundw
     case rel =>exact ⟨9,by omega,rfl,fun j hj =>by
      by_cases h:j=8
      ·subst h; exact HK.out
      ·exact HO.out j (by omega),hb3⟩
     case measure =>simp [intOf]
    | false =>
     have HK :=Hd hok
     clear hok
     go_wp2_with (first | (refine Z03 rfl 24 _ rfl w.heap.size rfl 24 (cfgC c) (0,0) _ Tryz.underlying24 rfl Z0m (Z02 hbox _) ?_) | (go_at_call 158; refine (Zqb c _).mono ?_; rw [HK.out]; rintro r w2 ⟨rfl,hb2⟩))
     have hb3 :=(hbl.alloc (by have :=hbl.size; simp at this; omega) _).trans (hb2.mono (by have :=hbl.size; simp at this ⊢; omega))
     go_ret
     exact ⟨Z0p (Z0u c 20 0 8 (by omega) (by omega) (fun j _ h =>HO.out j h) HK.out).symm,((Below.refl _ _).alloc (Nat.le_refl _) _).trans (hb3.mono (by omega))⟩
   | 9,_ =>
    have ix :=idx9
    rw [show ((9:Nat):Int)=9 from rfl]
    cases hok:okC c 9 with
    | true =>
     have HK :=Hd hok
     clear hok
     go_wp2_with (first | (refine Z03 rfl 24 _ rfl w.heap.size rfl 24 (cfgC c) (0,0) _ Tryz.underlying24 rfl Z0m (Z02 hbox _) ?_) | (go_at_call 159; refine (Zme c _).mono ?_; rw [HK.out]; rintro r w2 ⟨rfl,hb2⟩))
     have hb3 :=(hbl.alloc (by have :=hbl.size; simp at this; omega) _).trans (hb2.mono (by have :=hbl.size; simp at this ⊢; omega))
     go_roundw
     case rel =>exact ⟨10,by omega,rfl,fun j hj =>by
      by_cases h:j=9
      ·subst h; exact HK.out
      ·exact HO.out j (by omega),hb3⟩
     case measure =>simp [intOf]
    | false =>
     have HK :=Hd hok
     clear hok
     go_wp2_with (first | (refine Z03 rfl 24 _ rfl w.heap.size rfl 24 (cfgC c) (0,0) _ Tryz.underlying24 rfl Z0m (Z02 hbox _) ?_) | (go_at_call 159; refine (Zme c _).mono ?_; rw [HK.out]; rintro r w2 ⟨rfl,hb2⟩))
     have hb3 :=(hbl.alloc (by have :=hbl.size; simp at this; omega) _).trans (hb2.mono (by have :=hbl.size; simp at this ⊢; omega))
     go_ret
     exact ⟨Z0p (Z0u c 20 0 9 (by omega) (by omega) (fun j _ h =>HO.out j h) HK.out).symm,((Below.refl _ _).alloc (Nat.le_refl _) _).trans (hb3.mono (by omega))⟩
   | 10,_ =>
    have ix :=Zra
    rw [show ((10:Nat):Int)=10 from rfl]
    cases hok:okC c 10 with
    | true =>
     have HK :=Hd hok
     clear hok
     go_wp2_with (first | (refine Z03 rfl 24 _ rfl w.heap.size rfl 24 (cfgC c) (0,0) _ Tryz.underlying24 rfl Z0m (Z02 hbox _) ?_) | (go_at_call 160; refine (Zlx c _).mono ?_; rw [HK.out]; rintro r w2 ⟨rfl,hb2⟩))
     have hb3 :=(hbl.alloc (by have :=hbl.size; simp at this; omega) _).trans (hb2.mono (by have :=hbl.size; simp at this ⊢; omega))
     go_roundw
     case rel =>exact ⟨11,by omega,rfl,fun j hj =>by
      by_cases h:j=10
      ·subst h; exact HK.out
      ·exact HO.out j (by omega),hb3⟩
     case measure =>simp [intOf]
    | false =>
     have HK :=Hd hok
     clear hok
     go_wp2_with (first | (refine Z03 rfl 24 _ rfl w.heap.size rfl 24 (cfgC c) (0,0) _ Tryz.underlying24 rfl Z0m (Z02 hbox _) ?_) | (go_at_call 160; refine (Zlx c _).mono ?_; rw [HK.out]; rintro r w2 ⟨rfl,hb2⟩))
     have hb3 :=(hbl.alloc (by have :=hbl.size; simp at this; omega) _).trans (hb2.mono (by have :=hbl.size; simp at this ⊢; omega))
     go_ret
     exact ⟨Z0p (Z0u c 20 0 10 (by omega) (by omega) (fun j _ h =>HO.out j h) HK.out).symm,((Below.refl _ _).alloc (Nat.le_refl _) _).trans (hb3.mono (by omega))⟩
   | 11,_ =>
    have ix :=Zrf
    rw [show ((11:Nat):Int)=11 from rfl]
    cases hok:okC c 11 with
    | true =>
     have HK :=Hd hok
     clear hok
     go_wp2_with (first | (refine Z03 rfl 24 _ rfl w.heap.size rfl 24 (cfgC c) (0,0) _ Tryz.underlying24 rfl Z0m (Z02 hbox _) ?_) | (go_at_call 161; refine (Zmj c _).mono ?_; rw [HK.out]; rintro r w2 ⟨rfl,hb2⟩))
     have hb3 :=(hbl.alloc (by have :=hbl.size; simp at this; omega) _).trans (hb2.mono (by have :=hbl.size; simp at this ⊢; omega))
     go_roundw
     case rel =>exact ⟨12,by omega,rfl,fun j hj =>by
      by_cases h:j=11
      ·subst h; exact HK.out
      ·exact HO.out j (by omega),hb3⟩
     case measure =>simp [intOf]
    | false =>
     have HK :=Hd hok
     clear hok
     go_wp2_with (first | (refine Z03 rfl 24 _ rfl w.heap.size rfl 24 (cfgC c) (0,0) _ Tryz.underlying24 rfl Z0m (Z02 hbox _) ?_) | (go_at_call 161; refine (Zmj c _).mono ?_; rw [HK.out]; rintro r w2 ⟨rfl,hb2⟩))
     have hb3 :=(hbl.alloc (by have :=hbl.size; simp at this; omega) _).trans (hb2.mono (by have :=hbl.size; simp at this ⊢; omega))
     go_ret
     exact ⟨Z0p (Z0u c 20 0 11 (by omega) (by omega) (fun j _ h =>HO.out j h) HK.out).symm,((Below.refl _ _).alloc (Nat.le_refl _) _).trans (hb3.mono (by omega))⟩
   | 12,_ =>
    have ix :=Zqx
    rw [show ((12:Nat):Int)=12 from rfl]
    cases hok:okC c 12 with
    | true =>
     have HK :=Hd hok
     clear hok
     go_wp2_with (first | (refine Z03 rfl 24 _ rfl w.heap.size rfl 24 (cfgC c) (0,0) _ Tryz.underlying24 rfl Z0m (Z02 hbox _) ?_) | (go_at_call 162; refine (Zmb c _).mono ?_; rw [HK.out]; rintro r w2 ⟨rfl,hb2⟩))
     have hb3 :=(hbl.alloc (by have :=hbl.size; simp at this; omega) _).trans (hb2.mono (by have :=hbl.size; simp at this ⊢; omega))
     go_roundw
     case rel =>exact ⟨13,by omega,rfl,fun j hj =>by
      by_cases h:j=12
      ·subst h; exact HK.out
      ·exact HO.out j (by omega),hb3⟩
     case measure =>simp [intOf]
    | false =>
     have HK :=Hd hok
     clear hok
     go_wp2_with (first | (refine Z03 rfl 24 _ rfl w.heap.size rfl 24 (cfgC c) (0,0) _ Tryz.underlying24 rfl Z0m (Z02 hbox _) ?_) | (go_at_call 162; refine (Zmb c _).mono ?_; rw [HK.out]; rintro r w2 ⟨rfl,hb2⟩))
     have hb3 :=(hbl.alloc (by have :=hbl.size; simp at this; omega) _).trans (hb2.mono (by have :=hbl.size; simp at this ⊢; omega))
     go_ret
     exact ⟨Z0p (Z0u c 20 0 12 (by omega) (by omega) (fun j _ h =>HO.out j h) HK.out).symm,((Below.refl _ _).alloc (Nat.le_refl _) _).trans (hb3.mono (by omega))⟩
   | 13,_ =>
    have ix :=Zr2
    rw [show ((13:Nat):Int)=13 from rfl]
    cases hok:okC c 13 with
    | true =>
     have HK :=Hd hok
     clear hok
     go_wp2_with (first | (refine Z03 rfl 24 _ rfl w.heap.size rfl 24 (cfgC c) (0,0) _ Tryz.underlying24 rfl Z0m (Z02 hbox _) ?_) | (go_at_call 163; refine (Zm6 c _).mono ?_; rw [HK.out]; rintro r w2 ⟨rfl,hb2⟩))
     have hb3 :=(hbl.alloc (by have :=hbl.size; simp at this; omega) _).trans (hb2.mono (by have :=hbl.size; simp at this ⊢; omega))
     go_roundw
     case rel =>exact ⟨14,by omega,rfl,fun j hj =>by
      by_cases h:j=13
      ·subst h; exact HK.out
      ·exact HO.out j (by omega),hb3⟩
     case measure =>simp [intOf]
    | false =>
     have HK :=Hd hok
     clear hok
     go_wp2_with (first | (refine Z03 rfl 24 _ rfl w.heap.size rfl 24 (cfgC c) (0,0) _ Tryz.underlying24 rfl Z0m (Z02 hbox _) ?_) | (go_at_call 163; refine (Zm6 c _).mono ?_; rw [HK.out]; rintro r w2 ⟨rfl,hb2⟩))
     have hb3 :=(hbl.alloc (by have :=hbl.size; simp at this; omega) _).trans (hb2.mono (by have :=hbl.size; simp at this ⊢; omega))
     go_ret
     exact ⟨Z0p (Z0u c 20 0 13 (by omega) (by omega) (fun j _ h =>HO.out j h) HK.out).symm,((Below.refl _ _).alloc (Nat.le_refl _) _).trans (hb3.mono (by omega))⟩
   | 14,_ =>
    have ix :=Zqq
    rw [show ((14:Nat):Int)=14 from rfl]
    cases hok:okC c 14 with
    | true =>
     have HK :=Hd hok
     clear hok
     go_wp2_with (first | (refine Z03 rfl 24 _ rfl w.heap.size rfl 24 (cfgC c) (0,0) _ Tryz.underlying24 rfl Z0m (Z02 hbox _) ?_) | (go_at_call 164; refine (Zm0 c _).mono ?_; rw [HK.out]; rintro r w2 ⟨rfl,hb2⟩))
     have hb3 :=(hbl.alloc (by have :=hbl.size; simp at this; omega) _).trans (hb2.mono (by have :=hbl.size; simp at this ⊢; omega))
     go_roundw
     case rel =>exact ⟨15,by omega,rfl,fun j hj =>by
      by_cases h:j=14
      ·subst h; exact HK.out
      ·exact HO.out j (by omega),hb3⟩
     case measure =>simp [intOf]
    | false =>
     have HK :=Hd hok
     clear hok
     go_wp2_with (first | (refine Z03 rfl 24 _ rfl w.heap.size rfl 24 (cfgC c) (0,0) _ Tryz.underlying24 rfl Z0m (Z02 hbox _) ?_) | (go_at_call 164; refine (Zm0 c _).mono ?_; rw [HK.out]; rintro r w2 ⟨rfl,hb2⟩))
     have hb3 :=(hbl.alloc (by have :=hbl.size; simp at this; omega) _).trans (hb2.mono (by have :=hbl.size; simp at this ⊢; omega))
     go_ret
     exact ⟨Z0p (Z0u c 20 0 14 (by omega) (by omega) (fun j _ h =>HO.out j h) HK.out).symm,((Below.refl _ _).alloc (Nat.le_refl _) _).trans (hb3.mono (by omega))⟩
   | 15,_ =>
    have ix :=Zr3
    rw [show ((15:Nat):Int)=15 from rfl]
    cases hok:okC c 15 with
    | true =>
     have HK :=Hd hok
     clear hok
     go_wp2_with (first | (refine Z03 rfl 24 _ rfl w.heap.size rfl 24 (cfgC c) (0,0) _ Tryz.underlying24 rfl Z0m (Z02 hbox _) ?_) | (go_at_call 165; refine (Zmn c _).mono ?_; rw [HK.out]; rintro r w2 ⟨rfl,hb2⟩))
     have hb3 :=(hbl.alloc (by have :=hbl.size; simp at this; omega) _).trans (hb2.mono (by have :=hbl.size; simp at this ⊢; omega))
     go_roundw
     case rel =>exact ⟨16,by omega,rfl,fun j hj =>by
      by_cases h:j=15
      ·subst h; exact HK.out
      ·exact HO.out j (by omega),hb3⟩
     case measure =>simp [intOf]
    | false =>
     have HK :=Hd hok
     clear hok
     go_wp2_with (first | (refine Z03 rfl 24 _ rfl w.heap.size rfl 24 (cfgC c) (0,0) _ Tryz.underlying24 rfl Z0m (Z02 hbox _) ?_) | (go_at_call 165; refine (Zmn c _).mono ?_; rw [HK.out]; rintro r w2 ⟨rfl,hb2⟩))
     have hb3 :=(hbl.alloc (by have :=hbl.size; simp at this; omega) _).trans (hb2.mono (by have :=hbl.size; simp at this ⊢; omega))
     go_ret
     exact ⟨Z0p (Z0u c 20 0 15 (by omega) (by omega) (fun j _ h =>HO.out j h) HK.out).symm,((Below.refl _ _).alloc (Nat.le_refl _) _).trans (hb3.mono (by omega))⟩
   | 16,_ =>
    have ix :=Zql
    rw [show ((16:Nat):Int)=16 from rfl]
    cases hok:okC c 16 with
    | true =>
     have HK :=Hd hok
     clear hok
     go_wp2_with (first | (refine Z03 rfl 24 _ rfl w.heap.size rfl 24 (cfgC c) (0,0) _ Tryz.underlying24 rfl Z0m (Z02 hbox _) ?_) | (go_at_call 166; refine (Zly c _).mono ?_; rw [HK.out]; rintro r w2 ⟨rfl,hb2⟩))
     have hb3 :=(hbl.alloc (by have :=hbl.size; simp at this; omega) _).trans (hb2.mono (by have :=hbl.size; simp at this ⊢; omega))
     go_roundw
     case rel =>exact ⟨17,by omega,rfl,fun j hj =>by
      by_cases h:j=16
      ·subst h; exact HK.out
      ·exact HO.out j (by omega),hb3⟩
     case measure =>simp [intOf]
    | false =>
     have HK :=Hd hok
     clear hok
     go_wp2_with (first | (refine Z03 rfl 24 _ rfl w.heap.size rfl 24 (cfgC c) (0,0) _ Tryz.underlying24 rfl Z0m (Z02 hbox _) ?_) | (go_at_call 166; refine (Zly c _).mono ?_; rw [HK.out]; rintro r w2 ⟨rfl,hb2⟩))
     have hb3 :=(hbl.alloc (by have :=hbl.size; simp at this; omega) _).trans (hb2.mono (by have :=hbl.size; simp at this ⊢; omega))
     go_ret
     exact ⟨Z0p (Z0u c 20 0 16 (by omega) (by omega) (fun j _ h =>HO.out j h) HK.out).symm,((Below.refl _ _).alloc (Nat.le_refl _) _).trans (hb3.mono (by omega))⟩
   | 17,_ =>
    have ix :=Zr0
    rw [show ((17:Nat):Int)=17 from rfl]
    cases hok:okC c 17 with
    | true =>
     have HK :=Hd hok
     clear hok
     go_wp2_with (first | (refine Z03 rfl 24 _ rfl w.heap.size rfl 24 (cfgC c) (0,0) _ Tryz.underlying24 rfl Z0m (Z02 hbox _) ?_) | (go_at_call 167; refine (Zmc c _).mono ?_; rw [HK.out]; rintro r w2 ⟨rfl,hb2⟩))
     have hb3 :=(hbl.alloc (by have :=hbl.size; simp at this; omega) _).trans (hb2.mono (by have :=hbl.size; simp at this ⊢; omega))
     go_roundw
     case rel =>exact ⟨18,by omega,rfl,fun j hj =>by
      by_cases h:j=17
      ·subst h; exact HK.out
      ·exact HO.out j (by omega),hb3⟩
     case measure =>simp [intOf]
    | false =>
     have HK :=Hd hok
     clear hok
     go_wp2_with (first | (refine Z03 rfl 24 _ rfl w.heap.size rfl 24 (cfgC c) (0,0) _ Tryz.underlying24 rfl Z0m (Z02 hbox _) ?_) | (go_at_call 167; refine (Zmc c _).mono ?_; rw [HK.out]; rintro r w2 ⟨rfl,hb2⟩))
     have hb3 :=(hbl.alloc (by have :=hbl.size; simp at this; omega) _).trans (hb2.mono (by have :=hbl.size; simp at this ⊢; omega))
     go_ret
     exact ⟨Z0p (Z0u c 20 0 17 (by omega) (by omega) (fun j _ h =>HO.out j h) HK.out).symm,((Below.refl _ _).alloc (Nat.le_refl _) _).trans (hb3.mono (by omega))⟩
   | 18,_ =>
    have ix :=Zrh
    rw [show ((18:Nat):Int)=18 from rfl]
    cases hok:okC c 18 with
    | true =>
     have HK :=Hd hok
     clear hok
     go_wp2_with (first | (refine Z03 rfl 24 _ rfl w.heap.size rfl 24 (cfgC c) (0,0) _ Tryz.underlying24 rfl Z0m (Z02 hbox _) ?_) | (go_at_call 168; refine (Zmk c _).mono ?_; rw [HK.out]; rintro r w2 ⟨rfl,hb2⟩))
     have hb3 :=(hbl.alloc (by have :=hbl.size; simp at this; omega) _).trans (hb2.mono (by have :=hbl.size; simp at this ⊢; omega))
     go_roundw
     case rel =>exact ⟨19,by omega,rfl,fun j hj =>by
      by_cases h:j=18
      ·subst h; exact HK.out
      ·exact HO.out j (by omega),hb3⟩
     case measure =>simp [intOf]
    | false =>
     have HK :=Hd hok
     clear hok
     go_wp2_with (first | (refine Z03 rfl 24 _ rfl w.heap.size rfl 24 (cfgC c) (0,0) _ Tryz.underlying24 rfl Z0m (Z02 hbox _) ?_) | (go_at_call 168; refine (Zmk c _).mono ?_; rw [HK.out]; rintro r w2 ⟨rfl,hb2⟩))
     have hb3 :=(hbl.alloc (by have :=hbl.size; simp at this; omega) _).trans (hb2.mono (by have :=hbl.size; simp at this ⊢; omega))
     go_ret
     exact ⟨Z0p (Z0u c 20 0 18 (by omega) (by omega) (fun j _ h =>HO.out j h) HK.out).symm,((Below.refl _ _).alloc (Nat.le_refl _) _).trans (hb3.mono (by omega))⟩
   | 19,_ =>
    have ix :=Zqo
    rw [show ((19:Nat):Int)=19 from rfl]
    cases hok:okC c 19 with
    | true =>
     have HK :=Hd hok
     clear hok
     go_wp2_with (first | (refine Z03 rfl 24 _ rfl w.heap.size rfl 24 (cfgC c) (0,0) _ Tryz.underlying24 rfl Z0m (Z02 hbox _) ?_) | (go_at_call 169; refine (Zm3 c _).mono ?_; rw [HK.out]; rintro r w2 ⟨rfl,hb2⟩))
     have hb3 :=(hbl.alloc (by have :=hbl.size; simp at this; omega) _).trans (hb2.mono (by have :=hbl.size; simp at this ⊢; omega))
     go_roundw
     case rel =>exact ⟨20,by omega,rfl,fun j hj =>by
      by_cases h:j=19
      ·subst h; exact HK.out
      ·exact HO.out j (by omega),hb3⟩
     case measure =>simp [intOf]
    | false =>
     have HK :=Hd hok
     clear hok
     go_wp2_with (first | (refine Z03 rfl 24 _ rfl w.heap.size rfl 24 (cfgC c) (0,0) _ Tryz.underlying24 rfl Z0m (Z02 hbox _) ?_) | (go_at_call 169; refine (Zm3 c _).mono ?_; rw [HK.out]; rintro r w2 ⟨rfl,hb2⟩))
     have hb3 :=(hbl.alloc (by have :=hbl.size; simp at this; omega) _).trans (hb2.mono (by have :=hbl.size; simp at this ⊢; omega))
     go_ret
     exact ⟨Z0p (Z0u c 20 0 19 (by omega) (by omega) (fun j _ h =>HO.out j h) HK.out).symm,((Below.refl _ _).alloc (Nat.le_refl _) _).trans (hb3.mono (by omega))⟩
   | k+20,h =>omega
  ·have hk20:k=20 :=by omega
   subst hk20
   go_wp2
   go_ret
   exact ⟨Z0p (Z94 c 20 0 (fun j _ h =>HO.out j (by omega))).symm,((Below.refl _ _).alloc (Nat.le_refl _) _).trans (hbl.mono (by omega))⟩
def okR (c:Nat→Int):Nat→Bool
 | 0 =>decide (1≤c 0) && decide (c 0≤4096)
 | 1 =>decide (1≤c 1) && decide (c 1≤4096)
 | 2 =>decide (1≤c 2)
 | 3 =>decide (c 2≤c 3)
 | 4 =>decide (c 3≤c 4) && decide (c 4≤1152921504606846976)
 | 5 =>decide (1≤c 5) && decide (c 5≤c 2)
 | 6 =>decide (c 3≤c 6) && decide (c 6≤c 4)
 | 7 =>decide (1≤c 7) && decide (c 7≤1152921504606846976)
 | 8 =>decide (1≤c 8)
 | 9 =>decide (c 9≤1152921504606846976)
 | 10 =>decide (1≤c 10) && decide (c 10≤1048576)
 | 11 =>decide (c 10<c 11) && decide (c 11≤1048576)
 | 12 =>decide (1≤c 12) && decide (c 12≤4096)
 | 13 =>decide (1≤c 13) && decide (c 13≤4096)
 | 14 =>decide (1≤c 14) && decide (c 14≤4096)
 | 15 =>decide (1≤c 15) && decide (c 15≤4096)
 | 16 =>decide (0≤c 16) && decide (c 16<c 14) && decide (c 16<c 15)
 | 17 =>decide (0≤c 17) && decide (c 17≤4096)
 | 18 =>decide (c 18≤c 19)
 | 19 =>decide (1≤c 19) && decide (c 19≤4294967296)
 | _ =>true
theorem Z0s (x lo hi:Int) (w:World) :
 Calls Tryz.prog 99 #[.int .i64 x, .int .i64 lo, .int .i64 hi] w fun r w' =>r = .returned (.bool (decide (lo≤x) && decide (x≤hi)))∧w=w' :=by
 go_enter Tryz.func99,Tryz.ntmps99
 go_wp2
 all_goals
  go_ret
  refine ⟨Z0k ?_,rfl⟩
  simp
  try omega
set_option maxRecDepth 100000 in
theorem Zpm (c:Nat→Int) (w:World) :
 Calls Tryz.prog 60 #[cfgV c, .int .i64 1] w fun r w' =>r = .returned (.bool (okR c 0))∧Below w.heap.size w w' :=by
 go_enter Tryz.func60,Tryz.ntmps60
 go_wp2_with (go_at_call 99; refine (Z0s _ _ _ _).mono ?_; rintro r w' ⟨rfl,rfl⟩)
 all_goals
  go_ret
  refine ⟨Z0k ?_,(Below.refl _ _).alloc (Nat.le_refl _) _⟩
  first
   | rfl
   | (simp only [okR]; done)
   | (simp only [okR]; rw [Bool.eq_iff_iff]; simp; done)
   | (simp only [okR]; rw [Bool.eq_iff_iff]; simp; omega)
set_option maxRecDepth 100000 in
theorem Zpj (c:Nat→Int) (w:World) :
 Calls Tryz.prog 60 #[cfgV c, .int .i64 2] w fun r w' =>r = .returned (.bool (okR c 1))∧Below w.heap.size w w' :=by
 go_enter Tryz.func60,Tryz.ntmps60
 go_wp2_with (go_at_call 99; refine (Z0s _ _ _ _).mono ?_; rintro r w' ⟨rfl,rfl⟩)
 all_goals
  go_ret
  refine ⟨Z0k ?_,(Below.refl _ _).alloc (Nat.le_refl _) _⟩
  first
   | rfl
   | (simp only [okR]; done)
   | (simp only [okR]; rw [Bool.eq_iff_iff]; simp; done)
   | (simp only [okR]; rw [Bool.eq_iff_iff]; simp; omega)
set_option maxRecDepth 100000 in
theorem Zon (c:Nat→Int) (w:World) :
 Calls Tryz.prog 60 #[cfgV c, .int .i64 3] w fun r w' =>r = .returned (.bool (okR c 2))∧Below w.heap.size w w' :=by
 go_enter Tryz.func60,Tryz.ntmps60
 go_wp2_with (go_at_call 99; refine (Z0s _ _ _ _).mono ?_; rintro r w' ⟨rfl,rfl⟩)
 all_goals
  go_ret
  refine ⟨Z0k ?_,(Below.refl _ _).alloc (Nat.le_refl _) _⟩
  first
   | rfl
   | (simp only [okR]; done)
   | (simp only [okR]; rw [Bool.eq_iff_iff]; simp; done)
   | (simp only [okR]; rw [Bool.eq_iff_iff]; simp; omega)
set_option maxRecDepth 100000 in
theorem Zq7 (c:Nat→Int) (w:World) :
 Calls Tryz.prog 60 #[cfgV c, .int .i64 4] w fun r w' =>r = .returned (.bool (okR c 3))∧Below w.heap.size w w' :=by
 go_enter Tryz.func60,Tryz.ntmps60
 go_wp2_with (go_at_call 99; refine (Z0s _ _ _ _).mono ?_; rintro r w' ⟨rfl,rfl⟩)
 all_goals
  go_ret
  refine ⟨Z0k ?_,(Below.refl _ _).alloc (Nat.le_refl _) _⟩
  first
   | rfl
   | (simp only [okR]; done)
   | (simp only [okR]; rw [Bool.eq_iff_iff]; simp; done)
   | (simp only [okR]; rw [Bool.eq_iff_iff]; simp; omega)
set_option maxRecDepth 100000 in
theorem Zpx (c:Nat→Int) (w:World) :
 Calls Tryz.prog 60 #[cfgV c, .int .i64 5] w fun r w' =>r = .returned (.bool (okR c 4))∧Below w.heap.size w w' :=by
 go_enter Tryz.func60,Tryz.ntmps60
 go_wp2_with (go_at_call 99; refine (Z0s _ _ _ _).mono ?_; rintro r w' ⟨rfl,rfl⟩)
 all_goals
  go_ret
  refine ⟨Z0k ?_,(Below.refl _ _).alloc (Nat.le_refl _) _⟩
  first
   | rfl
   | (simp only [okR]; done)
   | (simp only [okR]; rw [Bool.eq_iff_iff]; simp; done)
   | (simp only [okR]; rw [Bool.eq_iff_iff]; simp; omega)
set_option maxRecDepth 100000 in
theorem Zoy (c:Nat→Int) (w:World) :
 Calls Tryz.prog 60 #[cfgV c, .int .i64 6] w fun r w' =>r = .returned (.bool (okR c 5))∧Below w.heap.size w w' :=by
 go_enter Tryz.func60,Tryz.ntmps60
 go_wp2_with (go_at_call 99; refine (Z0s _ _ _ _).mono ?_; rintro r w' ⟨rfl,rfl⟩)
 all_goals
  go_ret
  refine ⟨Z0k ?_,(Below.refl _ _).alloc (Nat.le_refl _) _⟩
  first
   | rfl
   | (simp only [okR]; done)
   | (simp only [okR]; rw [Bool.eq_iff_iff]; simp; done)
   | (simp only [okR]; rw [Bool.eq_iff_iff]; simp; omega)
set_option maxRecDepth 100000 in
theorem Zp5 (c:Nat→Int) (w:World) :
 Calls Tryz.prog 60 #[cfgV c, .int .i64 7] w fun r w' =>r = .returned (.bool (okR c 6))∧Below w.heap.size w w' :=by
 go_enter Tryz.func60,Tryz.ntmps60
 go_wp2_with (go_at_call 99; refine (Z0s _ _ _ _).mono ?_; rintro r w' ⟨rfl,rfl⟩)
 all_goals
  go_ret
  refine ⟨Z0k ?_,(Below.refl _ _).alloc (Nat.le_refl _) _⟩
  first
   | rfl
   | (simp only [okR]; done)
   | (simp only [okR]; rw [Bool.eq_iff_iff]; simp; done)
   | (simp only [okR]; rw [Bool.eq_iff_iff]; simp; omega)
set_option maxRecDepth 100000 in
theorem Zqd (c:Nat→Int) (w:World) :
 Calls Tryz.prog 60 #[cfgV c, .int .i64 8] w fun r w' =>r = .returned (.bool (okR c 7))∧Below w.heap.size w w' :=by
 go_enter Tryz.func60,Tryz.ntmps60
 go_wp2_with (go_at_call 99; refine (Z0s _ _ _ _).mono ?_; rintro r w' ⟨rfl,rfl⟩)
 all_goals
  go_ret
  refine ⟨Z0k ?_,(Below.refl _ _).alloc (Nat.le_refl _) _⟩
  first
   | rfl
   | (simp only [okR]; done)
   | (simp only [okR]; rw [Bool.eq_iff_iff]; simp; done)
   | (simp only [okR]; rw [Bool.eq_iff_iff]; simp; omega)
set_option maxRecDepth 100000 in
theorem Zp7 (c:Nat→Int) (w:World) :
 Calls Tryz.prog 60 #[cfgV c, .int .i64 9] w fun r w' =>r = .returned (.bool (okR c 8))∧Below w.heap.size w w' :=by
 go_enter Tryz.func60,Tryz.ntmps60
 go_wp2_with (go_at_call 99; refine (Z0s _ _ _ _).mono ?_; rintro r w' ⟨rfl,rfl⟩)
 all_goals
  go_ret
  refine ⟨Z0k ?_,(Below.refl _ _).alloc (Nat.le_refl _) _⟩
  first
   | rfl
   | (simp only [okR]; done)
   | (simp only [okR]; rw [Bool.eq_iff_iff]; simp; done)
   | (simp only [okR]; rw [Bool.eq_iff_iff]; simp; omega)
set_option maxRecDepth 100000 in
theorem Znm (c:Nat→Int) (w:World) :
 Calls Tryz.prog 60 #[cfgV c, .int .i64 10] w fun r w' =>r = .returned (.bool (okR c 9))∧Below w.heap.size w w' :=by
 go_enter Tryz.func60,Tryz.ntmps60
 go_wp2_with (go_at_call 99; refine (Z0s _ _ _ _).mono ?_; rintro r w' ⟨rfl,rfl⟩)
 all_goals
  go_ret
  refine ⟨Z0k ?_,(Below.refl _ _).alloc (Nat.le_refl _) _⟩
  first
   | rfl
   | (simp only [okR]; done)
   | (simp only [okR]; rw [Bool.eq_iff_iff]; simp; done)
   | (simp only [okR]; rw [Bool.eq_iff_iff]; simp; omega)
set_option maxRecDepth 100000 in
theorem Zmv (c:Nat→Int) (w:World) :
 Calls Tryz.prog 60 #[cfgV c, .int .i64 11] w fun r w' =>r = .returned (.bool (okR c 10))∧Below w.heap.size w w' :=by
 go_enter Tryz.func60,Tryz.ntmps60
 go_wp2_with (go_at_call 99; refine (Z0s _ _ _ _).mono ?_; rintro r w' ⟨rfl,rfl⟩)
 all_goals
  go_ret
  refine ⟨Z0k ?_,(Below.refl _ _).alloc (Nat.le_refl _) _⟩
  first
   | rfl
   | (simp only [okR]; done)
   | (simp only [okR]; rw [Bool.eq_iff_iff]; simp; done)
   | (simp only [okR]; rw [Bool.eq_iff_iff]; simp; omega)
set_option maxRecDepth 100000 in
theorem Znw (c:Nat→Int) (w:World) :
 Calls Tryz.prog 60 #[cfgV c, .int .i64 12] w fun r w' =>r = .returned (.bool (okR c 11))∧Below w.heap.size w w' :=by
 go_enter Tryz.func60,Tryz.ntmps60
 go_wp2_with (go_at_call 99; refine (Z0s _ _ _ _).mono ?_; rintro r w' ⟨rfl,rfl⟩)
 all_goals
  go_ret
  refine ⟨Z0k ?_,(Below.refl _ _).alloc (Nat.le_refl _) _⟩
  first
   | rfl
   | (simp only [okR]; done)
   | (simp only [okR]; rw [Bool.eq_iff_iff]; simp; done)
   | (simp only [okR]; rw [Bool.eq_iff_iff]; simp; omega)
set_option maxRecDepth 100000 in
theorem Zn1 (c:Nat→Int) (w:World) :
 Calls Tryz.prog 60 #[cfgV c, .int .i64 13] w fun r w' =>r = .returned (.bool (okR c 12))∧Below w.heap.size w w' :=by
 go_enter Tryz.func60,Tryz.ntmps60
 go_wp2_with (go_at_call 99; refine (Z0s _ _ _ _).mono ?_; rintro r w' ⟨rfl,rfl⟩)
 all_goals
  go_ret
  refine ⟨Z0k ?_,(Below.refl _ _).alloc (Nat.le_refl _) _⟩
  first
   | rfl
   | (simp only [okR]; done)
   | (simp only [okR]; rw [Bool.eq_iff_iff]; simp; done)
   | (simp only [okR]; rw [Bool.eq_iff_iff]; simp; omega)
set_option maxRecDepth 100000 in
theorem Zo2 (c:Nat→Int) (w:World) :
 Calls Tryz.prog 60 #[cfgV c, .int .i64 14] w fun r w' =>r = .returned (.bool (okR c 13))∧Below w.heap.size w w' :=by
 go_enter Tryz.func60,Tryz.ntmps60
 go_wp2_with (go_at_call 99; refine (Z0s _ _ _ _).mono ?_; rintro r w' ⟨rfl,rfl⟩)
 all_goals
  go_ret
  refine ⟨Z0k ?_,(Below.refl _ _).alloc (Nat.le_refl _) _⟩
  first
   | rfl
   | (simp only [okR]; done)
   | (simp only [okR]; rw [Bool.eq_iff_iff]; simp; done)
   | (simp only [okR]; rw [Bool.eq_iff_iff]; simp; omega)
set_option maxRecDepth 100000 in
theorem Znf (c:Nat→Int) (w:World) :
 Calls Tryz.prog 60 #[cfgV c, .int .i64 15] w fun r w' =>r = .returned (.bool (okR c 14))∧Below w.heap.size w w' :=by
 go_enter Tryz.func60,Tryz.ntmps60
 go_wp2_with (go_at_call 99; refine (Z0s _ _ _ _).mono ?_; rintro r w' ⟨rfl,rfl⟩)
 all_goals
  go_ret
  refine ⟨Z0k ?_,(Below.refl _ _).alloc (Nat.le_refl _) _⟩
  first
   | rfl
   | (simp only [okR]; done)
   | (simp only [okR]; rw [Bool.eq_iff_iff]; simp; done)
   | (simp only [okR]; rw [Bool.eq_iff_iff]; simp; omega)
set_option maxRecDepth 100000 in
theorem Zoa (c:Nat→Int) (w:World) :
 Calls Tryz.prog 60 #[cfgV c, .int .i64 16] w fun r w' =>r = .returned (.bool (okR c 15))∧Below w.heap.size w w' :=by
 go_enter Tryz.func60,Tryz.ntmps60
 go_wp2_with (go_at_call 99; refine (Z0s _ _ _ _).mono ?_; rintro r w' ⟨rfl,rfl⟩)
 all_goals
  go_ret
  refine ⟨Z0k ?_,(Below.refl _ _).alloc (Nat.le_refl _) _⟩
  first
   | rfl
   | (simp only [okR]; done)
   | (simp only [okR]; rw [Bool.eq_iff_iff]; simp; done)
   | (simp only [okR]; rw [Bool.eq_iff_iff]; simp; omega)
set_option maxRecDepth 100000 in
theorem Zo4 (c:Nat→Int) (w:World) :
 Calls Tryz.prog 60 #[cfgV c, .int .i64 17] w fun r w' =>r = .returned (.bool (okR c 16))∧Below w.heap.size w w' :=by
 go_enter Tryz.func60,Tryz.ntmps60
 go_wp2_with (go_at_call 99; refine (Z0s _ _ _ _).mono ?_; rintro r w' ⟨rfl,rfl⟩)
 all_goals
  go_ret
  refine ⟨Z0k ?_,(Below.refl _ _).alloc (Nat.le_refl _) _⟩
  first
   | rfl
   | (simp only [okR]; done)
   | (simp only [okR]; rw [Bool.eq_iff_iff]; simp; done)
   | (simp only [okR]; rw [Bool.eq_iff_iff]; simp; omega)
set_option maxRecDepth 100000 in
theorem Znb (c:Nat→Int) (w:World) :
 Calls Tryz.prog 60 #[cfgV c, .int .i64 18] w fun r w' =>r = .returned (.bool (okR c 17))∧Below w.heap.size w w' :=by
 go_enter Tryz.func60,Tryz.ntmps60
 go_wp2_with (go_at_call 99; refine (Z0s _ _ _ _).mono ?_; rintro r w' ⟨rfl,rfl⟩)
 all_goals
  go_ret
  refine ⟨Z0k ?_,(Below.refl _ _).alloc (Nat.le_refl _) _⟩
  first
   | rfl
   | (simp only [okR]; done)
   | (simp only [okR]; rw [Bool.eq_iff_iff]; simp; done)
   | (simp only [okR]; rw [Bool.eq_iff_iff]; simp; omega)
set_option maxRecDepth 100000 in
theorem Zo1 (c:Nat→Int) (w:World) :
 Calls Tryz.prog 60 #[cfgV c, .int .i64 19] w fun r w' =>r = .returned (.bool (okR c 18))∧Below w.heap.size w w' :=by
 go_enter Tryz.func60,Tryz.ntmps60
 go_wp2_with (go_at_call 99; refine (Z0s _ _ _ _).mono ?_; rintro r w' ⟨rfl,rfl⟩)
 all_goals
  go_ret
  refine ⟨Z0k ?_,(Below.refl _ _).alloc (Nat.le_refl _) _⟩
  first
   | rfl
   | (simp only [okR]; done)
   | (simp only [okR]; rw [Bool.eq_iff_iff]; simp; done)
   | (simp only [okR]; rw [Bool.eq_iff_iff]; simp; omega)
set_option maxRecDepth 100000 in
theorem Zmt (c:Nat→Int) (w:World) :
 Calls Tryz.prog 60 #[cfgV c, .int .i64 20] w fun r w' =>r = .returned (.bool (okR c 19))∧Below w.heap.size w w' :=by
 go_enter Tryz.func60,Tryz.ntmps60
 go_wp2_with (go_at_call 99; refine (Z0s _ _ _ _).mono ?_; rintro r w' ⟨rfl,rfl⟩)
 all_goals
  go_ret
  refine ⟨Z0k ?_,(Below.refl _ _).alloc (Nat.le_refl _) _⟩
  first
   | rfl
   | (simp only [okR]; done)
   | (simp only [okR]; rw [Bool.eq_iff_iff]; simp; done)
   | (simp only [okR]; rw [Bool.eq_iff_iff]; simp; omega)
structure Vld (c:Nat→Int):Prop where
 c0:1≤c 0∧c 0≤4096
 c1:1≤c 1∧c 1≤4096
 c2:0<c 2
 c3:c 2≤c 3
 c4:c 3≤c 4∧c 4≤1152921504606846976
 c5:1≤c 5∧c 5≤c 2
 c6:c 3≤c 6∧c 6≤c 4
 c7:1≤c 7∧c 7≤1152921504606846976
 c8:0<c 8
 c9:c 9≤1152921504606846976
 c10:1≤c 10∧c 10≤1048576
 c11:c 10<c 11∧c 11≤1048576
 c12:1≤c 12∧c 12≤4096
 c13:1≤c 13∧c 13≤4096
 c14:1≤c 14∧c 14≤4096
 c15:1≤c 15∧c 15≤4096
 c16:0≤c 16∧c 16<c 14∧c 16<c 15
 c17:0≤c 17∧c 17≤4096
 c18:c 18≤c 19
 c19:1≤c 19∧c 19≤4294967296
theorem Z7i (c:Nat→Int):∀ (n k:Nat),Z45 c k n=0→∀ j,k≤j→j<k+n→okC c j=true
 | 0,k,_,j,h1,h2 =>by omega
 | n+1,k,h,j,h1,h2 =>by
  rw [Z45] at h
  by_cases hk:okC c k=true
  ·rw [if_pos hk] at h
   by_cases hj:j=k
   ·subst hj; exact hk
   ·exact Z7i c n (k+1) h j (by omega) (by omega)
  ·rw [if_neg hk] at h; omega
theorem wrap64_small {x:Int} (h : -9223372036854775808≤x) (h2:x≤9223372036854775807):wrap64 x=x :=IntWalk.wrap64_in x ⟨h,h2⟩
theorem Zog {c:Nat→Int} (h:chk c=0):Vld c :=by
 have ok :=fun j (hj:j<20) =>Z7i c 20 0 h j (Nat.zero_le _) (by omega)
 have h0 :=ok 0 (by omega); have h1 :=ok 1 (by omega); have h2 :=ok 2 (by omega); have h3 :=ok 3 (by omega); have h4 :=ok 4 (by omega)
 have h5 :=ok 5 (by omega); have h6 :=ok 6 (by omega); have h7 :=ok 7 (by omega); have h8 :=ok 8 (by omega); have h9 :=ok 9 (by omega)
 have h10 :=ok 10 (by omega); have h11 :=ok 11 (by omega); have h12 :=ok 12 (by omega); have h13 :=ok 13 (by omega); have h14 :=ok 14 (by omega)
 have h15 :=ok 15 (by omega); have h16 :=ok 16 (by omega); have h17 :=ok 17 (by omega); have h18 :=ok 18 (by omega); have h19 :=ok 19 (by omega)
 simp only [okC,Bool.and_eq_true,decide_eq_true_eq] at h0 h1 h2 h3 h4 h5 h6 h7 h8 h9 h10 h11 h12 h13 h14 h15 h16 h17 h18 h19
 rw [wrap64_small (by omega) (by omega)] at h11
 rw [wrap64_small (by split <;> omega) (by split <;> omega)] at h16
 refine ⟨h0,h1,h2,h3,h4,h5,h6,h7,h8,h9,h10,by omega,h12,h13,h14,h15, ?_,h17,h18,h19⟩
 split at h16 <;> omega
def minI (x y:Int):Int :=if y<x then y else x
theorem Zgh (c:Nat→Int) (w:World) (hv:Vld c):Calls Tryz.prog 19 #[cfgV c] w fun r w' =>r = .returned (.int .i64 ((c 0 - 1) / minI (c 14 - c 16) (c 15 - c 16)+1))∧Below w.heap.size w w' :=by
 obtain ⟨a0,a1⟩ :=hv.c0; obtain ⟨b0,b1⟩ :=hv.c14; obtain ⟨d0,d1⟩ :=hv.c15; obtain ⟨e0,e1,e2⟩ :=hv.c16
 have m1:1≤minI (c 14 - c 16) (c 15 - c 16)∧minI (c 14 - c 16) (c 15 - c 16)≤4096 :=by unfold minI; split <;> omega
 obtain ⟨m0,m1⟩ :=m1
 have X1:Hid (wrap64 (c 14 - c 16)=c 14 - c 16) :=Hd (wrap64_small (by omega) (by omega))
 have X2:Hid (wrap64 (c 15 - c 16)=c 15 - c 16) :=Hd (wrap64_small (by omega) (by omega))
 generalize hm:minI (c 14 - c 16) (c 15 - c 16)=m at *
 have HM :=Hd hm
 clear hm
 have q0:0≤(c 0 - 1) / m :=Int.ediv_nonneg (by omega) (by omega)
 have q1:(c 0 - 1) / m≤c 0 - 1 :=Int.ediv_le_self _ (by omega)
 go_enter Tryz.func19,Tryz.ntmps19
 go_wp2_with fail
 have hC0:Alow (w.heap.size+1) (w.alloc (.cells (cfgC c) 24)) (w.alloc (.cells (cfgC c) 24)).drew :=⟨(Below.refl _ _).drew,by simp⟩
 refine wp_region_quiet (by kernel_rfl) (by kernel_rfl) hC0 ?_
 refine Z38 rfl 24 _ rfl w.heap.size rfl 24 (cfgC c) (0,0) _ Tryz.underlying24 rfl Z0m (fun wx hC =>(hC.block (by omega)).trans (heap_alloc_last w _)) ?_
 refine Z4o rfl (fun wx hC =>by go_simp) (fun wx hC =>hC.call (Zfv c _)) ?_
 refine Z38 rfl 24 _ rfl w.heap.size rfl 24 (cfgC c) (0,0) _ Tryz.underlying24 rfl Z0m (fun wx hC =>(hC.block (by omega)).trans (heap_alloc_last w _)) ?_
 refine Z4o rfl (fun wx hC =>by go_simp) (fun wx hC =>hC.call (Zc6 c _)) ?_
 rw [X1.out,X2.out]
 refine Z20 (v := .int .i64 m) rfl (fun wx hC =>by rw [← HM.out]; unfold minI; split <;> go_simp) ?_
 go_frame
 refine Z20 (v := .int .i64 m) rfl (fun wx hC =>by go_simp) ?_
 refine wpQuiet_nil ?_
 intro w2 hC
 have hx :=hC.cell (p :=⟨w.heap.size,0,none⟩) (by simp)
 have hx0:w2.cell? ⟨w.heap.size,0,none⟩=some (.int .i64 (c 0)) :=by rw [hx]; simp [go_sem]
 have hb :=hC.1
 clear hC hC0 hx
 go_frame
 go_wp2
 go_ret
 exact ⟨rfl,((Below.refl _ _).alloc (Nat.le_refl _) _).trans (hb.mono (by omega))⟩
def Z5a (c:Nat→Int):Nat→Nat→Int
 | _,0 =>0
 | k,n+1 =>if okR c k=true then Z5a c (k+1) n else k+1
theorem Za4 (c:Nat→Int):∀ (n k m:Nat),k≤m→m<k+n→(∀ j,k≤j→j<m→okR c j=true)→okR c m=false→Z5a c k n=m+1
 | 0,k,m,h1,h2,_,_ =>by omega
 | n+1,k,m,h1,h2,h3,h4 =>by
  rw [Z5a]
  by_cases hk:k=m
  ·subst hk; rw [if_neg (by rw [h4]; simp)]
  ·rw [if_pos (h3 k (Nat.le_refl _) (by omega))]
   exact Za4 c n (k+1) m (by omega) (by omega) (fun j a b =>h3 j (by omega) b) h4
theorem Z8o (c:Nat→Int):∀ (n k:Nat),(∀ j,k≤j→j<k+n→okR c j=true)→Z5a c k n=0
 | 0,_,_ =>rfl
 | n+1,k,h =>by
  rw [Z5a,if_pos (h k (Nat.le_refl _) (by omega))]
  exact Z8o c n (k+1) (fun j a b =>h j (by omega) (by omega))
theorem Zji (c:Nat→Int) (k:Nat) (hk:k<20) (h:∀ j,j<k→okC c j=true):okC c k=okR c k :=by
 by_cases h11:k=11
 ·subst h11
  have h10 :=h 10 (by omega)
  simp only [okC,Bool.and_eq_true,decide_eq_true_eq] at h10
  simp only [okC,okR]
  rw [wrap64_small (by omega) (by omega),Bool.eq_iff_iff]
  simp
  omega
 by_cases h16:k=16
 ·subst h16
  have h14 :=h 14 (by omega)
  have h15 :=h 15 (by omega)
  simp only [okC,Bool.and_eq_true,decide_eq_true_eq] at h14 h15
  simp only [okC,okR]
  rw [wrap64_small (by split <;> omega) (by split <;> omega),Bool.eq_iff_iff]
  simp
  split <;> omega
 match k,hk with
 | 0,_ =>rfl
 | 1,_ =>rfl
 | 2,_ =>rfl
 | 3,_ =>rfl
 | 4,_ =>rfl
 | 5,_ =>rfl
 | 6,_ =>rfl
 | 7,_ =>rfl
 | 8,_ =>rfl
 | 9,_ =>rfl
 | 10,_ =>rfl
 | 12,_ =>rfl
 | 13,_ =>rfl
 | 14,_ =>rfl
 | 15,_ =>rfl
 | 17,_ =>rfl
 | 18,_ =>rfl
 | 19,_ =>rfl
 | k+20,hk =>exact absurd hk (by omega)
theorem Zfo (c:Nat→Int):∀ (n k:Nat),k+n=20→(∀ j,j<k→okC c j=true)→Z5a c k n=Z45 c k n
 | 0,_,_,_ =>rfl
 | n+1,k,hn,h =>by
  rw [Z5a,Z45,Zji c k (by omega) h]
  by_cases hk:okR c k=true
  ·rw [if_pos hk,if_pos hk]
   refine Zfo c n (k+1) (by omega) fun j hj =>?_
   by_cases hjk:j=k
   ·subst hjk; rw [Zji c j (by omega) h]; exact hk
   ·exact h j (by omega)
  ·rw [if_neg hk,if_neg hk]
theorem Zjo (c:Nat→Int) (i:Int) (h1:1≤i) (h2:i≤20) (w:World) :
 Calls Tryz.prog 60 #[cfgV c, .int .i64 i] w fun r w' =>r = .returned (.bool (okR c (i - 1).toNat))∧Below w.heap.size w w' :=by
 obtain ⟨k,rfl⟩:∃ k:Nat,i=(k:Int)+1 :=⟨(i - 1).toNat,by omega⟩
 have e:((k:Int)+1 - 1).toNat=k :=by omega
 rw [e]
 have hk:k<20 :=by omega
 match k,hk with
 | 0,_ =>exact Zpm c w
 | 1,_ =>exact Zpj c w
 | 2,_ =>exact Zon c w
 | 3,_ =>exact Zq7 c w
 | 4,_ =>exact Zpx c w
 | 5,_ =>exact Zoy c w
 | 6,_ =>exact Zp5 c w
 | 7,_ =>exact Zqd c w
 | 8,_ =>exact Zp7 c w
 | 9,_ =>exact Znm c w
 | 10,_ =>exact Zmv c w
 | 11,_ =>exact Znw c w
 | 12,_ =>exact Zn1 c w
 | 13,_ =>exact Zo2 c w
 | 14,_ =>exact Znf c w
 | 15,_ =>exact Zoa c w
 | 16,_ =>exact Zo4 c w
 | 17,_ =>exact Znb c w
 | 18,_ =>exact Zo1 c w
 | 19,_ =>exact Zmt c w
theorem Zce (c:Nat→Int) (w:World) :
 Calls Tryz.prog 20 #[cfgV c] w fun r w' =>r = .returned (.int .i64 (chk c))∧Below w.heap.size w w' :=by
 have HS:Hid (Z5a c 0 20=chk c) :=Hd (Zfo c 20 0 (by omega) (fun j hj =>by omega))
 go_enter Tryz.func20,Tryz.ntmps20
 go_wp2
 go_loopw [3] (fun i wr => ∃ k:Nat,k≤20∧i = .int .i64 ((k:Int)+1)∧(∀ j,j<k→okR c j=true)∧Below (w.heap.size+1) (w.alloc (.cells (cfgC c) 24)) wr) (fun i _ =>21 - (intOf i).toNat)
 case atStart =>exact ⟨0,Nat.zero_le _,rfl,fun j hj =>by omega,Below.refl _ _⟩
 case round =>
  obtain ⟨k,hk,rfl,hok,hbl⟩ :=hrel
  have HO :=Hd hok
  have hbox:wr.heap[w.heap.size]? = some (.cells (cfgC c) 24 (0,0)) :=(hbl.block w.heap.size (by omega)).trans (heap_alloc_last w _)
  clear hok
  by_cases hlt:k<20
  ·go_wp2_with (refine Z03 rfl 24 _ rfl w.heap.size rfl 24 (cfgC c) (0,0) _ Tryz.underlying24 rfl Z0m hbox ?_)
   refine (Zjo c _ (by omega) (by omega) _).mono ?_
   have e:((k:Int)+1 - 1).toNat=k :=by omega
   rw [e]
   clear e
   rintro r w2 ⟨rfl,hb2⟩
   have hb3 :=hbl.trans (hb2.mono (by have :=hbl.size; simp at this; omega))
   clear hb2 hbl hbox
   cases hok:okR c k with
   | true =>
    have HK :=Hd hok
    clear hok
    go_wp2
    go_roundw
    case rel =>exact ⟨k+1,by omega,by go_num,fun j hj =>by
     by_cases h:j=k
     ·subst h; exact HK.out
     ·exact HO.out j (by omega),hb3⟩
    case measure =>simp [intOf]; omega
   | false =>
    have HK :=Hd hok
    clear hok
    go_wp2
    go_ret
    exact ⟨Z0p (by rw [← HS.out,Za4 c 20 0 k (by omega) (by omega) (fun j _ h =>HO.out j h) HK.out]),((Below.refl _ _).alloc (Nat.le_refl _) _).trans (hb3.mono (by omega))⟩
  ·have hk20:k=20 :=by omega
   subst hk20
   go_wp2
   go_ret
   exact ⟨Z0p (by rw [← HS.out,Z8o c 20 0 (fun j _ h =>HO.out j (by omega))]),((Below.refl _ _).alloc (Nat.le_refl _) _).trans (hbl.mono (by omega))⟩
end Go.Proofs.YtecapfmmoejikaaGreat
