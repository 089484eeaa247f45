/- A part of the proofs of the top laws: Bits DivM Div DivB. -/
import Derived.Lib.Mul64
import Derived.Lib.Strings
import Derived.Lib.Slices
import Derived.Lib.Small
import Derived.Lib.Walk
import Derived.Lib.BitFns
import Derived.Deep.Light
import Derived.Laws.Bits64b
import Derived.Test.YtecapfmmoejikaaGreatPkAx
set_option maxRecDepth 4000
set_option maxHeartbeats 8000000
namespace Go.Eg
theorem maskN (a:Nat) (ha:a<18446744073709551616):bits .and .u64 (a:Int) 4294967295=((a % 4294967296:Nat):Int) :=by
 have h :=bits_and_u64_nat a 4294967295 ha (by omega)
 have e:a &&& 4294967295=a % 4294967296 :=Nat.and_two_pow_sub_one_eq_mod a 32
 rw [e] at h
 exact h
theorem divN (a:Nat):(a:Int) / 4294967296=((a / 4294967296:Nat):Int) :=by omega
theorem mulN (a b:Nat):(a:Int) * (b:Int)=((a * b:Nat):Int) :=(Int.natCast_mul a b).symm
theorem addN (a b:Nat):(a:Int)+(b:Int)=((a+b:Nat):Int) :=(Int.natCast_add a b).symm
theorem wrapN (a:Nat) (ha:a<18446744073709551616):IntKind.u64.wrap (a:Int)=(a:Int) :=by rw [IntKind.wrap_u64]; omega
theorem wrapM (a:Nat):IntKind.u64.wrap (a:Int)=((a % 18446744073709551616:Nat):Int) :=by rw [IntKind.wrap_u64]; omega
end Go.Eg
namespace Go.Proofs.YtecapfmmoejikaaGreat
open Go.RowKit Go.Eg
theorem Zdf (x y:Nat) (hx:x<18446744073709551616) (hy:y<18446744073709551616) (w:World) :
 Calls Tryz.prog 107 #[.int .u64 x, .int .u64 y] w fun e w' =>e = .returned (.tuple #[.int .u64 ((x * y / 18446744073709551616:Nat):Int), .int .u64 ((x * y % 18446744073709551616:Nat):Int)])∧w'=w :=by
 obtain ⟨bd,bt,bw,hhi⟩ :=Lib.mul64_hi x y hx hy
 have ba :=Lib.half_mul_le (a :=x / 4294967296) (b :=y / 4294967296) (by omega) (by omega)
 have bb :=Lib.half_mul_le (a :=x / 4294967296) (b :=y % 4294967296) (by omega) (by omega)
 have bc :=Lib.half_mul_le (a :=x % 4294967296) (b :=y / 4294967296) (by omega) (by omega)
 have ba':x / 4294967296 * (y / 4294967296)<18446744073709551616 :=by omega
 have bb':x / 4294967296 * (y % 4294967296)<18446744073709551616 :=by omega
 have bc':x % 4294967296 * (y / 4294967296)<18446744073709551616 :=by omega
 have bh1:x / 4294967296 * (y / 4294967296)+(x / 4294967296 * (y % 4294967296)+x % 4294967296 * (y % 4294967296) / 4294967296) / 4294967296<18446744073709551616 :=by omega
 have bh:x / 4294967296 * (y / 4294967296)+(x / 4294967296 * (y % 4294967296)+x % 4294967296 * (y % 4294967296) / 4294967296) / 4294967296+((x / 4294967296 * (y % 4294967296)+x % 4294967296 * (y % 4294967296) / 4294967296) % 4294967296+x % 4294967296 * (y / 4294967296)) / 4294967296<18446744073709551616 :=by omega
 go_enter Tryz.func107,Tryz.ntmps107
 go_wp2
 simp only [maskN x hx,maskN y hy,divN,mulN,addN,wrapN _ bd,wrapN _ bb',wrapN _ bt,maskN _ bt,wrapN _ bc',wrapN _ bw,wrapN _ ba',wrapN _ bh1,wrapN _ bh,wrapM (x * y)]
 rw [hhi]
 go_ret2
 exact ⟨rfl,rfl⟩
set_option maxRecDepth 100000 in
theorem len8tab_size:(Lib.len8tab.size:Int)=256 :=by
 have:Lib.len8tab.size=256 :=by decide
 omega
theorem wrap_add (k a b:Nat) (hk:k≤56) (ha:a≤8) (hb:b=k+a):RowKit.wrap64 ((k:Int)+RowKit.wrap64 (a:Int))=(b:Int) :=by
 unfold RowKit.wrap64
 omega
theorem wrap_wrap (a:Nat) (ha:a≤8):RowKit.wrap64 (RowKit.wrap64 (a:Int))=(a:Int) :=by
 unfold RowKit.wrap64
 omega
theorem len8_get (y:Int) (h:y.toNat<Lib.len8tab.size):((Lib.len8tab[y.toNat]'h).toNat:Int)=Lib.len8 y :=by
 unfold Lib.len8
 rw [getElem?_pos Lib.len8tab y.toNat h]
 rfl
set_option maxRecDepth 100000 in
theorem Zia (x:Int) (w:World) (h0:0≤x) (h1:x≤18446744073709551615) :
 Calls Tryz.prog 239 #[.int .u64 x] w fun e w' =>e = .returned (.int .i64 (Lib.bitLen x.toNat))∧w'=w :=by
 go_enter Tryz.func239,Tryz.ntmps239
 go_wp2
 all_goals first
  | (go_ret; refine ⟨congrArg Ending.returned (congrArg (Value.int IntKind.i64) ?_),rfl⟩; go_light)
  | (
   exfalso
   go_light
   have hs :=len8tab_size
   omega)
 all_goals first
  | (
   rw [len8_get (x / 4294967296 / 65536 / 256) _,Lib.len8_of (x / 4294967296 / 65536 / 256) (by omega) (by omega)]
   have e:(x / 4294967296 / 65536 / 256).toNat=x.toNat / 72057594037927936 :=by omega
   have l :=Lib.bitLen_le8' (x / 4294967296 / 65536 / 256) (by omega) (by omega)
   have s :=Lib.bitLen_shift56 x.toNat (by omega) (by omega)
   rw [e] at l ⊢
   exact wrap_add 56 _ _ (by decide) l s)
  | (
   rw [len8_get (x / 4294967296 / 65536) _,Lib.len8_of (x / 4294967296 / 65536) (by omega) (by omega)]
   have e:(x / 4294967296 / 65536).toNat=x.toNat / 281474976710656 :=by omega
   have l :=Lib.bitLen_le8' (x / 4294967296 / 65536) (by omega) (by omega)
   have s :=Lib.bitLen_shift48 x.toNat (by omega) (by omega)
   rw [e] at l ⊢
   exact wrap_add 48 _ _ (by decide) l s)
  | (
   rw [len8_get (x / 4294967296 / 256) _,Lib.len8_of (x / 4294967296 / 256) (by omega) (by omega)]
   have e:(x / 4294967296 / 256).toNat=x.toNat / 1099511627776 :=by omega
   have l :=Lib.bitLen_le8' (x / 4294967296 / 256) (by omega) (by omega)
   have s :=Lib.bitLen_shift40 x.toNat (by omega) (by omega)
   rw [e] at l ⊢
   exact wrap_add 40 _ _ (by decide) l s)
  | (
   rw [len8_get (x / 4294967296) _,Lib.len8_of (x / 4294967296) (by omega) (by omega)]
   have e:(x / 4294967296).toNat=x.toNat / 4294967296 :=by omega
   have l :=Lib.bitLen_le8' (x / 4294967296) (by omega) (by omega)
   have s :=Lib.bitLen_shift32 x.toNat (by omega) (by omega)
   rw [e] at l ⊢
   exact wrap_add 32 _ _ (by decide) l s)
  | (
   rw [len8_get (x / 65536 / 256) _,Lib.len8_of (x / 65536 / 256) (by omega) (by omega)]
   have e:(x / 65536 / 256).toNat=x.toNat / 16777216 :=by omega
   have l :=Lib.bitLen_le8' (x / 65536 / 256) (by omega) (by omega)
   have s :=Lib.bitLen_shift24 x.toNat (by omega) (by omega)
   rw [e] at l ⊢
   exact wrap_add 24 _ _ (by decide) l s)
  | (
   rw [len8_get (x / 65536) _,Lib.len8_of (x / 65536) (by omega) (by omega)]
   have e:(x / 65536).toNat=x.toNat / 65536 :=by omega
   have l :=Lib.bitLen_le8' (x / 65536) (by omega) (by omega)
   have s :=Lib.bitLen_shift16 x.toNat (by omega) (by omega)
   rw [e] at l ⊢
   exact wrap_add 16 _ _ (by decide) l s)
  | (
   rw [len8_get (x / 256) _,Lib.len8_of (x / 256) (by omega) (by omega)]
   have e:(x / 256).toNat=x.toNat / 256 :=by omega
   have l :=Lib.bitLen_le8' (x / 256) (by omega) (by omega)
   have s :=Lib.bitLen_shift8 x.toNat (by omega) (by omega)
   rw [e] at l ⊢
   exact wrap_add 8 _ _ (by decide) l s)
  | (
   rw [len8_get (x) _,Lib.len8_of (x) (by omega) (by omega)]
   have e:(x).toNat=x.toNat :=by omega
   have l :=Lib.bitLen_le8' (x) (by omega) (by omega)
   rw [e] at l ⊢
   first | exact wrap_wrap _ l | exact wrap_add 0 _ _ (by decide) l (by omega) | exact wrap_one _ l)
theorem Zdj (x:Int) (w:World) (h0:0≤x) (h1:x≤18446744073709551615) :
 Calls Tryz.prog 237 #[.int .u64 x] w fun e w' =>e = .returned (.int .i64 (64 - (Lib.bitLen x.toNat:Int)))∧w'=w :=by
 have hb:(Lib.bitLen x.toNat:Int)≤64 :=by
  have :=Lib.bitLen_le x.toNat 64 (Nat.le_refl _) (by omega)
  omega
 have HL :=Hd (Zia x w h0 h1)
 generalize Lib.bitLen x.toNat=n at *
 have hn:(0:Int)≤(n:Int) :=by omega
 go_enter Tryz.func237,Tryz.ntmps237
 go_wp2_with fail
 refine HL.out.mono ?_
 rintro e w' ⟨rfl,rfl⟩
 go_wp2
 go_ret
 refine ⟨congrArg Ending.returned (congrArg (Value.int IntKind.i64) ?_),rfl⟩
 omega
end Go.Proofs.YtecapfmmoejikaaGreat
namespace Go.Eg
theorem Z7h:∀ (f x:Nat),x<2 ^ f→x<2 ^ Lib.bitLenAux f x
 | 0,x,h =>by simpa [Lib.bitLenAux] using h
 | f+1,x,h =>by
  unfold Lib.bitLenAux
  by_cases hx:x=0
  ·rw [if_pos hx]; omega
  ·rw [if_neg hx]
   have :=Z7h f (x / 2) (by rw [Nat.pow_succ] at h; omega)
   rw [Nat.add_comm,Nat.pow_succ]
   omega
theorem Zeh (y:Nat) (h1:1≤y) (h2:y≤4294967296):∃ s N:Nat,64 - (Lib.bitLen y:Int)=(s:Int)∧1≤s∧s≤63∧y * 2 ^ s=N * 4294967296∧y * 2 ^ s<18446744073709551616 :=by
 have hlt:y<2 ^ Lib.bitLen y :=Z7h 64 y (by omega)
 have hle:Lib.bitLen y≤33 :=Lib.bitLen_le y 33 (by omega) (by omega)
 generalize hn:Lib.bitLen y=n at *
 have hn0:n≠0 :=by rintro rfl; omega
 have hp:2 ^ n * 2 ^ (64 - n)=18446744073709551616 :=by rw [← Nat.pow_add,show n+(64 - n)=64 by omega]
 have hb:y * 2 ^ (64 - n)<18446744073709551616 :=by
  rw [← hp]
  exact Nat.mul_lt_mul_of_pos_right hlt (Nat.pos_of_ne_zero (by simp))
 by_cases h:n≤32
 ·refine ⟨64 - n,y * 2 ^ (32 - n),by omega,by omega,by omega, ?_,hb⟩
  rw [Nat.mul_assoc,show (4294967296:Nat)=2 ^ 32 from rfl,← Nat.pow_add,show 32 - n+32=64 - n by omega]
 ·obtain rfl:n=33 :=by omega
  have:y=4294967296 :=by
   rcases Nat.lt_or_ge y 4294967296 with h3 | h3
   ·have :=Lib.bitLen_le y 32 (by omega) (by omega)
    omega
   ·omega
  subst this
  exact ⟨31,2147483648,by omega,by omega,by omega,by omega,by omega⟩
theorem Z9l {a:Int} {b:Nat} (h:a=(b:Int)) (hb:b<18446744073709551616):IntKind.u64.wrap a=(b:Int) :=by rw [h]; exact wrapN b hb
theorem Zlo (hi lo y s N:Nat) (hs:s≤63) (h0:0<y) (hN:y * 2 ^ s=N * 4294967296) :
 (hi * 18446744073709551616+lo) / y=((hi * 2 ^ s+lo / 2 ^ (64 - s)) / N) * 4294967296+(((hi * 2 ^ s+lo / 2 ^ (64 - s)) % N) * 4294967296+(lo * 2 ^ s % 18446744073709551616) / 4294967296) / N :=by
 have hp0:0<2 ^ s :=Nat.pos_of_ne_zero (by simp)
 have hN0:0<N :=by
  rcases Nat.eq_zero_or_pos N with h | h
  ·rw [h,Nat.zero_mul] at hN
   exact absurd hN (Nat.mul_ne_zero (by omega) (by omega))
  ·exact h
 have hpp:2 ^ (64 - s) * 2 ^ s=18446744073709551616 :=by rw [← Nat.pow_add,show 64 - s+s=64 by omega]
 have hp1:0<2 ^ (64 - s) :=Nat.pos_of_ne_zero (by simp)
 -- lo,parted
 obtain ⟨a,ha⟩:∃ a,a=lo / 2 ^ (64 - s) :=⟨_,rfl⟩
 obtain ⟨b,hb⟩:∃ b,b=lo % 2 ^ (64 - s) :=⟨_,rfl⟩
 have hlo:lo=a * 2 ^ (64 - s)+b :=by rw [ha,hb]; exact (Nat.div_add_mod' lo _).symm
 have hblt:b<2 ^ (64 - s) :=hb ▸ Nat.mod_lt _ hp1
 have hbs:b * 2 ^ s<18446744073709551616 :=by rw [← hpp]; exact Nat.mul_lt_mul_of_pos_right hblt hp0
 have hls:lo * 2 ^ s=a * 18446744073709551616+b * 2 ^ s :=by rw [hlo,Nat.add_mul,Nat.mul_assoc,hpp]
 have hV:lo * 2 ^ s % 18446744073709551616=b * 2 ^ s :=by rw [hls]; omega
 rw [← ha,hV]
 obtain ⟨U,hU⟩:∃ U,U=hi * 2 ^ s+a :=⟨_,rfl⟩
 obtain ⟨V,hV2⟩:∃ V,V=b * 2 ^ s :=⟨_,rfl⟩
 rw [← hU,← hV2]
 have e1:(hi * 18446744073709551616+lo) * 2 ^ s=U * 18446744073709551616+V :=by
  rw [Nat.add_mul,hls,hU,hV2,Nat.add_mul,Nat.mul_right_comm]
  omega
 rw [← Nat.mul_div_mul_right _ y hp0,e1,hN,Nat.mul_comm N,← Nat.div_div_eq_div_mul]
 have e2:(U * 18446744073709551616+V) / 4294967296=U * 4294967296+V / 4294967296 :=by omega
 rw [e2]
 have hUN:U * 4294967296=(U / N * 4294967296) * N+(U % N) * 4294967296 :=by
  have h :=Nat.div_add_mod' U N
  calc U * 4294967296=(U / N * N+U % N) * 4294967296 :=by rw [h]
   _=_ :=by rw [Nat.add_mul,Nat.mul_right_comm]
 rw [hUN,Nat.add_assoc,Nat.add_comm,Nat.add_mul_div_right _ _ hN0,Nat.add_comm]
theorem Zjw (H b s:Nat) (hH:H * 2 ^ s<18446744073709551616) (hb:b<2 ^ s) (hs:s≤63):bits .or .u64 ((H * 2 ^ s:Nat):Int) (b:Int)=((H * 2 ^ s+b:Nat):Int) :=by
 have hb2:b<18446744073709551616 :=Nat.lt_of_lt_of_le hb (by have :=Nat.pow_le_pow_right (show 0<2 by omega) hs; omega)
 rw [bits_or_u64_nat _ _ hH hb2,Nat.mul_comm H,Nat.two_pow_add_eq_or_of_lt hb]
end Go.Eg
namespace Go.Proofs.YtecapfmmoejikaaGreat
open Go.RowKit Go.Eg
set_option maxRecDepth 100000 in
theorem Zje (hi lo y:Nat) (h0:hi≠0) (h1:hi<y) (h2:y≤4294967296) (h3:lo<18446744073709551616) (w:World) :
 Calls Tryz.prog 218 #[.int .u64 hi, .int .u64 lo, .int .u64 y] w fun e w' =>(∃ r,e = .returned (.tuple #[.int .u64 (((hi * 18446744073709551616+lo) / y:Nat):Int), .int .u64 r]))∧w'=w :=by
 have HL :=Hd (fun w =>Zdj (y:Int) w (by omega) (by omega))
 have e1:((y:Int) == 0)=false :=by simp; omega
 have e2:((hi:Int) == 0)=false :=by simp; omega
 have e3 : ¬ (y:Int)≤(hi:Int) :=by omega
 obtain ⟨s,N,hs,hs0,hs1,hN,hYl⟩ :=Zeh y (by omega) h2
 rw [Int.toNat_natCast,hs] at HL
 have hq :=Zlo hi lo y s N hs1 (by omega) hN
 have hs1':(s:Int)≤63 :=by omega
 have hp0:0<2 ^ s :=Nat.pos_of_ne_zero (by simp)
 have hN0:0<N :=by
  rcases Nat.eq_zero_or_pos N with h | h
  ·rw [h,Nat.zero_mul] at hN
   exact absurd hN (Nat.mul_ne_zero (by omega) (by omega))
  ·exact h
 have hal:lo / 2 ^ (64 - s)<2 ^ s :=by
  rw [Nat.div_lt_iff_lt_mul (Nat.pos_of_ne_zero (by simp)),← Nat.pow_add,show s+(64 - s)=64 by omega]
  exact h3
 have hUl:hi * 2 ^ s+lo / 2 ^ (64 - s)<y * 2 ^ s :=by
  have:(hi+1) * 2 ^ s≤y * 2 ^ s :=Nat.mul_le_mul_right _ h1
  rw [Nat.add_mul] at this
  omega
 have hHl:hi * 2 ^ s<18446744073709551616 :=Nat.lt_of_le_of_lt (Nat.le_add_right _ _) (Nat.lt_trans hUl hYl)
 obtain ⟨Y,hY⟩:∃ Y,Y=N * 4294967296 :=⟨_,rfl⟩
 obtain ⟨U,hU⟩:∃ U,U=hi * 2 ^ s+lo / 2 ^ (64 - s) :=⟨_,rfl⟩
 obtain ⟨V,hV⟩:∃ V,V=lo * 2 ^ s % 18446744073709551616 :=⟨_,rfl⟩
 have w1:IntKind.u64.wrap ((y:Int) * 2 ^ s)=(Y:Int) :=by
  have e:((y:Int) * 2 ^ s)=((y * 2 ^ s:Nat):Int) :=by simp
  rw [e,hY,← hN]
  exact wrapN _ hYl
 have w2:(Y:Int) / 4294967296=(N:Int) :=by omega
 have w3:bits .and .u64 (Y:Int) 4294967295=0 :=by rw [maskN Y (by omega)]; omega
 have w4:IntKind.u64.wrap ((hi:Int) * 2 ^ s)=((hi * 2 ^ s:Nat):Int) :=by
  have e:((hi:Int) * 2 ^ s)=((hi * 2 ^ s:Nat):Int) :=by simp
  rw [e]
  exact wrapN _ hHl
 have w5:bits .or .u64 ((hi * 2 ^ s:Nat):Int) ((lo:Int) / 2 ^ (64 - s))=(U:Int) :=by
  have e:((lo:Int) / 2 ^ (64 - s))=((lo / 2 ^ (64 - s):Nat):Int) :=by simp
  rw [e,Zjw hi _ s hHl hal hs1,hU]
 have w6:IntKind.u64.wrap ((lo:Int) * 2 ^ s)=(V:Int) :=by
  have e:((lo:Int) * 2 ^ s)=((lo * 2 ^ s:Nat):Int) :=by simp
  rw [e,wrapM,hV]
 have hVl:V<18446744073709551616 :=by rw [hV]; exact Nat.mod_lt _ (by omega)
 obtain ⟨H,hH⟩:∃ H,H=hi * 2 ^ s :=⟨_,rfl⟩
 rw [← hH] at w4 w5
 rw [← hU,← hV] at hq
 rw [← hU,hN,← hY] at hUl
 have hYl':Y<18446744073709551616 :=by omega
 clear hV hU hH hal hHl hYl hN h1 h2 h3 h0 hs
 -- the two digits
 obtain ⟨V1,hV1⟩:∃ V1,V1=V / 4294967296 :=⟨_,rfl⟩
 obtain ⟨Q1,hQ1⟩:∃ Q1,Q1=U / N :=⟨_,rfl⟩
 obtain ⟨R1,hR1⟩:∃ R1,R1=U % N :=⟨_,rfl⟩
 obtain ⟨X,hX⟩:∃ X,X=R1 * 4294967296+V1 :=⟨_,rfl⟩
 obtain ⟨Q0,hQ0⟩:∃ Q0,Q0=X / N :=⟨_,rfl⟩
 obtain ⟨R0,hR0⟩:∃ R0,R0=X % N :=⟨_,rfl⟩
 rw [← hV1,← hQ1,← hR1,← hX,← hQ0] at hq
 have hUd:Q1 * N+R1=U :=by rw [hQ1,hR1]; exact Nat.div_add_mod' U N
 have hXd:Q0 * N+R0=X :=by rw [hQ0,hR0]; exact Nat.div_add_mod' X N
 have hR1l:R1<N :=hR1 ▸ Nat.mod_lt _ hN0
 have hQ1l:Q1<4294967296 :=by
  rw [hQ1,Nat.div_lt_iff_lt_mul hN0,Nat.mul_comm]
  omega
 have hXl:X<4294967296 * N :=by omega
 have hQ0l:Q0<4294967296 :=by
  rw [hQ0,Nat.div_lt_iff_lt_mul hN0]
  exact hXl
 have w7:(V:Int) / 4294967296=(V1:Int) :=by omega
 have w8:bits .and .u64 (V:Int) 4294967295=((V % 4294967296:Nat):Int) :=maskN V hVl
 have e4:((N:Int) == 0)=false :=by simp; omega
 have w9:(U:Int) / (N:Int)=(Q1:Int) :=by rw [hQ1]; simp
 have hNl:N≤4294967296 :=by omega
 have m1:(Q1:Int) * (N:Int)=((Q1 * N:Nat):Int) :=mulN _ _
 have m0:(Q0:Int) * (N:Int)=((Q0 * N:Nat):Int) :=mulN _ _
 obtain ⟨M1,hM1⟩:∃ M1,M1=Q1 * N :=⟨_,rfl⟩
 obtain ⟨M0,hM0⟩:∃ M0,M0=Q0 * N :=⟨_,rfl⟩
 rw [← hM1] at m1 hUd
 rw [← hM0] at m0 hXd
 have w10:IntKind.u64.wrap ((Q1:Int) * (N:Int))=(M1:Int) :=Z9l m1 (by omega)
 have w11b:IntKind.u64.wrap ((U:Int) - (M1:Int))=(R1:Int) :=Z9l (by omega) (by omega)
 have m2:(Q1:Int) * (Y:Int)=(M1:Int) * 4294967296 :=by rw [hY,← m1,Int.natCast_mul,Int.mul_assoc]; rfl
 obtain ⟨A1,hA1⟩:∃ A1,A1=U * 4294967296 % 18446744073709551616 :=⟨_,rfl⟩
 obtain ⟨A2,hA2⟩:∃ A2,A2=(A1+V1) % 18446744073709551616 :=⟨_,rfl⟩
 obtain ⟨A3,hA3⟩:∃ A3,A3=M1 * 4294967296 % 18446744073709551616 :=⟨_,rfl⟩
 have wA1:IntKind.u64.wrap ((U:Int) * 4294967296)=(A1:Int) :=by rw [show (U:Int) * 4294967296=((U * 4294967296:Nat):Int) by simp,wrapM,hA1]
 have wA2:IntKind.u64.wrap ((A1:Int)+(V1:Int))=(A2:Int) :=by rw [addN,wrapM,hA2]
 have wA3:IntKind.u64.wrap ((Q1:Int) * (Y:Int))=(A3:Int) :=by rw [m2,show (M1:Int) * 4294967296=((M1 * 4294967296:Nat):Int) by simp,wrapM,hA3]
 have wA4:IntKind.u64.wrap ((A2:Int) - (A3:Int))=(X:Int) :=by rw [IntKind.wrap_u64]; omega
 obtain ⟨T1,hT1⟩:∃ T1,T1=4294967296 * R1 :=⟨_,rfl⟩
 have wT1:IntKind.u64.wrap (4294967296 * (R1:Int))=(T1:Int) :=Z9l (by omega) (by omega)
 have wT2:IntKind.u64.wrap ((T1:Int)+(V1:Int))=(X:Int) :=Z9l (by omega) (by omega)
 have wB0:IntKind.u64.wrap ((Q0:Int) * (N:Int))=(M0:Int) :=Z9l m0 (by omega)
 have wB1:IntKind.u64.wrap ((X:Int) - (M0:Int))=(R0:Int) :=Z9l (by omega) (by omega)
 have e5 : ¬ (4294967296:Int)≤(Q1:Int) :=by omega
 have e6 : ¬ (4294967296:Int)≤(Q0:Int) :=by omega
 have wQ1:IntKind.u64.wrap (Q1:Int)=(Q1:Int) :=wrapN _ (by omega)
 have wQ0:IntKind.u64.wrap (Q0:Int)=(Q0:Int) :=wrapN _ (by omega)
 have e7:(decide ((4294967296:Int)≤(Q1:Int)))=false :=decide_eq_false e5
 have e8:(decide ((4294967296:Int)≤(Q0:Int)))=false :=decide_eq_false e6
 have e9:(decide ((X:Int)<0))=false :=decide_eq_false (by omega)
 have e10 : ¬ (X:Int)<0 :=by omega
 have w15:(X:Int) / (N:Int)=(Q0:Int) :=by rw [hQ0]; simp
 have hR0l:R0<N :=hR0 ▸ Nat.mod_lt _ hN0
 obtain ⟨V0,hV0⟩:∃ V0,V0=V % 4294967296 :=⟨_,rfl⟩
 have w8':(V:Int) % 4294967296=(V0:Int) :=by omega
 rw [← hV0] at w8
 obtain ⟨Z,hZ⟩:∃ Z,Z=4294967296 * R0+V0 :=⟨_,rfl⟩
 obtain ⟨q,hq2⟩:∃ q,q=Q1 * 4294967296+Q0 :=⟨_,rfl⟩
 obtain ⟨T0,hT0⟩:∃ T0,T0=4294967296 * R0 :=⟨_,rfl⟩
 have e11:(decide ((Z:Int)<0))=false :=decide_eq_false (by omega)
 have wT3:IntKind.u64.wrap (4294967296 * (R0:Int))=(T0:Int) :=Z9l (by omega) (by omega)
 have wT4:IntKind.u64.wrap ((T0:Int)+(V0:Int))=(Z:Int) :=Z9l (by omega) (by omega)
 obtain ⟨B1,hB1⟩:∃ B1,B1=Q1 * 4294967296 :=⟨_,rfl⟩
 have wB2:IntKind.u64.wrap ((Q1:Int) * 4294967296)=(B1:Int) :=Z9l (by omega) (by omega)
 have wB3:IntKind.u64.wrap ((B1:Int)+(Q0:Int))=(q:Int) :=Z9l (by omega) (by omega)
 rw [← hq2] at hq
 rw [hq]
 have HQ :=Hd hq
 clear hq hUd hXd hR1l hQ1l hXl hQ0l hUl hYl' hVl hs0 hp0 hV1 hQ1 hR1 hX hQ0 hR0 hY m1 m0 hNl hR0l hV0 hZ hq2 hM1 hM0 m2 hA1 hA2 hA3 hT1 hT0 hB1 e5 e6 e10
 go_enter Tryz.func218,Tryz.ntmps218
 go_wp2_with fail
 refine (HL.out _).mono ?_
 rintro r w1 ⟨rfl,rfl⟩
 go_wp2
 go_loopw [15,16] (fun a b wr =>a = .int .u64 Q1∧b = .int .u64 R1∧wr=w1) (fun _ _ _ =>0)
 case atStart =>exact ⟨rfl,rfl,rfl⟩
 case round =>
  obtain ⟨rfl,rfl,rfl⟩ :=hrel
  go_wp2
  go_loopw [18,16] (fun a b wr2 =>a = .int .u64 Q0∧b = .int .u64 R0∧wr2=wr) (fun _ _ _ =>0)
  case atStart =>exact ⟨rfl,rfl,rfl⟩
  case round =>
   obtain ⟨rfl,rfl,rfl⟩ :=hrel
   go_wp2
   go_ret2
   exact ⟨⟨_,rfl⟩,rfl⟩
theorem Zgr (lo y:Nat) (h1:0<y) (h3:lo<18446744073709551616) (w:World) :
 Calls Tryz.prog 218 #[.int .u64 0, .int .u64 lo, .int .u64 y] w fun e w' =>(∃ r,e = .returned (.tuple #[.int .u64 ((lo / y:Nat):Int), .int .u64 r]))∧Z1w w w' :=by
 have e1:((y:Int) == 0)=false :=by simp; omega
 have e3 : ¬ (y:Int)≤0 :=by omega
 have hy:(0:Int)<(y:Int) :=by omega
 go_enter Tryz.func218,Tryz.ntmps218
 go_wp2
 go_quiet (fail)
 go_wp2
 go_ret2
 refine ⟨⟨_,congrArg (fun z =>Ending.returned (Value.tuple #[Value.int .u64 z,Value.int .u64 ((lo:Int) % (y:Int))])) ?_⟩,⟨nq,rfl⟩⟩
 have e:(lo:Int) / (y:Int)=((lo / y:Nat):Int) :=by simp
 rw [e]
 exact wrapN _ (Nat.lt_of_le_of_lt (Nat.div_le_self _ _) h3)
theorem Zei (a b:Nat) (ha:a<18446744073709551616) (hb:b<18446744073709551616) (w:World) :
 Calls Tryz.prog 217 #[.int .u64 a, .int .u64 b] w fun e w' =>e = .returned (.agg #[.int .u64 ((a * b / 18446744073709551616:Nat):Int), .int .u64 ((a * b % 18446744073709551616:Nat):Int)])∧Z00 w w' :=by
 have HM :=Hd (fun w =>Zdf a b ha hb w)
 obtain ⟨p,hp⟩:∃ p,p=a * b / 18446744073709551616 :=⟨_,rfl⟩
 obtain ⟨q,hq⟩:∃ q,q=a * b % 18446744073709551616 :=⟨_,rfl⟩
 rw [← hp,← hq] at HM ⊢
 clear hp hq ha hb
 go_enter Tryz.func217,Tryz.ntmps217
 go_wp2_with fail
 refine (HM.out _).mono ?_
 rintro r w1 ⟨rfl,rfl⟩
 go_wp2
 have c :=Z3v w (.int .u64 p) (.int .u64 q) 300
 exact bodyPost_ret (v := .agg #[.int .u64 p, .int .u64 q]) (by simp [results,Tryz.results217,go_sem]) rfl ⟨rfl,(Mods.refl _ w).alloc _⟩
theorem Zfq (a b d:Nat) (ha:a<18446744073709551616) (hb:b≤d) (hd0:0<d) (hd:d≤4294967296) (w:World) :
 Calls Tryz.prog 190 #[.int .u64 a, .int .u64 b, .int .u64 d] w fun e w' =>e = .returned (.tuple #[.int .u64 ((a * b / d:Nat):Int), .bool true])∧Z00 w w' :=by
 have HP :=Hd (fun w =>Zei a b ha (by omega) w)
 have hhi:a * b / 18446744073709551616<d :=by
  rw [Nat.div_lt_iff_lt_mul (by omega)]
  rcases Nat.eq_zero_or_pos b with rfl | hb0
  ·omega
  ·have h1:a * b<18446744073709551616 * b :=Nat.mul_lt_mul_of_pos_right ha hb0
   have h2:18446744073709551616 * b≤18446744073709551616 * d :=Nat.mul_le_mul_left _ hb
   omega
 have hpq:a * b=a * b / 18446744073709551616 * 18446744073709551616+a * b % 18446744073709551616 :=(Nat.div_add_mod' _ _).symm
 have hql:a * b % 18446744073709551616<18446744073709551616 :=Nat.mod_lt _ (by omega)
 generalize a * b / 18446744073709551616=p at *
 generalize a * b % 18446744073709551616=q at *
 generalize a * b=m at *
 obtain ⟨R,hR⟩:∃ R,R=m / d :=⟨_,rfl⟩
 have HD:∀ w,Calls Tryz.prog 218 #[.int .u64 p, .int .u64 q, .int .u64 d] w fun e w' =>(∃ r,e = .returned (.tuple #[.int .u64 (R:Int), .int .u64 r]))∧Z1w w w' :=by
  intro w
  rcases Nat.eq_zero_or_pos p with rfl | hp
  ·refine (Zgr q d hd0 hql w).mono ?_
   rintro r w' ⟨h,k⟩
   rw [hR,hpq,Nat.zero_mul,Nat.zero_add]
   exact ⟨h,k⟩
  ·refine (Zje p q d (by omega) hhi hd hql w).mono ?_
   rintro r w' ⟨h,rfl⟩
   rw [hR,hpq]
   exact ⟨h,Z1w.refl _⟩
 have HD :=Hd HD
 rw [← hR]
 have e3 : ¬ (d:Int)≤(p:Int) :=by omega
 clear hhi hpq hql hR ha hb hd0 hd
 go_enter Tryz.func190,Tryz.ntmps190
 go_wp2_with fail
 refine (HP.out _).mono ?_
 rintro r w1 ⟨rfl,hk⟩
 have HK :=Hd hk
 clear hk
 go_wp2_with fail
 refine (HD.out _).mono ?_
 rintro r w2 ⟨⟨r2,rfl⟩,hdr⟩
 go_wp2
 go_ret2
 exact ⟨rfl,(HK.out.alloc _).trans hdr.mods⟩
theorem Zgb (a b d:Nat) (ha:a<18446744073709551616) (hb:b≤d) (hd0:0<d) (hd:d≤4294967296) (w:World) :
 Calls Tryz.prog 132 #[.int .u64 a, .int .u64 b, .int .u64 d] w fun e w' =>e = .returned (.tuple #[.int .u64 ((a * b / d:Nat):Int), .bool true])∧Z00 w w' :=by
 have HM :=Hd (fun w =>Zfq a b d ha hb hd0 hd w)
 have e1 : ¬ (d:Int)<(b:Int) :=by omega
 generalize a * b / d=R at *
 clear ha hb hd0 hd
 go_enter Tryz.func132,Tryz.ntmps132
 go_wp2_with fail
 refine (HM.out _).mono ?_
 rintro r w1 ⟨rfl,hk⟩
 go_wp2
 go_ret2
 exact ⟨rfl,hk⟩
end Go.Proofs.YtecapfmmoejikaaGreat
