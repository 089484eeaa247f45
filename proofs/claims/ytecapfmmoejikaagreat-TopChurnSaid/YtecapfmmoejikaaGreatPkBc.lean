/- A part of the proofs of the top laws: TakP TakQ PyA EdpA ElvA FulP Ecs. -/
import Derived.Deep.RegionHeld3
import Derived.Test.YtecapfmmoejikaaGreatPkBb
set_option maxRecDepth 4000
set_option maxHeartbeats 8000000
namespace Go.Proofs.YtecapfmmoejikaaGreat
open Go.RowKit Go.Eg
theorem Zho (R:List (Int × Int)):∀ m,(Z16 R).take (m * 2)=Z16 (R.take m) :=by
 induction R with
 | nil =>intro m; simp [Z16]
 | cons a R ih =>
  intro m
  cases m with
  | zero =>simp [Z16]
  | succ m =>
   have :=ih m
   rw [show (m+1) * 2=m * 2+2 from by omega]
   simpa [Z16] using this
theorem Zkb {w:World} {B c:Nat} {a:Option Addr} {l:List (Int × Int)} (h:w.ownsRow B 92 2 (.slice a l.length c) l.length (Z16 l)) (m:Nat) (hm:m≤l.length):w.ownsRow B 92 2 (.slice a m c) (l.take m).length (Z16 (l.take m)) :=by
 have hl:(l.take m).length=m :=by rw [List.length_take]; omega
 rw [hl,← Zho]
 rcases h.2 with ⟨h1,h2⟩ | ⟨g,cap,cur,hv, -⟩
 ·injection h1 with h1 h3 h4
  have:m=0 :=by omega
  subst this h1 h4
  exact ⟨by simp, .inl ⟨rfl,rfl⟩⟩
 ·injection hv with hv _ hc
  subst hv hc
  exact Zai h hm
theorem Zjc {own:Nat→Nat} {w:World} {e:Nat} {c:Nat→Int} {E:En} {p:Ep} {N:Nat} (h:Z0i own w e c E p N) (n:Int) (h0:0≤n) :
 Calls Tryz.prog 116 #[.pointer (some ⟨p.mg,0,none⟩), .int .i64 n] w fun r w' => ∃ v,r = .returned v∧w'.ownsRow w.heap.size 92 2 v (E.mg.take n.toNat).length (Z16 (E.mg.take n.toNat))∧Z0i own w' e c { E with mg :=E.mg.drop n.toNat } p N∧Ext own w own w'∧∀ k,v.ownBlock=some k→own k=0 :=by
 obtain ⟨n,rfl⟩ :=Int.eq_ofNat_of_zero_le h0
 rw [Int.toNat_natCast]
 have HALL :=Hd (Z7n (h.mg (by decide)))
 have H :=Hd h
 obtain ⟨M,hM⟩:∃ M,M=min n E.mg.length :=⟨_,rfl⟩
 have hME:E.mg.take n=E.mg.take M∧E.mg.drop n=E.mg.drop M :=by
  by_cases hle:n≤E.mg.length
  ·rw [Nat.min_eq_left hle] at hM
   rw [hM]
   exact ⟨rfl,rfl⟩
  ·rw [Nat.min_eq_right (by omega)] at hM
   rw [hM,List.take_of_length_le (by omega),List.take_of_length_le (Nat.le_refl _),List.drop_of_length_le (by omega),List.drop_of_length_le (Nat.le_refl _)]
   exact ⟨rfl,rfl⟩
 rw [hME.1,hME.2]
 have hMl:M≤E.mg.length :=by omega
 have hl4:E.mg.length≤4096 :=by have h1 :=h.mg (by decide); exact Nat.le_trans h1.2.2.2.1 h1.2.2.1
 have HPOP :=Hd (fun (wr:World) (j:Nat) (hj:j<E.mg.length) (hE:Z0i own wr e c { E with mg :=E.mg.drop j } p N) =>Zri hE (x :=E.mg[j]) (l :=E.mg.drop (j+1)) (by rw [List.drop_eq_getElem_cons hj]))
 clear hME h
 go_enter Tryz.func116,Tryz.ntmps116
 go_wp2_with fail
 refine HALL.out.mono ?_
 rintro r w1 ⟨v,rfl,hv,hk⟩
 obtain ⟨va,vc,rfl⟩ :=Z0c hv
 have hcap :=Z87 hv
 have HV :=Hd (Zkb hv M hMl)
 have hge :=Z0z hv
 have HN :=Hd (show ∀ k,(Value.slice va M vc).ownBlock=some k→own k=0 from fun k hk =>H.out.new k (hge k (by rcases va with _ | a; exact (by cases hk); exact hk)).1)
 have HE1 :=Hd (show Z0i own w1 e c { E with mg :=E.mg.drop 0 } p N from H.out.keeps hk)
 have HX1 :=Hd (Ext.keeps (own :=own) hk)
 clear hv hk hge
 have hcm:M≤vc :=by omega
 have hMlt :=hMl
 by_cases hle:n≤E.mg.length
 ·obtain rfl:M=n :=by omega
  have hle':(M:Int)≤(E.mg.length:Int) :=Int.ofNat_le.2 hle
  clear hM
  go_wp2_with fail
  go_loopw [16] (fun i wr => ∃ k:Nat,k≤M∧i = .int .i64 k∧Z0i own wr e c { E with mg :=E.mg.drop k } p N∧Ext own w own wr∧Ext own w1 own wr) (fun i _ =>M - (intOf i).toNat)
  case atStart =>exact ⟨0,Nat.zero_le _,rfl,HE1.out,HX1.out,Ext.refl _ _⟩
  case round =>
   obtain ⟨k,hk,rfl,hE,hX,hX1⟩ :=hrel
   have HX :=Hd hX
   have HX2 :=Hd hX1
   by_cases hlt:k<M
   ·have hki:(k:Int)<(M:Int) :=Int.ofNat_lt.2 hlt
    have HPO :=Hd (HPOP.out wr k (by omega) hE)
    clear hX hX1 hE
    go_wp2_with fail
    refine HPO.out.mono ?_
    rintro r w2 ⟨⟨u,rfl⟩,hE2,hX3⟩
    have HE2 :=Hd hE2
    have HX3 :=Hd hX3
    clear hE2 hX3
    go_wp2
    go_roundw
    case rel =>exact ⟨k+1,by omega,by go_num,HE2.out,HX.out.trans HX3.out,HX2.out.trans HX3.out⟩
    case measure =>simp [intOf]; omega
   ·obtain rfl:k=M :=by omega
    have HE :=Hd hE
    clear hX hX1 hE
    go_wp2
    go_ret
    exact ⟨_,rfl,HX2.out.owns HV.out HN.out,HE.out,HX.out,HN.out⟩
 ·obtain rfl:M=E.mg.length :=by omega
  have hle':(E.mg.length:Int)<(n:Int) :=by omega
  clear hM
  go_wp2_with fail
  go_loopw [16] (fun i wr => ∃ k:Nat,k≤E.mg.length∧i = .int .i64 k∧Z0i own wr e c { E with mg :=E.mg.drop k } p N∧Ext own w own wr∧Ext own w1 own wr) (fun i _ =>E.mg.length - (intOf i).toNat)
  case atStart =>exact ⟨0,Nat.zero_le _,rfl,HE1.out,HX1.out,Ext.refl _ _⟩
  case round =>
   obtain ⟨k,hk,rfl,hE,hX,hX1⟩ :=hrel
   have HX :=Hd hX
   have HX2 :=Hd hX1
   by_cases hlt:k<E.mg.length
   ·have hki:(k:Int)<(E.mg.length:Int) :=Int.ofNat_lt.2 hlt
    have HPO :=Hd (HPOP.out wr k (by omega) hE)
    clear hX hX1 hE
    go_wp2_with fail
    refine HPO.out.mono ?_
    rintro r w2 ⟨⟨u,rfl⟩,hE2,hX3⟩
    have HE2 :=Hd hE2
    have HX3 :=Hd hX3
    clear hE2 hX3
    go_wp2
    go_roundw
    case rel =>exact ⟨k+1,by omega,by go_num,HE2.out,HX.out.trans HX3.out,HX2.out.trans HX3.out⟩
    case measure =>simp [intOf]; omega
   ·obtain rfl:k=E.mg.length :=by omega
    have HE :=Hd hE
    clear hX hX1 hE
    go_wp2
    go_ret
    exact ⟨_,rfl,HX2.out.owns HV.out HN.out,HE.out,HX.out,HN.out⟩
theorem Zgt (R:List (Int × Int)):∀ m,(Z3y R).take (m * 2)=Z3y (R.take m) :=by
 induction R with
 | nil =>intro m; simp [Z3y]
 | cons a R ih =>
  intro m
  cases m with
  | zero =>simp [Z3y]
  | succ m =>
   have :=ih m
   rw [show (m+1) * 2=m * 2+2 from by omega]
   simpa [Z3y] using this
theorem Zlk {w:World} {B c:Nat} {a:Option Addr} {l:List (Int × Int)} (h:w.ownsRow B 96 2 (.slice a l.length c) l.length (Z3y l)) (m:Nat) (hm:m≤l.length):w.ownsRow B 96 2 (.slice a m c) (l.take m).length (Z3y (l.take m)) :=by
 have hl:(l.take m).length=m :=by rw [List.length_take]; omega
 rw [hl,← Zgt]
 rcases h.2 with ⟨h1,h2⟩ | ⟨g,cap,cur,hv, -⟩
 ·injection h1 with h1 h3 h4
  have:m=0 :=by omega
  subst this h1 h4
  exact ⟨by simp, .inl ⟨rfl,rfl⟩⟩
 ·injection hv with hv _ hc
  subst hv hc
  exact Zai h hm
theorem Zk5 {own:Nat→Nat} {w:World} {e:Nat} {c:Nat→Int} {E:En} {p:Ep} {N:Nat} (h:Z0i own w e c E p N) (n:Int) (h0:0≤n) :
 Calls Tryz.prog 119 #[.pointer (some ⟨p.pr,0,none⟩), .int .i64 n] w fun r w' => ∃ v,r = .returned v∧w'.ownsRow w.heap.size 96 2 v (E.pr.take n.toNat).length (Z3y (E.pr.take n.toNat))∧Z0i own w' e c { E with pr :=E.pr.drop n.toNat } p N∧Ext own w own w'∧∀ k,v.ownBlock=some k→own k=0 :=by
 obtain ⟨n,rfl⟩ :=Int.eq_ofNat_of_zero_le h0
 rw [Int.toNat_natCast]
 have HALL :=Hd (Z7q (h.pr (by decide)))
 have H :=Hd h
 obtain ⟨M,hM⟩:∃ M,M=min n E.pr.length :=⟨_,rfl⟩
 have hME:E.pr.take n=E.pr.take M∧E.pr.drop n=E.pr.drop M :=by
  by_cases hle:n≤E.pr.length
  ·rw [Nat.min_eq_left hle] at hM
   rw [hM]
   exact ⟨rfl,rfl⟩
  ·rw [Nat.min_eq_right (by omega)] at hM
   rw [hM,List.take_of_length_le (by omega),List.take_of_length_le (Nat.le_refl _),List.drop_of_length_le (by omega),List.drop_of_length_le (Nat.le_refl _)]
   exact ⟨rfl,rfl⟩
 rw [hME.1,hME.2]
 have hMl:M≤E.pr.length :=by omega
 have hl4:E.pr.length≤4096 :=by have h1 :=h.pr (by decide); exact Nat.le_trans h1.2.2.2.1 h1.2.2.1
 have HPOP :=Hd (fun (wr:World) (j:Nat) (hj:j<E.pr.length) (hE:Z0i own wr e c { E with pr :=E.pr.drop j } p N) =>Zr5 hE (x :=E.pr[j]) (l :=E.pr.drop (j+1)) (by rw [List.drop_eq_getElem_cons hj]))
 clear hME h
 go_enter Tryz.func119,Tryz.ntmps119
 go_wp2_with fail
 refine HALL.out.mono ?_
 rintro r w1 ⟨v,rfl,hv,hk⟩
 obtain ⟨va,vc,rfl⟩ :=Z0c hv
 have hcap :=Z87 hv
 have HV :=Hd (Zlk hv M hMl)
 have hge :=Z0z hv
 have HN :=Hd (show ∀ k,(Value.slice va M vc).ownBlock=some k→own k=0 from fun k hk =>H.out.new k (hge k (by rcases va with _ | a; exact (by cases hk); exact hk)).1)
 have HE1 :=Hd (show Z0i own w1 e c { E with pr :=E.pr.drop 0 } p N from H.out.keeps hk)
 have HX1 :=Hd (Ext.keeps (own :=own) hk)
 clear hv hk hge
 have hcm:M≤vc :=by omega
 have hMlt :=hMl
 by_cases hle:n≤E.pr.length
 ·obtain rfl:M=n :=by omega
  have hle':(M:Int)≤(E.pr.length:Int) :=Int.ofNat_le.2 hle
  clear hM
  go_wp2_with fail
  go_loopw [16] (fun i wr => ∃ k:Nat,k≤M∧i = .int .i64 k∧Z0i own wr e c { E with pr :=E.pr.drop k } p N∧Ext own w own wr∧Ext own w1 own wr) (fun i _ =>M - (intOf i).toNat)
  case atStart =>exact ⟨0,Nat.zero_le _,rfl,HE1.out,HX1.out,Ext.refl _ _⟩
  case round =>
   obtain ⟨k,hk,rfl,hE,hX,hX1⟩ :=hrel
   have HX :=Hd hX
   have HX2 :=Hd hX1
   by_cases hlt:k<M
   ·have hki:(k:Int)<(M:Int) :=Int.ofNat_lt.2 hlt
    have HPO :=Hd (HPOP.out wr k (by omega) hE)
    clear hX hX1 hE
    go_wp2_with fail
    refine HPO.out.mono ?_
    rintro r w2 ⟨⟨u,rfl⟩,hE2,hX3⟩
    have HE2 :=Hd hE2
    have HX3 :=Hd hX3
    clear hE2 hX3
    go_wp2
    go_roundw
    case rel =>exact ⟨k+1,by omega,by go_num,HE2.out,HX.out.trans HX3.out,HX2.out.trans HX3.out⟩
    case measure =>simp [intOf]; omega
   ·obtain rfl:k=M :=by omega
    have HE :=Hd hE
    clear hX hX1 hE
    go_wp2
    go_ret
    exact ⟨_,rfl,HX2.out.owns HV.out HN.out,HE.out,HX.out,HN.out⟩
 ·obtain rfl:M=E.pr.length :=by omega
  have hle':(E.pr.length:Int)<(n:Int) :=by omega
  clear hM
  go_wp2_with fail
  go_loopw [16] (fun i wr => ∃ k:Nat,k≤E.pr.length∧i = .int .i64 k∧Z0i own wr e c { E with pr :=E.pr.drop k } p N∧Ext own w own wr∧Ext own w1 own wr) (fun i _ =>E.pr.length - (intOf i).toNat)
  case atStart =>exact ⟨0,Nat.zero_le _,rfl,HE1.out,HX1.out,Ext.refl _ _⟩
  case round =>
   obtain ⟨k,hk,rfl,hE,hX,hX1⟩ :=hrel
   have HX :=Hd hX
   have HX2 :=Hd hX1
   by_cases hlt:k<E.pr.length
   ·have hki:(k:Int)<(E.pr.length:Int) :=Int.ofNat_lt.2 hlt
    have HPO :=Hd (HPOP.out wr k (by omega) hE)
    clear hX hX1 hE
    go_wp2_with fail
    refine HPO.out.mono ?_
    rintro r w2 ⟨⟨u,rfl⟩,hE2,hX3⟩
    have HE2 :=Hd hE2
    have HX3 :=Hd hX3
    clear hE2 hX3
    go_wp2
    go_roundw
    case rel =>exact ⟨k+1,by omega,by go_num,HE2.out,HX.out.trans HX3.out,HX2.out.trans HX3.out⟩
    case measure =>simp [intOf]; omega
   ·obtain rfl:k=E.pr.length :=by omega
    have HE :=Hd hE
    clear hX hX1 hE
    go_wp2
    go_ret
    exact ⟨_,rfl,HX2.out.owns HV.out HN.out,HE.out,HX.out,HN.out⟩
theorem Zmr {l:List Vd} {i:Int} (h:inR l i) (hi:i.toNat<l.length):l[i.toNat]=vAt l i :=by
 have :=Z44 h
 rw [List.getElem?_eq_getElem hi] at this
 exact Option.some.inj this
theorem Z9e {v:Vd} (hv:v.ok) {mn:Int} (hm:0≤mn):0≤Z1t v mn∧Z1t v mn≤v.bal :=by
 have h0 :=hv.b0
 unfold Z1t
 split
 ·split <;> omega
 ·omega
theorem Zhy {mn:Int} (hm:0≤mn) {s:List Vd × List Pm} (h:∀ x∈s.1,x.ok) {r:Int × Int} (hr:0≤r.2):totS (Z1i mn s r).1≤totS s.1 :=by
 unfold Z1i
 split
 ·rename_i hin
  have hi:r.1.toNat<s.1.length :=by have :=hin.1; have :=hin.2; omega
  have :=Z9e (Z5o h hin) hm
  dsimp only
  rw [Z2z hi,Zmr hin hi]
  simp only [Z8z]
  omega
 ·exact Int.le_refl _
theorem Zdi {mn:Int} (hm:0≤mn):∀ (q:List (Int × Int)) (s:List Vd × List Pm),(∀ r∈q,0≤r.2)→(∀ x∈s.1,x.ok)→totS (q.foldl (Z1i mn) s).1≤totS s.1 :=by
 intro q
 induction q with
 | nil =>intro s _ _; exact Int.le_refl _
 | cons r q ih =>
  intro s hq h
  have h1 :=Zhy hm h (hq r List.mem_cons_self)
  have h2 :=ih (Z1i mn s r) (fun x hx =>hq x (List.mem_cons_of_mem _ hx)) (Zau h (hq r List.mem_cons_self) hm)
  exact Int.le_trans h2 h1
def PmOk (l:List Pm):Prop := ∀ p∈l,0≤p.2.1∧p.2.1≤maxU
theorem Zkz {mn:Int} (hm:0≤mn) {s:List Vd × List Pm} (h:∀ x∈s.1,x.ok) (hp:PmOk s.2) {r:Int × Int} (hr:0≤r.2):PmOk (Z1i mn s r).2 :=by
 unfold Z1i
 split
 ·rename_i hin
  have h1 :=Z5o h hin
  have :=Z9e h1 hm
  have :=h1.b1
  intro p hp'
  rcases List.mem_append.1 hp' with h2 | h2
  ·exact hp p h2
  ·simp only [List.mem_singleton] at h2
   subst h2
   dsimp only
   omega
 ·exact hp
theorem Zhr {mn:Int} (hm:0≤mn):∀ (q:List (Int × Int)) (s:List Vd × List Pm),(∀ r∈q,0≤r.2)→(∀ x∈s.1,x.ok)→PmOk s.2→PmOk (q.foldl (Z1i mn) s).2 :=by
 intro q
 induction q with
 | nil =>intro s _ _ h; exact h
 | cons r q ih =>
  intro s hq h hp
  exact ih (Z1i mn s r) (fun x hx =>hq x (List.mem_cons_of_mem _ hx)) (Zau h (hq r List.mem_cons_self) hm) (Zkz hm h hp (hq r List.mem_cons_self))
theorem Zl3 {l:List Pm} (h:PmOk l):PmOk (Z2p l) :=fun p hp =>h p (List.mem_filter.1 hp).1
theorem Zk4 {v:Vd} (hv:v.ok) (ep:Int):(payF ep v).2.ok∧(payF ep v).2.bal=0 :=by
 have hz:(⟨0,0,false,0,0,0,0⟩:Vd).ok :=⟨by simp,by simp [maxU],by decide⟩
 unfold payF seq2
 split
 ·exact ⟨hz,rfl⟩
 ·split
  ·exact ⟨hz,rfl⟩
  ·rename_i h1 h2
   unfold dueC at h2 ⊢
   split
   ·rename_i h3
    rw [if_pos h3] at h2
    exact absurd h2 (by simp)
   ·refine ⟨⟨by simp,by simp [maxU], ?_⟩,rfl⟩
    unfold evC
    split
    ·exact hv.st
    ·exact Z4b v.st 5
theorem Zjb {rdy:Nat→Bool} {n at0:Nat} {visits pays:Int}:∀ i∈Z34 rdy n at0 visits pays,i<n∧rdy i=true :=by
 intro i hi
 unfold Z34 Z35 at hi
 obtain ⟨h1,h2⟩ :=List.mem_filter.1 hi
 obtain ⟨j,hj,rfl⟩ :=List.mem_map.1 h1
 have hj2:j<Z1o rdy n at0 visits pays :=by simpa using hj
 have :=(Z4c rdy n at0 visits pays).1
 exact ⟨Zdm _ _ (by omega),h2⟩
def pyQ (c:Nat→Int) (E:En):List (Int × Int) :=E.pr.take (c 16).toNat
def pyL (c:Nat→Int) (E:En):List Vd :=(parStep (c 5) E.vs (pyQ c E)).1
def pyP (c:Nat→Int) (E:En):List Pm :=Z2p (parStep (c 5) E.vs (pyQ c E)).2
def pyR (c:Nat→Int) (E:En) (j:Nat):Bool :=(vAt (pyL c E) j).st == 5
def pyF (c:Nat→Int) (E:En):List Nat :=Z34 (pyR c E) (pyL c E).length E.cur (c 14 - (pyQ c E).length) (c 15 - (pyP c E).length)
def pyV (c:Nat→Int) (E:En):Nat :=Z1o (pyR c E) (pyL c E).length E.cur (c 14 - (pyQ c E).length) (c 15 - (pyP c E).length)
def pyA (c:Nat→Int) (E:En):Nat :=Z6p (pyR c E) (pyL c E).length E.cur (c 14 - (pyQ c E).length) (c 15 - (pyP c E).length)
def pay1 (ep:Int) (l:List Vd) (s:List Vd × List Pm) (i:Nat):List Vd × List Pm :=
 (s.1.set i (payF ep (vAt l i)).2,s.2 ++ [((i:Int),if (payF ep (vAt l i)).1=0 then (vAt l i).bal else 0,true)])
def pyS (c:Nat→Int) (E:En):List Vd × List Pm :=(pyF c E).foldl (pay1 (E.b / c 13) (pyL c E)) (pyL c E,pyP c E)
def Z3t (s:Led) (l:List Pm):Led :=l.foldl (fun s p =>s.pay p.2.1) s
def Z9v (c:Nat→Int) (E:En):En := { E with pr :=E.pr.drop (c 16).toNat,cur :=pyA c E,vs :=(pyS c E).1,led :=Z3t E.led (pyS c E).2 }
def Z6b (c:Nat→Int) (E:En):Int :=(pyQ c E).length+(pyV c E:Int)
structure PayI (l:List Vd) (M:Nat) (s:List Vd × List Pm):Prop where
 len:s.1.length=l.length
 ok:∀ x∈s.1,x.ok
 tot:totS s.1≤totS l
 pm:PmOk s.2
 pl:s.2.length≤M
theorem PayI.step {ep:Int} {l:List Vd} {M:Nat} {s:List Vd × List Pm} (hl:∀ x∈l,x.ok) (h:PayI l M s) {i:Nat} (hi:i<l.length):PayI l (M+1) (pay1 ep l s i) :=by
 have hok :=Z5o hl (i :=(i:Int)) ⟨by omega,by omega⟩
 obtain ⟨p1,p2⟩ :=Zk4 hok ep
 refine ⟨by simp only [pay1,List.length_set]; exact h.len,fun x hx =>?_, ?_,fun p hp =>?_,by simp only [pay1,List.length_append,List.length_cons,List.length_nil]; have :=h.pl; omega⟩
 ·rcases List.mem_or_eq_of_mem_set hx with hx | rfl
  ·exact h.ok x hx
  ·exact p1
 ·have hi2:i<s.1.length :=by rw [h.len]; exact hi
  show totS (s.1.set i _)≤totS l
  rw [Z2z hi2,p2]
  have :=h.tot
  have :=(h.ok _ (List.getElem_mem hi2)).b0
  omega
 ·rcases List.mem_append.1 hp with h2 | h2
  ·exact h.pm p h2
  ·simp only [List.mem_singleton] at h2
   subst h2
   have :=hok.b0
   have :=hok.b1
   dsimp only
   split
   ·exact ⟨by omega,by omega⟩
   ·unfold maxU; omega
theorem PayI.fold {ep:Int} {l:List Vd} (hl:∀ x∈l,x.ok):∀ (q:List Nat) {M:Nat} {s:List Vd × List Pm},PayI l M s→(∀ i∈q,i<l.length)→PayI l (M+q.length) (q.foldl (pay1 ep l) s) :=by
 intro q
 induction q with
 | nil =>intro M s h _; exact h
 | cons i q ih =>
  intro M s h hq
  have :=ih (h.step (ep :=ep) hl (hq i List.mem_cons_self)) fun x hx =>hq x (List.mem_cons_of_mem _ hx)
  rw [List.length_cons]
  rwa [show M+1+q.length=M+(q.length+1) from by omega] at this
theorem Zdq (s:Led) (l:List Pm) (p:Pm):Z3t s (l ++ [p])=(Z3t s l).pay p.2.1 :=by
 unfold Z3t
 rw [List.foldl_append]
 rfl
abbrev resC (a b c:Int):Array Value := #[.int .i64 a, .int .i64 b, .int .i64 c]
abbrev resV (a b c:Int):Value := .agg (resC a b c)
abbrev resB (a b c:Int):Obj := .cells (resC a b c) 114 (0,0)
theorem Zos:(Tryz.prog.info? 114).map (·.size)=some 3 :=by kernel_rfl
theorem Z08 {ops:Array Oper} {rest:List Oper} {o:Oper} {a:Act} {w:World} {Q:Exit→Act→World→Prop} (hw:Region.wanted o (yielded ops a.tmps)=true) (x y:Operand) (ho:o.op = .store 114 x y)
 (g:Nat) (p q r p' q' r':Int) (hx:a.eval x = .pointer (some ⟨g,0,none⟩)) (hy:a.eval y=resV p q r) (hg:w.heap[g]? = some (resB p' q' r'))
 (h:∀ w',w'.heap[g]? = some (resB p q r)→Mods (fun i =>i=g) w w'→wpList Tryz.prog ops Q rest (a.put o.dst undef) w'):wpList Tryz.prog ops Q (o :: rest) a w :=
 Z11 hw 114 x y ho g (resC p q r) hx hy _ (resC p' q' r') Zos rfl rfl hg (h _ (setRow_heap w g _ _ _ _ hg) ((Mods.refl _ w).setRow g _ fun _ =>rfl))
def newV (am:Int):Vd :=⟨am,1,false, -1, -1, -1, -1⟩
def Z3b (c:Nat→Int) (E:En) (am:Int):Int :=
 if am<c 2∨c 3<am then 3 else if c 0≤E.vs.length then 5 else if (c 1).toNat≤E.pe.length then 6 else E.led.depC am
def Z4r (c:Nat→Int) (E:En) (am:Int):Int × Int × Int :=if Z3b c E am=0 then (0,E.vs.length, -1) else (Z3b c E am,0,0)
def Z73 (c:Nat→Int) (E:En) (am:Int):En :=if Z3b c E am=0 then { E with led :=E.led.dep am,vs :=E.vs ++ [newV am],pe :=E.pe ++ [(E.vs.length:Int)] } else E
theorem Zle {own:Nat→Nat} {w:World} {e:Nat} {c:Nat→Int} {E:En} {p:Ep} {N:Nat} (h:Z0i own w e c E p N) (o:Od) (ha0:0≤o.am) (ha1:o.am≤maxU) (hdep:E.led.depC o.am=0→(E.led.dep o.am).ok∧totS E.vs+o.am≤maxU) (hN:N+10<4294967296) :
 Calls Tryz.prog 50 #[.pointer (some ⟨e,0,none⟩),o.val] w fun r w' =>r = .returned (resV (Z4r c E o.am).1 (Z4r c E o.am).2.1 (Z4r c E o.am).2.2)∧Goes own w e c p (Z73 c E o.am) (N+10) w' :=by
 obtain ⟨kd,oix,otg,am⟩ :=o
 dsimp only at ha0 ha1 hdep ⊢
 obtain ⟨lv,hblk, -, -⟩ :=h.blk (by decide)
 have c3:w.cell? ⟨e,3,none⟩=some (.int .u64 (c 2)) :=by rw [cell_of_row _ _ _ _ _ _ hblk]; rfl
 have c4:w.cell? ⟨e,4,none⟩=some (.int .u64 (c 3)) :=by rw [cell_of_row _ _ _ _ _ _ hblk]; rfl
 have H :=Hd h
 obtain ⟨X,hX⟩:∃ X,X=Z4r c E am :=⟨_,rfl⟩
 obtain ⟨Y,hY⟩:∃ Y,Y=Z73 c E am :=⟨_,rfl⟩
 rw [← hX,← hY]
 have HX :=Hd hX
 have HY :=Hd hY
 have HBLK :=Hd hblk
 have HDEP :=Hd hdep
 clear hX hY hblk hdep h
 by_cases h3:am<c 2
 ·have HCODE :=Hd (show Z3b c E am=3 from if_pos (.inl h3))
  go_enter Tryz.func50,Tryz.ntmps50
  go_wp2_with fail
  refine Z0l ?_
  intro wz hwz
  obtain ⟨g1,g2,g3,g4⟩ :=Z3u w (.cells #[.int .i64 kd, .int .i64 oix, .int .i64 otg, .int .u64 am] 34) (resB 0 0 0)
  rw [← (show wz=_ from hwz)] at g1 g2 g3 g4
  have a3:wz.cell? ⟨w.heap.size,3,none⟩=some (.int .u64 am) :=by rw [cell_of_row _ _ _ _ _ _ g1]; rfl
  have d3 :=g4.cell c3 fun h =>h
  have d4 :=g4.cell c4 fun h =>h
  have K4 :=Hd g4
  have G2 :=Hd g2
  have G1 :=Hd g1
  clear hwz g1 g2 g4
  go_quiet (fail)
  have KA :=Hd (K4.out.drewN nq)
  have GA :=Hd (show (wz.drewN nq).heap[w.heap.size+1]? = some (resB 0 0 0) from G2.out)
  go_wp2_with fail
  refine (Z0q 3 _).mono ?_
  rintro r wf ⟨rfl,hkf⟩
  have gf :=hkf.at (GA.out) fun h =>h
  have HKF :=Hd hkf
  clear hkf
  go_wp2_with (refine Z08 rfl (.tmp 4) (.tmp 27) rfl (w.heap.size+1) (3) 0 0 0 0 0 rfl rfl gf ?_; refine Z0e.out ?_)
  refine Z0e.mk ?_
  intro wg hg hm
  have HM :=Hd hm
  have HG :=Hd hg
  clear hg hm gf
  go_wp2_with fail
  obtain ⟨p0,p1,p2⟩ :=Z0b HG.out
  exact bodyPost_ret (v :=resV (3) 0 0) (by simp [results,Tryz.results50,go_sem,p0,p1,p2]) rfl ⟨by rw [HX.out]; rw [Z4r,HCODE.out]; rfl,by rw [HY.out,show Z73 c E am=E from if_neg (by rw [HCODE.out]; decide)]; exact Goes.mono ⟨own,H.out.keeps ((KA.out.keep HKF.out).seq HM.out fun i hi e =>by omega),(Ext.keeps ((KA.out.keep HKF.out).seq HM.out fun i hi e =>by omega))⟩ (by omega)⟩
 ·by_cases h4:c 3<am
  ·have HCODE :=Hd (show Z3b c E am=3 from if_pos (.inr h4))
   go_enter Tryz.func50,Tryz.ntmps50
   go_wp2_with fail
   refine Z0l ?_
   intro wz hwz
   obtain ⟨g1,g2,g3,g4⟩ :=Z3u w (.cells #[.int .i64 kd, .int .i64 oix, .int .i64 otg, .int .u64 am] 34) (resB 0 0 0)
   rw [← (show wz=_ from hwz)] at g1 g2 g3 g4
   have a3:wz.cell? ⟨w.heap.size,3,none⟩=some (.int .u64 am) :=by rw [cell_of_row _ _ _ _ _ _ g1]; rfl
   have d3 :=g4.cell c3 fun h =>h
   have d4 :=g4.cell c4 fun h =>h
   have K4 :=Hd g4
   have G2 :=Hd g2
   have G1 :=Hd g1
   clear hwz g1 g2 g4
   go_quiet (fail)
   have KA :=Hd (K4.out.drewN nq)
   have GA :=Hd (show (wz.drewN nq).heap[w.heap.size+1]? = some (resB 0 0 0) from G2.out)
   go_wp2_with fail
   refine (Z0q 3 _).mono ?_
   rintro r wf ⟨rfl,hkf⟩
   have gf :=hkf.at (GA.out) fun h =>h
   have HKF :=Hd hkf
   clear hkf
   go_wp2_with (refine Z08 rfl (.tmp 4) (.tmp 27) rfl (w.heap.size+1) (3) 0 0 0 0 0 rfl rfl gf ?_; refine Z0e.out ?_)
   refine Z0e.mk ?_
   intro wg hg hm
   have HM :=Hd hm
   have HG :=Hd hg
   clear hg hm gf
   go_wp2_with fail
   obtain ⟨p0,p1,p2⟩ :=Z0b HG.out
   exact bodyPost_ret (v :=resV (3) 0 0) (by simp [results,Tryz.results50,go_sem,p0,p1,p2]) rfl ⟨by rw [HX.out]; rw [Z4r,HCODE.out]; rfl,by rw [HY.out,show Z73 c E am=E from if_neg (by rw [HCODE.out]; decide)]; exact Goes.mono ⟨own,H.out.keeps ((KA.out.keep HKF.out).seq HM.out fun i hi e =>by omega),(Ext.keeps ((KA.out.keep HKF.out).seq HM.out fun i hi e =>by omega))⟩ (by omega)⟩
  ·have HC1 :=Hd (show Z3b c E am=if c 0≤E.vs.length then 5 else if (c 1).toNat≤E.pe.length then 6 else E.led.depC am from if_neg (by omega))
   obtain ⟨f0, -,f22, -, -, -, -, -,f28, -, -⟩ :=Z09 HBLK.out
   have c1:w.cell? ⟨e,1,none⟩=some (.int .i64 (c 0)) :=by rw [cell_of_row _ _ _ _ _ _ HBLK.out]; rfl
   have HCE :=Hd (fun (w':World) (hk:Z00 w w') =>(⟨hk.cell f0 fun h =>h,hk.cell c1 fun h =>h,hk.cell f28 fun h =>h,hk.cell f22 fun h =>h⟩:w'.cell? ⟨e,0,none⟩=some (.pointer (some ⟨p.rg,0,none⟩))∧w'.cell? ⟨e,1,none⟩=some (.int .i64 (c 0))∧w'.cell? ⟨e,28,none⟩=some (.pointer (some ⟨p.pe,0,none⟩))∧w'.cell? ⟨e,22,none⟩=some (.pointer (some ⟨p.ld,0,none⟩))))
   clear f0 f22 f28 c1
   go_enter Tryz.func50,Tryz.ntmps50
   go_wp2_with fail
   refine Z0l ?_
   intro wz hwz
   obtain ⟨g1,g2,g3,g4⟩ :=Z3u w (.cells #[.int .i64 kd, .int .i64 oix, .int .i64 otg, .int .u64 am] 34) (resB 0 0 0)
   rw [← (show wz=_ from hwz)] at g1 g2 g3 g4
   have a3:wz.cell? ⟨w.heap.size,3,none⟩=some (.int .u64 am) :=by rw [cell_of_row _ _ _ _ _ _ g1]; rfl
   have d3 :=g4.cell c3 fun h =>h
   have d4 :=g4.cell c4 fun h =>h
   have K4 :=Hd g4
   have G2 :=Hd g2
   have G1 :=Hd g1
   clear hwz g1 g2 g4
   go_quiet (fail)
   have KA :=Hd (K4.out.drewN nq)
   have GA :=Hd (show (wz.drewN nq).heap[w.heap.size+1]? = some (resB 0 0 0) from G2.out)
   have HLEN :=Hd (fun (w':World) (hk:Z00 w w') =>eLen (H.out.keeps hk))
   go_wp2_with fail
   refine Z0l ?_
   intro w1 hw1
   rw [← (show w1=_ from hw1)] at KA GA
   have k1z:Z00 wz w1 :=by rw [show w1=_ from hw1]; exact (Mods.refl _ wz).drewN nq
   have K1Z :=Hd k1z
   obtain ⟨e0,e1,e28,e22⟩ :=HCE.out _ KA.out
   clear a3 d3 d4 h3 h4 hw1 k1z
   by_cases h5:c 0≤(E.vs.length:Int)
   ·have HCODE :=Hd (show Z3b c E am=5 from by rw [HC1.out,if_pos h5])
    go_quiet ((go_at_call 81; exact Z6u (HLEN.out _ (KA.out.drewN _))))
    have KB :=Hd (KA.out.drewN nq)
    go_wp2_with fail
    refine (Z0q 5 _).mono ?_
    rintro r wf ⟨rfl,hkf⟩
    have gf :=hkf.at (GA.out) fun h =>h
    have HKF :=Hd hkf
    clear hkf
    go_wp2_with (refine Z08 rfl (.tmp 4) (.tmp 41) rfl (w.heap.size+1) (5) 0 0 0 0 0 rfl rfl gf ?_; refine Z0e.out ?_)
    refine Z0e.mk ?_
    intro wg hg hm
    have HM :=Hd hm
    have HG :=Hd hg
    clear hg hm gf
    go_wp2_with fail
    obtain ⟨p0,p1,p2⟩ :=Z0b HG.out
    exact bodyPost_ret (v :=resV (5) 0 0) (by simp [results,Tryz.results50,go_sem,p0,p1,p2]) rfl ⟨by rw [HX.out]; rw [Z4r,HCODE.out]; rfl,by rw [HY.out,show Z73 c E am=E from if_neg (by rw [HCODE.out]; decide)]; exact Goes.mono ⟨own,H.out.keeps ((KB.out.keep HKF.out).seq HM.out fun i hi e =>by omega),(Ext.keeps ((KB.out.keep HKF.out).seq HM.out fun i hi e =>by omega))⟩ (by omega)⟩
   ·go_quiet ((go_at_call 81; exact Z6u (HLEN.out _ (KA.out.drewN _))))
    have KB :=Hd (KA.out.drewN nq)
    have HFREE :=Hd (fun (w':World) (hk:Z00 w w') =>Z3e ((H.out.keeps hk).pe (by decide)))
    have hpl:E.pe.length≤(c 1).toNat :=(H.out.pe (by decide)).2.2.2.1
    by_cases h6:(c 1).toNat≤E.pe.length
    ·have HCODE :=Hd (show Z3b c E am=6 from by rw [HC1.out,if_neg h5,if_pos h6])
     have hz:((((c 1).toNat:Int) - (E.pe.length:Int)) == 0)=true :=by rw [beq_iff_eq]; omega
     go_wp2_with fail
     refine (HFREE.out _ KB.out).mono ?_
     rintro r w3 ⟨rfl,hd3⟩
     have KC :=Hd (KB.out.keep hd3.mods)
     have GC :=Hd (show w3.heap[w.heap.size+1]? = some (resB 0 0 0) from (hd3.mods (S :=fun _ =>False)).at GA.out fun h =>h)
     clear hd3
     go_wp2_with fail
     refine (Z0q 6 _).mono ?_
     rintro r wf ⟨rfl,hkf⟩
     have gf :=hkf.at (GC.out) fun h =>h
     have HKF :=Hd hkf
     clear hkf
     go_wp2_with (refine Z08 rfl (.tmp 4) (.tmp 49) rfl (w.heap.size+1) (6) 0 0 0 0 0 rfl rfl gf ?_; refine Z0e.out ?_)
     refine Z0e.mk ?_
     intro wg hg hm
     have HM :=Hd hm
     have HG :=Hd hg
     clear hg hm gf
     go_wp2_with fail
     obtain ⟨p0,p1,p2⟩ :=Z0b HG.out
     exact bodyPost_ret (v :=resV (6) 0 0) (by simp [results,Tryz.results50,go_sem,p0,p1,p2]) rfl ⟨by rw [HX.out]; rw [Z4r,HCODE.out]; rfl,by rw [HY.out,show Z73 c E am=E from if_neg (by rw [HCODE.out]; decide)]; exact Goes.mono ⟨own,H.out.keeps ((KC.out.keep HKF.out).seq HM.out fun i hi e =>by omega),(Ext.keeps ((KC.out.keep HKF.out).seq HM.out fun i hi e =>by omega))⟩ (by omega)⟩
    ·have HCD :=Hd (show Z3b c E am=E.led.depC am from by rw [HC1.out,if_neg h5,if_neg h6])
     have hz:((((c 1).toNat:Int) - (E.pe.length:Int)) == 0)=false :=by rw [beq_eq_false_iff_ne]; omega
     go_wp2_with fail
     refine (HFREE.out _ KB.out).mono ?_
     rintro r w3 ⟨rfl,hd3⟩
     have kc:Z00 w w3 :=KB.out.keep hd3.mods
     have KC :=Hd kc
     have k13:Z00 wz w3 :=(K1Z.out.drewN nq).keep hd3.mods
     have GC :=Hd (k13.at G2.out fun h =>h)
     have OC :=Hd (k13.at G1.out fun h =>h)
     obtain ⟨-, -, -,x22⟩ :=HCE.out _ kc
     have xam:w3.cell? ⟨w.heap.size,3,none⟩=some (.int .u64 am) :=by rw [cell_of_row _ _ _ _ _ _ OC.out]; rfl
     have HEC :=Hd (H.out.keeps kc)
     have hn0:own w.heap.size=0 :=H.out.new _ (Nat.le_refl _)
     have hn1:own (w.heap.size+1)=0 :=H.out.new _ (Nat.le_succ _)
     have HOK:(E.led.dep am).ok :=by
      by_cases hd:E.led.depC am=0
      ·exact (HDEP.out hd).1
      ·unfold Led.dep; rw [if_neg hd]; exact (H.out.ld (by decide)).2
     have HDP :=Hd (fun (w':World) (hk:Z00 w3 w') =>eDep (HEC.out.keeps hk) am ha0 ha1 HOK)
     clear hd3 k13 hz kc e0 e1 e28 e22
     go_wp2_with fail
     refine wp_region_held_drew (S :=(fun w' =>w'.cell? ⟨e,22,none⟩=some (.pointer (some ⟨p.ld,0,none⟩))∧w'.cell? ⟨w.heap.size,3,none⟩=some (.int .u64 am))) (by kernel_rfl) (by exact ⟨x22,xam⟩) (fun hH0 =>?_)
     refine tk 0 rfl hH0 ?_
     try go_frame
     refine tk 1 rfl hH0 ?_
     try go_frame
     refine tk 2 rfl hH0 ?_
     try go_frame
     refine tk 3 rfl hH0 ?_
     try go_frame
     refine tk 4 rfl hH0 ?_
     try go_frame
     refine tk 5 rfl hH0 ?_
     try go_frame
     refine rdy [6] (Z04 rfl (fun K hK =>?_) AllReadyH.nil)
     go_simp
     refine (HDP.out _ (Mods.refl _ w3).drew).mono ?_
     rintro r w4 ⟨rfl,own4,hE4,hX4⟩
     have hX34 :=(Ext.keeps (own :=own) (Mods.refl (fun _ =>False) w3).drew).trans hX4
     have O4 :=Hd (hX34.at OC.out hn0)
     have G4 :=Hd (hX34.at GC.out hn1)
     go_wp2_with fail
     obtain ⟨lv4,hb4, -, -⟩ :=hE4.blk (by decide)
     obtain ⟨f0, -,f22, -, -, -, -, -,f28, -, -⟩ :=Z09 hb4
     have xam4:w4.cell? ⟨w.heap.size,3,none⟩=some (.int .u64 am) :=by rw [cell_of_row _ _ _ _ _ _ O4.out.1]; rfl
     refine hK.out _ _ (⟨f22,xam4⟩) (fun hH1 =>?_)
     clear hK K hH0
     try go_frame
     refine tk 7 rfl hH1 ?_
     try go_frame
     refine wpAnyH_done (by kernel_rfl) ?_ _
     clear hH1
     have HE4 :=Hd hE4
     have HX4 :=Hd ((Ext.keeps (own :=own) KC.out).trans hX34)
     clear hE4 hX4 hX34 hb4 x22 xam
     by_cases hd:E.led.depC am=0
     ·have HCODE :=Hd (show Z3b c E am=0 from HCD.out.trans hd)
      rw [hd]
      have htot :=(HDEP.out hd).2
      have HAD :=Hd (fun (w':World) (hk:Z00 w4 w') =>eAdd (HE4.out.keeps hk) (newV am) ⟨ha0,ha1,show (Lit.int .i64 1).wf=true from by decide⟩ (by dsimp only; omega) htot (by omega))
      clear hd htot
      go_wp2_with fail
      refine wp_region_held_drew (S :=(fun w' =>w'.cell? ⟨e,0,none⟩=some (.pointer (some ⟨p.rg,0,none⟩))∧w'.cell? ⟨w.heap.size,3,none⟩=some (.int .u64 am))) (by kernel_rfl) (by exact ⟨f0,xam4⟩) (fun hH0 =>?_)
      refine tk 0 rfl hH0 ?_
      try go_frame
      refine tk 1 rfl hH0 ?_
      try go_frame
      refine tk 2 rfl hH0 ?_
      try go_frame
      refine tk 3 rfl hH0 ?_
      try go_frame
      refine tk 4 rfl hH0 ?_
      try go_frame
      refine tk 5 rfl hH0 ?_
      try go_frame
      refine tk 6 rfl hH0 ?_
      try go_frame
      refine tk 7 rfl hH0 ?_
      try go_frame
      refine rdy [8] (Z04 rfl (fun K hK =>?_) AllReadyH.nil)
      go_simp
      refine (HAD.out _ (Mods.refl _ w4).drew).mono ?_
      rintro r w5 ⟨rfl,own5,hE5,hX5⟩
      have hX45 :=(Ext.keeps (own :=own4) (Mods.refl (fun _ =>False) w4).drew).trans hX5
      have O5 :=Hd (hX45.at O4.out.1 O4.out.2)
      have G5 :=Hd (hX45.at G4.out.1 G4.out.2)
      go_wp2_with fail
      obtain ⟨lv5,hb5, -, -⟩ :=hE5.blk (by decide)
      have i28 :=(Z09 hb5).2.2.2.2.2.2.2.2.1
      refine hK.out _ _ (⟨(Z09 hb5).1,by rw [cell_of_row _ _ _ _ _ _ O5.out.1]; rfl⟩) (fun hH1 =>?_)
      clear hK K hH0
      try go_frame
      refine tk 9 rfl hH1 ?_
      try go_frame
      refine tk 10 rfl hH1 ?_
      try go_frame
      refine tk 11 rfl hH1 ?_
      try go_frame
      refine tk 12 rfl hH1 ?_
      try go_frame
      refine tk 13 rfl hH1 ?_
      try go_frame
      refine wpAnyH_done (by kernel_rfl) ?_ _
      clear hH1
      have HPU :=Hd (fun (w':World) (hk:Z00 w5 w') (vb:Nat) (hv:w'.cell? ⟨vb,0,none⟩=some (.int .i64 (E.vs.length:Int))) (h0:own5 vb=0) =>Zor (hE5.keeps hk) (by dsimp only; omega) (E.vs.length:Int) vb hv h0)
      have HE5 :=Hd hE5
      have HX5 :=Hd (HX4.out.trans hX45)
      clear hE5 hX5 hX45 hb5 f0 f22 f28 xam4
      go_wp2_with fail
      refine (HPU.out _ ((Mods.refl _ w5).alloc _) w5.heap.size (by rw [cell_of_row _ _ _ _ _ _ (heap_alloc_last w5 (.cells #[.int .i64 (E.vs.length:Int)] 3))]; rfl) (HE5.out.new _ (Nat.le_refl _))).mono ?_
      rintro r w6 ⟨rfl,own6,hE6,hX6⟩
      have hX56 :=(Ext.keeps (own :=own5) ((Mods.refl (fun _ =>False) w5).alloc _)).trans hX6
      have G6 :=Hd (hX56.at G5.out.1 G5.out.2)
      have HE6 :=Hd hE6
      have HX6 :=Hd (HX5.out.trans hX56)
      clear hE6 hX6 hX56 i28
      go_wp2_with fail
      refine (Z2f _ _ _).mono ?_
      rintro r wf ⟨rfl,hkf⟩
      have gf :=hkf.at G6.out.1 fun h =>h
      have HKF :=Hd hkf
      clear hkf
      go_wp2_with (refine Z08 rfl (.tmp 4) (.tmp 81) rfl (w.heap.size+1) 0 (E.vs.length:Int) (-1) 0 0 0 rfl rfl gf ?_; refine Z0e.out ?_)
      refine Z0e.mk ?_
      intro wg hg hm
      have HM :=Hd hm
      have HG :=Hd hg
      clear hg hm gf
      go_wp2_with fail
      obtain ⟨p0,p1,p2⟩ :=Z0b HG.out
      refine bodyPost_ret (v :=resV 0 (E.vs.length:Int) (-1)) (by simp [results,Tryz.results50,go_sem,p0,p1,p2]) rfl ⟨by rw [HX.out,Z4r,HCODE.out]; rfl, ?_⟩
      have h9:Z0i own6 wg e c _ p _ :=(HE6.out.keeps HKF.out).loc HM.out fun i _ h =>by rw [h]; exact G6.out.2
      have h10:Ext own w own6 wg :=Z1l (HX6.out.trans (Ext.keeps HKF.out)) HM.out fun i hi h =>by omega
      rw [HY.out,Z73,HCODE.out]
      exact ⟨own6,h9.mono (by omega),h10⟩
     ·have hdn:(E.led.depC am != 0)=true :=by simp [hd]
      have HCODE :=Hd (show ¬ Z3b c E am=0 from by rw [HCD.out]; exact hd)
      have hled:E.led.dep am=E.led :=by unfold Led.dep; rw [if_neg hd]
      have HE4' :=Hd (show Z0i own4 w4 e c E p N from by have :=HE4.out; rw [hled] at this; exact this)
      obtain ⟨DC,hDC⟩:∃ x,x=E.led.depC am :=⟨_,rfl⟩
      have HDC :=Hd hDC
      rw [← hDC] at hdn ⊢
      clear hd hled hDC f0 f22 f28 xam4
      go_wp2_with fail
      refine (Z0q _ _).mono ?_
      rintro r wf ⟨rfl,hkf⟩
      have gf :=hkf.at G4.out.1 fun h =>h
      have HKF :=Hd hkf
      clear hkf
      go_wp2_with (refine Z08 rfl (.tmp 4) (.tmp 60) rfl (w.heap.size+1) DC 0 0 0 0 0 rfl rfl gf ?_; refine Z0e.out ?_)
      refine Z0e.mk ?_
      intro wg hg hm
      have HM :=Hd hm
      have HG :=Hd hg
      clear hg hm gf
      go_wp2_with fail
      obtain ⟨p0,p1,p2⟩ :=Z0b HG.out
      refine bodyPost_ret (v :=resV DC 0 0) (by simp [results,Tryz.results50,go_sem,p0,p1,p2]) rfl ⟨by rw [HX.out,Z4r,if_neg HCODE.out,HCD.out,← HDC.out], ?_⟩
      have h9:Z0i own4 wg e c _ p _ :=(HE4'.out.keeps HKF.out).loc HM.out fun i _ h =>by rw [h]; exact G4.out.2
      have h10:Ext own w own4 wg :=Z1l (HX4.out.trans (Ext.keeps HKF.out)) HM.out fun i hi h =>by omega
      rw [HY.out,Z73,if_neg HCODE.out]
      exact ⟨own4,h9.mono (by omega),h10⟩
def Zba (v:Vd) (d:Int):Vd := { v with dl :=d }
def Zls (v:Vd):Option Int→Int × Int × Option Vd
 | none =>(10,0,none)
 | some d =>(0,d,some (Zba v d))
def Z5k (c:Nat→Int) (E:En) (k i:Int):Int × Int × Option Vd :=
 if ¬ inR E.vs i then (7,0,none) else
 if (Z2n (E.b / c 13) (vAt E.vs i)).1≠0 then ((Z2n (E.b / c 13) (vAt E.vs i)).1,0,none) else
 if (c 1).toNat≤(if k=0 then E.fo else E.vo).length then (6,0,none) else
 if maxU<sumL (wgts (E.vs.map (·.bal)) (if k=0 then E.fo else E.fo ++ E.vo)) then (10,0,none) else
 Zls (Z2n (E.b / c 13) (vAt E.vs i)).2 (Zht (E.b / c 13) (sumL (wgts (E.vs.map (·.bal)) (if k=0 then E.fo else E.fo ++ E.vo))) (vAt E.vs i).bal c)
def Z2r (c:Nat→Int) (E:En) (k i:Int):Int × Int × Int :=if (Z5k c E k i).1=0 then (0,i,(Z5k c E k i).2.1) else ((Z5k c E k i).1,0,0)
def Z18 (c:Nat→Int) (E:En) (k i:Int):En :=match (Z5k c E k i).2.2 with
 | none =>E
 | some v => { E with vs :=E.vs.set i.toNat v,fo :=(Z74 k E.fo E.vo i).1,vo :=(Z74 k E.fo E.vo i).2 }
theorem Zd3 {v:Vd} (hv:v.ok) (ep:Int) (h:(Z2n ep v).1=0):(Z2n ep v).2.ok∧(Z2n ep v).2.bal=v.bal :=by
 unfold Z2n seq2 at h ⊢
 split
 ·rename_i h1
  rw [if_pos h1] at h
  exact absurd h h1
 ·rename_i h1
  rw [if_neg h1] at h
  split
  ·rename_i h2
   rw [if_pos h2] at h
   exact absurd h h2
  ·rename_i h2
   have hr:(reqC ep v).2.ok∧(reqC ep v).2.bal=v.bal :=by
    unfold reqC
    split
    ·exact ⟨hv,rfl⟩
    ·exact ⟨⟨hv.b0,hv.b1,hv.st⟩,rfl⟩
   unfold evC
   split
   ·exact hr
   ·exact ⟨⟨hr.1.b0,hr.1.b1,Z4b (reqC ep v).2.st 2⟩,hr.2⟩
theorem Z9m {S:Nat→Prop} {w:World} {g sz:Nat} {l:List (Int × Int)} (h:Z3a S w g sz l) (hl:sz≤l.length) (vb:Nat) :
 Calls Tryz.prog 96 #[.pointer (some ⟨g,0,none⟩), .slice (some ⟨vb,0,none⟩) 1 1] w fun r w' =>r = .returned (.int .i64 0)∧Z00 w w' :=by
 have HFR :=Hd (Z6o h)
 have hle:l.length≤sz :=h.2.2.2.1
 have hlz:(sz:Int) - (l.length:Int)=0 :=by omega
 rw [hlz] at HFR
 clear h
 go_enter Tryz.func96,Tryz.ntmps96
 go_wp2_with fail
 refine HFR.out.mono ?_
 rintro r w1 ⟨rfl,hd⟩
 have HD :=Hd (hd.mods (S :=fun _ =>False))
 clear hd hlz hle hl
 go_wp2_with fail
 go_loopw [17] (fun i wr =>i = .int .i64 0∧Z00 w wr) (fun _ _ =>0)
 case atStart =>exact ⟨rfl,HD.out⟩
 case round =>
  obtain ⟨rfl,hk⟩ :=hrel
  have HK :=Hd hk
  clear hk
  go_wp2_with fail
  go_ret
  exact ⟨rfl,HK.out⟩
theorem Z9o {S:Nat→Prop} {w:World} {g sz:Nat} {l:List (Int × Int)} (h:Z36 S w g sz l) (hl:sz≤l.length) (vb:Nat) :
 Calls Tryz.prog 98 #[.pointer (some ⟨g,0,none⟩), .slice (some ⟨vb,0,none⟩) 1 1] w fun r w' =>r = .returned (.int .i64 0)∧Z00 w w' :=by
 have HFR :=Hd (Z5y h)
 have hle:l.length≤sz :=h.2.2.2.1
 have hlz:(sz:Int) - (l.length:Int)=0 :=by omega
 rw [hlz] at HFR
 clear h
 go_enter Tryz.func98,Tryz.ntmps98
 go_wp2_with fail
 refine HFR.out.mono ?_
 rintro r w1 ⟨rfl,hd⟩
 have HD :=Hd (hd.mods (S :=fun _ =>False))
 clear hd hlz hle hl
 go_wp2_with fail
 go_loopw [17] (fun i wr =>i = .int .i64 0∧Z00 w wr) (fun _ _ =>0)
 case atStart =>exact ⟨rfl,HD.out⟩
 case round =>
  obtain ⟨rfl,hk⟩ :=hrel
  have HK :=Hd hk
  clear hk
  go_wp2_with fail
  go_ret
  exact ⟨rfl,HK.out⟩
def Z8j (c:Nat→Int) (E:En) (i t:Int):Int :=if mrgR (c 6) E.vs i t=0 then (if (c 1).toNat≤E.mg.length then 6 else 0) else mrgR (c 6) E.vs i t
def Z80 (c:Nat→Int) (E:En) (i t:Int):Int × Int × Int :=if Z8j c E i t=0 then (0,i, -1) else (Z8j c E i t,0,0)
def Z4p (c:Nat→Int) (E:En) (i t:Int):En :=if Z8j c E i t=0 then { E with mg :=E.mg ++ [(i,t)] } else E
theorem Zqj {own:Nat→Nat} {w:World} {e:Nat} {c:Nat→Int} {E:En} {p:Ep} {N:Nat} (h:Z0i own w e c E p N) (o:Od) :
 Calls Tryz.prog 54 #[.pointer (some ⟨e,0,none⟩),o.val] w fun r w' =>r = .returned (resV (Z80 c E o.ix o.tg).1 (Z80 c E o.ix o.tg).2.1 (Z80 c E o.ix o.tg).2.2)∧Goes own w e c p (Z4p c E o.ix o.tg) N w' :=by
 obtain ⟨kd,oix,otg,am⟩ :=o
 dsimp only
 obtain ⟨hvok, -, -, -⟩ :=h.vsok
 have H :=Hd h
 obtain ⟨X,hX⟩:∃ X,X=Z80 c E oix otg :=⟨_,rfl⟩
 obtain ⟨Y,hY⟩:∃ Y,Y=Z4p c E oix otg :=⟨_,rfl⟩
 rw [← hX,← hY]
 have HX :=Hd hX
 have HY :=Hd hY
 obtain ⟨cs,hcs⟩:∃ x,x=cfgC c :=⟨_,rfl⟩
 have hcz:cs.toList.length=20 :=by rw [hcs]; rfl
 have hs20:(Tryz.prog.info? 24).map (·.size)=some cs.toList.length :=by rw [Z0m,hcz]
 obtain ⟨lv,hblk, -, -⟩ :=h.blk (by decide)
 obtain ⟨c0, -, -, -, -, -, -, -, -,c29, -⟩ :=Z09 hblk
 have hcfg :=Z55 hblk
 rw [← hcs] at hcfg
 have HCE :=Hd (fun (w':World) (hk:Z00 w w') =>(⟨hk.cell c0 fun h =>h,hk.cell c29 fun h =>h,Z0n hcfg hk⟩:w'.cell? ⟨e,0,none⟩=some (.pointer (some ⟨p.rg,0,none⟩))∧w'.cell? ⟨e,29,none⟩=some (.pointer (some ⟨p.mg,0,none⟩))∧w'.rangeAt e 1 cs.toList))
 have HALL :=Hd (fun (w':World) (hk:Z00 w w') =>eAll (H.out.keeps hk))
 have HRQ :=Hd (fun (v:Value) (w':World) (hl:VL w' v E.vs) =>Z5m v E.vs hvok oix otg c w' hl)
 obtain ⟨RC,hRC⟩:∃ x,x=mrgR (c 6) E.vs oix otg :=⟨_,rfl⟩
 rw [← hRC,show cfgV c = .agg (cfgC c) from rfl,← hcs] at HRQ
 have HRC :=Hd hRC
 clear hX hY hblk c0 c29 hcfg hcs hcz h hvok hRC
 go_enter Tryz.func54,Tryz.ntmps54
 go_upto_region 1 with fail
 refine Z0l ?_
 intro wz hwz
 obtain ⟨g1,g2,g3,g4⟩ :=Z3u w (.cells #[.int .i64 kd, .int .i64 oix, .int .i64 otg, .int .u64 am] 34) (resB 0 0 0)
 rw [← (show wz=_ from hwz)] at g1 g2 g3 g4
 have K0 :=Hd g4
 have G0 :=Hd g2
 have O0 :=Hd g1
 have HS1 :=Hd (fun (wx:World) (hk:Z00 wz wx) =>(⟨(HCE.out _ (K0.out.keep hk)).1,by rw [cell_of_row _ _ _ _ _ _ (hk.at O0.out fun h =>h)]; rfl,by rw [cell_of_row _ _ _ _ _ _ (hk.at O0.out fun h =>h)]; rfl,(HCE.out _ (K0.out.keep hk)).2.2⟩:wx.cell? ⟨e,0,none⟩=some (.pointer (some ⟨p.rg,0,none⟩))∧wx.cell? ⟨w.heap.size,1,none⟩=some (.int .i64 oix)∧wx.cell? ⟨w.heap.size,2,none⟩=some (.int .i64 otg)∧wx.rangeAt e 1 cs.toList))
 clear hwz g1 g2 g4
 refine wp_region_held_drew (S :=(fun w' =>w'.cell? ⟨e,0,none⟩=some (.pointer (some ⟨p.rg,0,none⟩))∧w'.cell? ⟨w.heap.size,1,none⟩=some (.int .i64 oix)∧w'.cell? ⟨w.heap.size,2,none⟩=some (.int .i64 otg)∧w'.rangeAt e 1 cs.toList)) (by kernel_rfl) (by exact HS1.out _ (Mods.refl _ wz).drew) (fun hH0 =>?_)
 refine tk 0 rfl hH0 ?_
 try go_frame
 refine tk 1 rfl hH0 ?_
 try go_frame
 refine tk 2 rfl hH0 ?_
 try go_frame
 refine tk 3 rfl hH0 ?_
 try go_frame
 refine tk 4 rfl hH0 ?_
 try go_frame
 refine tk 6 rfl hH0 ?_
 try go_frame
 refine tk 7 rfl hH0 ?_
 try go_frame
 refine tk 8 rfl hH0 ?_
 try go_frame
 refine tk 9 rfl hH0 ?_
 try go_frame
 refine tk 10 rfl hH0 ?_
 try go_frame
 refine tk 11 rfl hH0 ?_
 try go_frame
 refine tk 12 rfl hH0 ?_
 try go_frame
 refine tkb 13 rfl hH0 (yieldsIf_load_mid (by rfl) 24 (.tmp 18) rfl e 1 rfl cs.toList _ (fun _ h =>h.2.2.2) Tryz.underlying24 rfl hs20) ?_
 try go_frame
 refine rdy [5] (Z04 rfl (fun K hK =>?_) AllReadyH.nil)
 go_simp
 refine (HALL.out _ (K0.out.keep (Mods.refl _ wz).drew)).mono ?_
 rintro r w1 ⟨v,rfl,hv,hk1⟩
 go_wp2_with fail
 have hkz :=((Mods.refl (fun _ =>False) wz).drew).keep hk1
 refine hK.out _ _ (HS1.out _ hkz) (fun hH1 =>?_)
 clear hK K hH0
 try go_frame
 refine rdy [14] (Z04 rfl (fun K hK =>?_) AllReadyH.nil)
 have KZ :=Hd hkz
 have HV :=Hd (VL.of_owns (l :=E.vs) hv)
 clear hkz hv hk1
 go_simp
 refine (HRQ.out v _ HV.out).mono ?_
 rintro r w2 ⟨rfl,hk2⟩
 go_wp2_with fail
 have hkz2 :=KZ.out.keep hk2
 refine hK.out _ _ (HS1.out _ hkz2) (fun hH2 =>?_)
 clear hK K hH1
 try go_frame
 refine tk 15 rfl hH2 ?_
 try go_frame
 refine wpAnyH_done (by kernel_rfl) ?_ _
 clear hH2
 have K2 :=Hd (K0.out.keep hkz2)
 have KZ2 :=Hd hkz2
 have G2 :=Hd (hkz2.at G0.out fun h =>h)
 clear hkz2 hk2
 by_cases hrc:RC=0
 ·have hb0:(RC != 0)=false :=by simp [hrc]
  have HC1 :=Hd (show Z8j c E oix otg=(if (c 1).toNat≤E.mg.length then 6 else 0) from by rw [Z8j,← HRC.out,if_pos hrc])
  clear hrc
  go_wp2_with fail
  obtain ⟨s0,s1,s2, -⟩ :=HS1.out _ KZ2.out
  have s29 :=(HCE.out _ K2.out).2.1
  have HS4 :=Hd (fun (wx:World) (hk:Z00 w2 wx) =>(⟨hk.cell s29 fun h =>h,hk.cell s1 fun h =>h,hk.cell s2 fun h =>h⟩:wx.cell? ⟨e,29,none⟩=some (.pointer (some ⟨p.mg,0,none⟩))∧wx.cell? ⟨w.heap.size,1,none⟩=some (.int .i64 oix)∧wx.cell? ⟨w.heap.size,2,none⟩=some (.int .i64 otg)))
  clear s0 s1 s2 s29
  by_cases hfull:(c 1).toNat≤E.mg.length
  ·have HCO :=Hd (HC1.out.trans (if_pos hfull))
   have HPF :=Hd (fun (w':World) (hk:Z00 w w') vb =>Z9m ((H.out.keeps hk).mg (by decide)) hfull vb)
   refine Z07 (S :=(fun w' =>w'.cell? ⟨e,29,none⟩=some (.pointer (some ⟨p.mg,0,none⟩))∧w'.cell? ⟨w.heap.size,1,none⟩=some (.int .i64 oix)∧w'.cell? ⟨w.heap.size,2,none⟩=some (.int .i64 otg))) (by kernel_rfl) (by exact HS4.out _ (Mods.refl _ w2).drew) (fun wc hD hH0 =>?_)
   have HK :=Hd (show Z00 w2 wc from hD.mods)
   clear hD
   refine tk 0 rfl hH0 ?_
   try go_frame
   refine tk 1 rfl hH0 ?_
   try go_frame
   refine tk 2 rfl hH0 ?_
   try go_frame
   refine tk 3 rfl hH0 ?_
   try go_frame
   refine tk 4 rfl hH0 ?_
   try go_frame
   refine tk 5 rfl hH0 ?_
   try go_frame
   refine tk 6 rfl hH0 ?_
   try go_frame
   refine tk 7 rfl hH0 ?_
   try go_frame
   refine tk 8 rfl hH0 ?_
   try go_frame
   refine rdy [9] (Z04 rfl (fun K hK =>?_) AllReadyH.nil)
   go_simp
   generalize hsz9:wc.heap.size=sb at *
   refine Z14 ?_
   intro wc hwd
   have hk :=Z0f hwd
   refine hK.out _ _ (HS4.out _ (HK.out.keep hk)) (fun hH1 =>?_)
   clear hK K hH0
   try go_frame
   replace HK :=Hd (HK.out.keep hk)
   clear hwd hk hsz9
   refine rdy [10] (Z04 rfl (fun K hK =>?_) AllReadyH.nil)
   go_simp
   refine (HPF.out _ (K2.out.keep HK.out) _).mono ?_
   rintro r wc ⟨rfl,hk⟩
   go_wp2_with fail
   refine hK.out _ _ (HS4.out _ (HK.out.keep hk)) (fun hH2 =>?_)
   clear hK K hH1
   try go_frame
   replace HK :=Hd (HK.out.keep hk)
   clear hk
   refine tk 11 rfl hH2 ?_
   try go_frame
   refine wpAnyH_done (by kernel_rfl) ?_ _
   have hS :=Hd hH2
   clear hH2
   clear hS
   have K5 :=Hd (K2.out.keep HK.out)
   have G5 :=Hd (HK.out.at G2.out fun h =>h)
   go_wp2_with fail
   refine (Z0q 6 _).mono ?_
   rintro r wf ⟨rfl,hkf⟩
   have gf :=hkf.at G5.out fun h =>h
   have HKF :=Hd hkf
   clear hkf
   go_wp2_with (refine Z08 rfl (.tmp 4) (.tmp 37) rfl (w.heap.size+1) 6 0 0 0 0 0 rfl rfl gf ?_; refine Z0e.out ?_)
   refine Z0e.mk ?_
   intro wg hg hm
   have HM :=Hd hm
   have HG :=Hd hg
   clear hg hm gf
   go_wp2_with fail
   obtain ⟨p0,p1,p2⟩ :=Z0b HG.out
   have hkk:Z00 w wg :=(K5.out.keep HKF.out).seq HM.out fun i hi e =>by omega
   exact bodyPost_ret (v :=resV 6 0 0) (by simp [results,Tryz.results54,go_sem,p0,p1,p2]) rfl ⟨by rw [HX.out,show Z80 c E oix otg=(6,0,0) from by rw [Z80,HCO.out]; rfl],by rw [HY.out,show Z4p c E oix otg=E from by rw [Z4p,HCO.out]; rfl]; exact Goes.keeps H.out hkk⟩
  ·have HCO :=Hd (HC1.out.trans (if_neg hfull))
   have HPU :=Hd (fun (w':World) (hk:Z00 w w') vb hv hv2 =>Zof (H.out.keeps hk) (by omega) (oix,otg) vb hv hv2)
   refine Z07 (S :=(fun w' =>w'.cell? ⟨e,29,none⟩=some (.pointer (some ⟨p.mg,0,none⟩))∧w'.cell? ⟨w.heap.size,1,none⟩=some (.int .i64 oix)∧w'.cell? ⟨w.heap.size,2,none⟩=some (.int .i64 otg))) (by kernel_rfl) (by exact HS4.out _ (Mods.refl _ w2).drew) (fun wc hD hH0 =>?_)
   have HK :=Hd (show Z00 w2 wc from hD.mods)
   clear hD
   refine tk 0 rfl hH0 ?_
   try go_frame
   refine tk 1 rfl hH0 ?_
   try go_frame
   refine tk 2 rfl hH0 ?_
   try go_frame
   refine tk 3 rfl hH0 ?_
   try go_frame
   refine tk 4 rfl hH0 ?_
   try go_frame
   refine tk 5 rfl hH0 ?_
   try go_frame
   refine tk 6 rfl hH0 ?_
   try go_frame
   refine tk 7 rfl hH0 ?_
   try go_frame
   refine tk 8 rfl hH0 ?_
   try go_frame
   refine rdy [9] (Z04 rfl (fun K hK =>?_) AllReadyH.nil)
   go_simp
   generalize hsz9:wc.heap.size=sb at *
   refine Z14 ?_
   intro wc hwd
   have hk :=Z0f hwd
   have hn :=Z0g hwd
   rw [hsz9] at hn
   refine hK.out _ _ (HS4.out _ (HK.out.keep hk)) (fun hH1 =>?_)
   clear hK K hH0
   try go_frame
   replace HK :=Hd (HK.out.keep hk)
   have HN :=Hd hn
   clear hwd hk hn hsz9
   refine rdy [10] (Z04 rfl (fun K hK =>?_) AllReadyH.nil)
   go_simp
   refine (HPU.out _ (K2.out.keep HK.out) _ (Z27 HN.out).1 (Z27 HN.out).2).mono ?_
   rintro r wd ⟨rfl,ownd,hEd,hXd⟩
   go_wp2_with fail
   have hX2 :=(Ext.keeps (own :=own) HK.out).trans hXd
   obtain ⟨lvd,hbd, -, -⟩ :=hEd.blk (by decide)
   have OD :=hX2.at (KZ2.out.at O0.out fun h =>h) (H.out.new _ (Nat.le_refl _))
   refine hK.out _ _ (⟨(Z09 hbd).2.2.2.2.2.2.2.2.2.1,by rw [cell_of_row _ _ _ _ _ _ OD.1]; rfl,by rw [cell_of_row _ _ _ _ _ _ OD.1]; rfl⟩) (fun hH2 =>?_)
   clear hK K hH1
   try go_frame
   have GD :=Hd (hX2.at G2.out (H.out.new _ (Nat.le_succ _)))
   have HEd :=Hd hEd
   have HXd :=Hd ((Ext.keeps (own :=own) K2.out).trans hX2)
   have z1:wd.cell? ⟨w.heap.size,1,none⟩=some (.int .i64 oix) :=by rw [cell_of_row _ _ _ _ _ _ OD.1]; rfl
   clear hEd hXd hX2 hbd OD
   refine tk 11 rfl hH2 ?_
   try go_frame
   refine wpAnyH_done (by kernel_rfl) ?_ _
   have hS :=Hd hH2
   clear hH2
   clear hS
   go_wp2_with fail
   refine (Z2f _ _ _).mono ?_
   rintro r wf ⟨rfl,hkf⟩
   have gf :=hkf.at GD.out.1 fun h =>h
   have HKF :=Hd hkf
   clear hkf
   go_wp2_with (refine Z08 rfl (.tmp 4) (.tmp 40) rfl (w.heap.size+1) 0 oix (-1) 0 0 0 rfl rfl gf ?_; refine Z0e.out ?_)
   refine Z0e.mk ?_
   intro wg hg hm
   have HM :=Hd hm
   have HG :=Hd hg
   clear hg hm gf
   go_wp2_with fail
   obtain ⟨p0,p1,p2⟩ :=Z0b HG.out
   refine bodyPost_ret (v :=resV 0 oix (-1)) (by simp [results,Tryz.results54,go_sem,p0,p1,p2]) rfl ⟨by rw [HX.out,show Z80 c E oix otg=(0,oix, -1) from by rw [Z80,HCO.out]; rfl], ?_⟩
   have h9':Z0i ownd wg e c _ p _ :=(HEd.out.keeps HKF.out).loc HM.out fun i _ h =>by rw [h]; exact GD.out.2
   have h10:Ext own w ownd wg :=Z1l (HXd.out.trans (Ext.keeps HKF.out)) HM.out fun i hi h =>by omega
   rw [HY.out,Z4p,HCO.out]
   exact ⟨ownd,h9',h10⟩
 ·have HCO :=Hd (show Z8j c E oix otg=RC from by rw [Z8j,← HRC.out,if_neg hrc])
  have hb0:(RC != 0)=true :=by simp [hrc]
  have HR :=Hd hrc
  clear hrc
  go_wp2_with fail
  refine (Z0q RC _).mono ?_
  rintro r wf ⟨rfl,hkf⟩
  have gf :=hkf.at G2.out fun h =>h
  have HKF :=Hd hkf
  clear hkf
  go_wp2_with (refine Z08 rfl (.tmp 4) (.tmp 24) rfl (w.heap.size+1) RC 0 0 0 0 0 rfl rfl gf ?_; refine Z0e.out ?_)
  refine Z0e.mk ?_
  intro wg hg hm
  have HM :=Hd hm
  have HG :=Hd hg
  clear hg hm gf
  go_wp2_with fail
  obtain ⟨p0,p1,p2⟩ :=Z0b HG.out
  have hkk:Z00 w wg :=(K2.out.keep HKF.out).seq HM.out fun i hi e =>by omega
  exact bodyPost_ret (v :=resV RC 0 0) (by simp [results,Tryz.results54,go_sem,p0,p1,p2]) rfl ⟨by rw [HX.out,show Z80 c E oix otg=(RC,0,0) from by rw [Z80,HCO.out,if_neg HR.out]],by rw [HY.out,show Z4p c E oix otg=E from by rw [Z4p,HCO.out,if_neg HR.out]]; exact Goes.keeps H.out hkk⟩
end Go.Proofs.YtecapfmmoejikaaGreat
