/- A part of the proofs of the top laws: EnS EnC DeaD MrgD StoA Row4. -/
import Derived.Deep.MidRow
import Derived.Test.YtecapfmmoejikaaGreatPkAo
import Derived.Test.YtecapfmmoejikaaGreatPkAu
import Derived.Test.YtecapfmmoejikaaGreatPkAx
set_option maxRecDepth 4000
set_option maxHeartbeats 8000000
namespace Go.Eg
open Go Go.RowKit
def Own (own:Nat→Nat) (w:World) (k:Nat) (i:Nat):Prop :=own i=k∧i<w.heap.size
def upd (own:Nat→Nat) (w w':World) (k:Nat) (i:Nat):Nat :=if i<w.heap.size then own i else if i<w'.heap.size then k else 0
theorem Z5q {own:Nat→Nat} {w w':World} {k i:Nat} (h:i<w.heap.size):upd own w w' k i=own i :=if_pos h
theorem Zaw {own:Nat→Nat} {w w':World} {k i:Nat} (h:w.heap.size≤i) (h':i<w'.heap.size):upd own w w' k i=k :=by
 unfold upd
 rw [if_neg (by omega),if_pos h']
theorem Zmw {own:Nat→Nat} {w w':World} {k i:Nat} (h:w.heap.size≤i) (h':w'.heap.size≤i):upd own w w' k i=0 :=by
 unfold upd
 rw [if_neg (by omega),if_neg (by omega)]
theorem Zit {own:Nat→Nat} {w w':World} {k j:Nat} (hj:j≠k) (hs:w.heap.size≤w'.heap.size):Own (upd own w w' k) w' j=Own own w j :=by
 funext i
 apply propext
 unfold Own
 by_cases h:i<w.heap.size
 ·rw [Z5q h]
  exact ⟨fun h1 =>⟨h1.1,h⟩,fun h1 =>⟨h1.1,by omega⟩⟩
 ·constructor
  ·rintro ⟨h1,h2⟩
   rw [Zaw (by omega) h2] at h1
   exact absurd h1.symm hj
  ·rintro ⟨_,h2⟩
   exact absurd h2 h
theorem Z5j {own:Nat→Nat} {w w':World} {k:Nat} (hs:w.heap.size≤w'.heap.size):Own (upd own w w' k) w' k=fun i =>Own own w k i∨w.heap.size≤i∧i<w'.heap.size :=by
 funext i
 apply propext
 unfold Own
 by_cases h:i<w.heap.size
 ·rw [Z5q h]
  exact ⟨fun h1 =>.inl ⟨h1.1,h⟩,fun h1 =>by rcases h1 with h1 | h1; exact ⟨h1.1,by omega⟩; omega⟩
 ·constructor
  ·rintro ⟨_,h2⟩; exact .inr ⟨by omega,h2⟩
  ·rintro (⟨_,h1⟩ | ⟨h1,h2⟩)
   ·exact absurd h1 h
   ·exact ⟨Zaw h1 h2,h2⟩
theorem Z5i {own:Nat→Nat} {w w':World} {k:Nat} (hk:k≠0) (hn:∀ i,w.heap.size≤i→own i=0) (hs:w.heap.size≤w'.heap.size):Own own w' k=Own own w k :=by
 funext i
 apply propext
 unfold Own
 constructor
 ·rintro ⟨h1,_⟩
  by_cases h:i<w.heap.size
  ·exact ⟨h1,h⟩
  ·exact absurd (h1.symm.trans (hn i (by omega))) hk
 ·rintro ⟨h1,h2⟩
  exact ⟨h1,by omega⟩
structure Ext (own:Nat→Nat) (w:World) (own':Nat→Nat) (w':World):Prop where
 old:∀ i,i<w.heap.size→own' i=own i
 mods:Mods (fun i =>own i≠0) w w'
theorem Ext.refl (own:Nat→Nat) (w:World):Ext own w own w :=⟨fun _ _ =>rfl,Mods.refl _ _⟩
theorem Ext.trans {o1 o2 o3:Nat→Nat} {a b c:World} (h:Ext o1 a o2 b) (k:Ext o2 b o3 c):Ext o1 a o3 c :=
 ⟨fun i hi =>(k.old i (Nat.lt_of_lt_of_le hi h.mods.size)).trans (h.old i hi),h.mods.seq k.mods fun i hi hn =>by rw [← h.old i hi]; exact hn⟩
theorem Ext.keeps {own:Nat→Nat} {w w':World} (hm:Z00 w w'):Ext own w own w' :=⟨fun _ _ =>rfl,hm.weaken fun _ _ h =>h.elim⟩
theorem Ext.same {own:Nat→Nat} {S:Nat→Prop} {w w':World} {k:Nat} (hm:Mods S w w') (hk:k≠0) (hS:∀ i,i<w.heap.size→S i→own i=k):Ext own w own w' :=
 ⟨fun _ _ =>rfl,hm.weaken fun i hi h =>by rw [hS i hi h]; exact hk⟩
theorem Ext.upd {own:Nat→Nat} {S:Nat→Prop} {w w':World} {k:Nat} (hm:Mods S w w') (hk:k≠0) (hS:∀ i,i<w.heap.size→S i→own i=k):Ext own w (upd own w w' k) w' :=
 ⟨fun _ hi =>Z5q hi,hm.weaken fun i hi h =>by rw [hS i hi h]; exact hk⟩
theorem Ext.at {o o':Nat→Nat} {w w':World} (h:Ext o w o' w') {b:Nat} {x:Obj} (hb:w.heap[b]? = some x) (h0:o b=0):w'.heap[b]? = some x∧o' b=0 :=
 ⟨h.mods.at hb fun e =>e h0,(h.old b (Z0a hb)).trans h0⟩
theorem Ext.owns {o o':Nat→Nat} {w w':World} {B:Nat} {e:TypeId} {s n:Nat} {v:Value} {xs:List Value} (h:Ext o w o' w') (hb:w.ownsRow B e s v n xs) (h0:∀ k,v.ownBlock=some k→o k=0):w'.ownsRow B e s v n xs :=
 h.mods.owns hb fun k hk e =>e (h0 k hk)
structure En where
 b:Int
 led:Led
 vs:List Vd
 bk:Nat→List (Int × Int)
 lv:List Int
 cur:Nat
 car:Int
 fo:List Int
 vo:List Int
 pe:List Int
 mg:List (Int × Int)
 pr:List (Int × Int)
structure Ep where
 rg:Nat
 ck:Nat
 ld:Nat
 bo:Nat
 cu:Nat
 me:Nat
 la:Nat
 pe:Nat
 mg:Nat
 pr:Nat
end Go.Eg
namespace Go.Proofs.YtecapfmmoejikaaGreat
open Go.RowKit Go.Eg
abbrev engC (c:Nat→Int) (p:Ep) (lv:Value):Array Value := #[.pointer (some ⟨p.rg,0,none⟩), .int .i64 (c 0), .int .i64 (c 1), .int .u64 (c 2), .int .u64 (c 3), .int .u64 (c 4), .int .u64 (c 5), .int .u64 (c 6), .int .u64 (c 7), .int .u64 (c 8), .int .u64 (c 9), .int .i64 (c 10), .int .i64 (c 11), .int .i64 (c 12), .int .i64 (c 13), .int .i64 (c 14), .int .i64 (c 15), .int .i64 (c 16), .int .i64 (c 17), .int .u64 (c 18), .int .u64 (c 19), .pointer (some ⟨p.ck,0,none⟩), .pointer (some ⟨p.ld,0,none⟩), .pointer (some ⟨p.bo,0,none⟩),lv, .pointer (some ⟨p.cu,0,none⟩), .pointer (some ⟨p.me,0,none⟩), .pointer (some ⟨p.la,0,none⟩), .pointer (some ⟨p.pe,0,none⟩), .pointer (some ⟨p.mg,0,none⟩), .pointer (some ⟨p.pr,0,none⟩)]
abbrev engB (c:Nat→Int) (p:Ep) (lv:Value):Obj := .cells (engC c p lv) 98 (0,0)
theorem Zav {S:Nat→Prop} {w w':World} {g:Nat} {x:Int} (h:Z3s w g x) (hm:Mods S w w') (hg : ¬ S g):Z3s w' g x :=by
 obtain ⟨m,hb,h⟩ :=h
 exact ⟨m,hm.at hb hg,h⟩
structure EngBut (x:Nat) (own:Nat→Nat) (w:World) (e:Nat) (c:Nat→Int) (E:En) (p:Ep) (N:Nat):Prop where
 new:∀ i,w.heap.size≤i→own i=0
 oe:own e=12
 blk:x≠12→∃ lv,w.heap[e]? = some (engB c p lv)∧w.ownsRow 0 3 1 lv E.lv.length (E.lv.map fun x =>.int .i64 x)∧∀ k,lv.ownBlock=some k→own k=12∧k≠e
 reg:x≠1→∃ m rv n,Z1x 0 w p.rg m rv (c 0) E.vs n∧n≤N∧∀ i,RegS p.rg m rv i→own i=1
 ck:x≠2→w.heap[p.ck]? = some (clkB E.b (c 13))
 ock:own p.ck=2
 ld:x≠3→w.heap[p.ld]? = some (ledB E.led)∧E.led.ok
 old:own p.ld=3
 bo:x≠4→Z58 (Own own w 4) w p.bo (c 12).toNat E.bk
 cu:x≠6→w.heap[p.cu]? = some (curB E.cur)
 ocu:own p.cu=6
 me:x≠7→Z3s w p.me E.car
 ome:own p.me=7
 la:x≠8→Z31 (Own own w 8) w p.la (c 1).toNat E.fo E.vo
 pe:x≠9→Z1n (Own own w 9) w p.pe (c 1).toNat E.pe
 mg:x≠10→Z3a (Own own w 10) w p.mg (c 1).toNat E.mg
 pr:x≠11→Z36 (Own own w 11) w p.pr (c 1).toNat E.pr
abbrev Z0i :=EngBut 99
theorem EngBut.lt {x:Nat} {own:Nat→Nat} {w:World} {e:Nat} {c:Nat→Int} {E:En} {p:Ep} {N:Nat} (h:EngBut x own w e c E p N) {i:Nat} (hi:own i≠0):i<w.heap.size :=
 Nat.lt_of_not_le fun hn =>hi (h.new i hn)
theorem EngBut.frame {own:Nat→Nat} {w w':World} {e:Nat} {c:Nat→Int} {E:En} {p:Ep} {N:Nat} {S:Nat→Prop} {k:Nat} (h:Z0i own w e c E p N) (hm:Mods S w w') (hS:∀ i,i<w.heap.size→S i→own i=k) :
 EngBut k (upd own w w' k) w' e c E p N :=by
 have hs :=hm.size
 have hu:∀ i,own i≠0→upd own w w' k i=own i :=fun i hi =>Z5q (h.lt hi)
 have hne:∀ i j,own i=j→j≠0→j≠k→¬ S i :=fun i j hi hj hjk hSi =>hjk (hi.symm.trans (hS i (h.lt (hi ▸ hj)) hSi))
 have hO:∀ j,k≠j→Own (upd own w w' k) w' j=Own own w j :=fun j hkj =>Zit (Ne.symm hkj) hs
 have hno:∀ j,j≠0→k≠j→∀ i,Own own w j i→¬ S i :=fun j hj hkj i hi =>hne i j hi.1 hj (Ne.symm hkj)
 refine ⟨fun i hi =>Zmw (Nat.le_trans hs hi) hi,(hu e (by rw [h.oe]; decide)).trans h.oe,fun hx =>?_,fun hx =>?_,fun hx =>?_,(hu _ (by rw [h.ock]; decide)).trans h.ock,fun hx =>?_,(hu _ (by rw [h.old]; decide)).trans h.old,fun hx =>?_,fun hx =>?_,(hu _ (by rw [h.ocu]; decide)).trans h.ocu,fun hx =>?_,(hu _ (by rw [h.ome]; decide)).trans h.ome,fun hx =>?_,fun hx =>?_,fun hx =>?_,fun hx =>?_⟩
 ·obtain ⟨lv,h1,h2,h3⟩ :=h.blk (by decide)
  exact ⟨lv,hm.at h1 (hne _ _ h.oe (by decide) (Ne.symm hx)),hm.owns h2 fun i hi =>hne _ _ (h3 i hi).1 (by decide) (Ne.symm hx),fun i hi =>⟨(hu i (by rw [(h3 i hi).1]; decide)).trans (h3 i hi).1,(h3 i hi).2⟩⟩
 ·obtain ⟨m,rv,n,h1,h2,h3⟩ :=h.reg (by decide)
  exact ⟨m,rv,n,h1.mods hm fun i hi =>hne _ _ (h3 i hi) (by decide) (Ne.symm hx),h2,fun i hi =>(hu i (by rw [h3 i hi]; decide)).trans (h3 i hi)⟩
 ·exact hm.at (h.ck (by decide)) (hne _ _ h.ock (by decide) (Ne.symm hx))
 ·exact ⟨hm.at (h.ld (by decide)).1 (hne _ _ h.old (by decide) (Ne.symm hx)),(h.ld (by decide)).2⟩
 ·rw [hO 4 hx]; exact (h.bo (by decide)).mods hm (hno 4 (by decide) hx)
 ·exact hm.at (h.cu (by decide)) (hne _ _ h.ocu (by decide) (Ne.symm hx))
 ·exact Zav (h.me (by decide)) hm (hne _ _ h.ome (by decide) (Ne.symm hx))
 ·rw [hO 8 hx]; exact (h.la (by decide)).mods hm (hno 8 (by decide) hx)
 ·rw [hO 9 hx]; exact (h.pe (by decide)).mods hm (hno 9 (by decide) hx)
 ·rw [hO 10 hx]; exact (h.mg (by decide)).mods hm (hno 10 (by decide) hx)
 ·rw [hO 11 hx]; exact (h.pr (by decide)).mods hm (hno 11 (by decide) hx)
theorem EngBut.frame0 {own:Nat→Nat} {w w':World} {e:Nat} {c:Nat→Int} {E:En} {p:Ep} {N:Nat} {S:Nat→Prop} {k:Nat} (h:Z0i own w e c E p N) (hm:Mods S w w') (hS:∀ i,i<w.heap.size→S i→own i=k) :
 EngBut k own w' e c E p N :=by
 have hs :=hm.size
 have hO:∀ j,j≠0→Own own w' j=Own own w j :=fun j hj =>Z5i hj h.new hs
 have hno:∀ j,j≠0→k≠j→∀ i,own i=j→¬ S i :=fun j hj hkj i hi h6 =>hkj ((hS i (h.lt (hi ▸ hj)) h6).symm.trans hi)
 have hno2:∀ j,j≠0→k≠j→∀ i,Own own w j i→¬ S i :=fun j hj hkj i hi =>hno j hj hkj i hi.1
 refine ⟨fun i hi =>h.new i (Nat.le_trans hs hi),h.oe,fun hx =>?_,fun hx =>?_,fun hx =>?_,h.ock,fun hx =>?_,h.old,fun hx =>?_,fun hx =>?_,h.ocu,fun hx =>?_,h.ome,fun hx =>?_,fun hx =>?_,fun hx =>?_,fun hx =>?_⟩
 ·obtain ⟨lv,h1,h2,h3⟩ :=h.blk (by decide)
  exact ⟨lv,hm.at h1 (hno 12 (by decide) hx _ h.oe),hm.owns h2 fun i hi =>hno 12 (by decide) hx _ (h3 i hi).1,h3⟩
 ·obtain ⟨m,rv,n,h1,h2,h3⟩ :=h.reg (by decide)
  exact ⟨m,rv,n,h1.mods hm fun i hi =>hno 1 (by decide) hx _ (h3 i hi),h2,h3⟩
 ·exact hm.at (h.ck (by decide)) (hno 2 (by decide) hx _ h.ock)
 ·exact ⟨hm.at (h.ld (by decide)).1 (hno 3 (by decide) hx _ h.old),(h.ld (by decide)).2⟩
 ·rw [hO 4 (by decide)]; exact (h.bo (by decide)).mods hm (hno2 4 (by decide) hx)
 ·exact hm.at (h.cu (by decide)) (hno 6 (by decide) hx _ h.ocu)
 ·exact Zav (h.me (by decide)) hm (hno 7 (by decide) hx _ h.ome)
 ·rw [hO 8 (by decide)]; exact (h.la (by decide)).mods hm (hno2 8 (by decide) hx)
 ·rw [hO 9 (by decide)]; exact (h.pe (by decide)).mods hm (hno2 9 (by decide) hx)
 ·rw [hO 10 (by decide)]; exact (h.mg (by decide)).mods hm (hno2 10 (by decide) hx)
 ·rw [hO 11 (by decide)]; exact (h.pr (by decide)).mods hm (hno2 11 (by decide) hx)
theorem EngBut.keeps {own:Nat→Nat} {w w':World} {e:Nat} {c:Nat→Int} {E:En} {p:Ep} {N:Nat} (h:Z0i own w e c E p N) (hm:Z00 w w'):Z0i own w' e c E p N :=by
 have hs :=hm.size
 have hO:∀ j,j≠0→Own own w' j=Own own w j :=fun j hj =>Z5i hj h.new hs
 refine ⟨fun i hi =>h.new i (Nat.le_trans hs hi),h.oe,fun hx =>?_,fun hx =>?_,fun hx =>?_,h.ock,fun hx =>?_,h.old,fun hx =>?_,fun hx =>?_,h.ocu,fun hx =>?_,h.ome,fun hx =>?_,fun hx =>?_,fun hx =>?_,fun hx =>?_⟩
 ·obtain ⟨lv,h1,h2,h3⟩ :=h.blk (by decide)
  exact ⟨lv,hm.at h1 fun h =>h,hm.owns h2 fun _ _ h =>h,h3⟩
 ·obtain ⟨m,rv,n,h1,h2,h3⟩ :=h.reg (by decide)
  exact ⟨m,rv,n,h1.keeps hm,h2,h3⟩
 ·exact hm.at (h.ck (by decide)) fun h =>h
 ·exact ⟨hm.at (h.ld (by decide)).1 fun h =>h,(h.ld (by decide)).2⟩
 ·rw [hO 4 (by decide)]; exact (h.bo (by decide)).mods hm fun _ _ h =>h
 ·exact hm.at (h.cu (by decide)) fun h =>h
 ·exact Zav (h.me (by decide)) hm fun h =>h
 ·rw [hO 8 (by decide)]; exact (h.la (by decide)).mods hm fun _ _ h =>h
 ·rw [hO 9 (by decide)]; exact (h.pe (by decide)).mods hm fun _ _ h =>h
 ·rw [hO 10 (by decide)]; exact (h.mg (by decide)).mods hm fun _ _ h =>h
 ·rw [hO 11 (by decide)]; exact (h.pr (by decide)).mods hm fun _ _ h =>h
theorem EngBut.mono {x:Nat} {own:Nat→Nat} {w:World} {e:Nat} {c:Nat→Int} {E:En} {p:Ep} {N N':Nat} (h:EngBut x own w e c E p N) (hn:N≤N'):EngBut x own w e c E p N' :=
 ⟨h.new,h.oe,h.blk,fun hx =>by obtain ⟨m,rv,n,a,b,d⟩ :=h.reg hx; exact ⟨m,rv,n,a,Nat.le_trans b hn,d⟩,h.ck,h.ock,h.ld,h.old,h.bo,h.cu,h.ocu,h.me,h.ome,h.la,h.pe,h.mg,h.pr⟩
section
variable {own own':Nat→Nat} {w w':World} {e:Nat} {c:Nat→Int} {E:En} {p:Ep} {N:Nat}
theorem EngBut.reg' (h:EngBut 1 own w e c E p N) {vs:List Vd} {N':Nat} (hr:∃ m rv n,Z1x 0 w p.rg m rv (c 0) vs n∧n≤N'∧∀ i,RegS p.rg m rv i→own i=1):Z0i own w e c { E with vs :=vs } p N' :=
 ⟨h.new,h.oe,fun _ =>h.blk (by decide),fun _ =>hr,fun _ =>h.ck (by decide),h.ock,fun _ =>h.ld (by decide),h.old,fun _ =>h.bo (by decide),fun _ =>h.cu (by decide),h.ocu,fun _ =>h.me (by decide),h.ome,fun _ =>h.la (by decide),fun _ =>h.pe (by decide),fun _ =>h.mg (by decide),fun _ =>h.pr (by decide)⟩
theorem EngBut.ck' (h:EngBut 2 own w e c E p N) {b:Int} (hr:w.heap[p.ck]? = some (clkB b (c 13))):Z0i own w e c { E with b :=b } p N :=
 ⟨h.new,h.oe,fun _ =>h.blk (by decide),fun _ =>h.reg (by decide),fun _ =>hr,h.ock,fun _ =>h.ld (by decide),h.old,fun _ =>h.bo (by decide),fun _ =>h.cu (by decide),h.ocu,fun _ =>h.me (by decide),h.ome,fun _ =>h.la (by decide),fun _ =>h.pe (by decide),fun _ =>h.mg (by decide),fun _ =>h.pr (by decide)⟩
theorem EngBut.ld' (h:EngBut 3 own w e c E p N) {s:Led} (hr:w.heap[p.ld]? = some (ledB s)) (hs:s.ok):Z0i own w e c { E with led :=s } p N :=
 ⟨h.new,h.oe,fun _ =>h.blk (by decide),fun _ =>h.reg (by decide),fun _ =>h.ck (by decide),h.ock,fun _ =>⟨hr,hs⟩,h.old,fun _ =>h.bo (by decide),fun _ =>h.cu (by decide),h.ocu,fun _ =>h.me (by decide),h.ome,fun _ =>h.la (by decide),fun _ =>h.pe (by decide),fun _ =>h.mg (by decide),fun _ =>h.pr (by decide)⟩
theorem EngBut.bo' (h:EngBut 4 own w e c E p N) {bk:Nat→List (Int × Int)} (hr:Z58 (Own own w 4) w p.bo (c 12).toNat bk):Z0i own w e c { E with bk :=bk } p N :=
 ⟨h.new,h.oe,fun _ =>h.blk (by decide),fun _ =>h.reg (by decide),fun _ =>h.ck (by decide),h.ock,fun _ =>h.ld (by decide),h.old,fun _ =>hr,fun _ =>h.cu (by decide),h.ocu,fun _ =>h.me (by decide),h.ome,fun _ =>h.la (by decide),fun _ =>h.pe (by decide),fun _ =>h.mg (by decide),fun _ =>h.pr (by decide)⟩
theorem EngBut.cu' (h:EngBut 6 own w e c E p N) {x:Nat} (hr:w.heap[p.cu]? = some (curB x)):Z0i own w e c { E with cur :=x } p N :=
 ⟨h.new,h.oe,fun _ =>h.blk (by decide),fun _ =>h.reg (by decide),fun _ =>h.ck (by decide),h.ock,fun _ =>h.ld (by decide),h.old,fun _ =>h.bo (by decide),fun _ =>hr,h.ocu,fun _ =>h.me (by decide),h.ome,fun _ =>h.la (by decide),fun _ =>h.pe (by decide),fun _ =>h.mg (by decide),fun _ =>h.pr (by decide)⟩
theorem EngBut.me' (h:EngBut 7 own w e c E p N) {x:Int} (hr:Z3s w p.me x):Z0i own w e c { E with car :=x } p N :=
 ⟨h.new,h.oe,fun _ =>h.blk (by decide),fun _ =>h.reg (by decide),fun _ =>h.ck (by decide),h.ock,fun _ =>h.ld (by decide),h.old,fun _ =>h.bo (by decide),fun _ =>h.cu (by decide),h.ocu,fun _ =>hr,h.ome,fun _ =>h.la (by decide),fun _ =>h.pe (by decide),fun _ =>h.mg (by decide),fun _ =>h.pr (by decide)⟩
theorem EngBut.la' (h:EngBut 8 own w e c E p N) {fo vo:List Int} (hr:Z31 (Own own w 8) w p.la (c 1).toNat fo vo):Z0i own w e c { E with fo :=fo,vo :=vo } p N :=
 ⟨h.new,h.oe,fun _ =>h.blk (by decide),fun _ =>h.reg (by decide),fun _ =>h.ck (by decide),h.ock,fun _ =>h.ld (by decide),h.old,fun _ =>h.bo (by decide),fun _ =>h.cu (by decide),h.ocu,fun _ =>h.me (by decide),h.ome,fun _ =>hr,fun _ =>h.pe (by decide),fun _ =>h.mg (by decide),fun _ =>h.pr (by decide)⟩
theorem EngBut.pe' (h:EngBut 9 own w e c E p N) {l:List Int} (hr:Z1n (Own own w 9) w p.pe (c 1).toNat l):Z0i own w e c { E with pe :=l } p N :=
 ⟨h.new,h.oe,fun _ =>h.blk (by decide),fun _ =>h.reg (by decide),fun _ =>h.ck (by decide),h.ock,fun _ =>h.ld (by decide),h.old,fun _ =>h.bo (by decide),fun _ =>h.cu (by decide),h.ocu,fun _ =>h.me (by decide),h.ome,fun _ =>h.la (by decide),fun _ =>hr,fun _ =>h.mg (by decide),fun _ =>h.pr (by decide)⟩
theorem EngBut.mg' (h:EngBut 10 own w e c E p N) {l:List (Int × Int)} (hr:Z3a (Own own w 10) w p.mg (c 1).toNat l):Z0i own w e c { E with mg :=l } p N :=
 ⟨h.new,h.oe,fun _ =>h.blk (by decide),fun _ =>h.reg (by decide),fun _ =>h.ck (by decide),h.ock,fun _ =>h.ld (by decide),h.old,fun _ =>h.bo (by decide),fun _ =>h.cu (by decide),h.ocu,fun _ =>h.me (by decide),h.ome,fun _ =>h.la (by decide),fun _ =>h.pe (by decide),fun _ =>hr,fun _ =>h.pr (by decide)⟩
theorem EngBut.pr' (h:EngBut 11 own w e c E p N) {l:List (Int × Int)} (hr:Z36 (Own own w 11) w p.pr (c 1).toNat l):Z0i own w e c { E with pr :=l } p N :=
 ⟨h.new,h.oe,fun _ =>h.blk (by decide),fun _ =>h.reg (by decide),fun _ =>h.ck (by decide),h.ock,fun _ =>h.ld (by decide),h.old,fun _ =>h.bo (by decide),fun _ =>h.cu (by decide),h.ocu,fun _ =>h.me (by decide),h.ome,fun _ =>h.la (by decide),fun _ =>h.pe (by decide),fun _ =>h.mg (by decide),fun _ =>hr⟩
theorem EngBut.blk' (h:EngBut 12 own w e c E p N) {l:List Int} (hr:∃ lv,w.heap[e]? = some (engB c p lv)∧w.ownsRow 0 3 1 lv l.length (l.map fun x =>.int .i64 x)∧∀ k,lv.ownBlock=some k→own k=12∧k≠e):Z0i own w e c { E with lv :=l } p N :=
 ⟨h.new,h.oe,fun _ =>hr,fun _ =>h.reg (by decide),fun _ =>h.ck (by decide),h.ock,fun _ =>h.ld (by decide),h.old,fun _ =>h.bo (by decide),fun _ =>h.cu (by decide),h.ocu,fun _ =>h.me (by decide),h.ome,fun _ =>h.la (by decide),fun _ =>h.pe (by decide),fun _ =>h.mg (by decide),fun _ =>h.pr (by decide)⟩
def Goes (own:Nat→Nat) (w:World) (e:Nat) (c:Nat→Int) (p:Ep) (E':En) (N':Nat) (w':World):Prop := ∃ own',Z0i own' w' e c E' p N'∧Ext own w own' w'
theorem Goes.mono {N':Nat} (h:Goes own w e c p E N w') (hn:N≤N'):Goes own w e c p E N' w' :=by
 obtain ⟨o,h1,h2⟩ :=h
 exact ⟨o,h1.mono hn,h2⟩
theorem Goes.keeps (h:Z0i own w e c E p N) (hm:Z00 w w'):Goes own w e c p E N w' :=⟨own,h.keeps hm,Ext.keeps hm⟩
end
section
variable {own:Nat→Nat} {w:World} {e:Nat} {c:Nat→Int} {E:En} {p:Ep} {N:Nat}
theorem Zee (h:Z0i own w e c E p N) {m:Nat} {rv:Value} (ho:∀ i,RegS p.rg m rv i→own i=1) {vs:List Vd} {n':Nat} (hn:n'≤N+2) {w':World} (h':Z1x 0 w' p.rg m rv (c 0) vs n') (hm:Mods (RegS p.rg m rv) w w'):Goes own w e c p { E with vs :=vs } (N+2) w' :=by
 refine ⟨upd own w w' 1,(h.frame hm (k :=1) fun i _ hi =>ho i hi).reg' ⟨m,rv,n',h',hn,fun i hi =>?_⟩,Ext.upd hm (by decide) fun i _ hi =>ho i hi⟩
 rw [Z5q (h.lt (by rw [ho i hi]; decide))]
 exact ho i hi
theorem Z4z (h:Z0i own w e c E p N) (v:Vd) (hv:v.ok) (i:Nat) (hi:i<E.vs.length) (ho:totS (E.vs.set i v)≤maxU) (hN:N+1<4294967296) :
 Calls Tryz.prog 91 #[tabV p.rg, .int .i64 (i:Int),v.val] w fun r w' =>r = .returned (.tuple #[])∧Goes own w e c p { E with vs :=E.vs.set i v } (N+2) w' :=by
 obtain ⟨m,rv,n,h1,h2,h3⟩ :=h.reg (by decide)
 refine (Z67 h1 v hv i hi ho (by omega)).mono ?_
 rintro r w' ⟨rfl,h4,hm⟩
 exact ⟨rfl,Zee h h3 (by omega) h4 hm⟩
theorem Zmo (h:Z0i own w e c E p N) (i:Nat) (hi:i<E.vs.length) (x:Int) (hx:(Lit.int .i64 x).wf=true) (hN:N+1<4294967296) :
 Calls Tryz.prog 110 #[tabV p.rg, .int .i64 (i:Int), .int .i64 x] w fun r w' =>(∃ b,r = .returned (.bool b))∧Goes own w e c p { E with vs :=evL E.vs i x } (N+2) w' :=by
 obtain ⟨m,rv,n,h1,h2,h3⟩ :=h.reg (by decide)
 refine (Z7t h1 i hi x hx (by omega)).mono ?_
 rintro r w' ⟨hr,h4,hm⟩
 exact ⟨hr,Zee h h3 (by omega) h4 hm⟩
theorem eAdd (h:Z0i own w e c E p N) (v:Vd) (hv:v.ok) (hc:(E.vs.length:Int)≠c 0) (ho:totS E.vs+v.bal≤maxU) (hN:N<4294967296) :
 Calls Tryz.prog 84 #[.pointer (some ⟨p.rg,0,none⟩),v.val] w fun r w' =>r = .returned (.tuple #[.int .i64 E.vs.length, .int .i64 0])∧Goes own w e c p { E with vs :=E.vs ++ [v] } (N+2) w' :=by
 obtain ⟨m,rv,n,h1,h2,h3⟩ :=h.reg (by decide)
 refine (Zhk h1 v hv hc ho (by omega)).mono ?_
 rintro r w' ⟨rfl,rv',h4,hm,h5⟩
 refine ⟨rfl,upd own w w' 1,(h.frame hm (k :=1) fun i _ hi =>h3 i hi).reg' ⟨m,rv',n+1,h4,by omega,fun i hi =>?_⟩,Ext.upd hm (by decide) fun i _ hi =>h3 i hi⟩
 have hold:∀ j,own j=1→upd own w w' 1 j=1 :=fun j hj =>by rw [Z5q (h.lt (by rw [hj]; decide))]; exact hj
 rcases hi with hi | hi | hi
 ·exact hold i (h3 i (.inl hi))
 ·exact hold i (h3 i (.inr (.inl hi)))
 ·rcases h5 i hi with h6 | h6
  ·exact hold i (h3 i (.inr (.inr h6)))
  ·exact Zaw h6 (h4.row.lt i hi).2
theorem eGet (h:Z0i own w e c E p N) (i:Nat) (hi:i<E.vs.length) :
 Calls Tryz.prog 88 #[.pointer (some ⟨p.rg,0,none⟩), .int .i64 (i:Int)] w fun r w' =>r = .returned (.tuple #[E.vs[i].val, .bool true])∧Z00 w w' :=by
 obtain ⟨m,rv,n,h1, -, -⟩ :=h.reg (by decide)
 exact Z6z h1 i hi
theorem eAll (h:Z0i own w e c E p N) :
 Calls Tryz.prog 39 #[.pointer (some ⟨p.rg,0,none⟩)] w fun r w' => ∃ v',r = .returned v'∧w'.ownsRow w.heap.size 49 7 v' E.vs.length (Z10 E.vs)∧Z00 w w' :=by
 obtain ⟨m,rv,n,h1, -, -⟩ :=h.reg (by decide)
 exact Za5 h1
theorem eLen (h:Z0i own w e c E p N):Calls Tryz.prog 81 #[.pointer (some ⟨p.rg,0,none⟩)] w fun r w' =>r = .returned (.int .i64 E.vs.length)∧w=w' :=by
 obtain ⟨m,rv,n,h1, -, -⟩ :=h.reg (by decide)
 exact Z75 h1
theorem Zi5 (h:Z0i own w e c E p N):Calls Tryz.prog 40 #[.pointer (some ⟨p.rg,0,none⟩)] w fun r w' =>r = .returned (.int .u64 (actS E.vs))∧w=w' :=by
 obtain ⟨m,rv,n,h1, -, -⟩ :=h.reg (by decide)
 exact Zb0 h1
theorem Zms (h:Z0i own w e c E p N) :
 Calls Tryz.prog 114 #[tabV p.rg] w fun r w' => ∃ v,r = .returned v∧w'.ownsRow w.heap.size 22 1 v E.vs.length (E.vs.map fun x =>.int .u64 x.bal)∧Z00 w w' :=by
 obtain ⟨m,rv,n,h1, -, -⟩ :=h.reg (by decide)
 exact Z8n h1
theorem EngBut.vsok (h:Z0i own w e c E p N):(∀ v∈E.vs,v.ok)∧totS E.vs≤maxU∧(E.vs.length:Int)≤c 0∧c 0≤4096 :=by
 obtain ⟨m,rv,n,h1, -, -⟩ :=h.reg (by decide)
 exact ⟨h1.ok,h1.tot,h1.len,h1.cap⟩
theorem Zqz (h:Z0i own w e c E p N) (h0:0≤E.b) (h1:E.b≤1000000) (hn:1≤c 13):Calls Tryz.prog 78 #[.pointer (some ⟨p.ck,0,none⟩)] w fun r w' =>r = .returned (.bool ((E.b+1) % c 13 == 0))∧Goes own w e c p { E with b :=E.b+1 } N w' :=by
 refine (Zbl p.ck E.b (c 13) w (h.ck (by decide)) h0 h1 hn).mono ?_
 rintro r w' ⟨rfl,h4,hm⟩
 have hS:∀ i,i<w.heap.size→i=p.ck→own i=2 :=fun i _ hi =>by rw [hi]; exact h.ock
 exact ⟨rfl,upd own w w' 2,(h.frame hm (k :=2) hS).ck' h4,Ext.upd hm (by decide) hS⟩
theorem Zbf (h:Z0i own w e c E p N) {s:Led} (hs:s.ok) {w':World} (h4:w'.heap[p.ld]? = some (ledB s)) (hm:Mods (· = p.ld) w w'):Goes own w e c p { E with led :=s } N w' :=by
 have hS:∀ i,i<w.heap.size→i=p.ld→own i=3 :=fun i _ hi =>by rw [hi]; exact h.old
 exact ⟨upd own w w' 3,(h.frame hm (k :=3) hS).ld' h4 hs,Ext.upd hm (by decide) hS⟩
theorem eDep (h:Z0i own w e c E p N) (x:Int) (h0:0≤x) (h1:x≤maxU) (hs:(E.led.dep x).ok):Calls Tryz.prog 83 #[.pointer (some ⟨p.ld,0,none⟩), .int .u64 x] w fun r w' =>r = .returned (.int .i64 (E.led.depC x))∧Goes own w e c p { E with led :=E.led.dep x } N w' :=by
 refine (Znc p.ld E.led x w (h.ld (by decide)).1 (h.ld (by decide)).2 h0 h1).mono ?_
 rintro r w' ⟨rfl,h4,hm⟩
 exact ⟨rfl,Zbf h hs h4 hm⟩
theorem Zqp (h:Z0i own w e c E p N) (x:Int) (h0:0≤x) (h1:x≤maxU) (hs:(E.led.pay x).ok):Calls Tryz.prog 122 #[.pointer (some ⟨p.ld,0,none⟩), .int .u64 x] w fun r w' =>r = .returned (.int .i64 (E.led.outC x))∧Goes own w e c p { E with led :=E.led.pay x } N w' :=by
 refine (Znk p.ld E.led x w (h.ld (by decide)).1 (h.ld (by decide)).2 h0 h1).mono ?_
 rintro r w' ⟨rfl,h4,hm⟩
 exact ⟨rfl,Zbf h hs h4 hm⟩
theorem Znz (h:Z0i own w e c E p N) (x:Int) (h0:0≤x) (h1:x≤maxU) (hs:(E.led.burn x).ok):Calls Tryz.prog 92 #[.pointer (some ⟨p.ld,0,none⟩), .int .u64 x] w fun r w' =>r = .returned (.int .i64 (E.led.outC x))∧Goes own w e c p { E with led :=E.led.burn x } N w' :=by
 refine (Zkw p.ld E.led x w (h.ld (by decide)).1 (h.ld (by decide)).2 h0 h1).mono ?_
 rintro r w' ⟨rfl,h4,hm⟩
 exact ⟨rfl,Zbf h hs h4 hm⟩
theorem ePut (h:Z0i own w e c E p N) (ep it:Int) (h0:0≤ep) (h1:ep≤1099511627776) (hlen:∀ j,(E.bk j).length≤1000000) :
 Calls Tryz.prog 94 #[.pointer (some ⟨p.bo,0,none⟩), .int .i64 ep, .int .i64 it] w fun r w' =>r = .returned (.bool true)∧Goes own w e c p { E with bk :=putB (c 12).toNat E.bk ep it } N w' :=by
 refine (Zgl (h.bo (by decide)) ep it h0 h1 hlen).mono ?_
 rintro r w' ⟨rfl,h4,hm⟩
 have hS:∀ i,i<w.heap.size→Own own w 4 i→own i=4 :=fun i _ hi =>hi.1
 exact ⟨rfl,upd own w w' 4,(h.frame hm (k :=4) hS).bo' (by rw [Z5j hm.size]; exact h4),Ext.upd hm (by decide) hS⟩
theorem eDue (h:Z0i own w e c E p N) (ep:Int) (h0:0≤ep) (h1:ep≤1099511627776) (hlen:∀ j,(E.bk j).length≤90000) :
 Calls Tryz.prog 171 #[.pointer (some ⟨p.bo,0,none⟩), .int .i64 ep] w fun r w' => ∃ v,r = .returned v∧w'.ownsRow w.heap.size 3 1 v (outE ep (E.bk (ep % ((c 12).toNat:Int)).toNat)).length ((outE ep (E.bk (ep % ((c 12).toNat:Int)).toNat)).map fun x =>.int .i64 x)∧∃ own',Z0i own' w' e c { E with bk :=dueB (c 12).toNat E.bk ep } p N∧Ext own w own' w'∧∀ k,v.ownBlock=some k→own' k=0 :=by
 refine (Zg3 (h.bo (by decide)) ep h0 h1 hlen).mono ?_
 rintro r w' ⟨v,rfl,h2,h4,hm⟩
 have hS:∀ i,i<w.heap.size→Own own w 4 i→own i=4 :=fun i _ hi =>hi.1
 have hs :=hm.size
 exact ⟨v,rfl,h2,own,(h.frame0 hm (k :=4) hS).bo' (by rw [Z5i (by decide) h.new hs]; exact h4),Ext.same hm (by decide) hS,fun k hk =>h.new k (h2.lt k hk).1⟩
theorem Zmd (h:Z0i own w e c E p N) (k x:Int) (hk:k=0∨k=1) (hl:(if k=0 then E.fo else E.vo).length<(c 1).toNat) :
 Calls Tryz.prog 93 #[.pointer (some ⟨p.la,0,none⟩), .int .i64 k, .int .i64 x] w fun r w' =>r = .returned (.int .i64 0)∧Goes own w e c p { E with fo :=(Z74 k E.fo E.vo x).1,vo :=(Z74 k E.fo E.vo x).2 } N w' :=by
 refine (Zdv (h.la (by decide)) k x hk hl).mono ?_
 rintro r w' ⟨rfl,h4,hm⟩
 have hS:∀ i,i<w.heap.size→Own own w 8 i→own i=8 :=fun i _ hi =>hi.1
 exact ⟨rfl,upd own w w' 8,(h.frame hm (k :=8) hS).la' (by rw [Z5j hm.size]; exact h4),Ext.upd hm (by decide) hS⟩
theorem Zr7 (h:Z0i own w e c E p N) (hne:E.fo≠[]∨E.vo≠[]) :
 Calls Tryz.prog 206 #[.pointer (some ⟨p.la,0,none⟩)] w fun r w' =>(∃ v,r = .returned v)∧Goes own w e c p { E with fo :=(popL E.fo E.vo).1,vo :=(popL E.fo E.vo).2 } N w' :=by
 refine (Zg4 (h.la (by decide)) hne).mono ?_
 rintro r w' ⟨hr,h4,hm⟩
 have hS:∀ i,i<w.heap.size→Own own w 8 i→own i=8 :=fun i _ hi =>hi.1
 exact ⟨hr,upd own w w' 8,(h.frame hm (k :=8) hS).la' (by rw [Z5j hm.size]; exact h4),Ext.upd hm (by decide) hS⟩
theorem Zor (h:Z0i own w e c E p N) (hl:E.pe.length<(c 1).toNat) (x:Int) (vb:Nat) (hv:w.cell? ⟨vb,0,none⟩=some (.int .i64 x)) (h0:own vb=0) :
 Calls Tryz.prog 85 #[.pointer (some ⟨p.pe,0,none⟩), .slice (some ⟨vb,0,none⟩) 1 1] w fun r w' =>r = .returned (.int .i64 1)∧Goes own w e c p { E with pe :=E.pe ++ [x] } N w' :=by
 refine (Z4g (h.pe (by decide)) hl x vb hv fun h1 =>by have :=h1.1; omega).mono ?_
 rintro r w' ⟨rfl,h4,hm⟩
 have hS:∀ i,i<w.heap.size→Own own w 9 i→own i=9 :=fun i _ hi =>hi.1
 exact ⟨rfl,upd own w w' 9,(h.frame hm (k :=9) hS).pe' (by rw [Z5j hm.size]; exact h4),Ext.upd hm (by decide) hS⟩
theorem Zqk (h:Z0i own w e c E p N) {x:Int} {l:List Int} (hl:E.pe=x :: l) :
 Calls Tryz.prog 175 #[.pointer (some ⟨p.pe,0,none⟩)] w fun r w' =>(∃ v,r = .returned v)∧Z0i own w' e c { E with pe :=l } p N∧Ext own w own w' :=by
 have h1 :=h.pe (by decide)
 rw [hl] at h1
 refine (Z57 h1).mono ?_
 rintro r w' ⟨rfl,h4,hm⟩
 have hS:∀ i,i<w.heap.size→Own own w 9 i→own i=9 :=fun i _ hi =>hi.1
 exact ⟨⟨_,rfl⟩,(h.frame0 hm (k :=9) hS).pe' (by rw [Z5i (by decide) h.new hm.size]; exact h4),Ext.same hm (by decide) hS⟩
theorem Zri (h:Z0i own w e c E p N) {x:Int × Int} {l:List (Int × Int)} (hl:E.mg=x :: l) :
 Calls Tryz.prog 177 #[.pointer (some ⟨p.mg,0,none⟩)] w fun r w' =>(∃ v,r = .returned v)∧Z0i own w' e c { E with mg :=l } p N∧Ext own w own w' :=by
 have h1 :=h.mg (by decide)
 rw [hl] at h1
 refine (Zd7 h1).mono ?_
 rintro r w' ⟨rfl,h4,hm⟩
 have hS:∀ i,i<w.heap.size→Own own w 10 i→own i=10 :=fun i _ hi =>hi.1
 exact ⟨⟨_,rfl⟩,(h.frame0 hm (k :=10) hS).mg' (by rw [Z5i (by decide) h.new hm.size]; exact h4),Ext.same hm (by decide) hS⟩
theorem Zr5 (h:Z0i own w e c E p N) {x:Int × Int} {l:List (Int × Int)} (hl:E.pr=x :: l) :
 Calls Tryz.prog 181 #[.pointer (some ⟨p.pr,0,none⟩)] w fun r w' =>(∃ v,r = .returned v)∧Z0i own w' e c { E with pr :=l } p N∧Ext own w own w' :=by
 have h1 :=h.pr (by decide)
 rw [hl] at h1
 refine (Zc5 h1).mono ?_
 rintro r w' ⟨rfl,h4,hm⟩
 have hS:∀ i,i<w.heap.size→Own own w 11 i→own i=11 :=fun i _ hi =>hi.1
 exact ⟨⟨_,rfl⟩,(h.frame0 hm (k :=11) hS).pr' (by rw [Z5i (by decide) h.new hm.size]; exact h4),Ext.same hm (by decide) hS⟩
theorem Zof (h:Z0i own w e c E p N) (hl:E.mg.length<(c 1).toNat) (x:Int × Int) (vb:Nat) (hv:w.cell? ⟨vb,0,none⟩=some (.int .i64 x.1)) (hv2:w.cell? ⟨vb,1,none⟩=some (.int .i64 x.2)) :
 Calls Tryz.prog 96 #[.pointer (some ⟨p.mg,0,none⟩), .slice (some ⟨vb,0,none⟩) 1 1] w fun r w' =>r = .returned (.int .i64 1)∧Goes own w e c p { E with mg :=E.mg ++ [x] } N w' :=by
 refine (Zb9 (h.mg (by decide)) hl x vb hv hv2).mono ?_
 rintro r w' ⟨rfl,h4,hm⟩
 have hS:∀ i,i<w.heap.size→Own own w 10 i→own i=10 :=fun i _ hi =>hi.1
 exact ⟨rfl,upd own w w' 10,(h.frame hm (k :=10) hS).mg' (by rw [Z5j hm.size]; exact h4),Ext.upd hm (by decide) hS⟩
theorem Zpk (h:Z0i own w e c E p N) (hl:E.pr.length<(c 1).toNat) (x:Int × Int) (vb:Nat) (hv:w.cell? ⟨vb,0,none⟩=some (.int .i64 x.1)) (hv2:w.cell? ⟨vb,1,none⟩=some (.int .u64 x.2)) :
 Calls Tryz.prog 98 #[.pointer (some ⟨p.pr,0,none⟩), .slice (some ⟨vb,0,none⟩) 1 1] w fun r w' =>r = .returned (.int .i64 1)∧Goes own w e c p { E with pr :=E.pr ++ [x] } N w' :=by
 refine (Zbd (h.pr (by decide)) hl x vb hv hv2).mono ?_
 rintro r w' ⟨rfl,h4,hm⟩
 have hS:∀ i,i<w.heap.size→Own own w 11 i→own i=11 :=fun i _ hi =>hi.1
 exact ⟨rfl,upd own w w' 11,(h.frame hm (k :=11) hS).pr' (by rw [Z5j hm.size]; exact h4),Ext.upd hm (by decide) hS⟩
theorem Zbx (h:Z0i own w e c E p N) {x:Int} {w':World} (h4:Z3s w' p.me x) (hm:Mods (fun i =>i=p.me) w w'):Goes own w e c p { E with car :=x } N w' :=by
 have hS:∀ i,i<w.heap.size→i=p.me→own i=7 :=fun i _ hi =>by rw [hi]; exact h.ome
 exact ⟨upd own w w' 7,(h.frame hm (k :=7) hS).me' h4,Ext.upd hm (by decide) hS⟩
end
def Zht (ep ah wt:Int) (c:Nat→Int):Option Int :=Zj7 ep ah wt (c 9) (c 7) [c 10,Z8w c]
theorem Z50 {w:World} {b:Nat} {cs:Array Value} {t:TypeId} {fr:Nat × Nat} (h:w.heap[b]? = some (.cells cs t fr)):w.rangeAt b 0 cs.toList :=by
 intro j v hj
 have h1 :=cell_of_row w b (0+j) cs t fr h
 rw [h1,Nat.zero_add]
 simpa using hj
theorem Z85 {w0 w1:World} {b:Nat} {cs:Array Value} {t:TypeId} {v:Value} (hb:w0.heap[b]? = some (.cells cs t (0,0))) (h10:cs[10]? = some v) (hk:Z00 w0 w1):w1.rangeAt b 0 cs.toList∧w1.cell? ⟨b,10,none⟩=some v :=by
 have h :=hk.at hb fun h =>h
 exact ⟨Z50 h,by rw [cell_of_row _ _ _ _ _ _ h]; exact h10⟩
theorem Zdy (ep ah wt:Int) (c:Nat→Int) (hv:Vld c) (h9:0≤c 9) (ha0:0≤ah) (ha1:ah≤maxU) (hw0:0≤wt) (hw1:wt≤maxU) (w:World) :
 Calls Tryz.prog 129 #[.int .i64 ep, .int .u64 ah, .int .u64 wt,cfgV c] w fun r w' =>r = .returned (.tuple #[.int .i64 ((Zht ep ah wt c).getD 0), .bool (Zht ep ah wt c).isSome])∧Z00 w w' :=by
 have HB :=Hd (fun w =>Zdd ep ah wt c w)
 have HS :=Hd (fun w =>Zhm c w hv)
 have HB1 :=Hd (Zdu ep ah wt c hv h9 ha0 ha1 hw0 hw1)
 unfold Zht
 clear hv h9 ha0 ha1 hw0 hw1
 generalize Z8w c=sw at *
 obtain ⟨F,hF⟩:∃ F,F=Zj7 ep ah wt (c 9) (c 7) [c 10,sw] :=⟨_,rfl⟩
 rw [← hF]
 have HF :=Hd hF
 clear hF
 rw [show cfgV c = .agg (cfgC c) from rfl] at HB HS ⊢
 generalize hcs:cfgC c=cs at *
 have HCS :=Hd hcs
 have hsz:cs.size=20 :=by rw [← hcs]; rfl
 have hs20:(Tryz.prog.info? 24).map (·.size)=some cs.toList.length :=by rw [Z0m]; simp [hsz]
 have h10:cs[10]? = some (.int .i64 (c 10)) :=by rw [← hcs]; rfl
 clear hcs
 go_enter Tryz.func129,Tryz.ntmps129
 go_wp2
 refine Z0l ?_
 intro wz hwz
 have hb0:wz.heap[w.heap.size]? = some (.cells cs 24 (0,0)) :=by rw [hwz]; exact heap_alloc_last w _
 have kz:Z00 w wz :=by rw [hwz]; (repeat' first | (with_reducible refine Mods.setCell ?_ _ _ (fun _ =>rfl)) | (with_reducible refine Mods.alloc ?_ _) | (with_reducible refine Mods.drewN ?_ _) | (with_reducible refine Mods.drew ?_) | (with_reducible exact Mods.refl _ _))
 have KZ :=Hd kz
 have B0 :=Hd hb0
 have hrg :=Z50 hb0
 have hc10:wz.cell? ⟨w.heap.size,10,none⟩=some (.int .i64 (c 10)) :=by rw [cell_of_row _ _ _ _ _ _ hb0]; exact h10
 clear hwz kz hb0
 refine wp_region_held_drew (S :=(fun w' =>w'.rangeAt w.heap.size 0 cs.toList∧w'.cell? ⟨w.heap.size,10,none⟩=some (.int .i64 (c 10)))) (by kernel_rfl) (by exact ⟨hrg,hc10⟩) (fun hH0 =>?_)
 refine tk 0 rfl hH0 ?_
 try go_frame
 refine tk 1 rfl hH0 ?_
 try go_frame
 refine tk 2 rfl hH0 ?_
 try go_frame
 refine tkb 3 rfl hH0 (yieldsIf_load_mid (by rfl) 24 (.tmp 7) rfl w.heap.size 0 rfl cs.toList _ (fun _ h =>h.1) Tryz.underlying24 rfl hs20) ?_
 try go_frame
 refine tk 5 rfl hH0 ?_
 try go_frame
 refine tk 6 (v := .int .i64 (c 10)) rfl hH0 ?_
 try go_frame
 refine tkb 7 rfl hH0 (yieldsIf_load_mid (by rfl) 24 (.tmp 7) rfl w.heap.size 0 rfl cs.toList _ (fun _ h =>h.1) Tryz.underlying24 rfl hs20) ?_
 try go_frame
 refine rdy [4] (Z04 rfl (fun K hK =>?_) AllReadyH.nil)
 go_simp
 refine (HB.out _).mono ?_
 rintro r w1 ⟨rfl,h4,h1,h2,h3,hk⟩
 go_wp2_with fail
 refine hK.out _ _ (Z85 B0.out h10 ((Mods.refl _ wz).drew.keep hk)) (fun hH1 =>?_)
 clear hK K hH0
 try go_frame
 refine rdy [8] (Z04 rfl (fun K hK =>?_) AllReadyH.nil)
 have HK1 :=Hd (show Z00 wz w1 from (Mods.refl _ wz).drew.keep hk)
 have HA :=Hd h1
 have HW :=Hd h2
 have HC :=Hd h3
 have HE :=Hd h4
 clear hk h1 h2 h3 h4
 go_simp
 refine (HS.out _).mono ?_
 rintro r w2 ⟨rfl,hk⟩
 go_wp2_with fail
 refine hK.out _ _ (Z85 B0.out h10 (HK1.out.keep (Mods.of_below hk))) (fun hH2 =>?_)
 clear hK K hH1
 try go_frame
 refine rdy [9] (Z04 rfl (fun K hK =>?_) AllReadyH.nil)
 have HK2 :=Hd (show Z00 w1 w2 from Mods.of_below hk)
 clear hk
 go_simp
 refine hK.out _ _ (Z85 B0.out h10 (HK1.out.keep (HK2.out.alloc _))) (fun hH3 =>?_)
 clear hK K hH2
 try go_frame
 refine rdy [10] (Z04 rfl (fun K hK =>?_) AllReadyH.nil)
 have HK3 :=Hd (HK2.out.alloc (.cells #[.int .i64 (c 10), .int .i64 sw] 3))
 have HO :=Hd (show (w2.alloc (.cells #[.int .i64 (c 10), .int .i64 sw] 3)).ownsRow w2.heap.size 3 1 (.slice (some ⟨w2.heap.size,0,none⟩) 2 2) 2 [.int .i64 (c 10), .int .i64 sw] from World.ownsRow_lit w2 #[.int .i64 (c 10), .int .i64 sw] 2 (Nat.le_refl _) (by decide) rfl)
 go_simp
 refine (HB1.out _ _ _ _ [c 10,sw] _ w2.heap.size _ ?_ ?_ ?_ ?_ ?_ ?_).mono ?_
 ·exact HK3.out.at HA.out fun h =>h
 ·exact HK3.out.at HW.out fun h =>h
 ·exact HK3.out.at HC.out fun h =>h
 ·exact HK3.out.at HE.out fun h =>h
 ·exact HO.out
 ·simp
 rintro r w3 ⟨rfl,hk⟩
 rw [← HF.out]
 go_wp2_with fail
 refine hK.out _ _ (Z85 B0.out h10 (HK1.out.keep (HK3.out.keep hk))) (fun hH4 =>?_)
 clear hK K hH3
 try go_frame
 refine tk 11 rfl hH4 ?_
 try go_frame
 refine tk 12 rfl hH4 ?_
 try go_frame
 refine tk 13 rfl hH4 ?_
 try go_frame
 refine tk 14 rfl hH4 ?_
 try go_frame
 refine wpAnyH_done (by kernel_rfl) ?_ _
 clear hH4
 go_wp2
 go_ret2
 exact ⟨rfl,KZ.out.keep (HK1.out.keep (HK3.out.keep hk))⟩
end Go.Proofs.YtecapfmmoejikaaGreat
namespace Go.Eg
def inR (l:List Vd) (i:Int):Prop :=0≤i∧i<l.length
instance (l:List Vd) (i:Int):Decidable (inR l i) :=inferInstanceAs (Decidable (_∧_))
def vAt (l:List Vd) (i:Int):Vd :=l.getD i.toNat ⟨0,0,false,0,0,0,0⟩
theorem Z44 {l:List Vd} {i:Int} (h:inR l i):l[i.toNat]? = some (vAt l i) :=by
 have h1 :=h.1
 have h2 :=h.2
 have:i.toNat<l.length :=by omega
 simp [vAt,List.getD,List.getElem?_eq_getElem this]
def mrgR (mb:Int) (l:List Vd) (i j:Int):Int :=if ¬ inR l i∨¬ inR l j then 7 else if i=j then 12 else mrgC mb (vAt l i) (vAt l j)
end Go.Eg
namespace Go.Proofs.YtecapfmmoejikaaGreat
open Go.RowKit Go.Eg
theorem Z2y {w:World} {v:Value} {l:List Vd} (h:VL w v l) {i:Int} (hi:inR l i):∃ b off cap,v = .slice (some ⟨b,off,none⟩) l.length cap∧w.rangeAt b (off+i.toNat * 7) (vAt l i).cells.toList :=by
 obtain ⟨h1,h2⟩ :=hi
 have hlt:i.toNat<l.length :=by omega
 obtain ⟨a,cap,rfl,h0,hc⟩ :=h
 obtain ⟨b,off,rfl,hx⟩ :=hc (by omega)
 refine ⟨b,off,cap,rfl,fun j u hj =>?_⟩
 have hj7:j<7 :=by have :=(List.getElem?_eq_some_iff.1 hj).1; simpa using this
 have :=hx i.toNat hlt j hj7
 have e:l[i.toNat]=vAt l i :=by
  have :=Z44 (l :=l) (i :=i) ⟨h1,h2⟩
  rw [List.getElem?_eq_getElem hlt] at this
  exact Option.some.inj this
 rw [e] at this
 rw [this]
 exact hj
theorem Z49 {S:Nat→Prop} {w w':World} {b o:Nat} {cs:List Value} (h:w.rangeAt b o cs) (hm:Mods S w w') (hb : ¬ S b):w'.rangeAt b o cs :=fun j v hj =>hm.cell (h j v hj) hb
theorem Z0n {w w':World} {b o:Nat} {cs:List Value} (h:w.rangeAt b o cs) (hm:Z00 w w'):w'.rangeAt b o cs :=Z49 h hm fun h =>h
theorem Zqm (a b:Int) (w:World):(Instr.index 92 (.agg #[.int .i64 a, .int .i64 b]) (.int .i64 0)).run Tryz.prog w = .ok (.int .i64 a) w :=by kernel_rfl
theorem Zrd (a b:Int) (w:World):(Instr.index 92 (.agg #[.int .i64 a, .int .i64 b]) (.int .i64 1)).run Tryz.prog w = .ok (.int .i64 b) w :=by kernel_rfl
theorem Z5m (v:Value) (l:List Vd) (hok:∀ x∈l,x.ok) (i j:Int) (c:Nat→Int) (w:World) (hl:VL w v l):Calls Tryz.prog 95 #[v, .int .i64 i, .int .i64 j,cfgV c] w fun r w' =>r = .returned (.int .i64 (mrgR (c 6) l i j))∧Z00 w w' :=by
 have hlen:∃ a cap,v = .slice a l.length cap :=by
  obtain ⟨a,cap,rfl, -⟩ :=hl
  exact ⟨a,cap,rfl⟩
 obtain ⟨a,cap,rfl⟩ :=hlen
 have HL :=Hd hl
 obtain ⟨X,hX⟩:∃ X,X=mrgR (c 6) l i j :=⟨_,rfl⟩
 rw [← hX]
 have HX :=Hd hX
 have HOK:∀ x,inR l x→(vAt l x).ok :=fun x hx =>hok _ (List.mem_of_getElem? (Z44 hx))
 have HCK :=Hd (fun (h1:inR l i) (h2:inR l j) w =>Z7u (vAt l i) (vAt l j) (HOK _ h1) (HOK _ h2) c w)
 rw [show cfgV c = .agg (cfgC c) from rfl] at HCK
 rw [show cfgV c = .agg (cfgC c) from rfl]
 have hsz:(cfgC c).size=20 :=rfl
 generalize cfgC c=cs at *
 have hs20:(Tryz.prog.info? 24).map (·.size)=some cs.toList.length :=by rw [Z0m]; simp [hsz]
 clear hX hl hok HOK
 go_enter Tryz.func95,Tryz.ntmps95
 go_upto_region 1 with fail
 refine Z0l ?_
 intro wz hwz
 have bc:wz.heap[w.heap.size]? = some (.cells cs 24 (0,0)) :=Z0g hwz
 have kz :=Z0f hwz
 have KZ :=Hd kz
 have BC :=Hd bc
 clear hwz kz bc
 go_wp2_with fail
 have ix0 :=Zqm i j
 have ix1 :=Zrd i j
 go_loop [14] (fun u =>u = .int .i64 0∨(u = .int .i64 1∧inR l i)∨(u = .int .i64 2∧inR l i∧inR l j)) (fun u =>2 - (intOf u).toNat)
 case atStart =>exact .inl rfl
 case round =>
  rcases hrel with rfl | ⟨rfl,hi⟩ | ⟨rfl,hi,hj⟩
  ·by_cases hlo:i<0
   ·have hin : ¬ inR l i :=fun h =>by have :=h.1; omega
    go_wp2_with fail
    go_ret
    exact ⟨by rw [HX.out,mrgR,if_pos (.inl hin)]; rfl,KZ.out⟩
   ·by_cases hup:(l.length:Int)≤i
    ·have hin : ¬ inR l i :=fun h =>by have :=h.2; omega
     go_wp2_with fail
     go_ret
     exact ⟨by rw [HX.out,mrgR,if_pos (.inl hin)]; rfl,KZ.out⟩
    ·have hin:inR l i :=⟨by omega,by omega⟩
     go_wp2_with fail
     exact ⟨.inr (.inl ⟨rfl,hin⟩),by simp [intOf]⟩
  ·by_cases hlo:j<0
   ·have hin : ¬ inR l j :=fun h =>by have :=h.1; omega
    go_wp2_with fail
    go_ret
    exact ⟨by rw [HX.out,mrgR,if_pos (.inr hin)]; rfl,KZ.out⟩
   ·by_cases hup:(l.length:Int)≤j
    ·have hin : ¬ inR l j :=fun h =>by have :=h.2; omega
     go_wp2_with fail
     go_ret
     exact ⟨by rw [HX.out,mrgR,if_pos (.inr hin)]; rfl,KZ.out⟩
    ·have hin:inR l j :=⟨by omega,by omega⟩
     go_wp2_with fail
     exact ⟨.inr (.inr ⟨rfl,hi,hin⟩),by simp [intOf]⟩
  ·have hR:mrgR (c 6) l i j=if i=j then 12 else mrgC (c 6) (vAt l i) (vAt l j) :=if_neg (by simp [hi,hj])
   clear ix0 ix1
   by_cases hij:i=j
   ·rw [if_pos hij] at hR
    have hne:(i == j)=true :=by simp [hij]
    have HE :=Hd (HX.out.trans hR)
    clear hij hR
    go_wp2_with fail
    go_ret
    exact ⟨by rw [HE.out]; rfl,KZ.out⟩
   ·rw [if_neg hij] at hR
    have hne:(i == j)=false :=by simp [hij]
    have HE :=Hd (HX.out.trans hR)
    clear hij hR
    obtain ⟨b,off,cap',e1,r1⟩ :=Z2y HL.out hi
    obtain ⟨b',off',cap'',e2,r2⟩ :=Z2y HL.out hj
    injection e1 with e1 _ e1'
    subst e1 e1'
    injection e2 with e2 _ e2'
    injection e2 with e2
    injection e2 with e2 e3
    subst e2 e3 e2'
    have hi0 :=hi.1
    have hi1 :=hi.2
    have hj0 :=hj.1
    have hj1 :=hj.2
    go_wp2_with fail
    have HI :=Hd hi
    have HJ :=Hd hj
    obtain ⟨p,rfl⟩ :=Int.eq_ofNat_of_zero_le hi0
    obtain ⟨q,rfl⟩ :=Int.eq_ofNat_of_zero_le hj0
    rw [Int.toNat_natCast] at r1 r2
    have hcr:wz.rangeAt w.heap.size 0 cs.toList :=Z50 BC.out
    replace r1 :=Z0n r1 KZ.out
    replace r2 :=Z0n r2 KZ.out
    have R1 :=Hd r1
    have R2 :=Hd r2
    have RC :=Hd hcr
    clear r1 r2 hcr
    refine wp_region_held_drew (S :=(fun w' =>w'.rangeAt b (off+p * 7) (vAt l p).cells.toList∧w'.rangeAt b (off+q * 7) (vAt l q).cells.toList∧w'.rangeAt w.heap.size 0 cs.toList)) (by kernel_rfl) (by exact ⟨R1.out,R2.out,RC.out⟩) (fun hH0 =>?_)
    refine tk 0 rfl hH0 ?_
    try go_frame
    refine tk 1 rfl hH0 ?_
    try go_frame
    refine tk 2 rfl hH0 ?_
    try go_frame
    refine tkb 3 rfl hH0 (yieldsIf_load_mid (by rfl) 49 (.tmp 31) rfl b (off+p * 7) rfl (vAt l p).cells.toList _ (fun _ h =>h.1) Tryz.underlying49 rfl Z4n) ?_
    try go_frame
    refine tk 4 rfl hH0 ?_
    try go_frame
    refine tk 5 rfl hH0 ?_
    try go_frame
    refine tk 6 rfl hH0 ?_
    try go_frame
    refine tkb 7 rfl hH0 (yieldsIf_load_mid (by rfl) 49 (.tmp 35) rfl b (off+q * 7) rfl (vAt l q).cells.toList _ (fun _ h =>h.2.1) Tryz.underlying49 rfl Z4n) ?_
    try go_frame
    refine tkb 8 rfl hH0 (yieldsIf_load_mid (by rfl) 24 (.tmp 7) rfl w.heap.size 0 rfl cs.toList _ (fun _ h =>h.2.2) Tryz.underlying24 rfl hs20) ?_
    try go_frame
    refine rdy [9] (Z04 rfl (fun K hK =>?_) AllReadyH.nil)
    go_simp
    refine (HCK.out HI.out HJ.out _).mono ?_
    rintro r w2 ⟨rfl,hk2⟩
    rw [← HE.out]
    go_wp2_with fail
    have hk :=((Mods.refl (fun _ =>False) wz).drew).keep hk2
    refine hK.out _ _ (⟨Z0n R1.out hk,Z0n R2.out hk,Z0n RC.out hk⟩) (fun hH1 =>?_)
    clear hK K hH0
    try go_frame
    refine tk 10 rfl hH1 ?_
    try go_frame
    refine wpAnyH_done (by kernel_rfl) ?_ _
    clear hH1
    go_wp2
    go_ret
    exact ⟨rfl,KZ.out.keep (((Mods.refl (fun _ =>False) wz).drew).keep hk2)⟩
end Go.Proofs.YtecapfmmoejikaaGreat
namespace Go.Eg
def mixL (f:Nat→Bool) (vs l:List Vd):List Vd :=(List.range vs.length).map fun i =>if f i then vAt l i else vAt vs i
theorem Z4i (f:Nat→Bool) (vs l:List Vd):(mixL f vs l).length=vs.length :=by simp [mixL]
theorem Z70 (f:Nat→Bool) (vs l:List Vd) (i:Nat) (hi:i<vs.length):(mixL f vs l)[i]'(by rw [Z4i]; exact hi)=if f i then vAt l i else vAt vs i :=by simp [mixL]
theorem Z2g {l:List Vd} {i:Nat} (hi:i<l.length):vAt l (i:Int)=l[i] :=by
 unfold vAt
 rw [Int.toNat_natCast]
 simp [List.getD,List.getElem?_eq_getElem hi]
theorem Z2v {f g:Nat→Bool} {vs l:List Vd} (h:∀ i,i<vs.length→f i=g i):mixL f vs l=mixL g vs l :=by
 unfold mixL
 refine List.map_congr_left fun i hi =>?_
 rw [h i (by simpa using hi)]
theorem Zib (vs l:List Vd):mixL (fun _ =>false) vs l=vs :=by
 refine List.ext_getElem (by rw [Z4i]) fun i h1 h2 =>?_
 rw [Z70 _ _ _ _ h2]
 simp only [Bool.false_eq_true,if_false]
 exact Z2g h2
theorem Zl5 {vs l:List Vd} (hl:l.length=vs.length):mixL (fun _ =>true) vs l=l :=by
 refine List.ext_getElem (by rw [Z4i,hl]) fun i h1 h2 =>?_
 rw [Z70 _ _ _ _ (by omega)]
 simp only [if_true]
 exact Z2g h2
theorem Zfj {f:Nat→Bool} {vs l:List Vd} (k:Nat):(mixL f vs l).set k (vAt l k)=mixL (fun i =>f i || decide (i=k)) vs l :=by
 refine List.ext_getElem (by simp [Z4i]) fun i h1 h2 =>?_
 have hi:i<vs.length :=by rw [Z4i] at h2; exact h2
 rw [List.getElem_set,Z70 _ _ _ _ hi,Z70 _ _ _ _ hi]
 by_cases e:k=i
 ·subst e
  simp
 ·simp [e,Ne.symm e]
theorem Zkh:∀ {vs l:List Vd},l.length=vs.length→(∀ x∈vs,x.ok)→(∀ x∈l,x.ok)→∀ f:Nat→Bool,totS (mixL f vs l)≤totS vs+totS l :=by
 intro vs
 induction vs with
 | nil =>intro l hl _ _ f; cases l with
  | nil =>exact Int.le_refl _
  | cons _ _ =>simp at hl
 | cons v r ih =>
  intro l hl hv hw f
  cases l with
  | nil =>simp at hl
  | cons x s =>
   have hr :=ih (l :=s) (by simpa using hl) (fun y hy =>hv y (List.mem_cons_of_mem _ hy)) (fun y hy =>hw y (List.mem_cons_of_mem _ hy)) fun i =>f (i+1)
   have e:mixL f (v :: r) (x :: s)=(if f 0 then x else v) :: mixL (fun i =>f (i+1)) r s :=by
    unfold mixL
    rw [List.length_cons,List.range_succ_eq_map,List.map_cons,List.map_map]
    congr 1
   rw [e]
   simp only [totS]
   have :=(hv v List.mem_cons_self).b0
   have :=(hw x List.mem_cons_self).b0
   split <;> omega
open Go Go.RowKit
theorem Z22 {P:Program} {ops:Array Oper} {o:Oper} {a:Act} {w:World} {K:Act→World→Prop} {Q:Exit→Act→World→Prop} {E:Prop} (hw:Region.wanted o (yielded ops a.tmps)=true) (ty:TypeId) (x:Operand) (ho:o.op = .load ty x)
 (b p:Nat) (hx:a.eval x = .pointer (some ⟨b,p,none⟩)) (cs:List Value) (d:TypeDesc) (hS:w.rangeAt b p cs) (hu:P.underlying ty=some d) (hd:d.isRow=true) (hi:(P.info? ty).map (·.size)=some cs.length)
 (h:K (a.put o.dst (.agg cs.toArray)) w):if Region.wanted o (yielded ops a.tmps)=true then Oper.wp P o a w K Q else E :=by
 rw [if_pos hw]
 unfold Oper.wp execOp
 simp only [ho,hx,Instr.loadAt,Instr.sureAddr,Sem.run_bind,Sem.run_pure,Result.andThen_ok,run_loadVar_mid w b p ty cs d hS hu hd hi]
 exact h
end Go.Eg
namespace Go.Proofs.YtecapfmmoejikaaGreat
open Go.RowKit Go.Eg
theorem Zfc {w:World} {B b c:Nat} {l:List Vd} (hrow:w.ownsRow B 49 7 (.slice (some ⟨b,0,none⟩) l.length c) l.length (Z10 l)) (i:Nat) (hi:i<l.length):w.there b (i * 7) 7 :=by
 obtain ⟨b',e,_,h⟩ :=Z7x hrow i hi
 injection e with e
 injection e with e
 subst e
 intro j hj
 obtain ⟨h1,h2⟩ :=h j hj
 refine ⟨?_,h2⟩
 rw [h1,List.getElem?_eq_getElem (by simpa using hj)]
 rfl
theorem Z3d {ops:Array Oper} {o:Oper} {a:Act} {w:World} {K:Act→World→Prop} {Q:Exit→Act→World→Prop} {E:Prop} (hw:Region.wanted o (yielded ops a.tmps)=true) (x y:Operand) (ho:o.op = .store 49 x y)
 (b i:Nat) {B c:Nat} (l:List Vd) (v:Vd) (hx:a.eval x = .pointer (some ⟨b,i * 7,none⟩)) (hy:a.eval y=v.val) (hi:i<l.length) (hrow:w.ownsRow B 49 7 (.slice (some ⟨b,0,none⟩) l.length c) l.length (Z10 l))
 (h:∀ w',w'.ownsRow B 49 7 (.slice (some ⟨b,0,none⟩) (l.set i v).length c) (l.set i v).length (Z10 (l.set i v))→Mods (fun k =>k=b) w w'→K (a.put o.dst undef) w') :
 if Region.wanted o (yielded ops a.tmps)=true then Oper.wp Tryz.prog o a w K Q else E :=by
 rw [if_pos hw]
 exact wp_store_mid 49 x y ho b (i * 7) v.cells hx hy (Zfc hrow i hi) Z4n (by rw [← Array.all_toList]; rfl) (h _ (Zbk hrow i hi v) (Z6i w b i v))
theorem Z4v {ops:Array Oper} {rest:List Oper} {o:Oper} {a:Act} {w:World} {Q:Exit→Act→World→Prop} (hgd:o.guard=none) (x y:Operand) (ho:o.op = .store 49 x y)
 (b i:Nat) {B c:Nat} (l:List Vd) (v:Vd) (hx:a.eval x = .pointer (some ⟨b,i * 7,none⟩)) (hy:a.eval y=v.val) (hi:i<l.length) (hrow:w.ownsRow B 49 7 (.slice (some ⟨b,0,none⟩) l.length c) l.length (Z10 l))
 (h:∀ w',w'.ownsRow B 49 7 (.slice (some ⟨b,0,none⟩) (l.set i v).length c) (l.set i v).length (Z10 (l.set i v))→Mods (fun k =>k=b) w w'→wpList Tryz.prog ops Q rest (a.put o.dst undef) w') :
 wpList Tryz.prog ops Q (o :: rest) a w :=
 wpList_store_mid hgd 49 x y ho b (i * 7) v.cells hx hy (Zfc hrow i hi) Z4n (by rw [← Array.all_toList]; rfl) (h _ (Zbk hrow i hi v) (Z6i w b i v))
end Go.Proofs.YtecapfmmoejikaaGreat
