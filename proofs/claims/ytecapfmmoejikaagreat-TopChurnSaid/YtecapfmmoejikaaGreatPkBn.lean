/- A part of the proofs of the top laws: OpC OpD OpE OpF OpG OpH OpI. -/
import Derived.Deep.AppendLies
import Derived.Laws.Bits64b
import Derived.Test.YtecapfmmoejikaaGreatPkAt
set_option maxRecDepth 4000
set_option maxHeartbeats 8000000
namespace Go.Eg
open Go Go.RowKit
def bV (l:List Int):List Value :=l.map fun x =>Value.int .u8 x
theorem Zm4 (a b:List Int):bV (a ++ b)=bV a ++ bV b :=by simp [bV]
def BL (w:World) (v:Value) (l:List Int):Prop :=
 ∃ a cap,v = .slice a l.length cap∧l.length≤cap∧(a=none→cap=0)∧(0<l.length→∃ b off,a=some ⟨b,off,none⟩∧∀ i (hi:i<l.length),w.cell? ⟨b,off+i,none⟩=some (.int .u8 l[i]))
theorem BL.keeps {a b:World} {v:Value} {l:List Int} (h:BL a v l) (hm:Z00 a b):BL b v l :=by
 obtain ⟨p,cap,rfl,hc,h0,hx⟩ :=h
 refine ⟨p,cap,rfl,hc,h0,fun hl =>?_⟩
 obtain ⟨g,off,rfl,hc⟩ :=hx hl
 exact ⟨g,off,rfl,fun i hi =>hm.cell (hc i hi) fun h =>h⟩
theorem BL.slice {w:World} {v:Value} {l:List Int} (h:BL w v l):∃ a cap,v = .slice a l.length cap :=by
 obtain ⟨a,cap,h,_⟩ :=h
 exact ⟨a,cap,h⟩
theorem BL.of_owns {w:World} {B n:Nat} {e:TypeId} {v:Value} {l:List Int} (h:w.ownsRow B e 1 v n (bV l)) (hn:n=l.length):BL w v l :=by
 subst hn
 rcases h.2 with ⟨rfl,h0⟩ | ⟨b,cap,cur,rfl,hg,hh,hc,r⟩
 ·exact ⟨none,0,by rw [h0],by omega,fun _ =>rfl,fun hl =>by omega⟩
 ·refine ⟨_,cap,rfl,hc,(fun h =>by cases h),fun hl =>⟨b,0,rfl,fun i hi =>?_⟩⟩
  rw [Nat.zero_add,h.cellAt i (by omega)]
  simp [bV,hi]
theorem BL.at {w:World} {a:Option Addr} {cap:Nat} {l:List Int} (h:BL w (.slice a l.length cap) l) (i:Nat) (hi:i<l.length):∃ b off,a=some ⟨b,off,none⟩∧w.cell? ⟨b,off+i,none⟩=some (.int .u8 l[i]) :=by
 obtain ⟨a',c,e,_,_,hx⟩ :=h
 simp only [Value.slice.injEq] at e
 obtain ⟨rfl,_,rfl⟩ :=e
 obtain ⟨b,off,rfl,hc⟩ :=hx (by omega)
 exact ⟨b,off,rfl,hc i hi⟩
def bigL (x:Int) (n:Nat):List Int :=(List.range n).map fun j =>x / 2 ^ (8 * (n - 1 - j)) % 256
theorem Z8a (x:Int) (n:Nat):(bigL x n).length=n :=by simp [bigL]
theorem Zid {x:Int} {n j:Nat} (h:j<n):(bigL x n).take (j+1)=(bigL x n).take j ++ [x / 2 ^ (8 * (n - 1 - j)) % 256] :=by
 rw [List.take_succ_eq_append_getElem (by rw [Z8a]; exact h)]
 simp [bigL]
def Z4e (o:Od) (cs:List Nat):List Int :=cs.flatMap fun c =>bigL (getO c o) (szO c)
def Z24 (o:Od) (cs:List Nat):List Int :=o.kd % 256 :: Z4e o cs
theorem Zh2 {o:Od} {cs:List Nat} {j:Nat} (h:j<cs.length):Z4e o (cs.take (j+1))=Z4e o (cs.take j) ++ bigL (getO cs[j] o) (szO cs[j]) :=by
 unfold Z4e
 rw [List.take_succ_eq_append_getElem h,List.flatMap_append,List.flatMap_cons,List.flatMap_nil,List.append_nil]
theorem Z6t (o:Od) (cs:List Nat):(Z4e o cs).length=sumZ cs :=by
 unfold Z4e
 induction cs with
 | nil =>rfl
 | cons c r ih =>rw [List.flatMap_cons,List.length_append,ih,Z8a]; rfl
structure Od.ok (o:Od):Prop where
 k:(Lit.int .i64 o.kd).wf=true
 i:(Lit.int .i64 o.ix).wf=true
 t:(Lit.int .i64 o.tg).wf=true
 a:0≤o.am∧o.am≤18446744073709551615
theorem Zg8 {o:Od} (h:o.ok) (c:Nat):0≤getO c o∧getO c o≤18446744073709551615 :=by
 unfold getO
 split
 ·rw [IntKind.wrap_u64]; omega
 ·split
  ·rw [IntKind.wrap_u64]; omega
  ·exact h.a
end Go.Eg
namespace Go.Proofs.YtecapfmmoejikaaGreat
open Go.RowKit Go.Eg
theorem Zoi:(Tryz.prog.info? 5).map (fun i =>(i.zero,i.size,i.bytes))=some (some (Value.int .u8 0),1,1) :=by kernel_rfl
abbrev BO (B:Nat) (w:World) (v:Value) (l:List Int):Prop :=w.ownsRow B 5 1 v l.length (bV l)
theorem BO.bl {B:Nat} {w:World} {v:Value} {l:List Int} (h:BO B w v l):BL w v l :=BL.of_owns h rfl
theorem Zni {ops:Array Oper} {rest:List Oper} {o:Oper} {a:Act} {Q:Exit→Act→World→Prop} (w:World) (hgd:o.guard=none) (s x:Operand)
 (ho:o.op = .call { callee := .builtin .append,args := #[s,x],argTypes := #[63,63] })
 (B:Nat) (v:Value) (l:List Int) (y:Int) (hs:a.eval s=v) (hown:BO B w v l) (hx:a.eval x = .slice (some ⟨w.heap.size,0,none⟩) 1 1) (hn:l.length≤8192) (hB:B≤w.heap.size)
 (h:∀ v' w',BO B w' v' (l ++ [y])→(w.alloc (.cells #[.int .u8 y] 5)).grownBy w' v.ownBlock→wpList Tryz.prog ops Q rest (a.put o.dst v') w'):wpList Tryz.prog ops Q (o :: rest) a (w.alloc (.cells #[.int .u8 y] 5)) :=by
 obtain ⟨i0,hi,hz0,hz1,hz2⟩ :=info_parts Zoi
 refine wpList_append_own _ hgd s x 63 ho B 5 i0 (.int .u8 0) 1 1 Tryz.underlying63 hi hz0 hz1 hz2 rfl (by decide) v l.length (bV l) hs (hown.alloc _) ⟨w.heap.size,0,none⟩ 1 1 [.int .u8 y] hx rfl (World.news_of_block (heap_alloc_last w (.cells #[.int .u8 y] 5))) (fun u hu =>by simp at hu; subst hu; rfl) (by unfold maxLen; omega) (by omega) (by simp; omega) ?_
 intro v' w' h1 h2 _
 refine h v' w' ?_ h2
 show w'.ownsRow B 5 1 v' (l ++ [y]).length (bV (l ++ [y]))
 rw [Zm4,List.length_append]
 exact h1
theorem Zeb {w w':World} {o:Obj} {B:Nat} {v:Value} {l:List Int} (hown:BO B w v l) {w0:World} (hk:Z00 w0 w) (hB:w0.heap.size≤B) (hg:(w.alloc o).grownBy w' v.ownBlock):Z00 w0 w' :=
 (hk.alloc o).grown hg fun j hj e =>by have :=(hown.lt j e).1; omega
theorem BO.base {B B':Nat} {w:World} {v:Value} {l:List Int} (h:BO B w v l) (hb:B'≤B):BO B' w v l :=by
 obtain ⟨h1,h2⟩ :=h
 rcases h2 with h2 | ⟨g,cap,cur,hv,hg,r⟩
 ·exact ⟨h1, .inl h2⟩
 ·exact ⟨h1, .inr ⟨g,cap,cur,hv,by omega,r⟩⟩
theorem BO.keeps {B:Nat} {w w':World} {v:Value} {l:List Int} (h:BO B w v l) (hk:Z00 w w'):BO B w' v l :=hk.owns h fun _ _ h =>h
theorem BO.slice {B:Nat} {w:World} {v:Value} {l:List Int} (h:BO B w v l):∃ a c,v = .slice a l.length c :=by
 rcases h.2 with ⟨rfl,e⟩ | ⟨g,cap,cur,rfl,_⟩
 ·exact ⟨none,0,by rw [e]⟩
 ·exact ⟨_,_,rfl⟩
theorem BO.ne {B:Nat} {w:World} {v:Value} {l:List Int} (h:BO B w v l) {b:Nat} {cs:Array Value} {t:TypeId} {fr:Nat × Nat} (hb:w.heap[b]? = some (.cells cs t fr)) (ht:t≠5):v.ownBlock≠some b :=by
 intro e
 rcases h.2 with ⟨rfl,_⟩ | ⟨g,cap,cur,rfl,_,hh,_⟩
 ·cases e
 ·simp [Value.ownBlock] at e
  subst e
  rw [hb] at hh
  simp at hh
  exact ht hh.2.1
theorem Zrb (c:Nat) (hc:c<3) (args:Array Value) (w:World):(callFunc (gF c) args).run Tryz.prog w = .ok (.enter (gF c) args) w :=by
 match c,hc with
 | 0,_ =>rfl
 | 1,_ =>rfl
 | 2,_ =>rfl
theorem Zqr (c:Nat) (hc:c<3) (args:Array Value) (w:World):(callFunc (sF c) args).run Tryz.prog w = .ok (.enter (sF c) args) w :=by
 match c,hc with
 | 0,_ =>rfl
 | 1,_ =>rfl
 | 2,_ =>rfl
theorem Zgm (o:Od) (w:World) (h:opsOf o.kd=none):Calls Tryz.prog 101 #[o.val] w fun r w' =>r = .returned (.tuple #[.slice none 0 0, .bool false])∧Z00 w w' :=by
 have HO :=Hd (Z68 h (w.alloc (.cells o.cells 34)))
 obtain ⟨kd,ix,tg,am⟩ :=o
 clear h
 go_enter Tryz.func101,Tryz.ntmps101
 go_wp2_with fail
 refine HO.out.mono ?_
 rintro r w1 ⟨rfl,hk1⟩
 have HK1 :=Hd (((Mods.refl (fun _ =>False) w).alloc _).keep hk1)
 clear hk1
 go_wp2
 go_ret2
 exact ⟨rfl,HK1.out⟩
theorem write_any (o:Od) (cs:List Nat) (w:World) (h:opsOf o.kd=some cs) (ho:o.ok) :
 Calls Tryz.prog 101 #[o.val] w fun r w' => ∃ v,r = .returned (.tuple #[v, .bool true])∧BO w.heap.size w' v (Z24 o cs)∧Z00 w w' :=by
 obtain ⟨hl,hcs,hk1,hk7,hz⟩ :=Z2w h
 have HO :=Hd (Z6c h (w.alloc (.cells o.cells 34)))
 have HG :=Hd (fun c =>Zg8 ho c)
 have HB :=Hd (show ∀ j,(Z4e o (cs.take j)).length≤16 from fun j =>by rw [Z6t]; have :=Z4t cs j; omega)
 have HCS :=Hd hcs
 have HW :=Hd (show Z24 o cs=o.kd :: Z4e o cs from by unfold Z24; rw [show o.kd % 256=o.kd from by omega])
 have HT :=Hd (fun (j:Nat) (h:j<cs.length) =>Zh2 (o :=o) h)
 have HGET :=Hd (fun (c:Nat) (hc:c<3) (w:World) =>Zil c hc o w)
 generalize Z24 o cs=WB at *
 have hb0:Z4e o (cs.take 0) = [] :=rfl
 have hb1:Z4e o (cs.take cs.length)=Z4e o cs :=by rw [List.take_length]
 generalize hF:(fun j =>Z4e o (cs.take j))=Fb at *
 have e1:∀ j,Z4e o (cs.take j)=Fb j :=fun j =>by rw [← hF]
 simp only [e1] at HB HT hb0 hb1
 have HB0 :=Hd hb0
 have HB1 :=Hd hb1
 generalize Z4e o cs=BB at *
 generalize hGe:(fun c =>getO c o)=Gf at *
 have e2:∀ c,getO c o=Gf c :=fun c =>by rw [← hGe]
 simp only [e2] at HG HT HGET
 clear hF hGe e1 e2 hb0 hb1 hcs h ho
 obtain ⟨kd,ix,tg,am⟩ :=o
 simp only at HW HGET hk1 hk7
 go_enter Tryz.func101,Tryz.ntmps101
 go_wp2_with fail
 refine HO.out.mono ?_
 rintro r w1 ⟨b,rfl,hk1',hb,hc⟩
 have HK1 :=Hd (((Mods.refl (fun _ =>False) w).alloc (.cells (Od.cells ⟨kd,ix,tg,am⟩) 34)).keep hk1')
 have HC :=Hd hc
 have hvb :=hk1'.at (heap_alloc_last w (.cells (Od.cells ⟨kd,ix,tg,am⟩) 34)) (fun h =>h)
 have HVB :=Hd hvb
 have u0:w1.cell? ⟨w.heap.size,0,none⟩=some (.int .i64 kd) :=(Z2q hvb).1
 have hww :=Z0a hvb
 clear hk1' hc hvb
 go_wp2_with fail
 go_loopw [6,24] (fun s i wr => ∃ j:Nat,j≤cs.length∧i = .int .i64 j∧BO w1.heap.size wr s (kd :: Fb j)∧Z00 w1 wr) (fun _ i _ =>cs.length - (intOf i).toNat)
 case atStart =>
  refine ⟨0,Nat.zero_le _,rfl, ?_,(Mods.refl _ w1).alloc _⟩
  rw [HB0.out]
  exact World.ownsRow_lit (size :=1) w1 #[.int .u8 (kd)] 1 (Nat.le_refl _) (by unfold maxLen; omega) rfl
 case round =>
  obtain ⟨j,hj,rfl,hown,hm⟩ :=hrel
  have HM :=Hd hm
  have HOW :=Hd hown
  by_cases hlt:j<cs.length
  ·obtain ⟨x0,x1,x2⟩ :=HC.out wr hm j hlt
   have hc3 :=HCS.out cs[j] (List.getElem_mem hlt)
   have hcg :=Zrb cs[j] hc3
   have HTJ :=Hd (HT.out j hlt)
   have hz :=Zj9 cs[j]
   have hlb :=HB.out j
   have hgr :=HG.out cs[j]
   have HGJ :=Hd (HGET.out cs[j] hc3)
   have hbw :=cell_lt x0
   have hszm :=hm.size
   generalize cs[j]=c at *
   generalize szO c=z at *
   generalize Gf c=X at *
   generalize Fb j=L at *
   clear hm hown
   go_wp2_with fail
   rename World =>wq
   obtain ⟨wo,hwo⟩:∃ wo,wo=wq.alloc (.cells #[.int .i64 (z:Int), .func (.func (gF c)) #[] #[], .func (.func (sF c)) #[] #[]] 248) :=⟨_,rfl⟩
   have HKO :=Hd (show Z00 wq wo from hwo ▸ (Mods.refl _ wq).alloc _)
   have HBX :=Hd (show wo.heap[wq.heap.size]? = some (.cells #[.int .i64 (z:Int), .func (.func (gF c)) #[] #[], .func (.func (sF c)) #[] #[]] 248 (0,0)) from hwo ▸ heap_alloc_last wq _)
   rw [← hwo]
   clear hwo x0 x1 x2
   go_loopw [6,9] (fun s q wi => ∃ m:Nat,m≤z∧q = .int .i64 ((z:Int) - 1 - m)∧BO w1.heap.size wi s (kd :: (L ++ (bigL X z).take m))∧Z00 w1 wi∧wi.heap[wq.heap.size]? = some (.cells #[.int .i64 (z:Int), .func (.func (gF c)) #[] #[], .func (.func (sF c)) #[] #[]] 248 (0,0))) (fun _ q _ =>(1+intOf q).toNat)
   case atStart =>exact ⟨0,Nat.zero_le _,by go_num,by rw [List.take_zero,List.append_nil]; exact HOW.out.keeps HKO.out,HM.out.keep HKO.out,HBX.out⟩
   case round =>
    obtain ⟨m,hmz,rfl,hown,hmi,hbx⟩ :=hrel
    have HMI :=Hd hmi
    have HOI :=Hd hown
    have HBI :=Hd hbx
    by_cases hlm:m<z
    ·have y1:wr.cell? ⟨wq.heap.size,1,none⟩=some (.func (.func (gF c)) #[] #[]) :=by simp [World.cell?,hbx]
     obtain ⟨v0,v1,v2,v3⟩ :=Z2q (o :=⟨kd,ix,tg,am⟩) (hmi.at HVB.out fun h =>h)
     simp only at v0 v1 v2 v3
     have hwx :=Z0a hbx
     have hwi :=cell_lt v0
     have HTM :=Hd (Zid (x :=X) hlm)
     have hlen:(kd :: (L ++ (bigL X z).take m)).length≤8192 :=by rw [List.length_cons,List.length_append,List.length_take,Z8a]; omega
     clear hmi hown hbx
     go_wp2_with fail
     refine (HGJ.out _).mono ?_
     rintro r w5 ⟨rfl,hk5⟩
     have HM5 :=Hd (HMI.out.keep hk5)
     have HO5 :=Hd (HOI.out.keeps hk5)
     have HB5 :=Hd (hk5.at HBI.out fun h =>h)
     have HS5 :=Hd (show w1.heap.size≤w5.heap.size from HM5.out.size)
     clear hk5 y1 v0 v1 v2 v3 hwx hwi
     go_wp2_with (at_builtin; refine Zni w5 rfl (.tmp 35) (.tmp 44) rfl w1.heap.size _ _ _ rfl HO5.out rfl hlen HS5.out ?_)
     intro v' w6 ho' hg'
     have HO' :=Hd ho'
     have HK' :=Hd (Zeb HO5.out HM5.out (Nat.le_refl _) hg')
     have HB' :=Hd (((Mods.refl (fun i =>u6.ownBlock=some i) w5).alloc _).grown hg' (fun _ _ h =>h) |>.at HB5.out (HO5.out.ne HB5.out (by decide)))
     clear ho' hg'
     go_wp2
     go_roundw
     case rel =>exact ⟨m+1,by omega,by go_num,by rw [HTM.out]; simpa using HO'.out,HK'.out,HB'.out⟩
     case measure =>simp [intOf]; omega
    ·have e:m=z :=by omega
     subst e
     rw [List.take_of_length_le (by rw [Z8a]; exact Nat.le_refl _)] at HOI
     clear hmi hown hbx
     go_wp2
     go_roundw
     case rel =>exact ⟨j+1,by omega,by go_num,by rw [HTJ.out]; exact HOI.out,HMI.out⟩
     case measure =>simp [intOf]; omega
  ·have e:j=cs.length :=by omega
   subst e
   have HF:Hid (BO w1.heap.size wr u6 WB) :=Hd (by rw [HW.out,← HB1.out]; exact hown)
   rcases hown.2 with ⟨rfl,_⟩ | ⟨g,cap,cur,rfl,_⟩
   all_goals
    clear hm hown
    go_wp2
    go_ret2
    exact ⟨_,rfl,HF.out.base (by omega),HK1.out.keep HM.out⟩
end Go.Proofs.YtecapfmmoejikaaGreat
namespace Go.Eg
open Go Go.RowKit
def valL (l:List Int):Int :=l.foldl (fun a b =>256 * a+b) 0
theorem Zcu (l:List Int) (x:Int):valL (l ++ [x])=256 * valL l+x :=by simp [valL]
def Bytes (l:List Int):Prop := ∀ x∈l,0≤x∧x<256
theorem Za2 {l:List Int} (h:Bytes l):∀ j,j≤l.length→0≤valL (l.take j)∧valL (l.take j)<256 ^ j
 | 0,_ =>⟨Int.le_refl _,by show (0:Int)<1; decide⟩
 | j+1,hj =>by
  obtain ⟨h0,h1⟩ :=Za2 h j (by omega)
  have hx :=h l[j] (List.getElem_mem (by omega))
  rw [List.take_succ_eq_append_getElem (by omega),Zcu,Int.pow_succ]
  omega
theorem Zhj {l:List Int} (h:Bytes l) {j:Nat} (hj:j≤l.length) (h7:j≤7):0≤valL (l.take j)∧valL (l.take j)<72057594037927936 :=by
 obtain ⟨h0,h1⟩ :=Za2 h j hj
 have h2:(256:Int) ^ j≤256 ^ 7 :=by
  have:j=0∨j=1∨j=2∨j=3∨j=4∨j=5∨j=6∨j=7 :=by omega
  rcases this with e | e | e | e | e | e | e | e <;> subst e <;> decide
 have h3:(256:Int) ^ 7=72057594037927936 :=by decide
 omega
theorem Zlq {q x:Int} (h0:0≤q) (h1:q<72057594037927936) (h2:0≤x) (h3:x<256):bits .or .u64 (q * 256) x=256 * q+x :=by
 obtain ⟨Q,rfl⟩:∃ Q:Nat,q=Q :=⟨q.toNat,by omega⟩
 obtain ⟨X,rfl⟩:∃ X:Nat,x=X :=⟨x.toNat,by omega⟩
 have e:((Q:Int) * 256)=((Q * 256:Nat):Int) :=by rw [Int.natCast_mul]; rfl
 rw [e,bits_or_u64_nat _ _ (by omega) (by omega)]
 have h :=Nat.shiftLeft_add_eq_or_of_lt (b :=X) (i :=8) (by omega) Q
 rw [Nat.shiftLeft_eq,show 2 ^ 8=256 from rfl] at h
 rw [← h,Int.natCast_add,Int.natCast_mul]
 show (Q:Int) * 256+(X:Int)=256 * (Q:Int)+(X:Int)
 omega
end Go.Eg
namespace Go.Proofs.YtecapfmmoejikaaGreat
open Go.RowKit Go.Eg
def RD (w:World) (g N:Nat) (l:List Int):Prop := ∃ b off cap,w.heap[g]? = some (.cells #[.slice (some ⟨b,off,none⟩) l.length cap] 63 (0,0))∧(b<N∧N≤g)∧l.length≤cap∧BL w (.slice (some ⟨b,off,none⟩) l.length cap) l
theorem RD.keeps {w w':World} {g N:Nat} {l:List Int} (h:RD w g N l) (hk:Z00 w w'):RD w' g N l :=by
 obtain ⟨b,off,cap,h1,h2,h3,h4⟩ :=h
 exact ⟨b,off,cap,hk.at h1 fun h =>h,h2,h3,h4.keeps hk⟩
theorem RD.mods {S:Nat→Prop} {w w':World} {g N:Nat} {l:List Int} (h:RD w g N l) (hm:Mods S w w') (hg : ¬ S g) (hN:∀ i,i<N→¬ S i):RD w' g N l :=by
 obtain ⟨b,off,cap,h1,h2,h3,h4⟩ :=h
 refine ⟨b,off,cap,hm.at h1 hg,h2,h3, ?_⟩
 obtain ⟨p,c,e,hc,h0,hx⟩ :=h4
 refine ⟨p,c,e,hc,h0,fun hl =>?_⟩
 obtain ⟨q,o2,rfl,hcc⟩ :=hx hl
 simp only [Value.slice.injEq,Option.some.injEq,Addr.mk.injEq,and_true] at e
 obtain ⟨⟨rfl,rfl⟩,_,rfl⟩ :=e
 exact ⟨b,off,rfl,fun i hi =>hm.cell (hcc i hi) (hN b h2.1)⟩
theorem Zmq {w:World} {g N b off cap n:Nat} {l:List Int} {q:Addr} (hg:w.heap[g]? = some (.cells #[.slice (some ⟨b,off,none⟩) l.length cap] 63 (0,0))) (hgN:b<N∧N≤g) (hcap:l.length≤cap) (hl:BL w (.slice (some ⟨b,off,none⟩) l.length cap) l) (hn:n≤l.length)
 (hq:q=⟨b,off+n,none⟩∨(q=⟨b,off,none⟩∧cap=n)):RD (w.setCell ⟨g,0,none⟩ (.slice (some q) (l.length - n) (cap - n))) g N (l.drop n) :=by
 have hgb:g≠b :=by omega
 have hm:Mods (fun i =>i=g) w (w.setCell ⟨g,0,none⟩ (.slice (some q) (l.length - n) (cap - n))) :=(Mods.refl _ w).setCell _ _ fun _ =>rfl
 have hblk :=heap_setCell_same w g 0 _ _ (.slice (some q) (l.length - n) (cap - n)) hg
 have hdl:(l.drop n).length=l.length - n :=by simp
 have key:∀ off',q=⟨b,off',none⟩→(off'=off+n∨l.length=n)→RD (w.setCell ⟨g,0,none⟩ (.slice (some q) (l.length - n) (cap - n))) g N (l.drop n) :=by
  rintro off' rfl ho
  refine ⟨b,off',cap - n,by rw [hdl]; exact hblk,hgN,by rw [hdl]; omega,_,cap - n,by rw [hdl],by rw [hdl]; omega,(fun h =>by cases h),fun hpos =>⟨b,off',rfl,fun i hi =>?_⟩⟩
  rw [hdl] at hpos hi
  have ho':off'=off+n :=by omega
  subst ho'
  obtain ⟨b2,off2,e,x0⟩ :=hl.at (n+i) (by omega)
  simp only [Option.some.injEq,Addr.mk.injEq,and_true] at e
  obtain ⟨rfl,rfl⟩ :=e
  rw [List.getElem_drop,Nat.add_assoc]
  exact hm.cell x0 (fun e =>hgb e.symm)
 rcases hq with h | ⟨h,hc⟩
 ·exact key _ h (.inl rfl)
 ·exact key _ h (.inr (by omega))
theorem Zep (g N:Nat) (l:List Int) (n:Nat) (w:World) (h:RD w g N l) (hb:Bytes l) (hn:n≤l.length) (h1:1≤n) (h8:n≤8) :
 Calls Tryz.prog 223 #[.int .i64 (n:Int), .pointer (some ⟨g,0,none⟩)] w fun r w' =>r = .returned (.int .u64 (valL (l.take n)))∧RD w' g N (l.drop n)∧Mods (fun i =>i=g) w w' :=by
 obtain ⟨b,off,cap,hg,hgb,hcap,hl⟩ :=h
 have c0:w.cell? ⟨g,0,none⟩=some (.slice (some ⟨b,off,none⟩) l.length cap) :=by simp [World.cell?,hg]
 have f0:w.frozen? ⟨g,0,none⟩=false :=by simp [World.frozen?,hg]
 have HL :=Hd hl
 have HB :=Hd hb
 have HG :=Hd hg
 have HGB :=Hd hgb
 clear hg hl hb hgb
 go_enter Tryz.func223,Tryz.ntmps223
 go_wp2_with fail
 go_loop [4,11] (fun x i => ∃ j:Nat,j≤n∧i = .int .i64 j∧x = .int .u64 (valL (l.take j))) (fun _ i =>n - (intOf i).toNat)
 case atStart =>exact ⟨0,Nat.zero_le _,rfl,rfl⟩
 case round =>
  obtain ⟨j,hj,rfl,rfl⟩ :=hrel
  by_cases hlt:j<n
  ·obtain ⟨b',off',e,x0⟩ :=HL.out.at j (by omega)
   simp only [Option.some.injEq,Addr.mk.injEq,and_true] at e
   obtain ⟨rfl,rfl⟩ :=e
   have hx :=HB.out l[j] (List.getElem_mem (by omega))
   have hv :=Zhj HB.out (show j≤l.length by omega) (by omega)
   have ht:valL (l.take (j+1))=256 * valL (l.take j)+l[j] :=by rw [List.take_succ_eq_append_getElem (by omega),Zcu]
   have HT :=Hd ht
   have HOR :=Hd (Zlq hv.1 hv.2 hx.1 hx.2)
   generalize valL (l.take j)=q at *
   generalize l[j]=x at *
   clear ht
   go_wp2
   go_round
   case rel =>exact ⟨j+1,by omega,by go_num,by rw [HT.out,HOR.out]⟩
   case measure =>simp [intOf]; omega
  ·have e:j=n :=by omega
   subst e
   by_cases hcn:cap=j
   ·have h :=Zmq HG.out HGB.out hcap HL.out hn (.inr ⟨rfl,hcn⟩)
    rw [show cap - j=0 by omega,show l.length - j=0 by omega] at h
    have HH :=Hd h
    subst hcn
    clear h
    go_wp2
    go_ret
    exact ⟨rfl,HH.out,(Mods.refl _ w).setCell _ _ fun _ =>rfl⟩
   ·have HH :=Hd (Zmq HG.out HGB.out hcap HL.out hn (.inl rfl))
    have hcn2:0<cap - j :=by omega
    go_wp2
    all_goals
     first
      | (exfalso; omega)
      | (go_ret; exact ⟨rfl,HH.out,(Mods.refl _ w).setCell _ _ fun _ =>rfl⟩)
end Go.Proofs.YtecapfmmoejikaaGreat
namespace Go.Eg
open Go Go.RowKit
def od0:Od :=⟨0,0,0,0⟩
def Z4m:List Nat→Od→List Int→Od
 | [],o,_ =>o
 | c :: r,o,l =>Z4m r (setO c (valL (l.take (szO c))) o) (l.drop (szO c))
theorem Zfr (a:List Nat) (c:Nat) (o:Od) (l:List Int):Z4m (a ++ [c]) o l=setO c (valL ((l.drop (sumZ a)).take (szO c))) (Z4m a o l) :=by
 induction a generalizing o l with
 | nil =>simp [Z4m,sumZ]
 | cons x r ih =>
  show Z4m (r ++ [c]) _ _=_
  rw [ih]
  show _=setO c (valL ((l.drop (szO x+sumZ r)).take (szO c))) (Z4m r _ _)
  rw [List.drop_drop]
theorem Zhb {cs:List Nat} {j:Nat} (h:j<cs.length) (o:Od) (l:List Int):Z4m (cs.take (j+1)) o l=setO cs[j] (valL ((l.drop (sumZ (cs.take j))).take (szO cs[j]))) (Z4m (cs.take j) o l) :=by
 rw [List.take_succ_eq_append_getElem h,Zfr]
theorem Bytes.drop {l:List Int} (h:Bytes l) (n:Nat):Bytes (l.drop n) :=fun x hx =>h x (List.mem_of_mem_drop hx)
end Go.Eg
namespace Go.Proofs.YtecapfmmoejikaaGreat
open Go.RowKit Go.Eg
theorem Z9x {k:Int} {cs:List Nat} (h:opsOf k=some cs) (w:World):Calls Tryz.prog 146 #[.int .i64 k] w fun r w' => ∃ b,r = .returned (.tuple #[.slice (some ⟨b,0,none⟩) cs.length cs.length, .bool true])∧Z00 w w'∧w'.heap[b]? = some (.cells (Z37 cs).toArray 248 (0,0)) :=
 (Z56 k w).mono fun r w' ⟨hk,hr⟩ =>by
  rcases hr with ⟨hs,_⟩ | ⟨cs',v,hs,hr,hv⟩
  ·rw [h] at hs; cases hs
  ·rw [h] at hs
   cases hs
   obtain ⟨b,rfl,hb⟩ :=hv
   exact ⟨b,hr,hk,hb⟩
theorem Zes {w:World} {b:Nat} {cs:List Nat} (hb:w.heap[b]? = some (.cells (Z37 cs).toArray 248 (0,0))) (j:Nat) (hj:j<cs.length):w.cell? ⟨b,j * 3,none⟩=some (.int .i64 ((szO cs[j]:Nat):Int))∧w.cell? ⟨b,j * 3+1,none⟩=some (getV cs[j])∧w.cell? ⟨b,j * 3+2,none⟩=some (setV cs[j]) :=by
 obtain ⟨h0,h1,h2⟩ :=Zet cs j hj
 exact ⟨by simp [World.cell?,hb,h0],by simp [World.cell?,hb,h1],by simp [World.cell?,hb,h2]⟩
theorem Zfp (v:Value) (n c:Nat) (a:Option Addr) (hv:v = .slice a n c) (w:World):Calls Tryz.prog 196 #[v] w fun r w' =>r = .returned (.func (.func 223) #[] #[.pointer (some ⟨w.heap.size,0,none⟩)])∧w'=w.alloc (.cells #[v] 63) :=by
 subst hv
 go_enter Tryz.func196,Tryz.ntmps196
 go_wp2
 go_ret
 exact ⟨rfl,rfl⟩
theorem Znr (v:Value) (l:List Int) (i:Int) (w:World) (hv:BL w v l) (hi:i<0∨(l.length:Int)≤i) :
 Calls Tryz.prog 145 #[v, .int .i64 i] w fun r w' =>r = .returned (.tuple #[od0.val, .int .i64 0, .bool false])∧Z00 w w' :=by
 obtain ⟨a,cap,rfl⟩ :=hv.slice
 clear hv
 by_cases h0:i<0
 ·go_enter Tryz.func145,Tryz.ntmps145
  go_wp2
  exact bodyPost_ret (v := .tuple #[od0.val, .int .i64 0, .bool false]) (by simp [results,Tryz.results145,go_sem,od0]) rfl ⟨rfl,(Mods.refl _ w).alloc _⟩
 ·have h1:(l.length:Int)≤i :=by omega
  clear hi
  go_enter Tryz.func145,Tryz.ntmps145
  go_wp2
  exact bodyPost_ret (v := .tuple #[od0.val, .int .i64 0, .bool false]) (by simp [results,Tryz.results145,go_sem,od0]) rfl ⟨rfl,(Mods.refl _ w).alloc _⟩
theorem Zgg {k:Int} (h:opsOf k=none):Zbj k=0 :=by unfold Zbj; rw [h]
theorem Zac {k:Int} {cs:List Nat} (h:opsOf k=some cs):Zbj k=((1+sumZ cs:Nat):Int) :=by unfold Zbj; rw [h]
theorem Za8 {w w1:World} {o:Obj} (h:Z00 (w.alloc o) w1) (a b c d:Value):Z00 w ((((w1.setCell ⟨w.heap.size,0,none⟩ a).setCell ⟨w.heap.size,1,none⟩ b).setCell ⟨w.heap.size,2,none⟩ c).setCell ⟨w.heap.size,3,none⟩ d) :=
 (((((((Mods.refl (fun _ =>False) w).alloc o).keep h).setCell _ _ fun h =>Nat.lt_irrefl _ h).setCell _ _ fun h =>Nat.lt_irrefl _ h).setCell _ _ fun h =>Nat.lt_irrefl _ h).setCell _ _ fun h =>Nat.lt_irrefl _ h)
theorem Zky (v:Value) (l:List Int) (i:Nat) (w:World) (hv:BL w v l) (hb:Bytes l) (hi:i<l.length) (h64:l.length≤4294967296) (hk:opsOf l[i]=none) :
 Calls Tryz.prog 145 #[v, .int .i64 (i:Int)] w fun r w' =>r = .returned (.tuple #[od0.val, .int .i64 ((i:Int)+1), .bool true])∧Z00 w w' :=by
 obtain ⟨a,cap,rfl⟩ :=hv.slice
 obtain ⟨b,off,rfl,x0⟩ :=hv.at i hi
 have hx :=hb l[i] (List.getElem_mem hi)
 have hil:(i:Int)<(l.length:Int) :=by omega
 have HS :=Hd (Zgg hk)
 have hlt :=cell_lt x0
 generalize l[i]=k at *
 clear hv hb hk
 go_enter Tryz.func145,Tryz.ntmps145
 go_wp2_with fail
 refine (Z5g k _).mono ?_
 rw [HS.out]
 rintro r w1 ⟨rfl,hk1⟩
 have hvb :=hk1.at (heap_alloc_last w (odB od0)) (fun h =>h)
 obtain ⟨c0,c1,c2,c3⟩ :=Z2q hvb
 have f0 :=Z2h hvb 0
 have f1 :=Z2h hvb 1
 have f2 :=Z2h hvb 2
 have f3 :=Z2h hvb 3
 have HK1 :=Hd hk1
 have hw1 :=Z0a hvb
 clear hk1 hvb
 go_wp2
 exact bodyPost_ret (v := .tuple #[od0.val, .int .i64 ((i:Int)+1), .bool true]) (by simp [results,Tryz.results145,go_sem,od0,c0,c1,c2,c3]) rfl ⟨rfl,Za8 HK1.out _ _ _ _⟩
theorem Zjk (v:Value) (l:List Int) (cs:List Nat) (i:Nat) (w:World) (hv:BL w v l) (hb:Bytes l) (hi:i<l.length) (hk:opsOf l[i]=some cs) (hs:(l.length:Int) - i<((1+sumZ cs:Nat):Int)) :
 Calls Tryz.prog 145 #[v, .int .i64 (i:Int)] w fun r w' =>r = .returned (.tuple #[od0.val, .int .i64 (l.length:Int), .bool true])∧Z00 w w' :=by
 obtain ⟨a,cap,rfl⟩ :=hv.slice
 obtain ⟨b,off,rfl,x0⟩ :=hv.at i hi
 have hx :=hb l[i] (List.getElem_mem hi)
 have hil:(i:Int)<(l.length:Int) :=by omega
 have HS :=Hd (Zac hk)
 obtain ⟨_,_,_,_,hz⟩ :=Z2w hk
 have hlt :=cell_lt x0
 generalize l[i]=k at *
 obtain ⟨z,hzz⟩:∃ z,1+sumZ cs=z :=⟨_,rfl⟩
 rw [hzz] at hs HS
 have hz1:1≤z :=by omega
 have hz2:z≤11 :=by omega
 have ez:((z:Int) == 0)=false :=by simp only [beq_eq_false_iff_ne]; omega
 clear hv hb hk hzz
 go_enter Tryz.func145,Tryz.ntmps145
 go_wp2_with fail
 refine (Z5g k _).mono ?_
 rw [HS.out]
 rintro r w1 ⟨rfl,hk1⟩
 have hvb :=hk1.at (heap_alloc_last w (odB od0)) (fun h =>h)
 obtain ⟨c0,c1,c2,c3⟩ :=Z2q hvb
 have f0 :=Z2h hvb 0
 have f1 :=Z2h hvb 1
 have f2 :=Z2h hvb 2
 have f3 :=Z2h hvb 3
 have HK1 :=Hd hk1
 have hw1 :=Z0a hvb
 clear hk1 hvb
 go_wp2
 exact bodyPost_ret (v := .tuple #[od0.val, .int .i64 (l.length:Int), .bool true]) (by simp [results,Tryz.results145,go_sem,od0,c0,c1,c2,c3]) rfl ⟨rfl,Za8 HK1.out _ _ _ _⟩
theorem Z82 (w:World) (A B:Obj):((w.alloc A).alloc B).heap[w.heap.size+1]? = some B :=by
 have h :=heap_alloc_last (w.alloc A) B
 rwa [show (w.alloc A).heap.size=w.heap.size+1 from by simp] at h
theorem Zmz {w:World} {b off cap:Nat} {l:List Int} (h:BL w (.slice (some ⟨b,off,none⟩) l.length cap) l) (n:Nat) (hn:n≤l.length) {q:Addr} (hq:q=⟨b,off+n,none⟩∨(q=⟨b,off,none⟩∧cap=n)) :
 BL w (.slice (some q) (l.drop n).length (cap - n)) (l.drop n)∧(l.drop n).length≤cap - n :=by
 have hc:l.length≤cap :=by
  obtain ⟨a,c,e,h,_⟩ :=h
  simp only [Value.slice.injEq] at e
  omega
 have hdl:(l.drop n).length=l.length - n :=by simp
 refine ⟨⟨some q,cap - n,rfl,by omega,(fun h =>by cases h),fun hpos =>?_⟩,by omega⟩
 rw [hdl] at hpos
 have hq':q=⟨b,off+n,none⟩ :=by
  rcases hq with h | ⟨_,h⟩
  ·exact h
  ·omega
 subst hq'
 refine ⟨b,off+n,rfl,fun i hi =>?_⟩
 obtain ⟨b2,off2,e,x0⟩ :=h.at (n+i) (by omega)
 simp only [Option.some.injEq,Addr.mk.injEq,and_true] at e
 obtain ⟨rfl,rfl⟩ :=e
 rw [List.getElem_drop,Nat.add_assoc]
 exact x0
theorem Zp6 {w w1:World} {o:Obj} {R:List Int} {b off cap n:Nat} (h:BL w (.slice (some ⟨b,off,none⟩) R.length cap) R) (hc:R.length≤cap) (hn:n=R.length) (hk:Z00 w w1) (hb:b<w.heap.size) :
 RD ((w1.alloc o).alloc (.cells #[.slice (some ⟨b,off,none⟩) n cap] 63)) (w1.heap.size+1) w.heap.size R :=by
 subst hn
 exact ⟨b,off,cap,Z82 w1 o _,⟨hb,by have :=hk.size; omega⟩,hc,h.keeps ((hk.alloc o).alloc _)⟩
def TwoB (g q i:Nat):Prop :=i=g∨i=q
theorem RD.lt {w:World} {g N:Nat} {l:List Int} (h:RD w g N l):g<w.heap.size :=by
 obtain ⟨_,_,_,h1,_⟩ :=h
 exact Z0a h1
theorem Zij {S:Nat→Prop} {w w':World} {b:Nat} {x y:Value} (p0:w.cell? ⟨b,0,none⟩=some x) (p2:w.cell? ⟨b,2,none⟩=some y) (hm:Mods S w w') (hb : ¬ S b):w'.cell? ⟨b,0,none⟩=some x∧w'.cell? ⟨b,2,none⟩=some y :=⟨hm.cell p0 hb,hm.cell p2 hb⟩
theorem Zk3 {wb w5 w6:World} {g N:Nat} {l:List Int} {o:Od} (hrd:RD w5 (g+1) N l) (hm5:Mods (fun i =>i=g+1) wb w5) (hN:N≤g) (hod:w6.heap[g]? = some (odB o)) (hm6:Mods (fun i =>i=g) w5 w6) :
 w6.heap[g]? = some (odB o)∧RD w6 (g+1) N l∧Mods (TwoB g (g+1)) wb w6 :=
 ⟨hod,hrd.mods hm6 (by omega) (fun i hi =>by omega),(hm5.weaken fun _ _ h =>.inr h).seq hm6 fun _ _ h =>.inl h⟩
theorem Zk2 {S:Nat→Prop} {w w':World} {b:Nat} {x0 x1 x2 x3:Value} (p0:w.cell? ⟨b,0,none⟩=some x0) (p1:w.cell? ⟨b,1,none⟩=some x1) (p2:w.cell? ⟨b,2,none⟩=some x2) (p3:w.cell? ⟨b,3,none⟩=some x3) (hm:Mods S w w') (hb : ¬ S b) :
 w'.cell? ⟨b,0,none⟩=some x0∧w'.cell? ⟨b,1,none⟩=some x1∧w'.cell? ⟨b,2,none⟩=some x2∧w'.cell? ⟨b,3,none⟩=some x3 :=⟨hm.cell p0 hb,hm.cell p1 hb,hm.cell p2 hb,hm.cell p3 hb⟩
theorem Zi9 {w w6:World} (h:Z00 w w6) (g:Nat) (a b c d:Value):Mods (fun i =>i=g) w ((((w6.setCell ⟨g,0,none⟩ a).setCell ⟨g,1,none⟩ b).setCell ⟨g,2,none⟩ c).setCell ⟨g,3,none⟩ d) :=
 (((((Mods.weaken (T :=fun i =>i=g) h fun _ _ h =>h.elim).setCell _ _ fun _ =>rfl).setCell _ _ fun _ =>rfl).setCell _ _ fun _ =>rfl).setCell _ _ fun _ =>rfl)
theorem Zhq {x:Int} (h0:0≤x) (h1:x≤8589934592):IntKind.i64.wrap x=x :=wrap_small x h0 (by omega)
theorem Zko {w wr w6:World} {g:Nat} (hm:Mods (TwoB g (g+1)) (w.alloc (odB od0)) wr) (hg:w.heap.size<g) (hk:Z00 wr w6) (hv:wr.heap[w.heap.size]? = some (odB od0)) (a b c d:Int) :
 ∃ W,W=(((w6.setCell ⟨w.heap.size,0,none⟩ (.int .i64 a)).setCell ⟨w.heap.size,1,none⟩ (.int .i64 b)).setCell ⟨w.heap.size,2,none⟩ (.int .i64 c)).setCell ⟨w.heap.size,3,none⟩ (.int .u64 d)∧W.heap[w.heap.size]? = some (odB ⟨a,b,c,d⟩)∧Z00 w W :=by
 have h6 :=hk.at hv fun h =>h
 refine ⟨_,rfl,heap_setCell_same _ _ 3 _ _ _ (heap_setCell_same _ _ 2 _ _ _ (heap_setCell_same _ _ 1 _ _ _ (heap_setCell_same _ _ 0 _ _ _ h6))), ?_⟩
 have h1:Z00 w wr :=((Mods.refl (fun _ =>False) w).alloc (odB od0)).seq hm fun i hi h =>by rcases h with h | h <;> omega
 exact ((((h1.keep hk).setCell _ _ fun h =>Nat.lt_irrefl _ h).setCell _ _ fun h =>Nat.lt_irrefl _ h).setCell _ _ fun h =>Nat.lt_irrefl _ h).setCell _ _ fun h =>Nat.lt_irrefl _ h
theorem Zk7 (v:Value) (l:List Int) (cs:List Nat) (i:Nat) (w:World) (hv:BL w v l) (hb:Bytes l) (hi:i<l.length) (h64:l.length≤4294967296) (hk:opsOf l[i]=some cs) (hs:1+sumZ cs≤l.length - i) :
 Calls Tryz.prog 145 #[v, .int .i64 (i:Int)] w fun r w' =>r = .returned (.tuple #[(Z4m cs ⟨l[i],0,0,0⟩ (l.drop (i+1))).val, .int .i64 (((i+(1+sumZ cs):Nat)):Int), .bool true])∧Z00 w w' :=by
 obtain ⟨a,cap,rfl⟩ :=hv.slice
 obtain ⟨b,off,rfl,x0⟩ :=hv.at i hi
 have hcap:l.length≤cap :=by
  obtain ⟨a,c,e,h,_⟩ :=hv
  simp only [Value.slice.injEq] at e
  omega
 have hx :=hb l[i] (List.getElem_mem hi)
 have hil:(i:Int)<(l.length:Int) :=by omega
 have HS :=Hd (Zac hk)
 obtain ⟨hcl,hc3,_,_,hz⟩ :=Z2w hk
 have hlt :=cell_lt x0
 have HOPS :=Hd (fun w =>Z9x hk w)
 have HC3 :=Hd hc3
 have HBR :=Hd (hb.drop (i+1))
 have HFT :=Hd (fun (j:Nat) (h:j<cs.length) =>Zhb h ⟨l[i],0,0,0⟩ (l.drop (i+1)))
 have HF0 :=Hd (show Z4m (cs.take 0) ⟨l[i],0,0,0⟩ (l.drop (i+1))=⟨l[i],0,0,0⟩ from rfl)
 have HF1 :=Hd (show Z4m (cs.take cs.length) ⟨l[i],0,0,0⟩ (l.drop (i+1))=Z4m cs ⟨l[i],0,0,0⟩ (l.drop (i+1)) from by rw [List.take_length])
 have HD :=Hd (show ∀ q:Addr,q=⟨b,off+(i+1),none⟩∨(q=⟨b,off,none⟩∧cap=i+1)→BL w (.slice (some q) (l.drop (i+1)).length (cap - (i+1))) (l.drop (i+1))∧(l.drop (i+1)).length≤cap - (i+1) from fun q hq =>Zmz hv (i+1) (by omega) hq)
 have hdl:(l.drop (i+1)).length=l.length - (i+1) :=by simp
 have HDL :=Hd hdl
 have HLB :=Hd (show sumZ cs≤l.length - (i+1) by omega)
 have HTL :=Hd (fun j =>Z4t cs j)
 have HTK :=Hd (fun (j:Nat) (h:j<cs.length) =>Zcq h)
 generalize hR:l.drop (i+1)=R at *
 generalize l[i]=k at *
 obtain ⟨z,hzz⟩:∃ z,1+sumZ cs=z :=⟨_,rfl⟩
 rw [hzz] at hs HS ⊢
 have HZ :=Hd hzz
 have hz1:1≤z :=by omega
 have hz2:z≤11 :=by omega
 have ez:((z:Int) == 0)=false :=by simp only [beq_eq_false_iff_ne]; omega
 clear hv hb hk hzz hc3 hR hdl
 go_enter Tryz.func145,Tryz.ntmps145
 go_wp2_with fail
 refine (Z5g k _).mono ?_
 rw [HS.out]
 rintro r w1 ⟨rfl,hk1⟩
 have HVB :=Hd (hk1.at (heap_alloc_last w (odB od0)) (fun h =>h))
 have HK1 :=Hd hk1
 clear hk1
 by_cases hcn:cap=i+1
 all_goals
  go_wp2_with fail
  refine (Zfp _ _ _ _ rfl _).mono ?_
  rintro r w2 ⟨rfl,hw2⟩
  have HOD:Hid (w2.heap[w1.heap.size]? = some (odB ⟨k,0,0,0⟩)) :=Hd (hw2 ▸ Z02 (heap_alloc_last w1 _) _)
  have HK2:Hid (Z00 (w.alloc (odB od0)) w2) :=Hd (hw2 ▸ (HK1.out.alloc _).alloc _)
  have HRD:Hid (RD w2 (w1.heap.size+1) w.heap.size R) :=Hd (by
   rw [hw2]
   first
    | (have hh :=HD.out _ (.inr ⟨rfl,hcn⟩); exact Zp6 (n :=l.length - (i+1)) (cap :=0) (by simpa [hcn] using hh.1) (by have :=hh.2; omega) HDL.out.symm (((Mods.refl (fun _ =>False) w).alloc _).keep HK1.out) hlt)
    | (have hh :=HD.out _ (.inl rfl); exact Zp6 hh.1 hh.2 HDL.out.symm (((Mods.refl (fun _ =>False) w).alloc _).keep HK1.out) hlt))
  have hs12:(w1.alloc (odB ⟨k,0,0,0⟩)).heap.size=w1.heap.size+1 :=by simp
  rw [hs12]
  have hs01:w.heap.size<w1.heap.size :=Z0a HVB.out
  have HVB2 :=Hd (HK2.out.at (heap_alloc_last w (odB od0)) fun h =>h)
  clear hw2 hs12
  generalize w1.heap.size=g at *
  go_wp2_with fail
  refine (HOPS.out _).mono ?_
  rintro r w3 ⟨bo,rfl,hk3,hbo⟩
  have HOD :=Hd (hk3.at HOD.out fun h =>h)
  have HRD :=Hd (HRD.out.keeps hk3)
  have HVB3 :=Hd (hk3.at HVB2.out fun h =>h)
  have HK3 :=Hd (HK2.out.keep hk3)
  have HBO :=Hd hbo
  have NBO:Hid (¬ TwoB g (g+1) bo) :=Hd (by
   have h1 :=HOD.out
   obtain ⟨_,_,_,h2,_⟩ :=HRD.out
   rintro (e | e)
   ·subst e
    rw [hbo] at h1
    simp at h1
   ·subst e
    rw [hbo] at h2
    simp at h2
    )
  clear hk3 hbo
  go_wp2_with fail
  go_loopw [61] (fun ii wr => ∃ j:Nat,j≤cs.length∧ii = .int .i64 j∧wr.heap[g]? = some (odB (Z4m (cs.take j) ⟨k,0,0,0⟩ R))∧RD wr (g+1) w.heap.size (R.drop (sumZ (cs.take j)))∧Mods (TwoB g (g+1)) w3 wr) (fun ii _ =>cs.length - (intOf ii).toNat)
  case atStart =>exact ⟨0,Nat.zero_le _,rfl,by rw [HF0.out]; exact HOD.out,HRD.out,Mods.refl _ _⟩
  case round =>
   obtain ⟨j,hj,rfl,hod,hrd,hm⟩ :=hrel
   have HODJ :=Hd hod
   have HRDJ :=Hd hrd
   have HM :=Hd hm
   by_cases hj2:j<cs.length
   ·have hbo :=hm.at HBO.out NBO.out
    obtain ⟨y0,y1,y2⟩ :=Zes hbo j hj2
    have hc3 :=HC3.out cs[j] (List.getElem_mem hj2)
    have hcs :=Zqr cs[j] hc3
    have HFJ :=Hd (HFT.out j hj2)
    have htk :=HTK.out j hj2
    have htl :=HTL.out (j+1)
    have hzc :=Zj9 cs[j]
    have hdr:R.drop (sumZ (cs.take (j+1)))=(R.drop (sumZ (cs.take j))).drop (szO cs[j]) :=by rw [htk,List.drop_drop]
    have HDR :=Hd hdr
    have HBY :=Hd (HBR.out.drop (sumZ (cs.take j)))
    have hle:szO cs[j]≤(R.drop (sumZ (cs.take j))).length :=by rw [List.length_drop,HDL.out]; have :=HLB.out; omega
    have hbw :=cell_lt y0
    have hg3 :=Z0a hod
    have hg4 :=RD.lt hrd
    have HC3J :=Hd hc3
    generalize hQ:R.drop (sumZ (cs.take j))=Q at *
    generalize Z4m (cs.take j) ⟨k,0,0,0⟩ R=OD at *
    generalize cs[j]=c at *
    generalize szO c=zc at *
    clear hod hrd hm htk htl hdr hQ hbo hc3
    go_wp2_with fail
    rename World =>wq
    obtain ⟨wb,hwb⟩:∃ wb,wb=wq.alloc (.cells #[.int .i64 (zc:Int), .func (.func (gF c)) #[] #[], .func (.func (sF c)) #[] #[]] 248) :=⟨_,rfl⟩
    have HKB :=Hd (show Z00 wq wb from hwb ▸ (Mods.refl _ wq).alloc _)
    have hbx:wb.heap[wq.heap.size]? = some (.cells #[.int .i64 (zc:Int), .func (.func (gF c)) #[] #[], .func (.func (sF c)) #[] #[]] 248 (0,0)) :=hwb ▸ heap_alloc_last wq _
    have p0:wb.cell? ⟨wq.heap.size,0,none⟩=some (.int .i64 (zc:Int)) :=by simp [World.cell?,hbx]
    have p2:wb.cell? ⟨wq.heap.size,2,none⟩=some (.func (.func (sF c)) #[] #[]) :=by simp [World.cell?,hbx]
    have HODB :=Hd (HKB.out.at HODJ.out fun h =>h)
    have HRDB :=Hd (HRDJ.out.keeps HKB.out)
    rw [← hwb]
    clear hwb hbx y0 y1 y2
    go_region_held3 (fun w' =>w'.cell? ⟨wq.heap.size,0,none⟩=some (.int .i64 (zc:Int))∧w'.cell? ⟨wq.heap.size,2,none⟩=some (.func (.func (sF c)) #[] #[]))
     (first
      | (simp [p0,p2]; done)
      | (refine Zij (S :=fun i =>i=g+1) p0 p2 ?_ (by omega); assumption)
      | (refine Zij (S :=TwoB g (g+1)) p0 p2 ?_ (by unfold TwoB; omega); assumption))
     (first
      | (go_at_call 223; refine (Zep (g+1) w.heap.size Q zc _ (HRDB.out.keeps ((Mods.refl _ wb).drew)) HBY.out hle (by omega) (by omega)).mono ?_; rintro e w5 ⟨rfl,hrd5,hm5⟩; have hm5':Mods (fun i =>i=g+1) wb w5 :=((Mods.refl _ wb).drew).trans hm5)
      | (refine (Zi8 c HC3J.out OD g _ _ (Mods.at (S :=fun i =>i=g+1) (by assumption) HODB.out (by omega))).mono ?_; rintro e w6 ⟨rfl,hod6,hm6⟩; have hF :=Zk3 (by assumption) (by assumption) (by omega) hod6 hm6; have hm6' :=hF.2.2))
    have HFIN :=Hd (show _∧RD _ (g+1) w.heap.size _∧Mods (TwoB g (g+1)) wb _ from by assumption)
    clear p0 p2
    go_wp2
    go_roundw
    case rel =>exact ⟨j+1,by omega,by go_num,by rw [HFJ.out]; exact HFIN.out.1,by rw [HDR.out]; exact HFIN.out.2.1,(HM.out.keep HKB.out).trans HFIN.out.2.2⟩
    case measure =>simp [intOf]; omega
   ·have e:j=cs.length :=by omega
    subst e
    rw [HF1.out] at HODJ
    have HVBR :=Hd (hm.at HVB3.out (by unfold TwoB; omega))
    have HKR:Hid (Mods (TwoB g (g+1)) (w.alloc (odB od0)) wr) :=Hd ((Mods.weaken HK3.out fun _ _ h =>h.elim).trans hm)
    obtain ⟨OD,hE⟩:∃ OD,Z4m cs ⟨k,0,0,0⟩ R=OD :=⟨_,rfl⟩
    rw [hE] at HODJ
    obtain ⟨okd,oix,otg,oam⟩ :=OD
    have HE :=Hd hE
    clear hE
    have HZ2 :=HZ.out
    clear hod hrd hm
    obtain ⟨q0,q1,q2,q3⟩ :=Z2q HODJ.out
    simp only at q0 q1 q2 q3
    have hgw :=Z0a HODJ.out
    have hww :=Z0a HVBR.out
    have hgw2:g≠w.heap.size :=by omega
    go_wp2_with fail
    go_region_held3 (fun w' =>w'.cell? ⟨g,0,none⟩=some (.int .i64 okd)∧w'.cell? ⟨g,1,none⟩=some (.int .i64 oix)∧w'.cell? ⟨g,2,none⟩=some (.int .i64 otg)∧w'.cell? ⟨g,3,none⟩=some (.int .u64 oam))
     (first
      | (simp [q0,q1,q2,q3]; done)
      | (refine Zk2 (S :=fun _ =>False) q0 q1 q2 q3 ?_ (fun h =>h); assumption)
      | (refine Zk2 (S :=fun i =>i=w.heap.size) q0 q1 q2 q3 (Zi9 ?_ _ _ _ _ _) hgw2; assumption))
     (first
      | (go_at_call 195; refine (Z5g k _).mono ?_; rw [HS.out]; rintro e w6 ⟨rfl,hk6⟩; have hk6':Z00 wr w6 :=((Mods.refl _ wr).drew).keep hk6; have hv :=hk6'.at HVBR.out (fun h =>h); obtain ⟨t0,t1,t2,t3⟩ :=Z2q hv; have f0 :=Z2h hv 0; have f1 :=Z2h hv 1; have f2 :=Z2h hv 2; have f3 :=Z2h hv 3; have hwl :=Z0a hv))
    have hwr:IntKind.i64.wrap ((i:Int)+(z:Int))=(i:Int)+(z:Int) :=Zhq (by omega) (by omega)
    rw [hwr]
    have FIN :=Hd (Zko (w :=w) HKR.out (by omega) (show Z00 wr _ from by assumption) HVBR.out okd oix otg oam)
    clear q0 q1 q2 q3 hwr
    go_wp2
    obtain ⟨W,hW,hb1,hb2⟩ :=FIN.out
    rw [← hW]
    obtain ⟨s0,s1,s2,s3⟩ :=Z2q hb1
    simp only at s0 s1 s2 s3
    exact bodyPost_ret (v := .tuple #[Od.val ⟨okd,oix,otg,oam⟩, .int .i64 ((i+z:Nat):Int), .bool true]) (by simp [results,Tryz.results145,go_sem,s0,s1,s2,s3]) rfl ⟨by rw [HE.out],hb2⟩
end Go.Proofs.YtecapfmmoejikaaGreat
namespace Go.Eg
open Go Go.RowKit
def decR (l:List Int) (i:Int):Od × Int × Bool :=
 if i<0∨(l.length:Int)≤i then (od0,0,false)
 else match opsOf (l.getD i.toNat 0) with
  | none =>(od0,i+1,true)
  | some cs =>if (l.length:Int) - i<((1+sumZ cs:Nat):Int) then (od0,(l.length:Int),true) else (Z4m cs ⟨l.getD i.toNat 0,0,0,0⟩ (l.drop (i.toNat+1)),i+((1+sumZ cs:Nat):Int),true)
def eqOd (a b:Od):Bool :=a.kd == b.kd && (a.ix == b.ix && (a.tg == b.tg && a.am == b.am))
def Zcy (o:Od):Bool :=match opsOf o.kd with
 | none =>false
 | some cs =>eqOd (Z4m cs ⟨o.kd,0,0,0⟩ (Z4e o cs)) o
theorem Zgw (x:Int) (n:Nat):Bytes (bigL x n) :=by
 intro y hy
 simp only [bigL,List.mem_map] at hy
 obtain ⟨j,_,rfl⟩ :=hy
 omega
theorem Zea (o:Od) (cs:List Nat):Bytes (Z4e o cs) :=by
 intro y hy
 unfold Z4e at hy
 obtain ⟨c,_,h⟩ :=List.mem_flatMap.1 hy
 exact Zgw _ _ y h
end Go.Eg
namespace Go.Proofs.YtecapfmmoejikaaGreat
open Go.RowKit Go.Eg
theorem decode_any (v:Value) (l:List Int) (i:Int) (w:World) (hv:BL w v l) (hb:Bytes l) (h64:l.length≤4294967296) :
 Calls Tryz.prog 145 #[v, .int .i64 i] w fun r w' =>r = .returned (.tuple #[(decR l i).1.val, .int .i64 (decR l i).2.1, .bool (decR l i).2.2])∧Z00 w w' :=by
 unfold decR
 by_cases h:i<0∨(l.length:Int)≤i
 ·rw [if_pos h]
  exact Znr v l i w hv h
 ·rw [if_neg h]
  obtain ⟨n,rfl⟩:∃ n:Nat,i=n :=⟨i.toNat,by omega⟩
  have hn:n<l.length :=by omega
  have e:l.getD n 0=l[n] :=by simp [hn]
  rw [Int.toNat_natCast,e]
  cases hk:opsOf l[n] with
  | none =>exact Zky v l n w hv hb hn h64 hk
  | some cs =>
   simp only
   by_cases hs:(l.length:Int) - n<((1+sumZ cs:Nat):Int)
   ·rw [if_pos hs]
    exact Zjk v l cs n w hv hb hn hk hs
   ·rw [if_neg hs]
    refine (Zk7 v l cs n w hv hb hn h64 hk (by omega)).mono fun r w' ⟨hr,hm⟩ =>⟨?_,hm⟩
    rw [hr]
    push_cast
    rfl
theorem eqO (v o:Od) (w:World):(binOp .eql 34 v.val o.val).run Tryz.prog w = .ok (.bool (eqOd v o)) w :=by
 obtain ⟨a0,a1,a2,a3⟩ :=v
 obtain ⟨b0,b1,b2,b3⟩ :=o
 unfold eqOd
 simp only
 go_simp
 by_cases h0:a0=b0 <;> by_cases h1:a1=b1 <;> by_cases h2:a2=b2 <;> by_cases h3:a3=b3 <;> simp [h0,h1,h2,h3]
theorem eqgO (x y:Operand) (v o:Od) (w:World):(eqGuard .eql 34 x y v.val o.val).run Tryz.prog w = .ok () w :=by
 go_simp
theorem Zgd {ops:Array Oper} {rest:List Oper} {o:Oper} {a:Act} {w:World} {Q:Exit→Act→World→Prop} (hg:Region.wanted o (yielded ops a.tmps)=true) (x y:Operand) (t2:TypeId) (ho:o.op = .binOp .eql 34 x y t2) (v u:Od) (hx:a.eval x=v.val) (hy:a.eval y=u.val)
 (h:wpList Tryz.prog ops Q rest (a.put o.dst (.bool (eqOd v u))) w):wpList Tryz.prog ops Q (o :: rest) a w :=
 Z1f hg fun K hK =>by
  unfold Oper.wp execOp
  simp only [ho,hx,hy,Sem.run_bind,eqgO,eqO,Result.andThen_ok,Sem.run_pure]
  exact hK _ _ h
theorem Zhs {o:Od} {cs:List Nat} (h:opsOf o.kd=some cs):decR (Z24 o cs) 0=(Z4m cs ⟨o.kd,0,0,0⟩ (Z4e o cs),((1+sumZ cs:Nat):Int),true) :=by
 obtain ⟨_,_,hk1,hk7,_⟩ :=Z2w h
 have e0:(Z24 o cs).getD 0 0=o.kd :=by show o.kd % 256=o.kd; omega
 have el:(Z24 o cs).length=1+sumZ cs :=by unfold Z24; rw [List.length_cons,Z6t]; omega
 have ed:(Z24 o cs).drop 1=Z4e o cs :=rfl
 unfold decR
 rw [if_neg (by rw [el]; omega)]
 simp only [Int.toNat_zero,e0,h]
 rw [if_neg (by rw [el]; omega)]
 simp [ed]
theorem Zcc (o:Od) (cs:List Nat):Bytes (Z24 o cs) :=by
 intro y hy
 rcases List.mem_cons.1 hy with h | h
 ·subst h; omega
 ·exact Zea o cs y h
theorem Zdh (o:Od) (w:World) (ho:o.ok):Calls Tryz.prog 100 #[o.val] w fun r w' =>r = .returned (.bool (Zcy o))∧Z00 w w' :=by
 unfold Zcy
 cases hk:opsOf o.kd with
 | none =>
  have HW :=Hd (fun w =>Zgm o w hk)
  obtain ⟨kd,ix,tg,am⟩ :=o
  clear hk
  go_enter Tryz.func100,Tryz.ntmps100
  go_wp2_with fail
  refine (HW.out _).mono ?_
  rintro r w1 ⟨rfl,hk1⟩
  have HK1 :=Hd (((Mods.refl (fun _ =>False) w).alloc _).keep hk1)
  clear hk1
  go_wp2
  go_ret
  exact ⟨rfl,HK1.out⟩
 | some cs =>
  have HW :=Hd (fun w =>write_any o cs w hk ho)
  have hd :=Zhs hk
  have HB :=Hd (Zcc o cs)
  have hel:(Z24 o cs).length≤20 :=by
   obtain ⟨_,_,_,_,hz⟩ :=Z2w hk
   unfold Z24
   rw [List.length_cons,Z6t]
   omega
  simp only
  generalize Z4m cs ⟨o.kd,0,0,0⟩ (Z4e o cs)=P at *
  generalize Z24 o cs=WB at *
  have HD :=Hd hd
  obtain ⟨kd,ix,tg,am⟩ :=o
  obtain ⟨pk,pi,pt,pa⟩ :=P
  clear hk hd
  go_enter Tryz.func100,Tryz.ntmps100
  go_wp2_with fail
  refine (HW.out _).mono ?_
  rintro r w1 ⟨v,rfl,hbo,hk1⟩
  have hvb :=hk1.at (heap_alloc_last w (odB ⟨kd,ix,tg,am⟩)) (fun h =>h)
  have HVB :=Hd hvb
  have HK1 :=Hd (((Mods.refl (fun _ =>False) w).alloc _).keep hk1)
  have HBL :=Hd hbo.bl
  obtain ⟨va,vc,rfl⟩ :=hbo.slice
  clear hk1 hbo hvb
  go_wp2_with fail
  refine (decode_any _ WB 0 w1 HBL.out HB.out (by omega)).mono ?_
  rw [HD.out]
  rintro r w2 ⟨rfl,hk2⟩
  have HK2 :=Hd (HK1.out.keep hk2)
  obtain ⟨c0,c1,c2,c3⟩ :=Z2q (hk2.at HVB.out fun h =>h)
  simp only at c0 c1 c2 c3
  have hlt :=cell_lt c0
  clear hk2
  go_wp2_with ((with_reducible refine Z1a ?_); refine Zgd rfl (.tmp 21) (.tmp 22) _ rfl ⟨pk,pi,pt,pa⟩ ⟨kd,ix,tg,am⟩ rfl rfl ?_)
  go_wp2
  go_ret
  exact ⟨rfl,HK2.out.alloc _⟩
end Go.Proofs.YtecapfmmoejikaaGreat
namespace Go.Eg
open Go Go.RowKit
end Go.Eg
namespace Go.Proofs.YtecapfmmoejikaaGreat
open Go.RowKit Go.Eg
theorem Zcs (o:Od) (cs:List Nat) (w:World) (ho:o.ok) (hk:opsOf o.kd=some cs) (h:Zcy o=true):Calls Tryz.prog 61 #[o.val] w fun r w' => ∃ v,r = .returned (.tuple #[v, .bool true])∧BO w.heap.size w' v (Z24 o cs)∧Z00 w w' :=by
 have HV :=Hd (fun w =>Zdh o w ho)
 have HW :=Hd (fun w =>write_any o cs w hk ho)
 rw [h] at HV
 generalize Z24 o cs=WB at *
 obtain ⟨kd,ix,tg,am⟩ :=o
 clear h ho hk
 go_enter Tryz.func61,Tryz.ntmps61
 go_wp2_with fail
 refine (HV.out _).mono ?_
 rintro r w1 ⟨rfl,hk1⟩
 have HK1 :=Hd (((Mods.refl (fun _ =>False) w).alloc (odB ⟨kd,ix,tg,am⟩)).keep hk1)
 have hvb :=hk1.at (heap_alloc_last w (odB ⟨kd,ix,tg,am⟩)) (fun h =>h)
 obtain ⟨c0,c1,c2,c3⟩ :=Z2q hvb
 simp only at c0 c1 c2 c3
 clear hk1 hvb
 go_wp2_with fail
 refine (HW.out _).mono ?_
 rintro r w2 ⟨v,rfl,hbo,hk2⟩
 have HK2 :=Hd (HK1.out.keep hk2)
 have HBO :=Hd (hbo.base HK1.out.size)
 obtain ⟨va,vc,rfl⟩ :=hbo.slice
 clear hk2 hbo
 go_wp2
 go_ret2
 exact ⟨_,rfl,HBO.out,HK2.out⟩
end Go.Proofs.YtecapfmmoejikaaGreat
