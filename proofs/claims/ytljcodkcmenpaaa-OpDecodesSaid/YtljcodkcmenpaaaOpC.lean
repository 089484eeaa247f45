/- Byte lists: big, append, write. -/
import Derived.Test.YtljcodkcmenpaaaOpB
import Derived.Deep.AppendLies
namespace Go.Eg
open Go Go.RowKit
def bV (l : List Int) : List Value := l.map fun x => Value.int .u8 x
theorem bV_len (l : List Int) : (bV l).length = l.length := by simp [bV]
theorem bV_app (a b : List Int) : bV (a ++ b) = bV a ++ bV b := by simp [bV]
theorem bV_one (l : List Int) : ∀ u ∈ bV l, u.oneCell' = true := by
  intro u hu
  simp only [bV, List.mem_map] at hu
  obtain ⟨x, _, rfl⟩ := hu
  rfl
/-- the slice v holds the bytes l -/
def BL (w : World) (v : Value) (l : List Int) : Prop :=
  ∃ a cap, v = .slice a l.length cap ∧ l.length ≤ cap ∧ (a = none → cap = 0) ∧ (0 < l.length → ∃ b off, a = some ⟨b, off, none⟩ ∧ ∀ i (hi : i < l.length), w.cell? ⟨b, off + i, none⟩ = some (.int .u8 l[i]))
theorem BL.keeps {a b : World} {v : Value} {l : List Int} (h : BL a v l) (hm : Keeps a b) : BL b v l := by
  obtain ⟨p, cap, rfl, hc, h0, hx⟩ := h
  refine ⟨p, cap, rfl, hc, h0, fun hl => ?_⟩
  obtain ⟨g, off, rfl, hc⟩ := hx hl
  exact ⟨g, off, rfl, fun i hi => hm.cell (hc i hi) fun h => h⟩
theorem BL.slice {w : World} {v : Value} {l : List Int} (h : BL w v l) : ∃ a cap, v = .slice a l.length cap := by
  obtain ⟨a, cap, h, _⟩ := h
  exact ⟨a, cap, h⟩
theorem BL.of_owns {w : World} {B n : Nat} {e : TypeId} {v : Value} {l : List Int} (h : w.ownsRow B e 1 v n (bV l)) (hn : n = l.length) : BL w v l := by
  subst hn
  rcases h.2 with ⟨rfl, h0⟩ | ⟨b, cap, cur, rfl, hg, hh, hc, r⟩
  · exact ⟨none, 0, by rw [h0], by omega, fun _ => rfl, fun hl => by omega⟩
  · refine ⟨_, cap, rfl, hc, (fun h => by cases h), fun hl => ⟨b, 0, rfl, fun i hi => ?_⟩⟩
    rw [Nat.zero_add, h.cellAt i (by omega)]
    simp [bV, hi]
theorem BL.nil (w : World) : BL w (.slice none 0 0) [] := ⟨none, 0, rfl, Nat.le_refl _, fun _ => rfl, fun h => by simp at h⟩
theorem BL.at {w : World} {a : Option Addr} {cap : Nat} {l : List Int} (h : BL w (.slice a l.length cap) l) (i : Nat) (hi : i < l.length) : ∃ b off, a = some ⟨b, off, none⟩ ∧ w.cell? ⟨b, off + i, none⟩ = some (.int .u8 l[i]) := by
  obtain ⟨a', c, e, _, _, hx⟩ := h
  simp only [Value.slice.injEq] at e
  obtain ⟨rfl, _, rfl⟩ := e
  obtain ⟨b, off, rfl, hc⟩ := hx (by omega)
  exact ⟨b, off, rfl, hc i hi⟩
theorem BL.news {w : World} {b off cap n : Nat} {l : List Int} (h : BL w (.slice (some ⟨b, off, none⟩) n cap) l) : ∀ j u, (bV l)[j]? = some u → w.cell? ((⟨b, off, none⟩ : Addr).add j) = some u := by
  intro j u hu
  have hj : j < l.length := by have := (List.getElem?_eq_some_iff.1 hu).1; rw [bV_len] at this; exact this
  obtain ⟨a, c, e, _, _, hx⟩ := h
  simp only [Value.slice.injEq] at e
  obtain ⟨rfl, _, rfl⟩ := e
  obtain ⟨b', off', e, hc⟩ := hx (by omega)
  simp only [Option.some.injEq, Addr.mk.injEq, and_true] at e
  obtain ⟨rfl, rfl⟩ := e
  rw [addr_add, hc j hj, ← hu]
  simp [bV, hj]
def bigL (x : Int) (n : Nat) : List Int := (List.range n).map fun j => x / 2 ^ (8 * (n - 1 - j)) % 256
theorem bigL_len (x : Int) (n : Nat) : (bigL x n).length = n := by simp [bigL]
theorem bigL_take {x : Int} {n j : Nat} (h : j < n) : (bigL x n).take (j + 1) = (bigL x n).take j ++ [x / 2 ^ (8 * (n - 1 - j)) % 256] := by
  rw [List.take_succ_eq_append_getElem (by rw [bigL_len]; exact h)]
  simp [bigL]
def bodyB (o : Od) (cs : List Nat) : List Int := cs.flatMap fun c => bigL (getO c o) (szO c)
def writeB (o : Od) (cs : List Nat) : List Int := o.kd % 256 :: bodyB o cs
theorem bodyB_take {o : Od} {cs : List Nat} {j : Nat} (h : j < cs.length) : bodyB o (cs.take (j + 1)) = bodyB o (cs.take j) ++ bigL (getO cs[j] o) (szO cs[j]) := by
  unfold bodyB
  rw [List.take_succ_eq_append_getElem h, List.flatMap_append, List.flatMap_cons, List.flatMap_nil, List.append_nil]
theorem bodyB_len (o : Od) (cs : List Nat) : (bodyB o cs).length = sumZ cs := by
  unfold bodyB
  induction cs with
  | nil => rfl
  | cons c r ih => rw [List.flatMap_cons, List.length_append, ih, bigL_len]; rfl
structure Od.ok (o : Od) : Prop where
  k : (Lit.int .i64 o.kd).wf = true
  i : (Lit.int .i64 o.ix).wf = true
  t : (Lit.int .i64 o.tg).wf = true
  a : 0 ≤ o.am ∧ o.am ≤ 18446744073709551615
theorem getO_range {o : Od} (h : o.ok) (c : Nat) : 0 ≤ getO c o ∧ getO c o ≤ 18446744073709551615 := by
  unfold getO
  split
  · rw [IntKind.wrap_u64]; omega
  · split
    · rw [IntKind.wrap_u64]; omega
    · exact h.a
end Go.Eg
namespace Go.Proofs.Ytljcodkcmenpaaa
open Go.RowKit Go.Eg
theorem infoB : (Try.prog.info? 5).map (fun i => (i.zero, i.size, i.bytes)) = some (some (Value.int .u8 0), 1, 1) := by kernel_rfl
abbrev BO (B : Nat) (w : World) (v : Value) (l : List Int) : Prop := w.ownsRow B 5 1 v l.length (bV l)
theorem BO.bl {B : Nat} {w : World} {v : Value} {l : List Int} (h : BO B w v l) : BL w v l := BL.of_owns h rfl
/-- one byte appended -/
theorem append1 {ops : Array Oper} {rest : List Oper} {o : Oper} {a : Act} {Q : Exit → Act → World → Prop} (w : World) (hgd : o.guard = none) (s x : Operand)
    (ho : o.op = .call { callee := .builtin .append, args := #[s, x], argTypes := #[25, 25] })
    (B : Nat) (v : Value) (l : List Int) (y : Int) (hs : a.eval s = v) (hown : BO B w v l) (hx : a.eval x = .slice (some ⟨w.heap.size, 0, none⟩) 1 1) (hn : l.length ≤ 8192) (hB : B ≤ w.heap.size)
    (h : ∀ v' w', BO B w' v' (l ++ [y]) → (w.alloc (.cells #[.int .u8 y] 5)).grownBy w' v.ownBlock → wpList Try.prog ops Q rest (a.put o.dst v') w') : wpList Try.prog ops Q (o :: rest) a (w.alloc (.cells #[.int .u8 y] 5)) := by
  obtain ⟨i0, hi, hz0, hz1, hz2⟩ := info_parts infoB
  refine wpList_append_own _ hgd s x 25 ho B 5 i0 (.int .u8 0) 1 1 Try.underlying25 hi hz0 hz1 hz2 rfl (by decide) v l.length (bV l) hs (hown.alloc _) ⟨w.heap.size, 0, none⟩ 1 1 [.int .u8 y] hx rfl (World.news_of_block (heap_alloc_last w (.cells #[.int .u8 y] 5))) (fun u hu => by simp at hu; subst hu; rfl) (by unfold maxLen; omega) (by omega) (by simp; omega) ?_
  intro v' w' h1 h2 _
  refine h v' w' ?_ h2
  show w'.ownsRow B 5 1 v' (l ++ [y]).length (bV (l ++ [y]))
  rw [bV_app, List.length_append]
  exact h1
theorem grown_keeps {w w' : World} {o : Obj} {B : Nat} {v : Value} {l : List Int} (hown : BO B w v l) {w0 : World} (hk : Keeps w0 w) (hB : w0.heap.size ≤ B) (hg : (w.alloc o).grownBy w' v.ownBlock) : Keeps w0 w' :=
  (hk.alloc o).grown hg fun j hj e => by have := (hown.lt j e).1; omega
set_option maxHeartbeats 400000 in
theorem big_any (x : Int) (n : Nat) (w : World) (_h0 : 0 ≤ x) (_h1 : x ≤ 18446744073709551615) (hn : n ≤ 8) :
    Calls Try.prog 27 #[.int .u64 x, .int .i64 (n : Int)] w fun r w' => ∃ v, r = .returned v ∧ BO w.heap.size w' v (bigL x n) ∧ Keeps w w' := by
  go_enter Try.func27, Try.ntmps27
  go_wp2_with fail
  go_loopw [5, 6] (fun s i wr => ∃ j : Nat, j ≤ n ∧ i = .int .i64 ((n : Int) - 1 - j) ∧ BO w.heap.size wr s ((bigL x n).take j) ∧ Keeps w wr) (fun _ i _ => (1 + intOf i).toNat)
  case atStart => exact ⟨0, Nat.zero_le _, by go_num, World.ownsRow_nil _ _ _ _, Mods.refl _ _⟩
  case round =>
    obtain ⟨j, hj, rfl, hown, hm⟩ := hrel
    have HM := Lib.hid hm
    have HO := Lib.hid hown
    by_cases hlt : j < n
    · have HT := Lib.hid (bigL_take (x := x) hlt)
      have hlen : ((bigL x n).take j).length ≤ 8 := by rw [List.length_take, bigL_len]; omega
      have HSZ := Lib.hid hm.size
      clear hm hown
      go_wp2_with (at_builtin; refine append1 wr rfl (.tmp 13) (.tmp 19) rfl w.heap.size _ _ _ rfl HO.out rfl (by omega) HSZ.out ?_)
      intro v' w' ho' hg'
      have HO' := Lib.hid ho'
      have HK' := Lib.hid (grown_keeps HO.out HM.out (Nat.le_refl _) hg')
      clear ho' hg'
      go_wp2
      go_roundw
      case rel => exact ⟨j + 1, by omega, by go_num, by rw [HT.out]; exact HO'.out, HK'.out⟩
      case measure => simp [intOf]; omega
    · have e : j = n := by omega
      subst e
      have HO2 : Hid (BO w.heap.size wr u5 (bigL x j)) := Lib.hid (by
        have h := hown
        rw [List.take_of_length_le (by rw [bigL_len]; exact Nat.le_refl _)] at h
        exact h)
      rcases hown.2 with ⟨rfl, _⟩ | ⟨g, cap, cur, rfl, _⟩
      all_goals
        clear hm hown
        go_wp2
        go_ret
        exact ⟨_, rfl, HO2.out, HM.out⟩
end Go.Proofs.Ytljcodkcmenpaaa
