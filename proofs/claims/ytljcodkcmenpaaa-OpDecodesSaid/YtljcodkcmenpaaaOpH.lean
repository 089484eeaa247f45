/- Decode as one; Valid, Encode; what is valid: plain mathematics. -/
import Derived.Test.YtljcodkcmenpaaaOpG
namespace Go.Eg
open Go Go.RowKit
def decR (l : List Int) (i : Int) : Od × Int × Bool :=
  if i < 0 ∨ (l.length : Int) ≤ i then (od0, 0, false)
  else match opsOf (l.getD i.toNat 0) with
    | none => (od0, i + 1, true)
    | some cs => if (l.length : Int) - i < ((1 + sumZ cs : Nat) : Int) then (od0, (l.length : Int), true) else (fillD cs ⟨l.getD i.toNat 0, 0, 0, 0⟩ (l.drop (i.toNat + 1)), i + ((1 + sumZ cs : Nat) : Int), true)
def eqOd (a b : Od) : Bool := a.kd == b.kd && (a.ix == b.ix && (a.tg == b.tg && a.am == b.am))
theorem eqOd_iff (a b : Od) : eqOd a b = true ↔ a = b := by
  obtain ⟨a0, a1, a2, a3⟩ := a
  obtain ⟨b0, b1, b2, b3⟩ := b
  simp [eqOd]
def validO (o : Od) : Bool := match opsOf o.kd with
  | none => false
  | some cs => eqOd (fillD cs ⟨o.kd, 0, 0, 0⟩ (bodyB o cs)) o
def idxOk (n : Int) (b : Bool) : Bool := n == 0 || (b && (decide (0 < n) && decide (n ≤ 65535)))
def validR (o : Od) : Bool := match opsOf o.kd with
  | none => false
  | some cs => idxOk o.ix (cs.contains 0) && (idxOk o.tg (cs.contains 1) && (o.am == 0 || cs.contains 2))
theorem bigL_bytes (x : Int) (n : Nat) : Bytes (bigL x n) := by
  intro y hy
  simp only [bigL, List.mem_map] at hy
  obtain ⟨j, _, rfl⟩ := hy
  omega
theorem bodyB_bytes (o : Od) (cs : List Nat) : Bytes (bodyB o cs) := by
  intro y hy
  unfold bodyB at hy
  obtain ⟨c, _, h⟩ := List.mem_flatMap.1 hy
  exact bigL_bytes _ _ y h
theorem val2 (x : Int) (_h0 : 0 ≤ x) : valL (bigL x 2) = x % 65536 := by
  have : bigL x 2 = [x / 256 % 256, x / 1 % 256] := by simp [bigL, List.range_succ]
  rw [this]
  simp only [valL, List.foldl_cons, List.foldl_nil]
  omega
theorem val8 (x : Int) (h0 : 0 ≤ x) (h1 : x ≤ 18446744073709551615) : valL (bigL x 8) = x := by
  have : bigL x 8 = [x / 72057594037927936 % 256, x / 281474976710656 % 256, x / 1099511627776 % 256, x / 4294967296 % 256, x / 16777216 % 256, x / 65536 % 256, x / 256 % 256, x / 1 % 256] := by simp [bigL, List.range_succ]
  rw [this]
  simp only [valL, List.foldl_cons, List.foldl_nil]
  omega
theorem take_big (x : Int) (n : Nat) (r : List Int) : (bigL x n ++ r).take n = bigL x n ∧ (bigL x n ++ r).drop n = r := by
  have h := bigL_len x n
  constructor
  · rw [List.take_append_of_le_length (by omega), List.take_of_length_le (by omega)]
  · rw [List.drop_append_of_le_length (by omega), List.drop_of_length_le (by omega), List.nil_append]
theorem u64r (x : Int) : 0 ≤ IntKind.u64.wrap x ∧ IntKind.u64.wrap x ≤ 18446744073709551615 := by rw [IntKind.wrap_u64]; omega
theorem w64 {x : Int} (h0 : 0 ≤ x) (h1 : x < 65536) : wrap64 x = x := IntWalk.wrap64_in x ⟨by omega, by omega⟩
/-- what an operation reads as behind its encoding -/
theorem fill_body {o : Od} (ho : 0 ≤ o.am ∧ o.am ≤ 18446744073709551615) (k : Int) :
    (fillD [2] ⟨k, 0, 0, 0⟩ (bodyB o [2]) = ⟨k, 0, 0, o.am⟩) ∧
    (fillD [0] ⟨k, 0, 0, 0⟩ (bodyB o [0]) = ⟨k, IntKind.u64.wrap o.ix % 65536, 0, 0⟩) ∧
    (fillD [0, 1] ⟨k, 0, 0, 0⟩ (bodyB o [0, 1]) = ⟨k, IntKind.u64.wrap o.ix % 65536, IntKind.u64.wrap o.tg % 65536, 0⟩) ∧
    (fillD [0, 2] ⟨k, 0, 0, 0⟩ (bodyB o [0, 2]) = ⟨k, IntKind.u64.wrap o.ix % 65536, 0, o.am⟩) := by
  have s0 : szO 0 = 2 := rfl
  have s1 : szO 1 = 2 := rfl
  have s2 : szO 2 = 8 := rfl
  have g0 : getO 0 o = IntKind.u64.wrap o.ix := rfl
  have g1 : getO 1 o = IntKind.u64.wrap o.tg := rfl
  have g2 : getO 2 o = o.am := rfl
  have b : ∀ c r, bodyB o (c :: r) = bigL (getO c o) (szO c) ++ bodyB o r := fun c r => rfl
  have n : bodyB o [] = [] := rfl
  have e0 := val2 (IntKind.u64.wrap o.ix) (u64r _).1
  have e1 := val2 (IntKind.u64.wrap o.tg) (u64r _).1
  have e2 := val8 o.am ho.1 ho.2
  have x0 := w64 (x := IntKind.u64.wrap o.ix % 65536) (by omega) (by omega)
  have x1 := w64 (x := IntKind.u64.wrap o.tg % 65536) (by omega) (by omega)
  refine ⟨?_, ?_, ?_, ?_⟩ <;> simp only [fillD, b, n, s0, s1, s2, g0, g1, g2, (take_big _ _ _).1, (take_big _ _ _).2, e0, e1, e2, setO, x0, x1] <;> rfl
theorem idx_law {x : Int} (_h : (Lit.int .i64 x).wf = true) : (x = IntKind.u64.wrap x % 65536) ↔ (0 ≤ x ∧ x ≤ 65535) := by
  rw [IntKind.wrap_u64]
  omega
theorem valid_law {o : Od} (ho : o.ok) : validO o = validR o := by
  obtain ⟨f1, f2, f3, f4⟩ := fill_body ho.a o.kd
  have hi := idx_law ho.i
  have ht := idx_law ho.t
  obtain ⟨kd, ix, tg, am⟩ := o
  simp only at f1 f2 f3 f4 hi ht
  have ha := ho.a.1
  simp only at ha
  have key : ∀ a b : Bool, (a = true ↔ b = true) → a = b := fun a b h => by cases a <;> cases b <;> simp_all
  apply key
  unfold validO validR
  rcases opsOf_cases kd with ⟨e, g⟩ | ⟨e, g⟩ | ⟨e, g⟩ | ⟨e, g⟩ | ⟨e, g⟩ | ⟨e, g⟩ | ⟨e, g⟩ | ⟨_, _, _, _, _, _, _, g⟩
  all_goals
    simp only [g]
  · rw [f1, eqOd_iff]; simp [idxOk]; omega
  · rw [f2, eqOd_iff]; simp [idxOk]; omega
  · rw [f2, eqOd_iff]; simp [idxOk]; omega
  · rw [f2, eqOd_iff]; simp [idxOk]; omega
  · rw [f3, eqOd_iff]; simp [idxOk]; omega
  · rw [f4, eqOd_iff]; simp [idxOk]; omega
  · rw [show fillD [] ⟨kd, 0, 0, 0⟩ (bodyB ⟨kd, ix, tg, am⟩ []) = ⟨kd, 0, 0, 0⟩ from rfl, eqOd_iff]; simp [idxOk]; omega
end Go.Eg
namespace Go.Proofs.Ytljcodkcmenpaaa
open Go.RowKit Go.Eg
theorem decode_any (v : Value) (l : List Int) (i : Int) (w : World) (hv : BL w v l) (hb : Bytes l) (h64 : l.length ≤ 4294967296) :
    Calls Try.prog 16 #[v, .int .i64 i] w fun r w' => r = .returned (.tuple #[(decR l i).1.val, .int .i64 (decR l i).2.1, .bool (decR l i).2.2]) ∧ Keeps w w' := by
  unfold decR
  by_cases h : i < 0 ∨ (l.length : Int) ≤ i
  · rw [if_pos h]
    exact dec_neg v l i w hv h
  · rw [if_neg h]
    obtain ⟨n, rfl⟩ : ∃ n : Nat, i = n := ⟨i.toNat, by omega⟩
    have hn : n < l.length := by omega
    have e : l.getD n 0 = l[n] := by simp [hn]
    rw [Int.toNat_natCast, e]
    cases hk : opsOf l[n] with
    | none => exact dec_none v l n w hv hb hn h64 hk
    | some cs =>
      simp only
      by_cases hs : (l.length : Int) - n < ((1 + sumZ cs : Nat) : Int)
      · rw [if_pos hs]
        exact dec_short v l cs n w hv hb hn hk hs
      · rw [if_neg hs]
        refine (dec_full v l cs n w hv hb hn h64 hk (by omega)).mono fun r w' ⟨hr, hm⟩ => ⟨?_, hm⟩
        rw [hr]
        push_cast
        rfl
theorem eqO (v o : Od) (w : World) : (binOp .eql 24 v.val o.val).run Try.prog w = .ok (.bool (eqOd v o)) w := by
  obtain ⟨a0, a1, a2, a3⟩ := v
  obtain ⟨b0, b1, b2, b3⟩ := o
  unfold eqOd
  simp only
  go_simp
  by_cases h0 : a0 = b0 <;> by_cases h1 : a1 = b1 <;> by_cases h2 : a2 = b2 <;> by_cases h3 : a3 = b3 <;> simp [h0, h1, h2, h3]
theorem eqgO (x y : Operand) (v o : Od) (w : World) : (eqGuard .eql 24 x y v.val o.val).run Try.prog w = .ok () w := by
  go_simp
theorem wpList_eqO {ops : Array Oper} {rest : List Oper} {o : Oper} {a : Act} {w : World} {Q : Exit → Act → World → Prop} (hg : Region.wanted o (yielded ops a.tmps) = true) (x y : Operand) (t2 : TypeId) (ho : o.op = .binOp .eql 24 x y t2) (v u : Od) (hx : a.eval x = v.val) (hy : a.eval y = u.val)
    (h : wpList Try.prog ops Q rest (a.put o.dst (.bool (eqOd v u))) w) : wpList Try.prog ops Q (o :: rest) a w :=
  wpList_wanted hg fun K hK => by
    unfold Oper.wp execOp
    simp only [ho, hx, hy, Sem.run_bind, eqgO, eqO, Result.andThen_ok, Sem.run_pure]
    exact hK _ _ h
theorem writeB_dec {o : Od} {cs : List Nat} (h : opsOf o.kd = some cs) : decR (writeB o cs) 0 = (fillD cs ⟨o.kd, 0, 0, 0⟩ (bodyB o cs), ((1 + sumZ cs : Nat) : Int), true) := by
  obtain ⟨_, _, hk1, hk7, _⟩ := opsOf_small h
  have e0 : (writeB o cs).getD 0 0 = o.kd := by show o.kd % 256 = o.kd; omega
  have el : (writeB o cs).length = 1 + sumZ cs := by unfold writeB; rw [List.length_cons, bodyB_len]; omega
  have ed : (writeB o cs).drop 1 = bodyB o cs := rfl
  unfold decR
  rw [if_neg (by rw [el]; omega)]
  simp only [Int.toNat_zero, e0, h]
  rw [if_neg (by rw [el]; omega)]
  simp [ed]
theorem writeB_bytes (o : Od) (cs : List Nat) : Bytes (writeB o cs) := by
  intro y hy
  rcases List.mem_cons.1 hy with h | h
  · subst h; omega
  · exact bodyB_bytes o cs y h
set_option maxHeartbeats 400000 in
theorem opValid_any (o : Od) (w : World) (ho : o.ok) : Calls Try.prog 10 #[o.val] w fun r w' => r = .returned (.bool (validO o)) ∧ Keeps w w' := by
  unfold validO
  cases hk : opsOf o.kd with
  | none =>
    have HW := Lib.hid (fun w => write_none o w hk)
    obtain ⟨kd, ix, tg, am⟩ := o
    clear hk
    go_enter Try.func10, Try.ntmps10
    go_wp2_with fail
    refine (HW.out _).mono ?_
    rintro r w1 ⟨rfl, hk1⟩
    have HK1 := Lib.hid (((Mods.refl (fun _ => False) w).alloc _).keep hk1)
    clear hk1
    go_wp2
    go_ret
    exact ⟨rfl, HK1.out⟩
  | some cs =>
    have HW := Lib.hid (fun w => write_any o cs w hk ho)
    have hd := writeB_dec hk
    have HB := Lib.hid (writeB_bytes o cs)
    have hel : (writeB o cs).length ≤ 20 := by
      obtain ⟨_, _, _, _, hz⟩ := opsOf_small hk
      unfold writeB
      rw [List.length_cons, bodyB_len]
      omega
    simp only
    generalize fillD cs ⟨o.kd, 0, 0, 0⟩ (bodyB o cs) = P at *
    generalize writeB o cs = WB at *
    have HD := Lib.hid hd
    obtain ⟨kd, ix, tg, am⟩ := o
    obtain ⟨pk, pi, pt, pa⟩ := P
    clear hk hd
    go_enter Try.func10, Try.ntmps10
    go_wp2_with fail
    refine (HW.out _).mono ?_
    rintro r w1 ⟨v, rfl, hbo, hk1⟩
    have hvb := hk1.at (heap_alloc_last w (odB ⟨kd, ix, tg, am⟩)) (fun h => h)
    have HVB := Lib.hid hvb
    have HK1 := Lib.hid (((Mods.refl (fun _ => False) w).alloc _).keep hk1)
    have HBL := Lib.hid hbo.bl
    obtain ⟨va, vc, rfl⟩ := hbo.slice
    clear hk1 hbo hvb
    go_wp2_with fail
    refine (decode_any _ WB 0 w1 HBL.out HB.out (by omega)).mono ?_
    rw [HD.out]
    rintro r w2 ⟨rfl, hk2⟩
    have HK2 := Lib.hid (HK1.out.keep hk2)
    obtain ⟨c0, c1, c2, c3⟩ := od_cells (hk2.at HVB.out fun h => h)
    simp only at c0 c1 c2 c3
    have hlt := cell_lt c0
    clear hk2
    go_wp2_with ((with_reducible refine at_listO ?_); refine wpList_eqO rfl (.tmp 21) (.tmp 22) _ rfl ⟨pk, pi, pt, pa⟩ ⟨kd, ix, tg, am⟩ rfl rfl ?_)
    go_wp2
    go_ret
    exact ⟨rfl, HK2.out.alloc _⟩
end Go.Proofs.Ytljcodkcmenpaaa
