/- The walk of OpInverse. -/
import Derived.Test.YtljcodkcmenpaaaOpM
namespace Go.Eg
open Go Go.RowKit
theorem fillD_pre (cs : List Nat) : ∀ (o : Od) (a r : List Int), sumZ cs ≤ a.length → fillD cs o (a ++ r) = fillD cs o a := by
  induction cs with
  | nil => intro o a r _; rfl
  | cons c q ih =>
    intro o a r h
    have h' : szO c + sumZ q ≤ a.length := h
    show fillD q _ ((a ++ r).drop (szO c)) = fillD q _ (a.drop (szO c))
    rw [List.take_append_of_le_length (by omega), List.drop_append_of_le_length (by omega)]
    exact ih _ _ _ (by rw [List.length_drop]; omega)
theorem validO_some {o : Od} (h : validO o = true) : ∃ cs, opsOf o.kd = some cs ∧ fillD cs ⟨o.kd, 0, 0, 0⟩ (bodyB o cs) = o := by
  unfold validO at h
  cases hk : opsOf o.kd with
  | none => rw [hk] at h; cases h
  | some cs => rw [hk] at h; exact ⟨cs, rfl, (eqOd_iff _ _).1 h⟩
theorem writeB_len (o : Od) (cs : List Nat) : (writeB o cs).length = 1 + sumZ cs := by unfold writeB; rw [List.length_cons, bodyB_len]; omega
theorem dec_mid {o : Od} {cs : List Nat} (hk : opsOf o.kd = some cs) (hf : fillD cs ⟨o.kd, 0, 0, 0⟩ (bodyB o cs) = o) (a r : List Int) : decR (a ++ writeB o cs ++ r) (a.length : Int) = (o, ((a.length + (1 + sumZ cs) : Nat) : Int), true) := by
  obtain ⟨_, _, hk1, hk7, _⟩ := opsOf_small hk
  have e1 : a ++ writeB o cs ++ r = a ++ (o.kd :: (bodyB o cs ++ r)) := by
    unfold writeB
    rw [show o.kd % 256 = o.kd from by omega]
    simp
  have e2 : (a ++ writeB o cs ++ r).getD a.length 0 = o.kd := by rw [e1]; simp
  have e3 : (a ++ writeB o cs ++ r).drop (a.length + 1) = bodyB o cs ++ r := by rw [e1, List.drop_append]; simp
  have el : (a ++ writeB o cs ++ r).length = a.length + (1 + sumZ cs) + r.length := by simp only [List.length_append, writeB_len]
  unfold decR
  rw [if_neg (by rw [el]; omega)]
  simp only [Int.toNat_natCast, e2, hk]
  rw [if_neg (by rw [el]; omega), e3, fillD_pre _ _ _ _ (by rw [bodyB_len]; exact Nat.le_refl _), hf]
  simp
theorem Bytes.app {a b : List Int} (ha : Bytes a) (hb : Bytes b) : Bytes (a ++ b) := fun x hx => by
  rcases List.mem_append.1 hx with h | h
  · exact ha x h
  · exact hb x h
end Go.Eg
namespace Go.Proofs.Ytljcodkcmenpaaa
open Go.RowKit Go.Eg
theorem appendBL {ops : Array Oper} {rest : List Oper} {o : Oper} {a : Act} {Q : Exit → Act → World → Prop} (w : World) (hgd : o.guard = none) (s x : Operand)
    (ho : o.op = .call { callee := .builtin .append, args := #[s, x], argTypes := #[25, 25] })
    (B : Nat) (v : Value) (l0 l : List Int) (hs : a.eval s = v) (hown : BO B w v l0) (u : Value) (hx : a.eval x = u) (hu : BL w u l) (hn : l0.length + l.length ≤ 8192) (hB : B ≤ w.heap.size)
    (h : ∀ v' w', BO B w' v' (l0 ++ l) → w.grownBy w' v.ownBlock → wpList Try.prog ops Q rest (a.put o.dst v') w') : wpList Try.prog ops Q (o :: rest) a w := by
  obtain ⟨i0, hi, hz0, hz1, hz2⟩ := info_parts infoB
  have hU := hu
  obtain ⟨ad, cap, rfl, hc, h0, hcc⟩ := hu
  cases ad with
  | none =>
    obtain rfl := h0 rfl
    have hl : l = [] := by
      by_cases e : 0 < l.length
      · obtain ⟨_, _, e, _⟩ := hcc e
        cases e
      · exact List.length_eq_zero_iff.1 (by omega)
    subst hl
    refine wpList_append_own_none hgd s x _ ho B _ i0 1 Try.underlying25 hi v l0.length (bV l0) hs hown hx (h v w ?_ ?_)
    · simpa using hown
    · exact ⟨rfl, rfl, rfl, Nat.le_refl _, fun _ _ _ => rfl⟩
  | some ad =>
    refine wpList_append_own w hgd s x _ ho B _ i0 _ 1 1 Try.underlying25 hi hz0 hz1 hz2 rfl (by decide) v l0.length (bV l0) hs hown ad l.length cap (bV l) hx (by rw [bV_len]; omega) ?_ (bV_one l) (by unfold maxLen; omega) (by omega) hB ?_
    · by_cases e : 0 < l.length
      · obtain ⟨b, off, e, _⟩ := hcc e
        simp only [Option.some.injEq] at e
        subst e
        exact hU.news
      · have : l = [] := List.length_eq_zero_iff.1 (by omega)
        subst this
        intro j u hu
        simp [bV] at hu
    · intro v' w' ho' hg _
      refine h v' w' ?_ hg
      show w'.ownsRow B 5 1 v' (l0 ++ l).length (bV (l0 ++ l))
      rw [bV_app, List.length_append]
      exact ho'
theorem grownB_keeps {w w' : World} {B : Nat} {v : Value} {l : List Int} (hown : BO B w v l) {w0 : World} (hk : Keeps w0 w) (hB : w0.heap.size ≤ B) (hg : w.grownBy w' v.ownBlock) : Keeps w0 w' :=
  hk.grown hg fun j hj e => by have := (hown.lt j e).1; omega
theorem ownsE0 (w : World) : BO w.heap.size (w.alloc (.cells #[] 5)) (.slice (some ⟨w.heap.size, 0, none⟩) 0 0) [] := World.ownsRow_lit (size := 1) w #[] 0 (Nat.le_refl _) (by unfold maxLen; omega) rfl
set_option maxHeartbeats 1000000 in
theorem opInverse_walk (o : Od) (v1 v2 : Value) (w : World) (ho : o.ok) (h1 : ∃ l, BL w v1 l ∧ Bytes l ∧ l.length ≤ 9223372036854775807) (h2 : ∃ l, BL w v2 l ∧ Bytes l ∧ l.length ≤ 9223372036854775807) :
    Calls Try.prog 5 #[o.val, v1, v2] w fun r w' => r = .returned (.bool true) ∧ Below w.heap.size w w' := by
  obtain ⟨l1, hv1, hb1, hl1⟩ := h1
  obtain ⟨l2, hv2, hb2, hl2⟩ := h2
  have HV1 := Lib.hid hv1
  have HV2 := Lib.hid hv2
  have HB1 := Lib.hid hb1
  have HB2 := Lib.hid hb2
  obtain ⟨p1, c1, rfl⟩ := hv1.slice
  obtain ⟨p2, c2, rfl⟩ := hv2.slice
  have HRV := Lib.hid (fun w => refValid_any o w)
  rw [← valid_law ho] at HRV
  clear hv1 hv2 hb1 hb2
  by_cases hbig : 100 < l1.length ∨ 100 < l2.length
  · have hbig2 : decide ((100 : Int) < (l1.length : Int)) = true ∨ (decide ((100 : Int) < (l1.length : Int)) = false ∧ decide ((100 : Int) < (l2.length : Int)) = true) := by
      by_cases e : 100 < l1.length
      · exact .inl (decide_eq_true (by omega))
      · exact .inr ⟨decide_eq_false (by omega), decide_eq_true (by omega)⟩
    obtain ⟨kd, ix, tg, am⟩ := o
    clear hbig
    rcases hbig2 with e | ⟨e, e2⟩
    all_goals
      go_enter Try.func5, Try.ntmps5
      go_wp2_with fail
      refine (alive_any _).mono ?_
      rintro r w3 ⟨rfl, hk3⟩
      have HK3 := Lib.hid (((Mods.refl (fun _ => False) w).alloc (odB ⟨kd, ix, tg, am⟩)).keep hk3)
      clear hk3
      go_wp2
      go_ret
      exact ⟨rfl, HK3.out.below'⟩
  have e1 : decide ((100 : Int) < (l1.length : Int)) = false := decide_eq_false (by omega)
  have e2 : decide ((100 : Int) < (l2.length : Int)) = false := decide_eq_false (by omega)
  have hl1' : l1.length ≤ 100 := by omega
  have hl2' : l2.length ≤ 100 := by omega
  clear hbig hl1 hl2
  cases hval : validO o
  · rw [hval] at HRV
    obtain ⟨kd, ix, tg, am⟩ := o
    clear hval
    go_enter Try.func5, Try.ntmps5
    go_wp2_with fail
    refine (HRV.out _).mono ?_
    rintro r w1 ⟨rfl, hk1⟩
    have HK1 := Lib.hid (((Mods.refl (fun _ => False) w).alloc (odB ⟨kd, ix, tg, am⟩)).keep hk1)
    clear hk1
    go_wp2_with fail
    refine (alive_any _).mono ?_
    rintro r w3 ⟨rfl, hk3⟩
    have HK3 := Lib.hid (HK1.out.keep hk3)
    clear hk3
    go_wp2
    go_ret
    exact ⟨rfl, HK3.out.below'⟩
  · obtain ⟨cs, hk, hf⟩ := validO_some hval
    rw [hval] at HRV
    have HE := Lib.hid (fun w => opEncode_yes o cs w ho hk hval)
    have HD := Lib.hid (dec_mid hk hf l1 l2)
    have HWL := Lib.hid (writeB_len o cs)
    have HWB := Lib.hid (writeB_bytes o cs)
    obtain ⟨_, _, _, _, hz⟩ := opsOf_small hk
    generalize writeB o cs = WB at *
    obtain ⟨z, hzz⟩ : ∃ z, 1 + sumZ cs = z := ⟨_, rfl⟩
    rw [hzz] at HD HWL
    have hz11 : z ≤ 11 := by omega
    obtain ⟨kd, ix, tg, am⟩ := o
    clear hval hk hf hzz ho
    go_enter Try.func5, Try.ntmps5
    go_wp2_with fail
    refine (HRV.out _).mono ?_
    rintro r w1 ⟨rfl, hk1⟩
    have HK1 := Lib.hid (((Mods.refl (fun _ => False) w).alloc (odB ⟨kd, ix, tg, am⟩)).keep hk1)
    have HVB := Lib.hid (hk1.at (heap_alloc_last w (odB ⟨kd, ix, tg, am⟩)) fun h => h)
    obtain ⟨q0, q1, q2, q3⟩ := od_cells HVB.out
    simp only at q0 q1 q2 q3
    have hlt := cell_lt q0
    clear hk1
    go_wp2_with fail
    refine (HE.out _).mono ?_
    rintro r w2 ⟨v, rfl, hbo, hk2⟩
    have HK2 := Lib.hid (HK1.out.keep hk2)
    have HVB2 := Lib.hid (hk2.at HVB.out fun h => h)
    have HBO := Lib.hid hbo.bl
    obtain ⟨va, vc, hvs⟩ := hbo.slice
    rw [HWL.out] at hvs
    subst hvs
    clear hk2 hbo q0 q1 q2 q3 hlt
    go_wp2_with (at_builtin; refine appendBL _ rfl (.tmp 34) (.tmp 35) rfl w2.heap.size _ [] l1 rfl (ownsE0 w2) _ rfl (HV1.out.keeps (HK2.out.alloc _)) (by simp; omega) (by simp) ?_)
    intro v3 w3 ho3 hg3
    have HO3 := Lib.hid ho3
    have HK3 := Lib.hid (grownB_keeps (ownsE0 w2) ((Mods.refl (fun _ => False) w2).alloc _) (Nat.le_refl _) hg3)
    have HS3 := Lib.hid HK3.out.size
    clear ho3 hg3
    go_wp2_with (at_builtin; refine appendBL _ rfl (.tmp 36) (.tmp 37) rfl w2.heap.size _ l1 WB rfl HO3.out _ rfl (HBO.out.keeps HK3.out) (by rw [HWL.out]; omega) HS3.out ?_)
    intro v4 w4 ho4 hg4
    have HO4 := Lib.hid ho4
    have HK4 := Lib.hid (grownB_keeps HO3.out HK3.out (Nat.le_refl _) hg4)
    have HS4 := Lib.hid HK4.out.size
    have HLL := Lib.hid (show (l1 ++ WB).length = l1.length + z by rw [List.length_append, HWL.out])
    clear ho4 hg4
    go_wp2_with (at_builtin; refine appendBL _ rfl (.tmp 38) (.tmp 39) rfl w2.heap.size _ (l1 ++ WB) l2 rfl HO4.out _ rfl (HV2.out.keeps (HK2.out.keep HK4.out)) (by rw [HLL.out]; omega) HS4.out ?_)
    intro v5 w5 ho5 hg5
    have HO5 := Lib.hid ho5
    have HK5 := Lib.hid (grownB_keeps HO4.out HK4.out (Nat.le_refl _) hg5)
    rw [← List.append_assoc] at ho5
    obtain ⟨a5, c5, hs5⟩ := ho5.slice
    have HLL2 := Lib.hid (show (l1 ++ WB ++ l2).length ≤ 4294967296 by rw [List.length_append, HLL.out]; omega)
    have HL5 := Lib.hid ho5.bl
    obtain ⟨n5, hn5⟩ : ∃ n5, n5 = (l1 ++ WB ++ l2).length := ⟨_, rfl⟩
    rw [← hn5] at hs5
    clear hn5
    subst hs5
    clear ho5 hg5
    go_wp2_with fail
    refine (decode_any _ (l1 ++ WB ++ l2) (l1.length : Int) w5 HL5.out ((HB1.out.app HWB.out).app HB2.out) HLL2.out).mono ?_
    rw [HD.out]
    rintro r w6 ⟨rfl, hk6⟩
    have HVB6 := Lib.hid (heap_keep (hk6.at (HK5.out.at HVB2.out fun h => h) fun h => h) (odB ⟨kd, ix, tg, am⟩))
    have HN6 := Lib.hid (heap_alloc_last w6 (odB ⟨kd, ix, tg, am⟩))
    have HK6 := Lib.hid ((HK2.out.keep (HK5.out.keep hk6)).alloc (odB ⟨kd, ix, tg, am⟩))
    clear hk6
    go_wp2_with fail
    refine (alive_any _).mono ?_
    rintro r w7 ⟨rfl, hk7⟩
    have HK7 := Lib.hid (HK6.out.keep hk7)
    obtain ⟨q0, q1, q2, q3⟩ := od_cells (hk7.at HVB6.out fun h => h)
    obtain ⟨t0, t1, t2, t3⟩ := od_cells (hk7.at HN6.out fun h => h)
    simp only at q0 q1 q2 q3 t0 t1 t2 t3
    have hlt := cell_lt q0
    have hlt2 := cell_lt t0
    clear hk7
    go_wp2
    go_ret
    exact ⟨rfl, HK7.out.below'⟩
end Go.Proofs.Ytljcodkcmenpaaa
