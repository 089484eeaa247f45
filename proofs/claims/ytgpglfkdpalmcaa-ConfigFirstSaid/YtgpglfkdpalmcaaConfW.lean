/- The walk of ConfigFirst. -/
import Derived.Test.YtgpglfkdpalmcaaConfV
namespace Go.Proofs.Ytgpglfkdpalmcaa
open Go.RowKit Go.Eg
theorem chkFrom_or (c : Nat → Int) : ∀ (n k : Nat), chkFrom c k n = 0 ∨ ∃ m, k ≤ m ∧ m < k + n ∧ chkFrom c k n = (m : Int) + 1 ∧ okC c m = false
  | 0, _ => .inl rfl
  | n + 1, k => by
    rw [chkFrom]
    by_cases hk : okC c k = true
    · rw [if_pos hk]
      rcases chkFrom_or c n (k + 1) with h | ⟨m, h1, h2, h3, h4⟩
      · exact .inl h
      · exact .inr ⟨m, by omega, by omega, h3, h4⟩
    · rw [if_neg hk]
      exact .inr ⟨k, Nat.le_refl _, by omega, rfl, by simpa using hk⟩
theorem okC_upd (c : Nat → Int) (k : Nat) (v : Int) (j : Nat) (hj : j < 20) (hjk : j < k) (hne : ¬ (j = 18 ∧ k = 19)) : okC (upd c k v) j = okC c j := by
  have e : ∀ i, i ≤ j → upd c k v i = c i := fun i hi => by unfold upd; rw [if_neg (by omega)]
  match j, hj with
  | 0, _ => simp only [okC]; rw [e 0 (by omega)]
  | 1, _ => simp only [okC]; rw [e 1 (by omega)]
  | 2, _ => simp only [okC]; rw [e 2 (by omega)]
  | 3, _ => simp only [okC]; rw [e 3 (by omega), e 2 (by omega)]
  | 4, _ => simp only [okC]; rw [e 4 (by omega), e 3 (by omega)]
  | 5, _ => simp only [okC]; rw [e 5 (by omega), e 2 (by omega)]
  | 6, _ => simp only [okC]; rw [e 6 (by omega), e 3 (by omega), e 4 (by omega)]
  | 7, _ => simp only [okC]; rw [e 7 (by omega)]
  | 8, _ => simp only [okC]; rw [e 8 (by omega)]
  | 9, _ => simp only [okC]; rw [e 9 (by omega)]
  | 10, _ => simp only [okC]; rw [e 10 (by omega)]
  | 11, _ => simp only [okC]; rw [e 11 (by omega), e 10 (by omega)]
  | 12, _ => simp only [okC]; rw [e 12 (by omega)]
  | 13, _ => simp only [okC]; rw [e 13 (by omega)]
  | 14, _ => simp only [okC]; rw [e 14 (by omega)]
  | 15, _ => simp only [okC]; rw [e 15 (by omega)]
  | 16, _ => simp only [okC]; rw [e 16 (by omega), e 14 (by omega), e 15 (by omega)]
  | 17, _ => simp only [okC]; rw [e 17 (by omega)]
  | 18, _ =>
    have : upd c k v 19 = c 19 := by unfold upd; rw [if_neg (by omega)]
    simp only [okC]; rw [e 18 (by omega), this]
  | 19, _ => simp only [okC]; rw [e 19 (by omega)]
  | j + 20, h => exact absurd h (by omega)
theorem first_law (c : Nat → Int) (k : Nat) (v : Int) (h : chk c = 0) : chk (upd c k v) = 0 ∨ (k : Int) + 1 ≤ chk (upd c k v) ∨ (k = 19 ∧ chk (upd c k v) = 19) := by
  rcases chkFrom_or (upd c k v) 20 0 with h0 | ⟨m, _, hm, e, hf⟩
  · exact .inl h0
  · right
    have e' : chk (upd c k v) = (m : Int) + 1 := e
    rw [e']
    by_cases hmk : m < k
    · by_cases hne : m = 18 ∧ k = 19
      · right; omega
      · rw [okC_upd c k v m (by omega) hmk hne, chkFrom_zero c 20 0 h m (Nat.zero_le _) (by omega)] at hf
        cases hf
    · left; omega
theorem eqz24 (w : World) : (binOp .eql 24 (.agg zeroCells) (.agg zeroCells)).run Try.prog w = .ok (.bool true) w := by kernel_rfl
theorem eqzg24 (x y : Operand) (w : World) : (eqGuard .eql 24 x y (.agg zeroCells) (.agg zeroCells)).run Try.prog w = .ok () w := by kernel_rfl
theorem lookI_out (B : Nat) (f : Int) (h : f < 1 ∨ 20 < f) : lookL (ptrI B) f = none ∧ lookL (ptrA B) f = none := by
  constructor
  · unfold lookL
    rw [List.find?_eq_none.2]
    · rfl
    · intro p hp
      simp only [ptrI, List.mem_cons, List.not_mem_nil, or_false] at hp
      rcases hp with rfl | rfl | rfl | rfl | rfl | rfl | rfl | rfl | rfl | rfl <;> simp <;> omega
  · unfold lookL
    rw [List.find?_eq_none.2]
    · rfl
    · intro p hp
      simp only [ptrA, List.mem_cons, List.not_mem_nil, or_false] at hp
      rcases hp with rfl | rfl | rfl | rfl | rfl | rfl | rfl | rfl | rfl | rfl <;> simp <;> omega
theorem lookA_int (B : Nat) : ∀ k, k < 20 → isI k = true → lookL (ptrA B) ((k : Int) + 1) = none := by
  intro k hk h
  match k, hk with
  | 0, _ | 1, _ | 10, _ | 11, _ | 12, _ | 13, _ | 14, _ | 15, _ | 16, _ | 17, _ => rfl
  | 2, _ | 3, _ | 4, _ | 5, _ | 6, _ | 7, _ | 8, _ | 9, _ | 18, _ | 19, _ => exact absurd h (by decide)
  | k + 20, hk => exact absurd hk (by omega)
/-- config.Set refuses -/
def setBad (f v : Int) : Prop := f < 1 ∨ 20 < f ∨ ∃ k : Nat, k < 20 ∧ f = (k : Int) + 1 ∧ isI k = true ∧ 2147483648 < v
theorem set_bad (c : Nat → Int) (f v : Int) (w : World) (h : setBad f v) :
    Calls Try.prog 20 #[cfgV c, .int .i64 f, .int .u64 v] w fun r w' => r = .returned (.tuple #[.agg zeroCells, .bool false]) ∧ Below w.heap.size w w' := by
  rcases h with h | h | ⟨k, hk, rfl, hi, hv⟩
  · exact set_none c f v w (lookI_out _ f (.inl h)).1 (lookI_out _ f (.inl h)).2
  · exact set_none c f v w (lookI_out _ f (.inr h)).1 (lookI_out _ f (.inr h)).2
  · exact set_great c _ v w k (lookI_at _ k hk hi) hv (lookA_int _ k hk hi)
theorem isInt_k1 (k : Nat) (hk : k < 20) (w : World) : Calls Try.prog 21 #[.int .i64 ((k : Int) + 1)] w fun r w' => r = .returned (.bool (isI k)) ∧ w = w' := by
  have h := isInt_any ((k : Int) + 1) w
  rw [isI_is k hk] at h
  exact h
set_option maxRecDepth 100000 in
set_option maxHeartbeats 600000 in
theorem configFirst_walk (c : Nat → Int) (f v : Int) (w : World) (_w0 : ∀ (i : Nat) (k : IntKind), cfgKinds[i]? = some k → (Lit.int k (c i)).wf = true) (_w1 : (Lit.int .i64 f).wf = true) (w2 : (Lit.int .u64 v).wf = true) :
    Calls Try.prog 7 #[cfgV c, .int .i64 f, .int .u64 v] w fun e w' => e = .returned (.bool true) ∧ Below w.heap.size w w' := by
  obtain ⟨hv0, hv1⟩ := bounds_u64 w2
  clear _w1 w2 hv1
  have hbox := Lib.hid (heap_alloc_last w (.cells (cfgC c) 24))
  have hkb := Lib.hid ((Below.refl w.heap.size w).alloc (Nat.le_refl _) (.cells (cfgC c) 24))
  go_enter Try.func7, Try.ntmps7
  go_wp2_with (with_reducible refine stop_load 24 _ rfl ?_)
  refine Parked.mk ?_
  obtain ⟨wb, hwb⟩ : ∃ wb, wb = w.alloc (.cells (cfgC c) 24) := ⟨_, rfl⟩
  rw [← hwb] at hbox hkb ⊢
  clear hwb
  refine wpList_load_big rfl 24 _ rfl w.heap.size rfl 24 (cfgC c) (0, 0) _ Try.underlying24 rfl size24 hbox.out ?_
  go_frame
  go_wp2_with fail
  refine (refCheck_any c _).mono ?_
  rintro r w2 ⟨rfl, hb2⟩
  have hbox2 := Lib.hid (box_next hbox.out hb2)
  have hk2 := Lib.hid (hkb.out.trans (hb2.mono hkb.out.size))
  clear hb2 hbox hkb
  by_cases h0 : chk c = 0
  · have H0 := Lib.hid h0
    have h0b : (chk c != 0) = false := by rw [h0]; rfl
    clear h0
    go_wp2_with (with_reducible refine stop_load 24 _ rfl ?_)
    refine Parked.mk ?_
    clear h0b
    refine wpList_load_big rfl 24 _ rfl w.heap.size rfl 24 (cfgC c) (0, 0) _ Try.underlying24 rfl size24 hbox2.out ?_
    go_frame
    go_wp2_with fail
    by_cases hbad : setBad f v
    · have HBAD := Lib.hid hbad
      clear hbad
      refine (set_bad c f v _ HBAD.out).mono ?_
      rintro r w3 ⟨rfl, hb3⟩
      have hk3 := Lib.hid (hk2.out.trans (hb3.mono hk2.out.size))
      clear hb3 hbox2 hk2
      go_wp2_with (with_reducible refine stop_store 24 _ _ rfl ?_)
      refine Parked.mk ?_
      refine wpList_store_new (t := 24) (old := zeroCells) (cs := zeroCells) rfl 24 _ _ rfl rfl rfl size24 rfl rfl ?_
      go_frame
      have hd3 := Lib.hid (heap_alloc_last w3 (.cells zeroCells 24))
      have hk4 := Lib.hid (hk3.out.alloc hk3.out.size (.cells zeroCells 24))
      obtain ⟨w4, hw4⟩ : ∃ w4, w4 = w3.alloc (.cells zeroCells 24) := ⟨_, rfl⟩
      rw [← hw4] at hd3 hk4 ⊢
      clear hw4 hk3
      have hcase : f < 1 ∨ 20 < f ∨ (∃ k : Nat, k < 20 ∧ f = (k : Int) + 1 ∧ isI k = true ∧ 2147483648 < v) := HBAD.out
      rcases hcase with hc | hc | ⟨k, hk, rfl, hi, hgt⟩
      · go_wp2_with fail
        refine (alive_any _).mono ?_
        rintro r w6 ⟨rfl, hb6⟩
        have hd6 := Lib.hid (box_next hd3.out hb6)
        have hk6 := Lib.hid (hk4.out.trans (hb6.mono hk4.out.size))
        clear hb6 hd3 hk4
        go_wp2_with (with_reducible refine stop_load 24 _ rfl ?_)
        refine Parked.mk ?_
        refine wpList_load_big rfl 24 _ rfl w3.heap.size rfl 24 zeroCells (0, 0) _ Try.underlying24 rfl size24 hd6.out ?_
        go_frame
        refine wpList_build_big rfl 24 _ zeroCells rfl (by kernel_rfl) ?_
        go_frame
        have he := eqz24
        have heg := fun x y => eqzg24 x y
        go_wp2
        go_ret
        exact ⟨rfl, hk6.out⟩
      · go_wp2_with fail
        refine (alive_any _).mono ?_
        rintro r w6 ⟨rfl, hb6⟩
        have hd6 := Lib.hid (box_next hd3.out hb6)
        have hk6 := Lib.hid (hk4.out.trans (hb6.mono hk4.out.size))
        clear hb6 hd3 hk4
        go_wp2_with (with_reducible refine stop_load 24 _ rfl ?_)
        refine Parked.mk ?_
        refine wpList_load_big rfl 24 _ rfl w3.heap.size rfl 24 zeroCells (0, 0) _ Try.underlying24 rfl size24 hd6.out ?_
        go_frame
        refine wpList_build_big rfl 24 _ zeroCells rfl (by kernel_rfl) ?_
        go_frame
        have he := eqz24
        have heg := fun x y => eqzg24 x y
        go_wp2
        go_ret
        exact ⟨rfl, hk6.out⟩
      · go_wp2_with fail
        refine (isInt_k1 k hk _).mono ?_
        rw [hi]
        rintro r w5 ⟨rfl, rfl⟩
        clear hi
        go_wp2_with fail
        refine (alive_any _).mono ?_
        rintro r w6 ⟨rfl, hb6⟩
        have hd6 := Lib.hid (box_next hd3.out hb6)
        have hk6 := Lib.hid (hk4.out.trans (hb6.mono hk4.out.size))
        clear hb6 hd3 hk4
        go_wp2_with (with_reducible refine stop_load 24 _ rfl ?_)
        refine Parked.mk ?_
        refine wpList_load_big rfl 24 _ rfl w3.heap.size rfl 24 zeroCells (0, 0) _ Try.underlying24 rfl size24 hd6.out ?_
        go_frame
        refine wpList_build_big rfl 24 _ zeroCells rfl (by kernel_rfl) ?_
        go_frame
        have he := eqz24
        have heg := fun x y => eqzg24 x y
        go_wp2
        go_ret
        exact ⟨rfl, hk6.out⟩
    · obtain ⟨k, hk, rfl, hkv⟩ : ∃ k : Nat, k < 20 ∧ f = (k : Int) + 1 ∧ (isI k = true → v ≤ 2147483648) := by
        unfold setBad at hbad
        refine ⟨(f - 1).toNat, by omega, by omega, fun hi => ?_⟩
        apply Classical.byContradiction
        intro hv
        exact hbad (.inr (.inr ⟨(f - 1).toNat, by omega, by omega, hi, by omega⟩))
      have hfl := first_law c k v H0.out
      have HFL := Lib.hid hfl
      have HKV := Lib.hid hkv
      clear hfl hkv hbad
      refine (set_any c v k _ hk hv0 HKV.out).mono ?_
      rintro r w3 ⟨rfl, hb3⟩
      have hk3 := Lib.hid (hk2.out.trans (hb3.mono hk2.out.size))
      clear hb3 hbox2 hk2
      obtain ⟨d, hd⟩ : ∃ d, d = upd c k v := ⟨_, rfl⟩
      rw [← hd] at HFL ⊢
      clear hd
      go_wp2_with (with_reducible refine stop_store 24 _ _ rfl ?_)
      refine Parked.mk ?_
      refine wpList_store_new (t := 24) (old := zeroCells) (cs := cfgC d) rfl 24 _ _ rfl rfl rfl size24 rfl rfl ?_
      go_frame
      have hd3 := Lib.hid (heap_alloc_last w3 (.cells (cfgC d) 24))
      have hk4 := Lib.hid (hk3.out.alloc hk3.out.size (.cells (cfgC d) 24))
      obtain ⟨w4, hw4⟩ : ∃ w4, w4 = w3.alloc (.cells (cfgC d) 24) := ⟨_, rfl⟩
      rw [← hw4] at hd3 hk4 ⊢
      clear hw4 hk3
      go_wp2_with fail
      refine (isInt_k1 k hk _).mono ?_
      rintro r w5 ⟨rfl, rfl⟩
      have hor : (isI k = true ∧ v ≤ 2147483648) ∨ isI k = false := by
        cases hi : isI k
        · exact .inr rfl
        · exact .inl ⟨rfl, HKV.out hi⟩
      rcases hor with ⟨hi, hle⟩ | hi
      all_goals
        rw [hi]
        clear hi
        go_wp2_with (with_reducible refine stop_load 24 _ rfl ?_)
        refine Parked.mk ?_
        refine wpList_load_big rfl 24 _ rfl w3.heap.size rfl 24 (cfgC d) (0, 0) _ Try.underlying24 rfl size24 hd3.out ?_
        go_frame
        go_wp2_with fail
        refine (check_any d _).mono ?_
        rintro r w5 ⟨rfl, hb5⟩
        have hd5 := Lib.hid (box_next hd3.out hb5)
        have hk5 := Lib.hid (hk4.out.trans (hb5.mono hk4.out.size))
        clear hb5 hd3 hk4
        go_wp2_with fail
        refine (alive_any _).mono ?_
        rintro r w6 ⟨rfl, hb6⟩
        have hd6 := Lib.hid (box_next hd5.out hb6)
        have hk6 := Lib.hid (hk5.out.trans (hb6.mono hk5.out.size))
        clear hb6 hd5 hk5
        go_wp2_with (with_reducible refine stop_load 24 _ rfl ?_)
        refine Parked.mk ?_
        refine wpList_load_big rfl 24 _ rfl w3.heap.size rfl 24 (cfgC d) (0, 0) _ Try.underlying24 rfl size24 hd6.out ?_
        go_frame
        go_wp2_with fail
        refine (refCheck_any d _).mono ?_
        rintro r w7 ⟨rfl, hb7⟩
        have hk7 := Lib.hid (hk6.out.trans (hb7.mono hk6.out.size))
        clear hb7 hd6 hk6
        generalize chk d = q at *
        rcases HFL.out with rfl | hq | ⟨rfl, rfl⟩
        · go_wp2
          go_ret
          exact ⟨rfl, hk7.out⟩
        · by_cases hq0 : q = 0
          · subst hq0
            go_wp2
            go_ret
            exact ⟨rfl, hk7.out⟩
          · have hq1 : (q == 0) = false := by simpa using hq0
            go_wp2
            go_ret
            exact ⟨rfl, hk7.out⟩
        · go_wp2
          go_ret
          exact ⟨rfl, hk7.out⟩
  · have h0b : (chk c != 0) = true := by simpa using h0
    clear h0
    go_wp2_with fail
    refine (alive_any _).mono ?_
    rintro r w3 ⟨rfl, hb3⟩
    have hk3 := Lib.hid (hk2.out.trans (hb3.mono hk2.out.size))
    clear hb3 hbox2
    go_wp2
    go_ret
    exact ⟨rfl, hk3.out⟩
end Go.Proofs.Ytgpglfkdpalmcaa
