/- Bytes and operations that came in; the walk of OpValid. -/
import Derived.Test.YtljcodkcmenpaaaOpI
import Derived.Test.YtljcodkcmenpaaaOpJ
import Derived.Test.YtljcodkcmenpaaaOpen
namespace Go.Proofs.Ytljcodkcmenpaaa
open Go.RowKit Go.Eg Go.WideShapes
theorem open_bl {H : Type} {enc : TypeId × Value → H} {w : World} {base : Nat} {spare : Nat → Bool} {held : Bool} {v : Value} {d : DataW H} {p : List MemPlace} (h : DataW.Trod enc Try.prog w base spare held 25 v d p) (hsl : ∃ a n cap, v = .slice a n cap) :
    ∃ l, BL w v l ∧ Bytes l ∧ l.length ≤ 9223372036854775807 := by
  obtain ⟨n, F, hrow, hn, hr⟩ := open_rows Try.underlying25 1 (by kernel_rfl) (by omega) h hsl
  have hcap : ∀ a n cap, v = .slice a n cap → n ≤ cap ∧ (a = none → cap = 0) := by
    intro a n cap e
    subst e
    obtain ⟨fuel, hf⟩ := h
    rcases Go.Deep.open_slice Try.underlying25 hf with ⟨h1, _⟩ | ⟨a', len, cap', m, k, D, Pl, hcs, _, hl, _⟩
    · simp [Value.cells] at h1
      omega
    · simp [Value.cells] at hcs
      obtain ⟨rfl, rfl, rfl⟩ := hcs
      exact ⟨hl, fun h => by cases h⟩
  have key : ∀ i, i < n → ∃ x : Int, F i 0 = .int .u8 x ∧ 0 ≤ x ∧ x < 256 := by
    intro i hi
    obtain ⟨m, y, hy⟩ := hr i hi
    obtain ⟨a, b, _, wa⟩ := DataW.trod_int Try.underlying5 hy
    simp at b
    obtain ⟨c0, c1⟩ := bounds_u8 wa
    exact ⟨a, b, c0, by omega⟩
  obtain ⟨q, hq⟩ := Go.Deep.choose_lt key
  obtain ⟨a, cap, rfl, hc⟩ := hrow
  obtain ⟨h1, h2⟩ := hcap a n cap rfl
  refine ⟨(List.range n).map q, ⟨a, cap, by simp, by simpa using h1, h2, fun h0 => ?_⟩, ?_, by simpa using hn⟩
  · have h0' : 0 < n := by simpa using h0
    obtain ⟨b, off, rfl, hcc⟩ := hc h0'
    refine ⟨b, off, rfl, fun i hi => ?_⟩
    have hi' : i < n := by simpa using hi
    have := hcc i hi' 0 (by omega)
    rw [Nat.add_zero] at this
    have e : off + i * 1 = off + i := by omega
    rw [e] at this
    rw [this, (hq i hi').1]
    simp
  · intro x hx
    obtain ⟨i, hi, rfl⟩ := List.mem_map.1 hx
    exact (hq i (List.mem_range.1 hi)).2
theorem open_od {H : Type} {enc : TypeId × Value → H} {w : World} {base : Nat} {spare : Nat → Bool} {held : Bool} {r : Reach} {b0 : Nat} {v : Value} {d : DataW H} {p : List MemPlace} (hv : Value.okWide Try.prog w r b0 24 v) (h : DataW.Trod enc Try.prog w base spare held 24 v d p) :
    ∃ x : Od, v = x.val ∧ x.ok := by
  obtain ⟨z, rfl, hz⟩ := open_ints_agg (kinds := [.i64, .i64, .i64, .u64]) Try.underlying24 (by kernel_rfl) (by kernel_rfl) hv h
  exact ⟨⟨z 0, z 1, z 2, z 3⟩, rfl, hz 0 _ rfl, hz 1 _ rfl, hz 2 _ rfl, bounds_u64 (hz 3 _ rfl)⟩
/-- b[:n] -/
theorem bl_to {w : World} {b off cap : Nat} {l : List Int} (h : BL w (.slice (some ⟨b, off, none⟩) l.length cap) l) (n : Nat) (hn : n ≤ l.length) : BL w (.slice (some ⟨b, off, none⟩) n cap) (l.take n) := by
  have hlt : (l.take n).length = n := by rw [List.length_take]; omega
  have hc : l.length ≤ cap := by
    obtain ⟨a, c, e, h, _⟩ := h
    simp only [Value.slice.injEq] at e
    omega
  refine ⟨some ⟨b, off, none⟩, cap, by rw [hlt], by omega, (fun h => by cases h), fun _ => ⟨b, off, rfl, fun i hi => ?_⟩⟩
  rw [hlt] at hi
  obtain ⟨b2, off2, e, x0⟩ := h.at i (by omega)
  simp only [Option.some.injEq, Addr.mk.injEq, and_true] at e
  obtain ⟨rfl, rfl⟩ := e
  rw [List.getElem_take]
  exact x0
set_option maxHeartbeats 1000000 in
theorem opValid_walk (v : Value) (w : World) (h : ∃ l, BL w v l ∧ Bytes l ∧ l.length ≤ 9223372036854775807) :
    Calls Try.prog 6 #[v] w fun r w' => r = .returned (.bool true) ∧ Below w.heap.size w w' := by
  obtain ⟨l, hv, hb, hl64⟩ := h
  have HV := Lib.hid hv
  have HB := Lib.hid hb
  obtain ⟨a, cap, rfl⟩ := hv.slice
  clear hv hb
  by_cases hsm : l.length = 0 ∨ 100 < l.length
  · have hsm2 : ((l.length : Int) == 0) = true ∨ (((l.length : Int) == 0) = false ∧ decide ((100 : Int) < (l.length : Int)) = true) := by
      rcases hsm with e | e
      · exact .inl (by simp [e])
      · exact .inr ⟨by simp only [beq_eq_false_iff_ne]; omega, decide_eq_true (by omega)⟩
    clear hsm
    rcases hsm2 with e | ⟨e, e2⟩
    all_goals
      go_enter Try.func6, Try.ntmps6
      go_wp2_with fail
      refine (alive_any _).mono ?_
      rintro r w3 ⟨rfl, hk3⟩
      have HK3 := Lib.hid hk3
      clear hk3
      go_wp2
      go_ret
      exact ⟨rfl, HK3.out.below'⟩
  have hl1 : 1 ≤ l.length := by omega
  have hl2 : l.length ≤ 100 := by omega
  have e0 : ((l.length : Int) == 0) = false := by simp only [beq_eq_false_iff_ne]; omega
  have e2 : decide ((100 : Int) < (l.length : Int)) = false := decide_eq_false (by omega)
  have HD := Lib.hid (decode_any _ l 0 w HV.out HB.out (by omega))
  clear hsm
  have hcases : (∃ n : Nat, decR l 0 = (od0, (n : Int), true) ∧ 1 ≤ n ∧ n ≤ l.length) ∨ ∃ (o : Od) (cs : List Nat) (n : Nat), decR l 0 = (o, (n : Int), true) ∧ 1 ≤ n ∧ n ≤ l.length ∧ opsOf o.kd = some cs ∧ validO o = true ∧ writeB o cs = l.take n ∧ o.ok ∧ 1 ≤ o.kd := by
    have hbb := HB.out
    unfold decR
    rw [if_neg (by omega)]
    cases hk : opsOf (l.getD (0 : Int).toNat 0) with
    | none => exact .inl ⟨1, rfl, Nat.le_refl _, hl1⟩
    | some cs =>
      simp only
      by_cases hs : (l.length : Int) - 0 < ((1 + sumZ cs : Nat) : Int)
      · rw [if_pos hs]
        exact .inl ⟨l.length, rfl, hl1, Nat.le_refl _⟩
      · rw [if_neg hs]
        have hdl : sumZ cs ≤ (l.drop ((0 : Int).toNat + 1)).length := by rw [List.length_drop]; simp; omega
        obtain ⟨d1, d2, d3, d4⟩ := dec_enc hk (hbb.drop _) hdl
        obtain ⟨d5, d6⟩ := dec_valid hk (hbb.drop _) hdl
        obtain ⟨_, _, hk1, hk7, _⟩ := opsOf_small hk
        refine .inr ⟨_, cs, 1 + sumZ cs, by rw [Int.zero_add], by omega, by omega, by rw [d1]; exact hk, d5, ?_, d2, by rw [d1]; exact hk1⟩
        rw [d6]
        match l, hl1 with
        | x :: r, _ => rw [Nat.add_comm 1, List.take_succ_cons]; rfl
  rcases hcases with ⟨n, hd, hn1, hn2⟩ | ⟨o, cs, n, hd, hn1, hn2, hk, hval, hwr, hok, hkd⟩
  · rw [hd] at HD
    have HVAL := Lib.hid (fun w => opValid_any od0 w ⟨by decide, by decide, by decide, by decide⟩)
    rw [show validO od0 = false from rfl] at HVAL
    clear hd
    go_enter Try.func6, Try.ntmps6
    go_wp2_with fail
    refine HD.out.mono ?_
    rintro r w1 ⟨hr, hk1⟩
    rw [show od0.val = Value.agg #[.int .i64 0, .int .i64 0, .int .i64 0, .int .u64 0] from rfl] at hr
    subst hr
    have HK1 := Lib.hid hk1
    have hvb := heap_alloc_last w1 (odB od0)
    have HVB := Lib.hid hvb
    clear hk1 hvb
    go_wp2_with fail
    refine (alive_any _).mono ?_
    rintro r w2 ⟨rfl, hk2⟩
    have HK2 := Lib.hid ((HK1.out.alloc (odB od0)).keep hk2)
    obtain ⟨c0, c1, c2, c3⟩ := od_cells (hk2.at HVB.out fun h => h)
    rw [show od0 = ⟨0, 0, 0, 0⟩ from rfl] at c0 c1 c2 c3 HVAL
    simp only at c0 c1 c2 c3
    have hlt := cell_lt c0
    clear hk2
    go_wp2_with fail
    refine (HVAL.out _).mono ?_
    rintro r w3 ⟨rfl, hk3⟩
    have HK3 := Lib.hid (HK2.out.keep hk3)
    clear hk3
    go_wp2
    go_ret
    exact ⟨rfl, HK3.out.below'⟩
  · rw [hd] at HD
    have HE := Lib.hid (fun w => opEncode_yes o cs w hok hk hval)
    rw [hwr] at HE
    have HVAL := Lib.hid (fun w => opValid_any o w hok)
    rw [hval] at HVAL
    obtain ⟨b, off, rfl, _⟩ := HV.out.at 0 (by omega)
    have HT := Lib.hid (bl_to HV.out n hn2)
    have hkn : (o.kd == 0) = false := by simp only [beq_eq_false_iff_ne]; omega
    have HLT := Lib.hid (show (l.take n).length ≤ 8192 by rw [List.length_take]; omega)
    have hnc : n ≤ cap := by
      obtain ⟨a, c, e, h, _⟩ := HV.out
      simp only [Value.slice.injEq] at e
      omega
    obtain ⟨kd, ix, tg, am⟩ := o
    simp only at hkn hkd
    clear hd hk hval hwr hok
    go_enter Try.func6, Try.ntmps6
    go_wp2_with fail
    refine HD.out.mono ?_
    rintro r w1 ⟨rfl, hk1⟩
    have HK1 := Lib.hid hk1
    have hvb := heap_alloc_last w1 (odB ⟨kd, ix, tg, am⟩)
    have HVB := Lib.hid hvb
    clear hk1 hvb
    go_wp2_with fail
    refine (HE.out _).mono ?_
    rintro r w2 ⟨v2, rfl, hbo, hk2⟩
    have HBO := Lib.hid hbo
    obtain ⟨a2, c2, hs2⟩ := hbo.slice
    rw [show (l.take n).length = n from by rw [List.length_take]; omega] at hs2
    subst hs2
    have HVB2 := Lib.hid (hk2.at HVB.out fun h => h)
    have HK2 := Lib.hid ((HK1.out.alloc (odB ⟨kd, ix, tg, am⟩)).keep hk2)
    clear hk2 hbo
    go_wp2_with fail
    refine (alive_any _).mono ?_
    rintro r w3 ⟨rfl, hk3⟩
    have HB3 := Lib.hid (HBO.out.bl.keeps hk3)
    have HVB3 := Lib.hid (hk3.at HVB2.out fun h => h)
    have HK3 := Lib.hid (HK2.out.keep hk3)
    obtain ⟨q0, q1, q2, q3⟩ := od_cells HVB3.out
    simp only at q0 q1 q2 q3
    have hlt := cell_lt q0
    clear hk3
    go_wp2_with fail
    refine (HVAL.out _).mono ?_
    rintro r w4 ⟨rfl, hk4⟩
    have HB4 := Lib.hid (HB3.out.keeps hk4)
    have HK4 := Lib.hid (HK3.out.keep hk4)
    clear hk4 q0 q1 q2 q3
    go_wp2_with fail
    refine (equalB_any _ _ (l.take n) w4 HB4.out (HT.out.keeps HK4.out) HLT.out).mono ?_
    rintro r w5 ⟨rfl, hk5⟩
    have HK5 := Lib.hid (HK4.out.keep hk5)
    clear hk5
    go_wp2
    go_ret
    exact ⟨rfl, HK5.out.below'⟩
end Go.Proofs.Ytljcodkcmenpaaa
