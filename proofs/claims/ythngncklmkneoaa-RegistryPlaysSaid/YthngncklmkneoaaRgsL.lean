/- The walk of RegistryPlays. -/
import Derived.Test.YthngncklmkneoaaRgsK
namespace Go.Proofs.Ythngncklmkneoaa
open Go.RowKit Go.Eg
set_option maxHeartbeats 400000 in
theorem registryPlays_walk (q : Int) (lv : Value) (w : World) (_w0 : (Lit.int .i64 q).wf = true) (h : ∃ n F ks vs, Ops w lv n F ks vs) :
    Calls Try.prog 6 #[.int .i64 q, lv] w fun r w' => r = .returned (.bool true) ∧ Below w.heap.size w w' := by
  obtain ⟨n, F, ks, vs, h⟩ := h
  obtain ⟨a, cap, hs⟩ := h.row.slice
  subst hs
  have hln := h.len
  have H := Lib.hid h
  clear h
  by_cases hc : q < 1 ∨ 4096 < q
  · have HC := Lib.hid hc
    have hq : q < 1 ∨ ¬ q < 1 ∧ 4096 < q := by omega
    clear hc
    rcases hq with hq | ⟨hq, hq2⟩
    all_goals
      go_enter Try.func6, Try.ntmps6
      go_wp2_with fail
      refine (regNew_bad q w HC.out).mono ?_
      rintro r w1 ⟨rfl, rfl⟩
      go_wp2_with fail
      refine (alive_any _).mono ?_
      rintro r w3 ⟨rfl, hm3⟩
      have HK := Lib.hid hm3
      clear hm3
      go_wp2
      go_ret
      exact ⟨rfl, HK.out.below'⟩
  have hq1 : 1 ≤ q := by omega
  have hq2 : q ≤ 4096 := by omega
  clear hc
  go_enter Try.func6, Try.ntmps6
  go_wp2_with fail
  refine (regNew_any q w hq1 hq2).mono ?_
  rintro r w1 ⟨rfl, hr1, hk1⟩
  have BS := Lib.hid (beside_new w w1 q hr1 hk1)
  clear hr1 hk1
  by_cases hbig : 60 < n
  · go_wp2_with fail
    refine (alive_any _).mono ?_
    rintro r w3 ⟨rfl, hm3⟩
    have HK := Lib.hid (BS.out.keeps.keep hm3)
    clear hm3
    go_wp2
    go_ret
    exact ⟨rfl, HK.out.below'⟩
  · go_wp2_with fail
    go_loopw [6, 31] (fun u i wr => ∃ (k : Nat) (lr : Value) (l : List Vd), k ≤ n ∧ i = .int .i64 k ∧ Beside w.heap.size w wr (w.heap.size + 1) w.heap.size lr u q l (2 * k)) (fun _ i _ => n - (intOf i).toNat)
    case atStart => exact ⟨0, _, [], Nat.zero_le _, rfl, BS.out⟩
    case round =>
      obtain ⟨k, lr, l, hk, rfl, hb⟩ := hrel
      have HB := Lib.hid hb
      obtain ⟨ua, uc, hu⟩ := hb.row.slice
      subst hu
      by_cases hlt : k < n
      · obtain ⟨eb, eo, rfl, e0, e1, e2, e3, e4, e5, e6, e7, hok⟩ := op_cells (H.out.keeps hb.keeps) k hlt
        have hex := cell_lt e0
        have HOK := Lib.hid hok
        have HD := Lib.hid (fun wd hm => do_any (HB.out.keep (w' := wd) hm) (ks k) (vs k) hok (by omega))
        have hkk : ks k = ks k := rfl
        generalize ks k = kk at *
        generalize vs k = vv at *
        obtain ⟨bal, st, sl, rq, ex, wd, dl⟩ := vv
        simp only at e1 e2 e3 e4 e5 e6 e7
        clear hb hok hkk
        go_wp2_with fail
        refine (HD.out _ ((Mods.refl _ wr).alloc _)).mono ?_
        rintro r w3 ⟨lr3, u3, rfl, hb3⟩
        have HB3 := Lib.hid hb3
        clear hb3 e0 e1 e2 e3 e4 e5 e6 e7 HD
        have hl3 := HB3.out.reg.len'
        obtain ⟨ua3, uc3, hu3⟩ := HB3.out.row.slice
        subst hu3
        generalize stepL q l kk ⟨bal, st, sl, rq, ex, wd, dl⟩ = l3 at *
        go_wp2_with fail
        refine (regLen_any HB3.out.reg).mono ?_
        rintro r w4 ⟨rfl, rfl⟩
        go_wp2_with fail
        refine (regActive_any HB3.out.reg).mono ?_
        rintro r w4 ⟨rfl, rfl⟩
        go_wp2_with fail
        refine (active_any _ l3 w3 HB3.out.row (by omega) HB3.out.reg.ok HB3.out.reg.tot).mono ?_
        rintro r w4 ⟨rfl, rfl⟩
        go_wp2_with fail
        refine (regTotal_any HB3.out.reg).mono ?_
        rintro r w4 ⟨rfl, rfl⟩
        go_wp2_with fail
        refine (total_any _ l3 w3 HB3.out.row (by omega) HB3.out.reg.ok HB3.out.reg.tot).mono ?_
        rintro r w4 ⟨rfl, hk4⟩
        have HB4 := Lib.hid (HB3.out.keep hk4)
        clear hk4
        go_wp2_with fail
        refine (regAll_any HB4.out.reg).mono ?_
        rintro r w5 ⟨v5, rfl, ho5, hk5⟩
        have HB5 := Lib.hid (HB4.out.keep hk5)
        have HV5 := Lib.hid (VL.of_owns ho5)
        obtain ⟨a5, c5, rfl⟩ := owns_slice' ho5
        clear hk5 ho5
        go_wp2_with fail
        refine (same_any _ _ l3 w5 HV5.out HB5.out.row (by omega)).mono ?_
        rintro r w6 ⟨rfl, hd6⟩
        have HB6 := Lib.hid (HB5.out.keep hd6.mods)
        clear hd6
        go_wp2
        go_roundw
        case rel => exact ⟨k + 1, lr3, _, by omega, by go_num, HB6.out.mono (by omega)⟩
        case measure => simp [intOf]; omega
      · clear hb
        go_wp2_with fail
        refine (alive_any _).mono ?_
        rintro r w3 ⟨rfl, hk3⟩
        have HB3 := Lib.hid (HB.out.keep hk3)
        clear hk3
        go_wp2
        go_ret
        exact ⟨rfl, HB3.out.keeps.below'⟩
end Go.Proofs.Ythngncklmkneoaa
