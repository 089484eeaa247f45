/- The walks of RegistryCounts and RegistryGets. -/
import Derived.Test.YthngncklmkneoaaRgsJ
namespace Go.Proofs.Ythngncklmkneoaa
open Go.RowKit Go.Eg
theorem beside_new (w w1 : World) (c : Int) (hr : RegAt w.heap.size w1 (w.heap.size + 1) w.heap.size (.slice none 0 0) c [] 0) (hk : Keeps w w1) : Beside w.heap.size w w1 (w.heap.size + 1) w.heap.size (.slice none 0 0) (.slice none 0 0) c [] 0 :=
  ⟨hr, VL.nil _, new_own w, (fun k h => by cases h), hk⟩
theorem Beside.keep {B : Nat} {w0 w w' : World} {g m : Nat} {lv u : Value} {cap : Int} {l : List Vd} {n : Nat} (h : Beside B w0 w g m lv u cap l n) (hk : Keeps w w') : Beside B w0 w' g m lv u cap l n :=
  ⟨h.reg.keeps hk, h.row.keeps hk, h.own, h.apart, h.keeps.keep hk⟩
theorem RegAt.len' {B : Nat} {w : World} {g m : Nat} {lv : Value} {cap : Int} {l : List Vd} {n : Nat} (h : RegAt B w g m lv cap l n) : l.length ≤ 4096 := by have := h.len; have := h.cap; omega
theorem c14_keep {w0 w' : World} {b : Nat} {p0 p1 p2 p3 p4 p5 p6 : Addr} {x0 x1 x2 x3 x4 x5 x6 z0 z1 z2 z3 z4 z5 z6 : Value} (u0 : w0.cell? ⟨b, 0, none⟩ = some x0) (u1 : w0.cell? ⟨b, 1, none⟩ = some x1) (u2 : w0.cell? ⟨b, 2, none⟩ = some x2) (u3 : w0.cell? ⟨b, 3, none⟩ = some x3) (u4 : w0.cell? ⟨b, 4, none⟩ = some x4) (u5 : w0.cell? ⟨b, 5, none⟩ = some x5) (u6 : w0.cell? ⟨b, 6, none⟩ = some x6) (y0 : w0.cell? p0 = some z0) (y1 : w0.cell? p1 = some z1) (y2 : w0.cell? p2 = some z2) (y3 : w0.cell? p3 = some z3) (y4 : w0.cell? p4 = some z4) (y5 : w0.cell? p5 = some z5) (y6 : w0.cell? p6 = some z6) (hm : Keeps w0 w') : w'.cell? ⟨b, 0, none⟩ = some x0 ∧ w'.cell? ⟨b, 1, none⟩ = some x1 ∧ w'.cell? ⟨b, 2, none⟩ = some x2 ∧ w'.cell? ⟨b, 3, none⟩ = some x3 ∧ w'.cell? ⟨b, 4, none⟩ = some x4 ∧ w'.cell? ⟨b, 5, none⟩ = some x5 ∧ w'.cell? ⟨b, 6, none⟩ = some x6 ∧ w'.cell? p0 = some z0 ∧ w'.cell? p1 = some z1 ∧ w'.cell? p2 = some z2 ∧ w'.cell? p3 = some z3 ∧ w'.cell? p4 = some z4 ∧ w'.cell? p5 = some z5 ∧ w'.cell? p6 = some z6 :=
  ⟨hm.cell u0 fun h => h, hm.cell u1 fun h => h, hm.cell u2 fun h => h, hm.cell u3 fun h => h, hm.cell u4 fun h => h, hm.cell u5 fun h => h, hm.cell u6 fun h => h, hm.cell y0 fun h => h, hm.cell y1 fun h => h, hm.cell y2 fun h => h, hm.cell y3 fun h => h, hm.cell y4 fun h => h, hm.cell y5 fun h => h, hm.cell y6 fun h => h⟩
set_option maxHeartbeats 400000 in
theorem registryCounts_walk (c : Int) (lv : Value) (x : Int) (w : World) (w0 : (Lit.int .u8 c).wf = true) (h : ∃ n F ks vs, Ops w lv n F ks vs) (w2 : (Lit.int .i64 x).wf = true) :
    Calls Try.prog 3 #[.int .u8 c, lv, .int .i64 x] w fun r w' => r = .returned (.bool true) ∧ Below w.heap.size w w' := by
  obtain ⟨hc0, hc1⟩ := bounds_u8 w0
  obtain ⟨n, F, ks, vs, h⟩ := h
  obtain ⟨a, cap, hs⟩ := h.row.slice
  subst hs
  have hln := h.len
  have H := Lib.hid h
  have WX := Lib.hid w2
  clear w0 h w2
  go_enter Try.func3, Try.ntmps3
  go_wp2_with fail
  obtain ⟨q, hq⟩ : ∃ q, q = c % 20 + 1 := ⟨_, rfl⟩
  rw [← hq]
  have hq1 : 1 ≤ q := by omega
  have hq2 : q ≤ 20 := by omega
  clear hq
  refine (regNew_any q w hq1 (by omega)).mono ?_
  rintro r w1 ⟨rfl, hr1, hk1⟩
  have BS := Lib.hid (beside_new w w1 q hr1 hk1)
  clear hr1 hk1
  by_cases hbig : 60 < n
  · go_wp2_with fail
    refine (alive_any _).mono ?_
    rintro r w3 ⟨rfl, hm3⟩
    have HK := Lib.hid (BS.out.keeps.keep hm3)
    clear hm3
    go_wp2
    go_ret
    exact ⟨rfl, HK.out.below'⟩
  · go_wp2_with fail
    go_loopw [9, 27] (fun u i wr => ∃ (k : Nat) (lr : Value) (l : List Vd), k ≤ n ∧ i = .int .i64 k ∧ Beside w.heap.size w wr (w.heap.size + 1) w.heap.size lr u q l (2 * k)) (fun _ i _ => n - (intOf i).toNat)
    case atStart => exact ⟨0, _, [], Nat.zero_le _, rfl, BS.out⟩
    case round =>
      obtain ⟨k, lr, l, hk, rfl, hb⟩ := hrel
      have HB := Lib.hid hb
      obtain ⟨ua, uc, hu⟩ := hb.row.slice
      subst hu
      by_cases hlt : k < n
      · obtain ⟨eb, eo, rfl, e0, e1, e2, e3, e4, e5, e6, e7, hok⟩ := op_cells (H.out.keeps hb.keeps) k hlt
        have hex := cell_lt e0
        have HOK := Lib.hid hok
        have HD := Lib.hid (fun wd hm => do_any (HB.out.keep (w' := wd) hm) (ks k) (vs k) hok (by omega))
        have hkk : ks k = ks k := rfl
        generalize ks k = kk at *
        generalize vs k = vv at *
        obtain ⟨bal, st, sl, rq, ex, wd, dl⟩ := vv
        simp only at e1 e2 e3 e4 e5 e6 e7
        clear hb hok hkk
        go_wp2_with fail
        refine (HD.out _ ((Mods.refl _ wr).alloc _)).mono ?_
        rintro r w3 ⟨lr3, u3, rfl, hb3⟩
        have HB3 := Lib.hid hb3
        clear hb3 e0 e1 e2 e3 e4 e5 e6 e7 HD
        go_wp2
        go_roundw
        case rel => exact ⟨k + 1, lr3, _, by omega, by go_num, HB3.out.mono (by omega)⟩
        case measure => simp [intOf]; omega
      · clear hb
        have hl2 := HB.out.reg.len'
        go_wp2_with fail
        go_loop [12] (fun s => ∃ j : Nat, j ≤ 9 ∧ s = .int .i64 j) (fun s => 9 - (intOf s).toNat)
        case atStart => exact ⟨0, by omega, rfl⟩
        case round =>
          obtain ⟨j, hj, rfl⟩ := hrel
          by_cases hj9 : j ≤ 8
          · have hjw : (Lit.int .i64 (j : Int)).wf = true := by
              have h1 : (j : Int) = 0 ∨ (j : Int) = 1 ∨ (j : Int) = 2 ∨ (j : Int) = 3 ∨ (j : Int) = 4 ∨ (j : Int) = 5 ∨ (j : Int) = 6 ∨ (j : Int) = 7 ∨ (j : Int) = 8 := by omega
              rcases h1 with h | h | h | h | h | h | h | h | h <;> rw [h] <;> decide
            have HJ := Lib.hid hjw
            clear hjw
            go_wp2_with fail
            refine (regCount_any HB.out.reg (j : Int) HJ.out).mono ?_
            rintro r w3 ⟨rfl, rfl⟩
            go_wp2_with fail
            refine (count_any _ l (j : Int) wr HB.out.row (by omega)).mono ?_
            rintro r w3 ⟨rfl, rfl⟩
            go_wp2
            go_round
            case rel => exact ⟨j + 1, by omega, by go_num⟩
            case measure => simp [intOf]; omega
          · go_wp2_with fail
            refine (alive_any wr).mono ?_
            rintro r w3 ⟨rfl, hk3⟩
            have HB3 := Lib.hid (HB.out.keep hk3)
            clear hk3
            go_wp2_with fail
            refine (regCount_any HB3.out.reg x WX.out).mono ?_
            rintro r w4 ⟨rfl, rfl⟩
            go_wp2_with fail
            refine (count_any _ l x w3 HB3.out.row (by omega)).mono ?_
            rintro r w4 ⟨rfl, rfl⟩
            go_wp2
            go_ret
            exact ⟨rfl, HB3.out.keeps.below'⟩
set_option maxHeartbeats 400000 in
theorem registryGets_walk (c : Int) (lv : Value) (x : Int) (w : World) (w0 : (Lit.int .u8 c).wf = true) (h : ∃ n F ks vs, Ops w lv n F ks vs) (w2 : (Lit.int .i64 x).wf = true) :
    Calls Try.prog 4 #[.int .u8 c, lv, .int .i64 x] w fun r w' => r = .returned (.bool true) ∧ Below w.heap.size w w' := by
  obtain ⟨hc0, hc1⟩ := bounds_u8 w0
  obtain ⟨n, F, ks, vs, h⟩ := h
  obtain ⟨a, cap, hs⟩ := h.row.slice
  subst hs
  have hln := h.len
  have H := Lib.hid h
  have WX := Lib.hid w2
  clear w0 h w2
  go_enter Try.func4, Try.ntmps4
  go_wp2_with fail
  obtain ⟨q, hq⟩ : ∃ q, q = c % 20 + 1 := ⟨_, rfl⟩
  rw [← hq]
  have hq1 : 1 ≤ q := by omega
  have hq2 : q ≤ 20 := by omega
  clear hq
  refine (regNew_any q w hq1 (by omega)).mono ?_
  rintro r w1 ⟨rfl, hr1, hk1⟩
  have BS := Lib.hid (beside_new w w1 q hr1 hk1)
  clear hr1 hk1
  by_cases hbig : 60 < n
  · go_wp2_with fail
    refine (alive_any _).mono ?_
    rintro r w3 ⟨rfl, hm3⟩
    have HK := Lib.hid (BS.out.keeps.keep hm3)
    clear hm3
    go_wp2
    go_ret
    exact ⟨rfl, HK.out.below'⟩
  · go_wp2_with fail
    go_loopw [9, 28] (fun u i wr => ∃ (k : Nat) (lr : Value) (l : List Vd), k ≤ n ∧ i = .int .i64 k ∧ Beside w.heap.size w wr (w.heap.size + 1) w.heap.size lr u q l (2 * k)) (fun _ i _ => n - (intOf i).toNat)
    case atStart => exact ⟨0, _, [], Nat.zero_le _, rfl, BS.out⟩
    case round =>
      obtain ⟨k, lr, l, hk, rfl, hb⟩ := hrel
      have HB := Lib.hid hb
      obtain ⟨ua, uc, hu⟩ := hb.row.slice
      subst hu
      by_cases hlt : k < n
      · obtain ⟨eb, eo, rfl, e0, e1, e2, e3, e4, e5, e6, e7, hok⟩ := op_cells (H.out.keeps hb.keeps) k hlt
        have hex := cell_lt e0
        have HOK := Lib.hid hok
        have HD := Lib.hid (fun wd hm => do_any (HB.out.keep (w' := wd) hm) (ks k) (vs k) hok (by omega))
        have hkk : ks k = ks k := rfl
        generalize ks k = kk at *
        generalize vs k = vv at *
        obtain ⟨bal, st, sl, rq, ex, wd, dl⟩ := vv
        simp only at e1 e2 e3 e4 e5 e6 e7
        clear hb hok hkk
        go_wp2_with fail
        refine (HD.out _ ((Mods.refl _ wr).alloc _)).mono ?_
        rintro r w3 ⟨lr3, u3, rfl, hb3⟩
        have HB3 := Lib.hid hb3
        clear hb3 e0 e1 e2 e3 e4 e5 e6 e7 HD
        go_wp2
        go_roundw
        case rel => exact ⟨k + 1, lr3, _, by omega, by go_num, HB3.out.mono (by omega)⟩
        case measure => simp [intOf]; omega
      · clear hb
        have hl2 := HB.out.reg.len'
        by_cases hout : x < 0 ∨ (l.length : Int) ≤ x
        · have HO := Lib.hid hout
          go_wp2_with fail
          refine (regGet_out HB.out.reg x HO.out).mono ?_
          rintro r w3 ⟨hr, hk3⟩
          rw [show vd0.val = Value.agg #[.int .u64 0, .int .i64 0, .bool false, .int .i64 0, .int .i64 0, .int .i64 0, .int .i64 0] from rfl] at hr
          subst hr
          have HB3 := Lib.hid ((HB.out.keep hk3).keep ((Mods.refl _ w3).alloc (.cells vd0.cells 29)))
          have hvb := heap_alloc_last w3 (.cells vd0.cells 29)
          have HVB := Lib.hid hvb
          clear hk3 hvb hout
          rcases HO.out with hx | hx
          · go_wp2_with fail
            refine (alive_any _).mono ?_
            rintro r w4 ⟨rfl, hk4⟩
            have HB4 := Lib.hid (HB3.out.keep hk4)
            have hvb := hk4.at HVB.out (fun h => h)
            have u0 : w4.cell? ⟨w3.heap.size, 0, none⟩ = some (.int .u64 0) := block_cell hvb 0 rfl
            have u1 : w4.cell? ⟨w3.heap.size, 1, none⟩ = some (.int .i64 0) := block_cell hvb 1 rfl
            have u2 : w4.cell? ⟨w3.heap.size, 2, none⟩ = some (.bool false) := block_cell hvb 2 rfl
            have u3 : w4.cell? ⟨w3.heap.size, 3, none⟩ = some (.int .i64 0) := block_cell hvb 3 rfl
            have u4 : w4.cell? ⟨w3.heap.size, 4, none⟩ = some (.int .i64 0) := block_cell hvb 4 rfl
            have u5 : w4.cell? ⟨w3.heap.size, 5, none⟩ = some (.int .i64 0) := block_cell hvb 5 rfl
            have u6 : w4.cell? ⟨w3.heap.size, 6, none⟩ = some (.int .i64 0) := block_cell hvb 6 rfl
            clear hk4 hvb
            go_wp2
            go_ret
            exact ⟨rfl, HB4.out.keeps.below'⟩
          · have hx0 : ¬ x < 0 := by omega
            all_goals
              go_wp2_with fail
              refine (alive_any _).mono ?_
              rintro r w4 ⟨rfl, hk4⟩
              have HB4 := Lib.hid (HB3.out.keep hk4)
              have hvb := hk4.at HVB.out (fun h => h)
              have u0 : w4.cell? ⟨w3.heap.size, 0, none⟩ = some (.int .u64 0) := block_cell hvb 0 rfl
              have u1 : w4.cell? ⟨w3.heap.size, 1, none⟩ = some (.int .i64 0) := block_cell hvb 1 rfl
              have u2 : w4.cell? ⟨w3.heap.size, 2, none⟩ = some (.bool false) := block_cell hvb 2 rfl
              have u3 : w4.cell? ⟨w3.heap.size, 3, none⟩ = some (.int .i64 0) := block_cell hvb 3 rfl
              have u4 : w4.cell? ⟨w3.heap.size, 4, none⟩ = some (.int .i64 0) := block_cell hvb 4 rfl
              have u5 : w4.cell? ⟨w3.heap.size, 5, none⟩ = some (.int .i64 0) := block_cell hvb 5 rfl
              have u6 : w4.cell? ⟨w3.heap.size, 6, none⟩ = some (.int .i64 0) := block_cell hvb 6 rfl
              clear hk4 hvb
              go_wp2
              go_ret
              exact ⟨rfl, HB4.out.keeps.below'⟩
        · obtain ⟨j, rfl⟩ : ∃ j : Nat, x = j := ⟨x.toNat, by omega⟩
          have hj : j < l.length := by omega
          have HG := Lib.hid (regGet_any HB.out.reg j hj)
          have HJ := Lib.hid (fun w' (h : Keeps wr w') => (HB.out.row.keeps h).at j hj)
          have hjl : (j : Int) < (l.length : Int) := by omega
          generalize l[j] = v at *
          obtain ⟨bal, st, sl, rq, ex, wd, dl⟩ := v
          go_wp2_with fail
          refine HG.out.mono ?_
          rintro r w3 ⟨rfl, hk3⟩
          have HB3 := Lib.hid ((HB.out.keep hk3).keep ((Mods.refl _ w3).alloc (.cells (Vd.cells ⟨bal, st, sl, rq, ex, wd, dl⟩) 29)))
          have hvb := heap_alloc_last w3 (.cells (Vd.cells ⟨bal, st, sl, rq, ex, wd, dl⟩) 29)
          have HVB := Lib.hid hvb
          obtain ⟨b, off, rfl, y0, y1, y2, y3, y4, y5, y6⟩ := HJ.out _ (hk3.alloc (.cells (Vd.cells ⟨bal, st, sl, rq, ex, wd, dl⟩) 29))
          obtain ⟨wy, hwy⟩ : ∃ wy, wy = w3.alloc (.cells (Vd.cells ⟨bal, st, sl, rq, ex, wd, dl⟩) 29) := ⟨_, rfl⟩
          go_wp2_with fail
          rw [← hwy] at HB3 HVB y0 y1 y2 y3 y4 y5 y6 ⊢
          have u0 : wy.cell? ⟨w3.heap.size, 0, none⟩ = some (.int .u64 bal) := block_cell HVB.out 0 rfl
          have u1 : wy.cell? ⟨w3.heap.size, 1, none⟩ = some (.int .i64 st) := block_cell HVB.out 1 rfl
          have u2 : wy.cell? ⟨w3.heap.size, 2, none⟩ = some (.bool sl) := block_cell HVB.out 2 rfl
          have u3 : wy.cell? ⟨w3.heap.size, 3, none⟩ = some (.int .i64 rq) := block_cell HVB.out 3 rfl
          have u4 : wy.cell? ⟨w3.heap.size, 4, none⟩ = some (.int .i64 ex) := block_cell HVB.out 4 rfl
          have u5 : wy.cell? ⟨w3.heap.size, 5, none⟩ = some (.int .i64 wd) := block_cell HVB.out 5 rfl
          have u6 : wy.cell? ⟨w3.heap.size, 6, none⟩ = some (.int .i64 dl) := block_cell HVB.out 6 rfl
          clear hk3 hvb hwy HJ HG
          go_region_held3 (fun w' => w'.cell? ⟨w3.heap.size, 0, none⟩ = some (.int .u64 bal) ∧ w'.cell? ⟨w3.heap.size, 1, none⟩ = some (.int .i64 st) ∧ w'.cell? ⟨w3.heap.size, 2, none⟩ = some (.bool sl) ∧ w'.cell? ⟨w3.heap.size, 3, none⟩ = some (.int .i64 rq) ∧ w'.cell? ⟨w3.heap.size, 4, none⟩ = some (.int .i64 ex) ∧ w'.cell? ⟨w3.heap.size, 5, none⟩ = some (.int .i64 wd) ∧ w'.cell? ⟨w3.heap.size, 6, none⟩ = some (.int .i64 dl) ∧ w'.cell? ⟨b, off + j * 7, none⟩ = some (.int .u64 bal) ∧ w'.cell? ⟨b, off + j * 7 + 1, none⟩ = some (.int .i64 st) ∧ w'.cell? ⟨b, off + j * 7 + 2, none⟩ = some (.bool sl) ∧ w'.cell? ⟨b, off + j * 7 + 3, none⟩ = some (.int .i64 rq) ∧ w'.cell? ⟨b, off + j * 7 + 4, none⟩ = some (.int .i64 ex) ∧ w'.cell? ⟨b, off + j * 7 + 5, none⟩ = some (.int .i64 wd) ∧ w'.cell? ⟨b, off + j * 7 + 6, none⟩ = some (.int .i64 dl))
            (first
              | (simp [u0, u1, u2, u3, u4, u5, u6, y0, y1, y2, y3, y4, y5, y6]; done)
              | (refine c14_keep u0 u1 u2 u3 u4 u5 u6 y0 y1 y2 y3 y4 y5 y6 ?_; assumption))
            (first
              | (go_at_call 10; refine (alive_any _).mono ?_; rintro r w4 ⟨rfl, hk4⟩; have hk5 : Keeps wy w4 := ((Mods.refl _ wy).drew).keep hk4))
          have HK5 := Lib.hid (show Keeps wy _ from by assumption)
          go_wp2
          go_ret
          exact ⟨rfl, (HB3.out.keeps.keep HK5.out).below'⟩
end Go.Proofs.Ythngncklmkneoaa
