/- The walk of LedgerBalances. -/
import Derived.Test.YtcipelkomgpngaaLedE
namespace Go.Proofs.Ytcipelkomgpngaa
open Go.RowKit Go.Eg
theorem amts3 (w : World) (x y z : Int) (t : TypeId) (hx : 0 ≤ x ∧ x ≤ maxU) (hy : 0 ≤ y ∧ y ≤ maxU) (hz : 0 ≤ z ∧ z ≤ maxU) : Amts (w.alloc (.cells #[.int .u64 x, .int .u64 y, .int .u64 z] t)) (.slice (some ⟨w.heap.size, 0, none⟩) 3 3) 3 (fun j => if j = 0 then x else if j = 1 then y else z) :=
  amts_block (heap_alloc_last w _) 3 3 _ fun j hj => by
    match j, hj with
    | 0, _ => exact ⟨rfl, hx⟩
    | 1, _ => exact ⟨rfl, hy⟩
    | 2, _ => exact ⟨rfl, hz⟩
theorem sum3 (x y z : Int) : sumF (fun j => if j = 0 then x else if j = 1 then y else z) 3 = x + y + z := by simp [sumF]
theorem cells_drawn {w5 w' : World} {p q : Addr} {x y : Value} (t1 : w5.cell? p = some x) (t2 : w5.cell? q = some y) (hd : Drawn w5.drew w') : w'.cell? p = some x ∧ w'.cell? q = some y := by
  have h : Keeps w5 w' := ((Mods.refl _ w5).drew).trans hd.mods
  exact ⟨h.cell t1 fun h => h, h.cell t2 fun h => h⟩
theorem cells_drawn_alloc {w5 w' : World} {p q : Addr} {x y : Value} (t1 : w5.cell? p = some x) (t2 : w5.cell? q = some y) (hd : Drawn w5.drew w') (o : Obj) : (w'.alloc o).cell? p = some x ∧ (w'.alloc o).cell? q = some y := by
  have h : Keeps w5 (w'.alloc o) := (((Mods.refl _ w5).drew).trans hd.mods).alloc o
  exact ⟨h.cell t1 fun h => h, h.cell t2 fun h => h⟩
theorem bal_close {w w5 w' : World} {g q b : Nat} {s : Led} {x : Value} (hd : Drawn w5.drew w') (hb : w5.heap[g]? = some (ledB s)) (hq : w5.heap[q]? = some (refB s)) (hm : Keeps w w5) (hc : w5.cell? ⟨b, 0, none⟩ = some x) (o : Obj) :
    (w'.alloc o).heap[g]? = some (ledB s) ∧ (w'.alloc o).heap[q]? = some (refB s) ∧ Keeps w (w'.alloc o) ∧ (w'.alloc o).cell? ⟨b, 0, none⟩ = some x := by
  have h : Keeps w5 (w'.alloc o) := (((Mods.refl _ w5).drew).trans hd.mods).alloc o
  exact ⟨h.at hb fun h => h, h.at hq fun h => h, hm.keep h, h.cell hc fun h => h⟩
theorem block_cell6 {w : World} {g : Nat} {cs : Array Value} {t : TypeId} {fr : Nat × Nat} (h : w.heap[g]? = some (.cells cs t fr)) (j : Nat) {v : Value} (hv : cs[j]? = some v) : w.cell? ⟨g, j, none⟩ = some v := by
  simp [World.cell?, h, hv]
set_option maxHeartbeats 600000 in
theorem ledgerBalances_walk (c : Int) (lv : Value) (w : World) (w0 : (Lit.int .u64 c).wf = true) (h : ∃ n F ks xs, Entries w lv n F ks xs) :
    Calls Try.prog 5 #[.int .u64 c, lv] w fun r w' => r = .returned (.bool true) ∧ Below w.heap.size w w' := by
  obtain ⟨hc0, hc1⟩ := bounds_u64 w0
  obtain ⟨n, F, ks, xs, h⟩ := h
  obtain ⟨a, cap, hs⟩ := h.row.slice
  subst hs
  have hln := h.len
  have H := Lib.hid h
  have BS := Lib.hid (books_start w c hc0 hc1)
  clear w0 h hc1
  go_enter Try.func5, Try.ntmps5
  go_wp2_with fail
  refine (ledNew_any c w).mono ?_
  rintro r w1 ⟨rfl, rfl⟩
  by_cases hbig : 1000 < n
  · go_wp2_with fail
    refine (alive_any _).mono ?_
    rintro r w3 ⟨rfl, hm3⟩
    obtain ⟨_, _, _, _, _, hk⟩ := BS.out
    have HK := Lib.hid (hk.keep hm3)
    clear hm3 hk
    go_wp2
    go_ret
    exact ⟨rfl, HK.out.below'⟩
  · go_wp2_with fail
    go_loopw [25] (fun i wr => ∃ k : Nat, k ≤ n ∧ i = .int .i64 k ∧ Books w c wr) (fun i _ => n - (intOf i).toNat)
    case atStart => exact ⟨0, Nat.zero_le _, rfl, BS.out⟩
    case round =>
      obtain ⟨k, hk, rfl, s, hs, hsc, hb, hq, hm⟩ := hrel
      have HS := Lib.hid hs
      have HB := Lib.hid hb
      have HQ := Lib.hid hq
      have HM := Lib.hid hm
      have HSC := Lib.hid hsc
      by_cases hlt : k < n
      · obtain ⟨eb, eo, rfl, e0, e1, y0, y1⟩ := entry_cells (H.out.keeps hm) k hlt
        have Y1 := Lib.hid y1
        clear hs hb hq hm hsc y1
        go_wp2_with fail
        have HB2 := Lib.hid (heap_keep HB.out (.cells #[.int .i64 (ks k), .int .u64 (xs k)] 31))
        have HQ2 := Lib.hid (heap_keep HQ.out (.cells #[.int .i64 (ks k), .int .u64 (xs k)] 31))
        have HM2 := Lib.hid (HM.out.alloc (.cells #[.int .i64 (ks k), .int .u64 (xs k)] 31))
        refine (do_any w.heap.size (w.heap.size + 1) s (ks k) (xs k) _ HB2.out HQ2.out (by omega) HS.out y0 Y1.out).mono ?_
        rintro r w3 ⟨rfl, hb3, hq3, hm3⟩
        have HS3 := Lib.hid (Led.step_ok HS.out (ks k) y0)
        have HSC3 := Lib.hid ((Led.step_c s (ks k) (xs k)).trans HSC.out)
        have HB3 := Lib.hid hb3
        have HQ3 := Lib.hid hq3
        have HM3 := Lib.hid (HM2.out.seq hm3 (fun i hi h => by rcases h with h | h <;> omega))
        clear hb3 hq3 hm3 e0 e1 HB2 HQ2 HM2 HS HSC HB HQ HM
        generalize s.step (ks k) (xs k) = s at *
        go_wp2_with fail
        refine (totals_any _ s w3 HB3.out).mono ?_
        rintro r w4 ⟨rfl, hm4⟩
        have HB4 := Lib.hid (hm4.at HB3.out (fun h => h))
        have HQ4 := Lib.hid (hm4.at HQ3.out (fun h => h))
        have HM4 := Lib.hid (HM3.out.keep hm4)
        clear hm4
        go_wp2_with fail
        have HB5 := Lib.hid (heap_keep HB4.out (.cells #[.int .u64 s.d, .int .u64 s.p, .int .u64 s.b] 39))
        have HQ5 := Lib.hid (heap_keep HQ4.out (.cells #[.int .u64 s.d, .int .u64 s.p, .int .u64 s.b] 39))
        have HM5 := Lib.hid (HM4.out.alloc (.cells #[.int .u64 s.d, .int .u64 s.p, .int .u64 s.b] 39))
        have HT5 := Lib.hid (heap_alloc_last w4 (.cells #[.int .u64 s.d, .int .u64 s.p, .int .u64 s.b] 39))
        obtain ⟨w5, hw5⟩ : ∃ w5, w5 = w4.alloc (.cells #[.int .u64 s.d, .int .u64 s.p, .int .u64 s.b] 39) := ⟨_, rfl⟩
        rw [← hw5] at HB5 HQ5 HM5 HT5 ⊢
        clear hw5 HB4 HQ4 HM4 HB3 HQ3 HM3
        have t1 : w5.cell? ⟨w4.heap.size, 1, none⟩ = some (.int .u64 s.p) := block_cell6 HT5.out 1 rfl
        have t2 : w5.cell? ⟨w4.heap.size, 2, none⟩ = some (.int .u64 s.b) := block_cell6 HT5.out 2 rfl
        have T0 := Lib.hid (show w5.cell? ⟨w4.heap.size, 0, none⟩ = some (.int .u64 s.d) from block_cell6 HT5.out 0 rfl)
        have hsup := Lib.hid (show s.sup = s.d - s.p - s.b from rfl)
        have hok := HS3.out
        have A0 := Lib.hid (show 0 ≤ s.sup ∧ s.sup ≤ maxU from by have := hok.s0; have := hok.d1; have := hok.p0; have := hok.b0; have := hsup.out; omega)
        have A1 := Lib.hid (show 0 ≤ s.p ∧ s.p ≤ maxU from by have := hok.s0; have := hok.d1; have := hok.p0; have := hok.b0; omega)
        have A2 := Lib.hid (show 0 ≤ s.b ∧ s.b ≤ maxU from by have := hok.s0; have := hok.d1; have := hok.p0; have := hok.b0; omega)
        have hsum : s.sup + s.p + s.b = s.d := by have := hsup.out; omega
        have AO := Lib.hid (show addOk (fun j => if j = 0 then s.sup else if j = 1 then s.p else s.b) 3 = true from by unfold addOk; rw [sum3, hsum]; exact decide_eq_true hok.d1)
        have AV := Lib.hid (show addV (fun j => if j = 0 then s.sup else if j = 1 then s.p else s.b) 3 = s.d from by unfold addV; rw [sum3, hsum]; exact if_pos hok.d1)
        have SC := Lib.hid (show s.sup ≤ c from by have := hok.sc; have := hsup.out; have := HSC3.out; omega)
        have tlt := heap_lt HT5.out
        clear hok hsum
        go_region_held3 (fun w' => w'.cell? ⟨w4.heap.size, 1, none⟩ = some (.int .u64 s.p) ∧ w'.cell? ⟨w4.heap.size, 2, none⟩ = some (.int .u64 s.b))
          (first
            | (simp [t1, t2]; done)
            | (refine cells_drawn t1 t2 ?_; assumption)
            | (refine cells_drawn_alloc t1 t2 ?_ _; assumption))
          (first
            | (go_at_call 15; refine (supply_any w.heap.size s _ ?_ HS3.out).mono ?_; (exact HB5.out); rintro e w' ⟨rfl, hd'⟩)
            | (go_at_call 18; refine (gweiAdd_any _ 3 (fun j => if j = 0 then s.sup else if j = 1 then s.p else s.b) _ ?_ (by omega)).mono ?_; (exact amts3 _ _ _ _ _ A0.out A1.out A2.out); rw [AO.out, AV.out]; rintro e w' ⟨rfl, rfl⟩))
        have DD := Lib.hid (bal_close (by assumption) HB5.out HQ5.out HM5.out T0.out (.cells #[.int .u64 s.sup, .int .u64 s.p, .int .u64 s.b] 22))
        obtain ⟨x1, x2, x3, x4⟩ := DD.out
        have HB6 := Lib.hid x1
        have HQ6 := Lib.hid x2
        have HM6 := Lib.hid x3
        clear x1 x2 x3 DD t1 t2
        go_wp2_with fail
        refine (supply_any _ s _ HB6.out HS3.out).mono ?_
        rintro r w7 ⟨rfl, hd7⟩
        have F := Lib.hid (show Books w c w7 from ⟨s, HS3.out, HSC3.out, by rw [hd7.heap]; exact HB6.out, by rw [hd7.heap]; exact HQ6.out, HM6.out.keep hd7.mods⟩)
        have sc := SC.out
        clear hd7 x4
        generalize s.sup = q at *
        go_wp2
        go_roundw
        case rel => exact ⟨k + 1, by omega, by go_num, F.out⟩
        case measure => simp [intOf]; omega
      · clear hs hb hq hm hsc
        go_wp2_with fail
        refine (alive_any _).mono ?_
        rintro r w4 ⟨rfl, hm4⟩
        have HM4 := Lib.hid (HM.out.keep hm4)
        clear hm4
        go_wp2
        go_ret
        exact ⟨rfl, HM4.out.below'⟩
end Go.Proofs.Ytcipelkomgpngaa
