/- The walk of LedgerBooks. -/
import Derived.Test.YtcipelkomgpngaaLedH
namespace Go.Proofs.Ytcipelkomgpngaa
open Go.RowKit Go.Eg
set_option maxHeartbeats 1000000 in
theorem ledgerBooks_walk (c : Int) (lv : Value) (w : World) (w0 : (Lit.int .u64 c).wf = true) (h : ∃ n F ks xs, Entries w lv n F ks xs) :
    Calls Try.prog 4 #[.int .u64 c, lv] w fun r w' => r = .returned (.bool true) ∧ Below w.heap.size w w' := by
  obtain ⟨hc0, hc1⟩ := bounds_u64 w0
  obtain ⟨n, F, ks, xs, h⟩ := h
  obtain ⟨a, cap, hs⟩ := h.row.slice
  subst hs
  have hln := h.len
  have H := Lib.hid h
  have BS := Lib.hid (books_start w c hc0 hc1)
  clear w0 h hc1
  go_enter Try.func4, Try.ntmps4
  go_wp2_with fail
  refine (ledNew_any c w).mono ?_
  rintro r w1 ⟨rfl, rfl⟩
  by_cases hbig : 1000 < n
  · go_wp2_with fail
    refine (alive_any _).mono ?_
    rintro r w3 ⟨rfl, hm3⟩
    obtain ⟨_, _, _, _, _, hk⟩ := BS.out
    have HK := Lib.hid (hk.keep hm3)
    clear hm3 hk
    go_wp2
    go_ret
    exact ⟨rfl, HK.out.below'⟩
  · go_wp2_with fail
    go_loopw [24] (fun i wr => ∃ k : Nat, k ≤ n ∧ i = .int .i64 k ∧ Books w c wr) (fun i _ => n - (intOf i).toNat)
    case atStart => exact ⟨0, Nat.zero_le _, rfl, BS.out⟩
    case round =>
      obtain ⟨k, hk, rfl, s, hs, hsc, hb, hq, hm⟩ := hrel
      have HS := Lib.hid hs
      have HB := Lib.hid hb
      have HQ := Lib.hid hq
      have HM := Lib.hid hm
      have HSC := Lib.hid hsc
      by_cases hlt : k < n
      · obtain ⟨eb, eo, rfl, e0, e1, y0, y1⟩ := entry_cells (H.out.keeps hm) k hlt
        have Y1 := Lib.hid y1
        clear hs hb hq hm hsc y1
        go_wp2_with fail
        have HB2 := Lib.hid (heap_keep HB.out (.cells #[.int .i64 (ks k), .int .u64 (xs k)] 31))
        have HQ2 := Lib.hid (heap_keep HQ.out (.cells #[.int .i64 (ks k), .int .u64 (xs k)] 31))
        have HM2 := Lib.hid (HM.out.alloc (.cells #[.int .i64 (ks k), .int .u64 (xs k)] 31))
        refine (do_any w.heap.size (w.heap.size + 1) s (ks k) (xs k) _ HB2.out HQ2.out (by omega) HS.out y0 Y1.out).mono ?_
        rintro r w3 ⟨rfl, hb3, hq3, hm3⟩
        have HS6 := Lib.hid (Led.step_ok HS.out (ks k) y0)
        have HSC6 := Lib.hid ((Led.step_c s (ks k) (xs k)).trans HSC.out)
        have HB6 := Lib.hid hb3
        have HQ6 := Lib.hid hq3
        have HM6 := Lib.hid (HM2.out.seq hm3 (fun i hi h => by rcases h with h | h <;> omega))
        clear hb3 hq3 hm3 e0 e1 HB2 HQ2 HM2 HS HSC HB HQ HM
        generalize s.code (ks k) (xs k) = cd at *
        generalize s.step (ks k) (xs k) = s at *
        have F := Lib.hid (show Books w c w3 from ⟨s, HS6.out, HSC6.out, HB6.out, HQ6.out, HM6.out⟩)
        have hl1 := heap_lt HB6.out
        have hl2 := heap_lt HQ6.out
        obtain ⟨_, q1, q2, q3⟩ := ref_cells HQ6.out
        have Q1 := Lib.hid q1
        have Q2 := Lib.hid q2
        have Q3 := Lib.hid q3
        clear q1 q2 q3
        go_wp2_with fail
        have hC0 : Alow w3.heap.size w3 w3.drew := ⟨(Below.refl _ _).drew, Nat.le_refl _⟩
        refine wp_region_quiet (by kernel_rfl) (by kernel_rfl) hC0 ?_
        refine wpQuiet_val (v := .int .i64 cd) rfl (fun wx hC => by go_simp) ?_
        try go_frame
        refine wpQuiet_val (v := .int .i64 cd) rfl (fun wx hC => by go_simp) ?_
        try go_frame
        refine wpQuiet_val (v := .bool false) rfl (fun wx hC => by go_simp) ?_
        try go_frame
        refine wpQuiet_val (v := .bool false) rfl (fun wx hC => by go_simp) ?_
        try go_frame
        refine wpQuiet_val (v := .pointer (some ⟨w.heap.size, 0, none⟩)) rfl (fun wx hC => by go_simp) ?_
        try go_frame
        refine wpQuiet_enter rfl (fun wx hC => by first | (go_simp; done) | (go_simp; decide)) (fun wx hC => hC.call ((totals_any w.heap.size s wx ((hC.block hl1).trans HB6.out)).mono fun _ _ ⟨he, hm⟩ => ⟨he, hm.below'⟩)) ?_
        try go_frame
        refine wpQuiet_val (v := .pointer (some ⟨w.heap.size + 1, 0, none⟩)) rfl (fun wx hC => by go_simp) ?_
        try go_frame
        refine wpQuiet_val (v := .pointer (some ⟨w.heap.size + 1, 0, none⟩)) rfl (fun wx hC => by go_simp) ?_
        try go_frame
        refine wpQuiet_val (v := .pointer (some ⟨w.heap.size + 1, 1, none⟩)) rfl (fun wx hC => by go_simp) ?_
        try go_frame
        refine wpQuiet_val (v := .int .u64 s.d) rfl (fun wx hC => by have hz := (hC.cell (p := ⟨w.heap.size + 1, 1, none⟩) hl2).trans Q1.out; go_simp) ?_
        try go_frame
        refine wpQuiet_val (v := .pointer (some ⟨w.heap.size + 1, 0, none⟩)) rfl (fun wx hC => by go_simp) ?_
        try go_frame
        refine wpQuiet_val (v := .pointer (some ⟨w.heap.size + 1, 0, none⟩)) rfl (fun wx hC => by go_simp) ?_
        try go_frame
        refine wpQuiet_val (v := .pointer (some ⟨w.heap.size + 1, 2, none⟩)) rfl (fun wx hC => by go_simp) ?_
        try go_frame
        refine wpQuiet_val (v := .int .u64 s.p) rfl (fun wx hC => by have hz := (hC.cell (p := ⟨w.heap.size + 1, 2, none⟩) hl2).trans Q2.out; go_simp) ?_
        try go_frame
        refine wpQuiet_val (v := .pointer (some ⟨w.heap.size + 1, 0, none⟩)) rfl (fun wx hC => by go_simp) ?_
        try go_frame
        refine wpQuiet_val (v := .pointer (some ⟨w.heap.size + 1, 0, none⟩)) rfl (fun wx hC => by go_simp) ?_
        try go_frame
        refine wpQuiet_val (v := .pointer (some ⟨w.heap.size + 1, 3, none⟩)) rfl (fun wx hC => by go_simp) ?_
        try go_frame
        refine wpQuiet_val (v := .int .u64 s.b) rfl (fun wx hC => by have hz := (hC.cell (p := ⟨w.heap.size + 1, 3, none⟩) hl2).trans Q3.out; go_simp) ?_
        try go_frame
        refine wpQuiet_val (v := .agg #[.int .u64 s.d, .int .u64 s.p, .int .u64 s.b]) rfl (fun wx hC => by go_simp) ?_
        try go_frame
        refine wpQuiet_val (v := .bool false) rfl (fun wx hC => by go_simp) ?_
        try go_frame
        refine wpQuiet_val (v := .bool false) rfl (fun wx hC => by go_simp) ?_
        try go_frame
        refine wpQuiet_val (v := .bool false) rfl (fun wx hC => by go_simp) ?_
        try go_frame
        refine wpQuiet_val (v := .pointer (some ⟨w.heap.size, 0, none⟩)) rfl (fun wx hC => by go_simp) ?_
        try go_frame
        refine wpQuiet_enter rfl (fun wx hC => by first | (go_simp; done) | (go_simp; decide)) (fun wx hC => hC.call ((supply_any w.heap.size s wx ((hC.block hl1).trans HB6.out) HS6.out).mono fun _ _ ⟨he, hd⟩ => ⟨he, (hd.mods (S := fun _ => False)).below'⟩)) ?_
        try go_frame
        refine wpQuiet_val (v := .pointer (some ⟨w.heap.size + 1, 0, none⟩)) rfl (fun wx hC => by go_simp) ?_
        try go_frame
        refine wpQuiet_enter rfl (fun wx hC => by first | (go_simp; done) | (go_simp; decide)) (fun wx hC => hC.call ((refSupply_any (w.heap.size + 1) s wx ((hC.block hl2).trans HQ6.out) HS6.out).mono fun _ _ ⟨he, hd⟩ => ⟨he, (hd.mods (S := fun _ => False)).below'⟩)) ?_
        try go_frame
        refine wpQuiet_val (v := .bool false) rfl (fun wx hC => by go_simp) ?_
        try go_frame
        refine wpQuiet_val (v := .bool false) rfl (fun wx hC => by go_simp) ?_
        try go_frame
        refine wpQuiet_val (v := .bool false) rfl (fun wx hC => by go_simp) ?_
        try go_frame
        refine wpQuiet_val (v := .pointer (some ⟨w.heap.size, 0, none⟩)) rfl (fun wx hC => by go_simp) ?_
        try go_frame
        refine wpQuiet_enter rfl (fun wx hC => by first | (go_simp; done) | (go_simp; decide)) (fun wx hC => hC.call ((room_any w.heap.size s wx ((hC.block hl1).trans HB6.out) HS6.out).mono fun _ _ ⟨he, hd⟩ => ⟨he, (hd.mods (S := fun _ => False)).below'⟩)) ?_
        try go_frame
        refine wpQuiet_val (v := .pointer (some ⟨w.heap.size + 1, 0, none⟩)) rfl (fun wx hC => by go_simp) ?_
        try go_frame
        refine wpQuiet_enter rfl (fun wx hC => by first | (go_simp; done) | (go_simp; decide)) (fun wx hC => hC.call ((refRoom_any (w.heap.size + 1) s wx ((hC.block hl2).trans HQ6.out) HS6.out).mono fun _ _ ⟨he, hd⟩ => ⟨he, (hd.mods (S := fun _ => False)).below'⟩)) ?_
        try go_frame
        refine wpQuiet_val (v := .bool false) rfl (fun wx hC => by go_simp) ?_
        try go_frame
        refine wpQuiet_val (v := .bool false) rfl (fun wx hC => by go_simp) ?_
        try go_frame
        refine wpQuiet_nil ?_
        intro w7 hC
        have F7 := Lib.hid (books_below F.out hC.1)
        clear hC hC0
        try go_frame
        go_wp2
        go_roundw
        case rel => exact ⟨k + 1, by omega, by go_num, F7.out⟩
        case measure => simp [intOf]; omega
      · clear hs hb hq hm hsc
        go_wp2_with fail
        refine (alive_any _).mono ?_
        rintro r w4 ⟨rfl, hm4⟩
        have HM4 := Lib.hid (HM.out.keep hm4)
        clear hm4
        go_wp2
        go_ret
        exact ⟨rfl, HM4.out.below'⟩
end Go.Proofs.Ytcipelkomgpngaa
