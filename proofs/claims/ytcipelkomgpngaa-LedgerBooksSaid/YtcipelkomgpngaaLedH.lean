/- The walk of LedgerRejects. -/
import Derived.Test.YtcipelkomgpngaaLedF
import Derived.Test.YtcipelkomgpngaaLedG
namespace Go.Proofs.Ytcipelkomgpngaa
open Go.RowKit Go.Eg
theorem Led.code_bad (s : Led) (k x : Int) (h : s.code k x ≠ 0) : s.step k x = s := by
  unfold Led.code at h
  unfold Led.step
  by_cases h0 : k = 0
  · rw [if_pos h0] at h ⊢
    unfold Led.dep
    rw [if_neg h]
  · rw [if_neg h0] at h ⊢
    split
    · unfold Led.pay
      rw [if_neg h]
    · unfold Led.burn
      rw [if_neg h]
theorem sizeT : (Try.prog.info? 39).map (·.size) = some 3 := by kernel_rfl
theorem books_below {w : World} {c : Int} {w1 w2 : World} (h : Books w c w1) (hb : Below w1.heap.size w1 w2) : Books w c w2 := by
  obtain ⟨s, h1, h2, h3, h4, h5⟩ := h
  have hm : Keeps w1 w2 := Mods.of_below hb
  exact ⟨s, h1, h2, hm.at h3 fun h => h, hm.at h4 fun h => h, h5.keep hm⟩
theorem books_drawn {w : World} {c : Int} {w1 : World} (h : Books w c w1) (q : Nat) : Books w c (w1.drewN q) := by
  obtain ⟨s, h1, h2, h3, h4, h5⟩ := h
  exact ⟨s, h1, h2, h3, h4, h5.drewN q⟩
set_option maxHeartbeats 800000 in
theorem ledgerRejects_walk (c : Int) (lv : Value) (w : World) (w0 : (Lit.int .u64 c).wf = true) (h : ∃ n F ks xs, Entries w lv n F ks xs) :
    Calls Try.prog 6 #[.int .u64 c, lv] w fun r w' => r = .returned (.bool true) ∧ Below w.heap.size w w' := by
  obtain ⟨hc0, hc1⟩ := bounds_u64 w0
  obtain ⟨n, F, ks, xs, h⟩ := h
  obtain ⟨a, cap, hs⟩ := h.row.slice
  subst hs
  have hln := h.len
  have H := Lib.hid h
  have BS := Lib.hid (books_start w c hc0 hc1)
  clear w0 h hc1
  go_enter Try.func6, Try.ntmps6
  go_wp2_with fail
  refine (ledNew_any c w).mono ?_
  rintro r w1 ⟨rfl, rfl⟩
  by_cases hbig : 1000 < n
  · go_wp2_with fail
    refine (alive_any _).mono ?_
    rintro r w3 ⟨rfl, hm3⟩
    obtain ⟨_, _, _, _, _, hk⟩ := BS.out
    have HK := Lib.hid (hk.keep hm3)
    clear hm3 hk
    go_wp2
    go_ret
    exact ⟨rfl, HK.out.below'⟩
  · go_wp2_with fail
    go_loopw [26] (fun i wr => ∃ k : Nat, k ≤ n ∧ i = .int .i64 k ∧ Books w c wr) (fun i _ => n - (intOf i).toNat)
    case atStart => exact ⟨0, Nat.zero_le _, rfl, BS.out⟩
    case round =>
      obtain ⟨k, hk, rfl, s, hs, hsc, hb, hq, hm⟩ := hrel
      have HS := Lib.hid hs
      have HB := Lib.hid hb
      have HQ := Lib.hid hq
      have HM := Lib.hid hm
      have HSC := Lib.hid hsc
      by_cases hlt : k < n
      · obtain ⟨eb, eo, rfl, e0, e1, y0, y1⟩ := entry_cells (H.out.keeps hm) k hlt
        have Y1 := Lib.hid y1
        clear hs hb hq hm hsc y1
        go_wp2_with fail
        have HB2 := Lib.hid (heap_keep HB.out (.cells #[.int .i64 (ks k), .int .u64 (xs k)] 31))
        have HQ2 := Lib.hid (heap_keep HQ.out (.cells #[.int .i64 (ks k), .int .u64 (xs k)] 31))
        have HM2 := Lib.hid (HM.out.alloc (.cells #[.int .i64 (ks k), .int .u64 (xs k)] 31))
        have HE2 := Lib.hid (heap_alloc_last wr (.cells #[.int .i64 (ks k), .int .u64 (xs k)] 31))
        refine (totals_any _ s _ HB2.out).mono ?_
        rintro r w3 ⟨rfl, hm3⟩
        have HB3 := Lib.hid (hm3.at HB2.out (fun h => h))
        have HQ3 := Lib.hid (hm3.at HQ2.out (fun h => h))
        have HE3 := Lib.hid (hm3.at HE2.out (fun h => h))
        have HM3 := Lib.hid (HM2.out.keep hm3)
        clear hm3 HB2 HQ2 HE2 HM2 HB HQ HM e0 e1
        go_wp2_with fail
        refine (supply_any _ s w3 HB3.out HS.out).mono ?_
        rintro r w4 ⟨rfl, hd4⟩
        have hm4 : Keeps w3 w4 := hd4.mods
        have HB4 := Lib.hid (hm4.at HB3.out (fun h => h))
        have HQ4 := Lib.hid (hm4.at HQ3.out (fun h => h))
        have HE4 := Lib.hid (hm4.at HE3.out (fun h => h))
        have HM4 := Lib.hid (HM3.out.keep hm4)
        have e0 : w4.cell? ⟨wr.heap.size, 0, none⟩ = some (.int .i64 (ks k)) := block_cell6 HE4.out 0 rfl
        have e1 : w4.cell? ⟨wr.heap.size, 1, none⟩ = some (.int .u64 (xs k)) := block_cell6 HE4.out 1 rfl
        have elt := heap_lt HE4.out
        clear hd4 hm4 HB3 HQ3 HE3 HM3
        go_wp2_with fail
        have HB5 := Lib.hid (heap_keep HB4.out (.cells #[.int .u64 s.d, .int .u64 s.p, .int .u64 s.b] 39))
        have HQ5 := Lib.hid (heap_keep HQ4.out (.cells #[.int .u64 s.d, .int .u64 s.p, .int .u64 s.b] 39))
        have HM5 := Lib.hid (HM4.out.alloc (.cells #[.int .u64 s.d, .int .u64 s.p, .int .u64 s.b] 39))
        have HT5 := Lib.hid (heap_alloc_last w4 (.cells #[.int .u64 s.d, .int .u64 s.p, .int .u64 s.b] 39))
        refine (do_any w.heap.size (w.heap.size + 1) s (ks k) (xs k) _ HB5.out HQ5.out (by omega) HS.out y0 Y1.out).mono ?_
        rintro r w6 ⟨rfl, hb6, hq6, hm6⟩
        have h4lt : w.heap.size + 1 < w4.heap.size := heap_lt HQ4.out
        have HB6 := Lib.hid hb6
        have HQ6 := Lib.hid hq6
        have HT6 := Lib.hid (hm6.at HT5.out (fun h => by rcases h with h | h <;> omega))
        have HM6 := Lib.hid (HM5.out.seq hm6 (fun i hi h => by rcases h with h | h <;> omega))
        have HS6 := Lib.hid (Led.step_ok HS.out (ks k) y0)
        have HSC6 := Lib.hid ((Led.step_c s (ks k) (xs k)).trans HSC.out)
        have F := Lib.hid (show Books w c w6 from ⟨_, HS6.out, HSC6.out, HB6.out, HQ6.out, HM6.out⟩)
        clear hb6 hq6 hm6 e0 e1 elt HB5 HQ5 HM5 HT5 HB4 HQ4 HE4 HM4
        by_cases hcode : s.code (ks k) (xs k) = 0
        · rw [hcode]
          clear hcode
          go_wp2
          go_quiet (fail)
          go_wp2
          go_roundw
          case rel => exact ⟨k + 1, by omega, by go_num, books_drawn F.out _⟩
          case measure => simp [intOf]; omega
        · have hst := Led.code_bad s _ _ hcode
          have hcb : (s.code (ks k) (xs k) != 0) = true := by simpa using hcode
          rw [hst] at HB6 HQ6
          clear hst hcode
          generalize s.code (ks k) (xs k) = cd at *
          have hl1 := heap_lt HB6.out
          have hl2 := heap_lt HT6.out
          go_wp2_with fail
          have hC0 : Alow w6.heap.size w6 w6.drew := ⟨(Below.refl _ _).drew, Nat.le_refl _⟩
          refine wp_region_quiet (by kernel_rfl) (by kernel_rfl) hC0 ?_
          refine wpQuiet_val (v := .int .i64 cd) rfl (fun wx hC => by go_simp) ?_
          try go_frame
          refine wpQuiet_val (v := .bool true) rfl (fun wx hC => by go_simp) ?_
          try go_frame
          refine wpQuiet_val (v := .bool true) rfl (fun wx hC => by go_simp) ?_
          try go_frame
          refine wpQuiet_val (v := .pointer (some ⟨w.heap.size, 0, none⟩)) rfl (fun wx hC => by go_simp) ?_
          try go_frame
          refine wpQuiet_enter rfl (fun wx hC => by first | (go_simp; done) | (go_simp; decide)) (fun wx hC => hC.call ((totals_any w.heap.size s wx ((hC.block hl1).trans HB6.out)).mono fun _ _ ⟨he, hm⟩ => ⟨he, hm.below'⟩)) ?_
          try go_frame
          refine wpQuiet_load_big rfl 39 _ rfl w4.heap.size rfl 39 (#[.int .u64 s.d, .int .u64 s.p, .int .u64 s.b]) (0, 0) _ Try.underlying39 rfl sizeT (fun wx hC => (hC.block hl2).trans HT6.out) ?_
          try go_frame
          refine wpQuiet_val (v := .bool false) rfl (fun wx hC => by go_simp) ?_
          try go_frame
          refine wpQuiet_val (v := .bool false) rfl (fun wx hC => by go_simp) ?_
          try go_frame
          refine wpQuiet_val (v := .pointer (some ⟨w.heap.size, 0, none⟩)) rfl (fun wx hC => by go_simp) ?_
          try go_frame
          refine wpQuiet_enter rfl (fun wx hC => by first | (go_simp; done) | (go_simp; decide)) (fun wx hC => hC.call ((supply_any w.heap.size s wx ((hC.block hl1).trans HB6.out) HS.out).mono fun _ _ ⟨he, hd⟩ => ⟨he, (hd.mods (S := fun _ => False)).below'⟩)) ?_
          try go_frame
          refine wpQuiet_val (v := .int .u64 s.sup) rfl (fun wx hC => by go_simp) ?_
          try go_frame
          refine wpQuiet_val (v := .bool false) rfl (fun wx hC => by go_simp) ?_
          try go_frame
          refine wpQuiet_val (v := .bool false) rfl (fun wx hC => by go_simp) ?_
          try go_frame
          refine wpQuiet_val (v := .bool false) rfl (fun wx hC => by go_simp) ?_
          try go_frame
          refine wpQuiet_nil ?_
          intro w7 hC
          have F7 := Lib.hid (books_below F.out hC.1)
          clear hC hC0
          try go_frame
          go_wp2
          go_roundw
          case rel => exact ⟨k + 1, by omega, by go_num, F7.out⟩
          case measure => simp [intOf]; omega
      · clear hs hb hq hm hsc
        go_wp2_with fail
        refine (alive_any _).mono ?_
        rintro r w4 ⟨rfl, hm4⟩
        have HM4 := Lib.hid (HM.out.keep hm4)
        clear hm4
        go_wp2
        go_ret
        exact ⟨rfl, HM4.out.below'⟩
end Go.Proofs.Ytcipelkomgpngaa
