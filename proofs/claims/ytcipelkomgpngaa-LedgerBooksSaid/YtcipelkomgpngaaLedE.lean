/- The walk of LedgerRoom. -/
import Derived.Test.YtcipelkomgpngaaLedD
namespace Go.Proofs.Ytcipelkomgpngaa
open Go.RowKit Go.Eg
/-- the state at a round's head: the two books agree -/
def Books (w : World) (c : Int) (wr : World) : Prop := ∃ s : Led, s.ok ∧ s.c = c ∧ wr.heap[w.heap.size]? = some (ledB s) ∧ wr.heap[w.heap.size + 1]? = some (refB s) ∧ Keeps w wr
theorem Led.step_c (s : Led) (k x : Int) : (s.step k x).c = s.c := by
  unfold Led.step
  split
  · rcases s.dep_cases x with ⟨_, _, e⟩ | ⟨_, _, _, e⟩ | ⟨_, _, _, e⟩ <;> rw [e]
  · split
    · rcases s.out_cases x with ⟨_, _, e, _⟩ | ⟨_, _, e, _⟩ <;> rw [e]
    · rcases s.out_cases x with ⟨_, _, _, e⟩ | ⟨_, _, _, e⟩ <;> rw [e]
theorem books_start (w : World) (c : Int) (h0 : 0 ≤ c) (h1 : c ≤ maxU) : Books w c ((w.alloc (ledB (led0 c))).alloc (refB (led0 c))) := by
  refine ⟨led0 c, led0_ok h0 h1, rfl, heap_keep (heap_alloc_last w _) _, ?_, ((Mods.refl _ w).alloc _).alloc _⟩
  have := heap_alloc_last (w.alloc (ledB (led0 c))) (refB (led0 c))
  rw [show (w.alloc (ledB (led0 c))).heap.size = w.heap.size + 1 from by simp] at this
  exact this
theorem room_law (s : Led) (x : Int) : (x ≤ s.room → s.depC x = 0) ∧ (s.depC x = 0 → x ≤ s.room) := by
  unfold Led.room
  rcases s.dep_cases x with ⟨h1, e, _⟩ | ⟨h1, h2, e, _⟩ | ⟨h1, h2, e, _⟩
  · exact ⟨fun h => by omega, fun h => by omega⟩
  · exact ⟨fun h => by omega, fun h => by omega⟩
  · exact ⟨fun _ => e, fun _ => by omega⟩
set_option maxHeartbeats 400000 in
theorem ledgerRoom_walk (c : Int) (lv : Value) (x : Int) (w : World) (w0 : (Lit.int .u64 c).wf = true) (h : ∃ n F ks xs, Entries w lv n F ks xs) (w2 : (Lit.int .u64 x).wf = true) :
    Calls Try.prog 3 #[.int .u64 c, lv, .int .u64 x] w fun r w' => r = .returned (.bool true) ∧ Below w.heap.size w w' := by
  obtain ⟨hc0, hc1⟩ := bounds_u64 w0
  obtain ⟨hx0, hx1⟩ := bounds_u64 w2
  obtain ⟨n, F, ks, xs, h⟩ := h
  obtain ⟨a, cap, hs⟩ := h.row.slice
  subst hs
  have hln := h.len
  have H := Lib.hid h
  have X1 := Lib.hid (show x ≤ maxU from hx1)
  have BS := Lib.hid (books_start w c hc0 hc1)
  clear w0 w2 h hc1 hx1
  go_enter Try.func3, Try.ntmps3
  go_wp2_with fail
  refine (ledNew_any c w).mono ?_
  rintro r w1 ⟨rfl, rfl⟩
  by_cases hbig : 1000 < n
  · go_wp2_with fail
    refine (alive_any _).mono ?_
    rintro r w3 ⟨rfl, hm3⟩
    obtain ⟨_, _, _, _, _, hk⟩ := BS.out
    have HK := Lib.hid (hk.keep hm3)
    clear hm3 hk
    go_wp2
    go_ret
    exact ⟨rfl, HK.out.below'⟩
  · go_wp2_with fail
    go_loopw [25] (fun i wr => ∃ k : Nat, k ≤ n ∧ i = .int .i64 k ∧ Books w c wr) (fun i _ => n - (intOf i).toNat)
    case atStart => exact ⟨0, Nat.zero_le _, rfl, BS.out⟩
    case round =>
      obtain ⟨k, hk, rfl, s, hs, hsc, hb, hq, hm⟩ := hrel
      have HS := Lib.hid hs
      have HB := Lib.hid hb
      have HQ := Lib.hid hq
      have HM := Lib.hid hm
      have HSC := Lib.hid hsc
      by_cases hlt : k < n
      · obtain ⟨eb, eo, rfl, e0, e1, y0, y1⟩ := entry_cells (H.out.keeps hm) k hlt
        have Y1 := Lib.hid y1
        clear hs hb hq hm hsc y1
        go_wp2_with fail
        have HB2 := Lib.hid (heap_keep HB.out (.cells #[.int .i64 (ks k), .int .u64 (xs k)] 31))
        have HQ2 := Lib.hid (heap_keep HQ.out (.cells #[.int .i64 (ks k), .int .u64 (xs k)] 31))
        have HM2 := Lib.hid (HM.out.alloc (.cells #[.int .i64 (ks k), .int .u64 (xs k)] 31))
        refine (do_any w.heap.size (w.heap.size + 1) s (ks k) (xs k) _ HB2.out HQ2.out (by omega) HS.out y0 Y1.out).mono ?_
        rintro r w3 ⟨rfl, hb3, hq3, hm3⟩
        have F := Lib.hid (show Books w c w3 from ⟨s.step (ks k) (xs k), Led.step_ok HS.out _ y0, (Led.step_c _ _ _).trans HSC.out, hb3, hq3, HM2.out.seq hm3 (fun i hi h => by rcases h with h | h <;> omega)⟩)
        clear hb3 hq3 hm3 e0 e1
        go_wp2
        go_roundw
        case rel => exact ⟨k + 1, by omega, by go_num, F.out⟩
        case measure => simp [intOf]; omega
      · clear hs hb hq hm hsc
        go_wp2_with fail
        refine (room_any _ s wr HB.out HS.out).mono ?_
        rintro r w3 ⟨rfl, hd3⟩
        have HB3 := Lib.hid ((hd3.mods (S := fun _ => False)).at HB.out (fun h => h))
        have HM3 := Lib.hid (HM.out.keep hd3.mods)
        clear hd3
        go_wp2_with fail
        refine (alive_any _).mono ?_
        rintro r w4 ⟨rfl, hm4⟩
        have HB4 := Lib.hid (hm4.at HB3.out (fun h => h))
        have HM4 := Lib.hid (HM3.out.keep hm4)
        clear hm4
        go_wp2_with fail
        refine (dep_any _ s x w4 HB4.out HS.out hx0 X1.out).mono ?_
        rintro r w5 ⟨rfl, hb5, hm5⟩
        have HM5 := Lib.hid (HM4.out.seq hm5 (fun i hi h => by omega))
        have hcode := room_law s x
        have HCODE := Lib.hid hcode
        clear hb5 hm5 hcode
        generalize s.depC x = code at *
        generalize s.room = room at *
        by_cases hr : x ≤ room
        · have hc0 : code = 0 := HCODE.out.1 hr
          subst hc0
          go_wp2
          go_ret
          exact ⟨rfl, HM5.out.below'⟩
        · have hc0 : (code == 0) = false := by
            have := fun h => hr (HCODE.out.2 h)
            simpa using this
          go_wp2
          go_ret
          exact ⟨ret_bool (by simp; omega), HM5.out.below'⟩
end Go.Proofs.Ytcipelkomgpngaa
