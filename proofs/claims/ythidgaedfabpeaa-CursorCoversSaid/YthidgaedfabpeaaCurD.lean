/- The list of rounds that a law of the cursor is given; few; the example of the chapter. -/
import Derived.Test.YthidgaedfabpeaaCurC
namespace Go.Proofs.Ythidgaedfabpeaa
open Go.RowKit Go.Eg
/-- the slice lv holds n rounds: what is ready, visits, payments -/
structure Rounds (w : World) (lv : Value) (n : Nat) (F : Nat → Nat → Value) (nr : Nat → Nat) (rdy : Nat → Nat → Bool) (vs ps : Nat → Int) : Prop where
  row : RowsOf w lv n 3 F
  el : ∀ i, i < n → Bools w (F i 0) (nr i) (rdy i) ∧ nr i ≤ 9223372036854775807 ∧ F i 1 = .int .i64 (vs i) ∧ F i 2 = .int .i64 (ps i)
  len : n ≤ 9223372036854775807
theorem Rounds.keeps {a b : World} {lv : Value} {n : Nat} {F : Nat → Nat → Value} {nr : Nat → Nat} {rdy : Nat → Nat → Bool} {vs ps : Nat → Int} (h : Rounds a lv n F nr rdy vs ps) (hm : Keeps a b) : Rounds b lv n F nr rdy vs ps :=
  ⟨h.row.keeps hm, fun i hi => ⟨(h.el i hi).1.keeps hm, (h.el i hi).2⟩, h.len⟩
theorem open_rounds {H : Type} {enc : TypeId × Value → H} {w : World} {base : Nat} {spare : Nat → Bool} {held : Bool} {v : Value} {d : DataW H} {p : List MemPlace} (h : DataW.Trod enc Try.prog w base spare held 22 v d p) (hsl : ∃ a n cap, v = .slice a n cap) :
    ∃ n F nr rdy vs ps, Rounds w v n F nr rdy vs ps := by
  obtain ⟨n, F, hrow, hn, hr⟩ := open_rows Try.underlying22 3 (by kernel_rfl) (by omega) h hsl
  have hf : ∃ fs, Try.prog.underlying 29 = some (.struct fs) ∧ (fs[0]?).map (fun f => (f.type, f.offset)) = some (27, 0) ∧ (fs[1]?).map (fun f => (f.type, f.offset)) = some (3, 1) ∧ (fs[2]?).map (fun f => (f.type, f.offset)) = some (3, 2) := ⟨_, Try.underlying29, by kernel_rfl, by kernel_rfl, by kernel_rfl⟩
  obtain ⟨fs, hfs, h0, h1, h2⟩ := hf
  have key : ∀ i, i < n → ∃ q : (Nat × (Nat → Bool)) × Int × Int, Bools w (F i 0) q.1.1 q.1.2 ∧ q.1.1 ≤ 9223372036854775807 ∧ F i 1 = .int .i64 q.2.1 ∧ F i 2 = .int .i64 q.2.2 := by
    intro i hi
    obtain ⟨m, y, hy⟩ := hr i hi
    obtain ⟨f0, hf0, e0⟩ := Option.map_eq_some_iff.1 h0
    obtain ⟨f1, hf1, e1⟩ := Option.map_eq_some_iff.1 h1
    obtain ⟨f2, hf2, e2⟩ := Option.map_eq_some_iff.1 h2
    simp only [Prod.mk.injEq] at e0 e1 e2
    obtain ⟨m0, y0, g0⟩ := trod_field hfs hy 0 f0 hf0
    obtain ⟨m1, y1, g1⟩ := trod_field hfs hy 1 f1 hf1
    obtain ⟨m2, y2, g2⟩ := trod_field hfs hy 2 f2 hf2
    rw [e0.1, e0.2, show Try.prog.cellsOf 27 = 1 from by kernel_rfl] at g0
    rw [e1.1, e1.2, show Try.prog.cellsOf 3 = 1 from by kernel_rfl] at g1
    rw [e2.1, e2.2, show Try.prog.cellsOf 3 = 1 from by kernel_rfl] at g2
    have l : (List.range 3).map (F i) = [F i 0, F i 1, F i 2] := rfl
    rw [l] at g0 g1 g2
    obtain ⟨a1, b1, _⟩ := DataW.trod_int Try.underlying3 g1
    obtain ⟨a2, b2, _⟩ := DataW.trod_int Try.underlying3 g2
    obtain ⟨sa, sn, sc, hs⟩ := slice_of_trod Try.underlying27 g0
    have g0' : DataW.trod enc Try.prog w base spare held m0 27 (Value.cells (F i 0)).toList = some y0 := by rw [hs] at g0 ⊢; exact g0
    obtain ⟨nb, rdy, hB, hnb⟩ := open_bools Try.underlying27 Try.underlying4 (by kernel_rfl) (trod_one g0') ⟨sa, sn, sc, hs⟩
    simp at b1 b2
    exact ⟨((nb, rdy), a1, a2), hB, hnb, b1, b2⟩
  haveI : Inhabited ((Nat × (Nat → Bool)) × Int × Int) := ⟨((0, fun _ => false), 0, 0)⟩
  obtain ⟨q, hq⟩ := Go.Deep.choose_lt key
  exact ⟨n, F, fun i => (q i).1.1, fun i => (q i).1.2, fun i => (q i).2.1, fun i => (q i).2.2, hrow, hq, hn⟩
def fewB (n : Nat) (nr : Nat → Nat) : Bool := decide (n ≤ 40 ∧ ∀ i, i < n → nr i ≤ 100)
theorem few_any {lv : Value} {n : Nat} {F : Nat → Nat → Value} {nr : Nat → Nat} {rdy : Nat → Nat → Bool} {vs ps : Nat → Int} (w : World) (h : Rounds w lv n F nr rdy vs ps) :
    Calls Try.prog 10 #[lv] w fun r w' => r = .returned (.bool (fewB n nr)) ∧ Keeps w w' := by
  have hl := h.len
  obtain ⟨a, cap, rfl, hc⟩ := h.row
  by_cases h0 : n = 0
  · subst h0
    have E := Lib.hid (show fewB 0 nr = true from by unfold fewB; simp)
    clear h hc
    go_enter Try.func10, Try.ntmps10
    go_wp2
    refine wp_loop_rounds 1 ?_
    rw [rounds_succ]
    go_wp2
    go_ret
    exact ⟨ret_bool E.out.symm, Mods.refl _ _⟩
  · obtain ⟨b, off, rfl, hcc⟩ := hc (by omega)
    clear hc
    have hc := hcc
    clear hcc
    by_cases h40 : n ≤ 40
    · have HC := Lib.hid hc
      have HR := Lib.hid h.el
      have E := Lib.hid (rfl : fewB n nr = fewB n nr)
      generalize hg : fewB n nr = B at E ⊢
      clear E
      have E := Lib.hid hg
      clear h hc hg
      go_enter Try.func10, Try.ntmps10
      go_wp2
      go_loopw [10] (fun i wr => ∃ k : Nat, k ≤ n ∧ i = .int .i64 k ∧ (∀ j, j < k → nr j ≤ 100) ∧ Keeps w wr) (fun i _ => n - (intOf i).toNat)
      case atStart => exact ⟨0, Nat.zero_le _, rfl, fun j hj => by omega, Mods.refl _ _⟩
      case round =>
        obtain ⟨k, hk, rfl, hle, hmd⟩ := hrel
        have HLE := Lib.hid hle
        have HMD := Lib.hid hmd
        by_cases hlt : k < n
        · have c1 := HC.out k hlt 0 (by omega)
          have c2 := HC.out k hlt 1 (by omega)
          have c3 := HC.out k hlt 2 (by omega)
          obtain ⟨hb, hn, e1, e2⟩ := HR.out k hlt
          obtain ⟨a, c, ha⟩ := hb.slice
          rw [ha, Nat.add_zero] at c1
          rw [e1] at c2
          rw [e2] at c3
          have d1 := hmd.cell c1 (fun h => h)
          have d2 := hmd.cell c2 (fun h => h)
          have d3 := hmd.cell c3 (fun h => h)
          clear hle hmd c1 c2 c3 hb ha e1 e2
          by_cases h100 : nr k ≤ 100
          · go_wp2
            go_roundw
            case rel => exact ⟨k + 1, by omega, by go_num, fun j hj => by
              by_cases e : j = k
              · subst e; exact h100
              · exact HLE.out j (by omega), HMD.out.alloc _⟩
            case measure => simp [intOf]; omega
          · go_wp2
            go_ret
            exact ⟨ret_bool (by
              rw [← E.out]
              symm
              unfold fewB
              simp only [decide_eq_false_iff_not]
              intro hh
              exact h100 (hh.2 k hlt)), HMD.out.alloc _⟩
        · have hkn : k = n := by omega
          subst hkn
          clear hle hmd
          go_wp2
          go_ret
          exact ⟨ret_bool (by
            rw [← E.out]
            symm
            unfold fewB
            simp only [decide_eq_true_eq]
            exact ⟨h40, HLE.out⟩), HMD.out⟩
    · have E := Lib.hid (show fewB n nr = false from by unfold fewB; simp [h40])
      clear h hc
      go_enter Try.func10, Try.ntmps10
      go_wp2
      go_ret
      exact ⟨ret_bool E.out.symm, Mods.refl _ _⟩
def rdyA (j : Nat) : Bool := j == 0 || j == 3
def rdyB (j : Nat) : Bool := j == 3
theorem ints_keep {B : Nat} {S : Nat → Prop} {w w' : World} {v : Value} {l : List Nat} (h : Ints B w v l) (hm : Mods S w w') (hS : ∀ k, B ≤ k → ¬ S k) : Ints B w' v l := hm.owns h fun k hk => hS k (h.lt k hk).1
theorem ints_sl {B : Nat} {w : World} {v : Value} {l : List Nat} (h : Ints B w v l) : Sl w v (intsV l) := Sl.of_owns h
theorem lit_sl (w : World) (l : List Nat) (cs : Array Value) (t : TypeId) (h : cs.toList = intsV l) (n : Nat) (hn : l.length = n) : Sl (w.alloc (.cells cs t)) (.slice (some ⟨w.heap.size, 0, none⟩) n n) (intsV l) := by
  subst hn
  rw [← h]
  exact Sl.of_block (heap_alloc_last w _) (by rw [← Array.length_toList, h, intsV_len]) (Nat.le_refl _)
set_option maxHeartbeats 1000000 in
theorem alive_any (w : World) : Calls Try.prog 11 #[] w fun r w' => r = .returned (.bool true) ∧ Keeps w w' := by
  go_enter Try.func11, Try.ntmps11
  go_wp2_with fail
  refine (curNew_any w).mono ?_
  rintro r w1 ⟨rfl, rfl⟩
  have hc0 := heap_alloc_last w (curB 0)
  have hk0 := (Mods.refl (fun _ => False) w).alloc (curB 0)
  have hs0 : (w.alloc (curB 0)).heap.size = w.heap.size + 1 := by simp
  generalize hw1 : w.alloc (curB 0) = w1 at *
  clear hw1
  have HC := Lib.hid hc0
  have HK := Lib.hid hk0
  clear hc0 hk0
  go_wp2_with fail
  have hc1 := heap_keep HC.out (.cells #[.bool true, .bool false, .bool false, .bool true, .bool false] 4)
  have hr1 := heap_alloc_last w1 (.cells #[.bool true, .bool false, .bool false, .bool true, .bool false] 4)
  have hk1 := HK.out.alloc (.cells #[.bool true, .bool false, .bool false, .bool true, .bool false] 4)
  generalize hw2 : w1.alloc (.cells #[.bool true, .bool false, .bool false, .bool true, .bool false] 4) = w2 at *
  clear hw2
  rw [hs0] at *
  have hs2' : w.heap.size + 1 < w2.heap.size := heap_lt hr1
  have hA := bools_of_block hr1 5 5 rdyA (fun j hj => by match j, hj with | 0, _ | 1, _ | 2, _ | 3, _ | 4, _ => rfl)
  refine (sweep_any w.heap.size 0 5 rdyA _ 4 1 w2 hc1 (by omega) (by omega) hA (fun _ => by simp [Value.ownBlock])).mono ?_
  rintro r w3 ⟨va, rfl, hI, hc3, hm3⟩
  rw [show sweepV rdyA 5 0 4 1 = 1 from by decide +kernel] at *
  rw [show sweepP rdyA 5 0 4 1 = [0] from by decide +kernel] at hI
  rw [show sweepA rdyA 5 0 4 1 = 1 from by decide +kernel] at hc3
  have hr3 := hm3.at hr1 (by omega)
  have hk3 := hk1.seq hm3 (fun i hi h => by omega)
  have HI := Lib.hid hI
  have HC3 := Lib.hid hc3
  have HR3 := Lib.hid hr3
  have HK3 := Lib.hid hk3
  have x0 : w3.cell? ⟨w.heap.size + 1, 0, none⟩ = some (.bool true) := by simp [World.cell?, hr3]
  have x1 : w3.frozen? ⟨w.heap.size + 1, 0, none⟩ = false := by simp [World.frozen?, hr3]
  have hs2 : w.heap.size + 1 < w3.heap.size := heap_lt hr3
  clear hI hc3 hr3 hk3 hm3 hc1 hr1 hk1 hA
  go_wp2_with fail
  have hc4 := (heap_setCell_other w3 ⟨w.heap.size + 1, 0, none⟩ w.heap.size (.bool false) (by simp)).trans HC3.out
  have hr4 := heap_setCell_same w3 (w.heap.size + 1) 0 _ _ (.bool false) HR3.out
  have hk4 := HK3.out.setCell ⟨w.heap.size + 1, 0, none⟩ (.bool false) (fun h => by simp at h; omega)
  have hI4 := ints_keep HI.out ((Mods.refl (· = w.heap.size + 1) w3).setCell ⟨w.heap.size + 1, 0, none⟩ (.bool false) (fun _ => rfl)) (fun k h1 h2 => by omega)
  generalize hw4 : w3.setCell ⟨w.heap.size + 1, 0, none⟩ (.bool false) = w4 at *
  clear hw4
  have hA := bools_of_block hr4 5 5 rdyB (fun j hj => by match j, hj with | 0, _ | 1, _ | 2, _ | 3, _ | 4, _ => rfl)
  refine (sweep_any w.heap.size 1 5 rdyB _ 4 1 w4 hc4 (by omega) (by omega) hA (fun _ => by simp [Value.ownBlock])).mono ?_
  rintro r w5 ⟨vb, rfl, hI5, hc5, hm5⟩
  rw [show sweepV rdyB 5 1 4 1 = 3 from by decide +kernel] at *
  rw [show sweepP rdyB 5 1 4 1 = [3] from by decide +kernel] at hI5
  rw [show sweepA rdyB 5 1 4 1 = 4 from by decide +kernel] at hc5
  have hk5 := hk4.seq hm5 (fun i hi h => by omega)
  have hIa := ints_keep hI4 hm5 (fun k h1 h2 => by omega)
  have HIa := Lib.hid hIa
  have HIb := Lib.hid hI5
  have HC5 := Lib.hid hc5
  have HK5 := Lib.hid hk5
  clear hIa hI5 hc5 hk5 hm5 hA hc4 hr4 hk4 hI4 x0 x1
  go_wp2_with fail
  have hk6 := HK5.out.alloc (.cells #[.int .i64 0] 3)
  have ha6 := (ints_sl HIa.out).keeps ((Mods.refl _ w5).alloc (.cells #[.int .i64 0] 3))
  have hb6 := HIb.out
  refine (slicesEqual_any va _ [0] [0] _ ha6 (lit_sl w5 [0] _ _ rfl 1 rfl) (by simp)).mono ?_
  rintro r w6 ⟨rfl, hm6⟩
  rw [show decide ([0] = [0]) = true from rfl]
  have hc6 := hm6.at (heap_keep HC5.out _) (fun h => h)
  have hk6 := hk6.keep hm6
  have hI6 := ints_keep (ints_keep hb6 ((Mods.refl _ w5).alloc (.cells #[.int .i64 0] 3)) (fun _ _ h => h)) hm6 (fun _ _ h => h)
  have HI6 := Lib.hid hI6
  have HC6 := Lib.hid hc6
  have HK6 := Lib.hid hk6
  clear hI6 hc6 hk6 hm6 hb6 ha6
  go_wp2_with fail
  have hk7 := HK6.out.alloc (.cells #[.int .i64 3] 3)
  have hb7 := (ints_sl HI6.out).keeps ((Mods.refl _ w6).alloc (.cells #[.int .i64 3] 3))
  refine (slicesEqual_any vb _ [3] [3] _ hb7 (lit_sl w6 [3] _ _ rfl 1 rfl) (by simp)).mono ?_
  rintro r w7 ⟨rfl, hm7⟩
  rw [show decide ([3] = [3]) = true from rfl]
  have hc7 := hm7.at (heap_keep HC6.out _) (fun h => h)
  have hk7 := hk7.keep hm7
  have HC7 := Lib.hid hc7
  have HK7 := Lib.hid hk7
  clear hc7 hk7 hm7 hb7
  go_wp2_with fail
  refine (curAt_any _ 4 w7 HC7.out).mono ?_
  rintro r w8 ⟨rfl, rfl⟩
  go_wp2_with fail
  refine (distance_any _ 4 5 3 _ HC7.out (by omega) (by omega)).mono ?_
  rw [show distI 4 5 3 = 4 from by decide +kernel]
  rintro r w9 ⟨rfl, rfl⟩
  go_wp2_with fail
  refine (curBlocks_any 5 4 1 _ (by omega) (by omega) (by omega)).mono ?_
  rw [show blocksI 5 4 1 = 5 from by decide +kernel]
  rintro r w10 ⟨rfl, rfl⟩
  go_wp2
  go_ret
  exact ⟨rfl, HK7.out⟩
end Go.Proofs.Ythidgaedfabpeaa
