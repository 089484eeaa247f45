/- The entries that a law of the ledger is given; the example of the chapter. -/
import Derived.Test.YtcipelkomgpngaaLedC
namespace Go.Proofs.Ytcipelkomgpngaa
open Go.RowKit Go.Eg
/-- the slice lv holds n entries -/
structure Entries (w : World) (lv : Value) (n : Nat) (F : Nat → Nat → Value) (ks xs : Nat → Int) : Prop where
  row : RowsOf w lv n 2 F
  el : ∀ i, i < n → F i 0 = .int .i64 (ks i) ∧ F i 1 = .int .u64 (xs i) ∧ 0 ≤ xs i ∧ xs i ≤ maxU
  len : n ≤ 9223372036854775807
theorem Entries.keeps {a b : World} {lv : Value} {n : Nat} {F : Nat → Nat → Value} {ks xs : Nat → Int} (h : Entries a lv n F ks xs) (hm : Keeps a b) : Entries b lv n F ks xs := ⟨h.row.keeps hm, h.el, h.len⟩
theorem open_entries {H : Type} {enc : TypeId × Value → H} {w : World} {base : Nat} {spare : Nat → Bool} {held : Bool} {v : Value} {d : DataW H} {p : List MemPlace} (h : DataW.Trod enc Try.prog w base spare held 23 v d p) (hsl : ∃ a n cap, v = .slice a n cap) :
    ∃ n F ks xs, Entries w v n F ks xs := by
  obtain ⟨n, F, hrow, hn, hr⟩ := open_rows Try.underlying23 2 (by kernel_rfl) (by omega) h hsl
  have hf : ∃ fs, Try.prog.underlying 31 = some (.struct fs) ∧ (fs[0]?).map (fun f => (f.type, f.offset)) = some (3, 0) ∧ (fs[1]?).map (fun f => (f.type, f.offset)) = some (22, 1) := ⟨_, Try.underlying31, by kernel_rfl, by kernel_rfl⟩
  obtain ⟨fs, hfs, h0, h1⟩ := hf
  have key : ∀ i, i < n → ∃ q : Int × Int, F i 0 = .int .i64 q.1 ∧ F i 1 = .int .u64 q.2 ∧ 0 ≤ q.2 ∧ q.2 ≤ maxU := by
    intro i hi
    obtain ⟨m, y, hy⟩ := hr i hi
    obtain ⟨f0, hf0, e0⟩ := Option.map_eq_some_iff.1 h0
    obtain ⟨f1, hf1, e1⟩ := Option.map_eq_some_iff.1 h1
    simp only [Prod.mk.injEq] at e0 e1
    obtain ⟨m0, y0, g0⟩ := trod_field hfs hy 0 f0 hf0
    obtain ⟨m1, y1, g1⟩ := trod_field hfs hy 1 f1 hf1
    rw [e0.1, e0.2, show Try.prog.cellsOf 3 = 1 from by kernel_rfl] at g0
    rw [e1.1, e1.2, show Try.prog.cellsOf 22 = 1 from by kernel_rfl] at g1
    have l : (List.range 2).map (F i) = [F i 0, F i 1] := rfl
    rw [l] at g0 g1
    obtain ⟨a0, b0, _⟩ := DataW.trod_int Try.underlying3 g0
    obtain ⟨a1, b1, _, w1⟩ := DataW.trod_int Try.underlying22 g1
    simp at b0 b1
    obtain ⟨c0, c1⟩ := bounds_u64 w1
    exact ⟨(a0, a1), b0, b1, c0, c1⟩
  haveI : Inhabited (Int × Int) := ⟨(0, 0)⟩
  obtain ⟨q, hq⟩ := Go.Deep.choose_lt key
  exact ⟨n, F, fun i => (q i).1, fun i => (q i).2, hrow, hq, hn⟩
theorem entry_cells {w : World} {a : Option Addr} {cap n : Nat} {F : Nat → Nat → Value} {ks xs : Nat → Int} (h : Entries w (.slice a n cap) n F ks xs) (k : Nat) (hk : k < n) :
    ∃ b off, a = some ⟨b, off, none⟩ ∧ w.cell? ⟨b, off + k * 2, none⟩ = some (.int .i64 (ks k)) ∧ w.cell? ⟨b, off + k * 2 + 1, none⟩ = some (.int .u64 (xs k)) ∧ 0 ≤ xs k ∧ xs k ≤ maxU := by
  obtain ⟨a', cap', e, hc⟩ := h.row
  simp only [Value.slice.injEq] at e
  obtain ⟨rfl, _, rfl⟩ := e
  obtain ⟨b, off, rfl, hcc⟩ := hc (by omega)
  obtain ⟨e0, e1, e2, e3⟩ := h.el k hk
  have c0 := hcc k hk 0 (by omega)
  have c1 := hcc k hk 1 (by omega)
  rw [e0, Nat.add_zero] at c0
  rw [e1] at c1
  exact ⟨b, off, rfl, c0, c1, e2, e3⟩
def led0 (c : Int) : Led := ⟨0, 0, 0, c⟩
theorem led0_ok {c : Int} (h0 : 0 ≤ c) (h1 : c ≤ maxU) : (led0 c).ok := ⟨Int.le_refl _, Int.le_refl _, by show (0 : Int) + 0 ≤ 0; omega, by show (0 : Int) ≤ maxU; unfold maxU; omega, by show (0 : Int) - 0 - 0 ≤ c; omega, h1⟩
theorem alive_any (w : World) : Calls Try.prog 10 #[] w fun r w' => r = .returned (.bool true) ∧ Keeps w w' := by
  have hm : (0 : Int) ≤ 10 ∧ (10 : Int) ≤ maxU := by unfold maxU; omega
  have o0 := Lib.hid (led0_ok hm.1 hm.2)
  have x7 := Lib.hid (show (7 : Int) ≤ maxU by unfold maxU; omega)
  have x2 := Lib.hid (show (2 : Int) ≤ maxU by unfold maxU; omega)
  have x6 := Lib.hid (show (6 : Int) ≤ maxU by unfold maxU; omega)
  clear hm
  go_enter Try.func10, Try.ntmps10
  go_wp2_with fail
  refine (ledNew_any 10 w).mono ?_
  rintro r w1 ⟨rfl, rfl⟩
  have hb1 := Lib.hid (heap_alloc_last w (ledB (led0 10)))
  have hk1 := Lib.hid ((Mods.refl (fun _ => False) w).alloc (ledB (led0 10)))
  obtain ⟨w1, hw1⟩ : ∃ w1, w1 = w.alloc (ledB (led0 10)) := ⟨_, rfl⟩
  rw [← hw1] at hb1 hk1
  rw [show w.alloc (ledB ⟨0, 0, 0, 10⟩) = w1 from hw1.symm]
  clear hw1
  go_wp2_with fail
  refine (dep_any _ _ 7 w1 hb1.out o0.out (by omega) x7.out).mono ?_
  rw [show (led0 10).depC 7 = 0 from by decide +kernel, show (led0 10).dep 7 = ⟨7, 0, 0, 10⟩ from rfl]
  have o1 := Lib.hid (show (⟨7, 0, 0, 10⟩ : Led).ok from ⟨by decide, by decide, by decide, by decide, by decide, by decide⟩)
  rintro r w2 ⟨rfl, hb2, hm2⟩
  have hb2 := Lib.hid hb2
  have hk2 := Lib.hid (hk1.out.seq hm2 (fun i hi h => by omega))
  clear hm2 hb1 hk1
  go_wp2_with fail
  refine (pay_any _ _ 2 w2 hb2.out o1.out (by omega) x2.out).mono ?_
  rw [show (⟨7, 0, 0, 10⟩ : Led).outC 2 = 0 from by decide +kernel, show (⟨7, 0, 0, 10⟩ : Led).pay 2 = ⟨7, 2, 0, 10⟩ from rfl]
  have o2 := Lib.hid (show (⟨7, 2, 0, 10⟩ : Led).ok from ⟨by decide, by decide, by decide, by decide, by decide, by decide⟩)
  rintro r w3 ⟨rfl, hb3, hm3⟩
  have hb3 := Lib.hid hb3
  have hk3 := Lib.hid (hk2.out.seq hm3 (fun i hi h => by omega))
  clear hm3 hb2 hk2
  go_wp2_with fail
  refine (room_any _ _ w3 hb3.out o2.out).mono ?_
  rw [show (⟨7, 2, 0, 10⟩ : Led).room = 5 from by decide +kernel]
  rintro r w4 ⟨rfl, hd4⟩
  have hb4 := Lib.hid ((hd4.mods (S := fun _ => False)).at hb3.out (fun h => h))
  have hk4 := Lib.hid (hk3.out.keep hd4.mods)
  clear hd4 hb3 hk3
  go_wp2_with fail
  refine (supply_any _ _ w4 hb4.out o2.out).mono ?_
  rw [show (⟨7, 2, 0, 10⟩ : Led).sup = 5 from by decide +kernel]
  rintro r w5 ⟨rfl, hd5⟩
  have hb5 := Lib.hid ((hd5.mods (S := fun _ => False)).at hb4.out (fun h => h))
  have hk5 := Lib.hid (hk4.out.keep hd5.mods)
  clear hd5 hb4 hk4
  go_wp2_with fail
  refine (dep_any _ _ 6 w5 hb5.out o2.out (by omega) x6.out).mono ?_
  rw [show (⟨7, 2, 0, 10⟩ : Led).depC 6 = 4 from by decide +kernel, show (⟨7, 2, 0, 10⟩ : Led).dep 6 = ⟨7, 2, 0, 10⟩ from rfl]
  rintro r w6 ⟨rfl, hb6, hm6⟩
  have hb6 := Lib.hid hb6
  have hk6 := Lib.hid (hk5.out.seq hm6 (fun i hi h => by omega))
  clear hm6 hb5 hk5
  go_wp2_with fail
  refine (burn_any _ _ 6 w6 hb6.out o2.out (by omega) x6.out).mono ?_
  rw [show (⟨7, 2, 0, 10⟩ : Led).outC 6 = 3 from by decide +kernel]
  rintro r w7 ⟨rfl, hb7, hm7⟩
  have hk7 := Lib.hid (hk6.out.seq hm7 (fun i hi h => by omega))
  clear hm7 hb6 hk6 hb7
  go_wp2
  go_ret
  exact ⟨rfl, hk7.out⟩
end Go.Proofs.Ytcipelkomgpngaa
