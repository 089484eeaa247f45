/- Encode; names; equality of byte lists; the example of the chapter. -/
import Derived.Test.YtljcodkcmenpaaaOpH
namespace Go.Eg
open Go Go.RowKit
def namesC : Array Value := #[.string ⟨#[100, 101, 112, 111, 115, 105, 116]⟩, .string ⟨#[101, 120, 105, 116]⟩, .string ⟨#[101, 106, 101, 99, 116]⟩, .string ⟨#[115, 108, 97, 115, 104]⟩, .string ⟨#[99, 111, 110, 115, 111, 108, 105, 100, 97, 116, 101]⟩, .string ⟨#[112, 97, 114, 116, 105, 97, 108]⟩, .string ⟨#[116, 105, 99, 107]⟩]
def nameB (k : Int) : ByteArray := if k = 1 then ⟨#[100, 101, 112, 111, 115, 105, 116]⟩ else if k = 2 then ⟨#[101, 120, 105, 116]⟩ else if k = 3 then ⟨#[101, 106, 101, 99, 116]⟩ else if k = 4 then ⟨#[115, 108, 97, 115, 104]⟩ else if k = 5 then ⟨#[99, 111, 110, 115, 111, 108, 105, 100, 97, 116, 101]⟩ else if k = 6 then ⟨#[112, 97, 114, 116, 105, 97, 108]⟩ else if k = 7 then ⟨#[116, 105, 99, 107]⟩ else ⟨#[]⟩
end Go.Eg
namespace Go.Proofs.Ytljcodkcmenpaaa
open Go.RowKit Go.Eg
theorem opEncode_no (o : Od) (w : World) (ho : o.ok) (h : validO o = false) : Calls Try.prog 9 #[o.val] w fun r w' => r = .returned (.tuple #[.slice none 0 0, .bool false]) ∧ Keeps w w' := by
  have HV := Lib.hid (fun w => opValid_any o w ho)
  rw [h] at HV
  obtain ⟨kd, ix, tg, am⟩ := o
  clear h ho
  go_enter Try.func9, Try.ntmps9
  go_wp2_with fail
  refine (HV.out _).mono ?_
  rintro r w1 ⟨rfl, hk1⟩
  have HK1 := Lib.hid (((Mods.refl (fun _ => False) w).alloc _).keep hk1)
  clear hk1
  go_wp2
  go_ret2
  exact ⟨rfl, HK1.out⟩
theorem opEncode_yes (o : Od) (cs : List Nat) (w : World) (ho : o.ok) (hk : opsOf o.kd = some cs) (h : validO o = true) : Calls Try.prog 9 #[o.val] w fun r w' => ∃ v, r = .returned (.tuple #[v, .bool true]) ∧ BO w.heap.size w' v (writeB o cs) ∧ Keeps w w' := by
  have HV := Lib.hid (fun w => opValid_any o w ho)
  have HW := Lib.hid (fun w => write_any o cs w hk ho)
  rw [h] at HV
  generalize writeB o cs = WB at *
  obtain ⟨kd, ix, tg, am⟩ := o
  clear h ho hk
  go_enter Try.func9, Try.ntmps9
  go_wp2_with fail
  refine (HV.out _).mono ?_
  rintro r w1 ⟨rfl, hk1⟩
  have HK1 := Lib.hid (((Mods.refl (fun _ => False) w).alloc (odB ⟨kd, ix, tg, am⟩)).keep hk1)
  have hvb := hk1.at (heap_alloc_last w (odB ⟨kd, ix, tg, am⟩)) (fun h => h)
  obtain ⟨c0, c1, c2, c3⟩ := od_cells hvb
  simp only at c0 c1 c2 c3
  clear hk1 hvb
  go_wp2_with fail
  refine (HW.out _).mono ?_
  rintro r w2 ⟨v, rfl, hbo, hk2⟩
  have HK2 := Lib.hid (HK1.out.keep hk2)
  have HBO := Lib.hid (hbo.base HK1.out.size)
  obtain ⟨va, vc, rfl⟩ := hbo.slice
  clear hk2 hbo
  go_wp2
  go_ret2
  exact ⟨_, rfl, HBO.out, HK2.out⟩
theorem equalB_any (v u : Value) (l : List Int) (w : World) (hv : BL w v l) (hu : BL w u l) (hn : l.length ≤ 8192) :
    Calls Try.prog 13 #[v, u] w fun r w' => r = .returned (.bool true) ∧ Keeps w w' := by
  have HV := Lib.hid hv
  have HU := Lib.hid hu
  obtain ⟨a, cap, rfl⟩ := hv.slice
  obtain ⟨a', cap', rfl⟩ := hu.slice
  clear hv hu
  go_enter Try.func13, Try.ntmps13
  go_wp2
  go_loopw [13] (fun i wr => ∃ k : Nat, k ≤ l.length ∧ i = .int .i64 k ∧ Drawn w wr) (fun i _ => l.length - (intOf i).toNat)
  case atStart => exact ⟨0, Nat.zero_le _, rfl, Drawn.refl _⟩
  case round =>
    obtain ⟨k, hk, rfl, hd⟩ := hrel
    have HD := Lib.hid hd
    by_cases hlt : k < l.length
    · obtain ⟨b, off, rfl, x0⟩ := (HV.out.keeps hd.mods).at k hlt
      obtain ⟨b', off', rfl, y0⟩ := (HU.out.keeps hd.mods).at k hlt
      have b1 : (0 : Int) ≤ (k : Int) := by omega
      have b2 : (k : Int) < (l.length : Int) := by omega
      generalize l[k] = x at *
      clear hd
      go_wp2
      go_quiet (fail)
      go_wp2
      go_roundw
      case rel => exact ⟨k + 1, by omega, by go_num, HD.out.trans (Drawn.mk _ _)⟩
      case measure => simp [intOf]; omega
    · clear hd
      go_wp2
      go_ret
      exact ⟨rfl, HD.out.mods⟩
theorem names_any (w : World) : Calls Try.prog 31 #[] w fun r w' => r = .returned (.slice (some ⟨w.heap.size, 0, none⟩) 7 7) ∧ w' = w.alloc (.cells namesC 9) := by
  go_enter Try.func31, Try.ntmps31
  go_wp2
  go_ret
  exact ⟨rfl, rfl⟩
theorem refNames_any (w : World) : Calls Try.prog 18 #[] w fun r w' => r = .returned (.slice (some ⟨w.heap.size, 0, none⟩) 7 7) ∧ w' = w.alloc (.cells namesC 9) := by
  go_enter Try.func18, Try.ntmps18
  go_wp2
  go_ret
  exact ⟨rfl, rfl⟩
theorem opName_in (k : Int) (hk : k = 1 ∨ k = 2 ∨ k = 3 ∨ k = 4 ∨ k = 5 ∨ k = 6 ∨ k = 7) (w : World) : Calls Try.prog 22 #[.int .i64 k] w fun r w' => r = .returned (.string (nameB k)) ∧ Keeps w w' := by
  rcases hk with rfl | rfl | rfl | rfl | rfl | rfl | rfl
  all_goals
    go_enter Try.func22, Try.ntmps22
    go_wp2_with fail
    refine (names_any _).mono ?_
    rintro r w1 ⟨rfl, rfl⟩
    go_wp2_with fail
    refine (names_any _).mono ?_
    rintro r w1 ⟨rfl, hw1⟩
    have hb : w1.heap[w.heap.size + 1]? = some (.cells namesC 9 (0, 0)) := by
      rw [hw1]
      exact heap_alloc2_new' w _ _
    have HK1 : Hid (Keeps w w1) := Lib.hid (hw1 ▸ ((Mods.refl _ w).alloc _).alloc _)
    have hsz : (w.alloc (.cells namesC 9)).heap.size = w.heap.size + 1 := by simp
    rw [hsz]
    have c0 : w1.cell? ⟨w.heap.size + 1, 0, none⟩ = some (.string ⟨#[100, 101, 112, 111, 115, 105, 116]⟩) := by simp [World.cell?, hb, namesC]
    have c1 : w1.cell? ⟨w.heap.size + 1, 1, none⟩ = some (.string ⟨#[101, 120, 105, 116]⟩) := by simp [World.cell?, hb, namesC]
    have c2 : w1.cell? ⟨w.heap.size + 1, 2, none⟩ = some (.string ⟨#[101, 106, 101, 99, 116]⟩) := by simp [World.cell?, hb, namesC]
    have c3 : w1.cell? ⟨w.heap.size + 1, 3, none⟩ = some (.string ⟨#[115, 108, 97, 115, 104]⟩) := by simp [World.cell?, hb, namesC]
    have c4 : w1.cell? ⟨w.heap.size + 1, 4, none⟩ = some (.string ⟨#[99, 111, 110, 115, 111, 108, 105, 100, 97, 116, 101]⟩) := by simp [World.cell?, hb, namesC]
    have c5 : w1.cell? ⟨w.heap.size + 1, 5, none⟩ = some (.string ⟨#[112, 97, 114, 116, 105, 97, 108]⟩) := by simp [World.cell?, hb, namesC]
    have c6 : w1.cell? ⟨w.heap.size + 1, 6, none⟩ = some (.string ⟨#[116, 105, 99, 107]⟩) := by simp [World.cell?, hb, namesC]
    have hlt := heap_lt hb
    clear hw1 hb hsz
    go_wp2
    go_ret
    exact ⟨rfl, HK1.out⟩
theorem bl_two (w : World) : BL (w.alloc (.cells #[.int .u8 9, .int .u8 7] 5)) (.slice (some ⟨w.heap.size, 0, none⟩) 2 2) [9, 7] :=
  BO.bl (B := w.heap.size) (World.ownsRow_lit (size := 1) w #[.int .u8 9, .int .u8 7] 2 (Nat.le_refl _) (by unfold maxLen; omega) rfl)
theorem bl_five (w : World) : BL (w.alloc (.cells #[.int .u8 5, .int .u8 0, .int .u8 1, .int .u8 1, .int .u8 2] 5)) (.slice (some ⟨w.heap.size, 0, none⟩) 5 5) [5, 0, 1, 1, 2] :=
  BO.bl (B := w.heap.size) (World.ownsRow_lit (size := 1) w #[.int .u8 5, .int .u8 0, .int .u8 1, .int .u8 1, .int .u8 2] 5 (Nat.le_refl _) (by unfold maxLen; omega) rfl)
set_option maxHeartbeats 400000 in
theorem alive_any (w : World) : Calls Try.prog 12 #[] w fun r w' => r = .returned (.bool true) ∧ Keeps w w' := by
  have HE := Lib.hid (fun w => opEncode_yes ⟨5, 1, 258, 0⟩ [0, 1] w ⟨by decide, by decide, by decide, by decide⟩ rfl ((valid_law ⟨by decide, by decide, by decide, by decide⟩).trans rfl))
  rw [show writeB ⟨5, 1, 258, 0⟩ [0, 1] = [5, 0, 1, 1, 2] from by decide] at HE
  have HD := Lib.hid (show decR [9, 7] 0 = (od0, 1, true) from rfl)
  have HB : Hid (Bytes [9, 7]) := Lib.hid (by intro x hx; simp at hx; omega)
  go_enter Try.func12, Try.ntmps12
  go_wp2_with fail
  refine (HE.out _).mono ?_
  rintro r w1 ⟨v, rfl, hbo, hk1⟩
  have HK1 := Lib.hid hk1
  have HBO := Lib.hid hbo
  obtain ⟨va, vc, rfl⟩ := hbo.slice
  clear hk1 hbo
  go_wp2_with fail
  refine (decode_any _ [9, 7] 0 _ (bl_two w1) HB.out (by simp)).mono ?_
  rw [HD.out]
  rintro r w2 ⟨hr, hk2⟩
  rw [show od0.val = Value.agg #[.int .i64 0, .int .i64 0, .int .i64 0, .int .u64 0] from rfl] at hr
  subst hr
  have HK2 := Lib.hid (((Mods.refl (fun _ => False) w1).alloc _).keep hk2)
  clear hk2
  go_wp2_with fail
  obtain ⟨wy, hwy⟩ : ∃ wy, wy = w2.alloc (.cells #[.int .i64 0, .int .i64 0, .int .i64 0, .int .u64 0] 24) := ⟨_, rfl⟩
  have HK3 := Lib.hid (show Keeps w1 (wy.alloc (.cells #[.int .u8 5, .int .u8 0, .int .u8 1, .int .u8 1, .int .u8 2] 5)) from hwy ▸ (HK2.out.alloc _).alloc _)
  have hvb : (wy.alloc (.cells #[.int .u8 5, .int .u8 0, .int .u8 1, .int .u8 1, .int .u8 2] 5)).heap[w2.heap.size]? = some (odB od0) := heap_keep (hwy ▸ heap_alloc_last w2 _) _
  have HVB := Lib.hid hvb
  have hsz : (w2.alloc (.cells #[.int .i64 0, .int .i64 0, .int .i64 0, .int .u64 0] 24)).heap.size = w2.heap.size + 1 := by simp
  have hsz2 : wy.heap.size = w2.heap.size + 1 := by rw [hwy]; exact hsz
  have HFIVE := Lib.hid (bl_five wy)
  rw [hsz2] at HFIVE
  rw [← hwy]
  clear hwy hvb hsz hsz2
  refine (equalB_any _ _ [5, 0, 1, 1, 2] _ (HBO.out.bl.keeps HK3.out) HFIVE.out (by simp)).mono ?_
  rintro r w4 ⟨rfl, hk4⟩
  obtain ⟨c0, c1, c2, c3⟩ := od_cells (hk4.at HVB.out fun h => h)
  rw [show od0 = ⟨0, 0, 0, 0⟩ from rfl] at c0 c1 c2 c3
  simp only at c0 c1 c2 c3
  have HK4 := Lib.hid (HK3.out.keep hk4)
  clear hk4
  go_wp2_with fail
  refine (opName_in 7 (by simp) w4).mono ?_
  rintro r w5 ⟨rfl, hk5⟩
  have HK5 := Lib.hid ((HK1.out.keep HK4.out).keep hk5)
  clear hk5
  rw [show nameB 7 = ⟨#[116, 105, 99, 107]⟩ from rfl]
  go_wp2
  go_ret
  exact ⟨rfl, HK5.out⟩
end Go.Proofs.Ytljcodkcmenpaaa
