/- The walk of RegistryNil; a validator that came in. -/
import Derived.Test.YthngncklmkneoaaRgsK
namespace Go.Proofs.Ythngncklmkneoaa
open Go.RowKit Go.Eg Go.WideShapes
theorem open_vd {H : Type} {enc : TypeId × Value → H} {w W : World} {base : Nat} {spare : Nat → Bool} {held : Bool} {r : Reach} {b0 : Nat} {v : Value} {d : DataW H} {p : List MemPlace} (hv : Value.okWide Try.prog W r b0 29 v) (h : DataW.Trod enc Try.prog w base spare held 29 v d p) :
    ∃ x : Vd, v = x.val ∧ x.ok := by
  obtain ⟨cs, rfl, hsz⟩ := okWide_struct Try.underlying29 hv
  obtain ⟨fuel, hf⟩ := h
  have h7 : cs.size = 7 := hsz.trans (by kernel_rfl)
  have e : cs.toList = (List.range 7).map fun j => cs.getD j (.bool false) := by
    refine List.ext_getElem (by simp [h7]) fun i h1 h2 => ?_
    have : i < cs.size := by simpa using h1
    simp [this]
  simp only [Value.cells] at hf
  rw [e] at hf
  obtain ⟨x, hx, x0, x1, x2, x3, x4, x5, x6⟩ := vd_of_trod (c := fun j => cs.getD j (.bool false)) hf
  refine ⟨x, ?_, hx⟩
  have e2 : cs = #[cs.getD 0 (.bool false), cs.getD 1 (.bool false), cs.getD 2 (.bool false), cs.getD 3 (.bool false), cs.getD 4 (.bool false), cs.getD 5 (.bool false), cs.getD 6 (.bool false)] := by
    apply Array.toList_inj.1
    rw [e]
    rfl
  rw [e2, x0, x1, x2, x3, x4, x5, x6]
set_option maxHeartbeats 1000000 in
set_option maxRecDepth 100000 in
theorem registryNil_walk (v : Vd) (w : World) (hv : v.ok) :
    Calls Try.prog 8 #[v.val] w fun r w' => r = .returned (.bool true) ∧ Below w.heap.size w w' := by
  have HV := Lib.hid hv
  have WS := Lib.hid hv.st
  have ho := hv.b1
  have HO := Lib.hid (show totS [] + v.bal ≤ maxU by simp only [totS]; omega)
  clear hv ho
  obtain ⟨bal, st, sl, rq, ex, wd, dl⟩ := v
  go_enter Try.func8, Try.ntmps8
  go_wp2_with fail
  refine (regAdd_nil ⟨bal, st, sl, rq, ex, wd, dl⟩ _).mono ?_
  rintro r w1 ⟨rfl, hk1⟩
  have HK1 := Lib.hid (((Mods.refl (fun _ => False) w).alloc (.cells (Vd.cells ⟨bal, st, sl, rq, ex, wd, dl⟩) 29)).keep hk1)
  have HVB1 := Lib.hid (hk1.at (heap_alloc_last w (.cells (Vd.cells ⟨bal, st, sl, rq, ex, wd, dl⟩) 29)) (fun h => h))
  clear hk1
  go_wp2_with fail
  refine (regGet_nil _ 0).mono ?_
  rintro r w2 ⟨hr, hk2⟩
  rw [show vd0.val = Value.agg #[.int .u64 0, .int .i64 0, .bool false, .int .i64 0, .int .i64 0, .int .i64 0, .int .i64 0] from rfl] at hr
  subst hr
  have HK2 := Lib.hid ((HK1.out.keep hk2).alloc (.cells vd0.cells 29))
  have HVB2 := Lib.hid (heap_keep (hk2.at HVB1.out (fun h => h)) (.cells vd0.cells 29))
  clear hk2
  go_wp2_with fail
  refine (regNew_any 1 _ (by omega) (by omega)).mono ?_
  rintro r w3 ⟨rfl, hr3, hk3⟩
  have HS3 := Lib.hid (new_own (w2.alloc (.cells vd0.cells 29)))
  have HR3 := Lib.hid hr3
  have HK3 := Lib.hid (HK2.out.keep hk3)
  have HL3 := Lib.hid hk3
  have HVB3 := Lib.hid (hk3.at HVB2.out (fun h => h))
  clear hr3 hk3
  have hlb := heap_lt HVB2.out
  generalize (w2.alloc (.cells vd0.cells 29)) = w2' at *
  have u0 : w3.cell? ⟨w.heap.size, 0, none⟩ = some (.int .u64 bal) := block_cell HVB3.out 0 rfl
  have u1 : w3.cell? ⟨w.heap.size, 1, none⟩ = some (.int .i64 st) := block_cell HVB3.out 1 rfl
  have u2 : w3.cell? ⟨w.heap.size, 2, none⟩ = some (.bool sl) := block_cell HVB3.out 2 rfl
  have u3 : w3.cell? ⟨w.heap.size, 3, none⟩ = some (.int .i64 rq) := block_cell HVB3.out 3 rfl
  have u4 : w3.cell? ⟨w.heap.size, 4, none⟩ = some (.int .i64 ex) := block_cell HVB3.out 4 rfl
  have u5 : w3.cell? ⟨w.heap.size, 5, none⟩ = some (.int .i64 wd) := block_cell HVB3.out 5 rfl
  have u6 : w3.cell? ⟨w.heap.size, 6, none⟩ = some (.int .i64 dl) := block_cell HVB3.out 6 rfl
  have hg3 := heap_lt HR3.out.blk
  clear HVB3
  go_wp2_with fail
  refine (regAdd_law HR3.out HS3.out HL3.out ⟨bal, st, sl, rq, ex, wd, dl⟩ HV.out (by simp) HO.out (by omega)).mono ?_
  rintro r w4 ⟨rfl, lv4, hr4, hs4, hk4⟩
  have HR4 := Lib.hid hr4
  have HS4 := Lib.hid hs4
  have HL4 := Lib.hid hk4
  have HVB4 := Lib.hid (hk4.at HVB2.out (fun h => h))
  rw [List.nil_append] at HR4
  clear hr4 hs4 hk4 u0 u1 u2 u3 u4 u5 u6 hg3
  go_wp2_with fail
  refine (regAll_any HR4.out).mono ?_
  rintro r w5 ⟨v5, rfl, ho5, hk5⟩
  obtain ⟨a5, c5, rfl⟩ := owns_slice' ho5
  obtain ⟨b5, rfl, hb5, hrc⟩ := row_at ho5 0 (by simp)
  obtain ⟨y0, z0⟩ := hrc 0 (by omega)
  have Y0 := Lib.hid (show w5.cell? ⟨b5, 0, none⟩ = some (.int .u64 bal) from y0)
  have Z0 := Lib.hid (show w5.frozen? ⟨b5, 0, none⟩ = false from z0)
  have HK5 := Lib.hid hk5
  have HLT : RowKit.Hid (∀ i, RegS (w2'.heap.size + 1) w2'.heap.size lv4 i → ¬ i = b5) := Lib.hid fun i hi e => by
    have hg := heap_lt HR4.out.blk
    have hm := HR4.out.map.lt
    rcases hi with h | h | h
    · omega
    · omega
    · have := (HR4.out.row.lt i h).2; omega
  have hb5w : w.heap.size < w4.heap.size := heap_lt HVB4.out
  clear ho5 hk5 hrc y0 z0
  go_wp2_with fail
  go_loopw [41] (fun i wr => ∃ (k : Nat) (y : Int), k ≤ 1 ∧ i = .int .i64 k ∧ Mods (fun i => i = b5) w5 wr ∧ wr.cell? ⟨b5, 0, none⟩ = some (.int .u64 y) ∧ wr.frozen? ⟨b5, 0, none⟩ = false) (fun i _ => 1 - (intOf i).toNat)
  case atStart => exact ⟨0, bal, by omega, rfl, Mods.refl _ _, Y0.out, Z0.out⟩
  case round =>
    obtain ⟨k, y, hk, rfl, hm, hy, hz⟩ := hrel
    have HM := Lib.hid hm
    by_cases hlt : k < 1
    · obtain rfl : k = 0 := by omega
      clear hm
      go_wp2
      go_roundw
      case rel =>
        refine ⟨1, _, by omega, by go_num, HM.out.setCell _ _ (fun _ => rfl), World.cell?_setCell_same _ ⟨b5, 0, none⟩ _ hy, ?_⟩
        simp [hz]
      case measure => simp [intOf]
    · have HRW := Lib.hid ((HR4.out.keeps HK5.out).mods hm HLT.out)
      have HKW : RowKit.Hid (Mods (fun i => i = b5) w4 wr) := Lib.hid ((Mods.weaken HK5.out fun _ _ h => h.elim).trans hm)
      have HVBW := Lib.hid (HKW.out.at HVB4.out (by omega))
      clear hm hy hz
      go_wp2_with fail
      refine (regGet_any HRW.out 0 (by simp)).mono ?_
      rintro r w6 ⟨rfl, hk6⟩
      simp only [List.getElem_cons_zero]
      have HVB6 := Lib.hid (heap_keep (hk6.at HVBW.out (fun h => h)) (.cells (Vd.cells ⟨bal, st, sl, rq, ex, wd, dl⟩) 29))
      have HVN6 := Lib.hid (heap_alloc_last w6 (.cells (Vd.cells ⟨bal, st, sl, rq, ex, wd, dl⟩) 29))
      have HK6 := Lib.hid ((HKW.out.keep hk6).alloc (.cells (Vd.cells ⟨bal, st, sl, rq, ex, wd, dl⟩) 29))
      clear hk6
      go_wp2_with fail
      obtain ⟨w7, hw7⟩ : ∃ w7, w7 = w6.alloc (.cells (Vd.cells ⟨bal, st, sl, rq, ex, wd, dl⟩) 29) := ⟨_, rfl⟩
      rw [← hw7] at HVB6 HVN6 HK6 ⊢
      have h67 : w.heap.size < w7.heap.size ∧ w6.heap.size < w7.heap.size := ⟨heap_lt HVB6.out, heap_lt HVN6.out⟩
      clear hw7
      refine (alive_any _).mono ?_
      rintro r w8 ⟨rfl, hk8⟩
      have HVB8 := Lib.hid (hk8.at HVB6.out (fun h => h))
      have HVN8 := Lib.hid (hk8.at HVN6.out (fun h => h))
      have HK8 := Lib.hid (HK6.out.keep hk8)
      have u0 : w8.cell? ⟨w.heap.size, 0, none⟩ = some (.int .u64 bal) := block_cell HVB8.out 0 rfl
      have u1 : w8.cell? ⟨w.heap.size, 1, none⟩ = some (.int .i64 st) := block_cell HVB8.out 1 rfl
      have u2 : w8.cell? ⟨w.heap.size, 2, none⟩ = some (.bool sl) := block_cell HVB8.out 2 rfl
      have u3 : w8.cell? ⟨w.heap.size, 3, none⟩ = some (.int .i64 rq) := block_cell HVB8.out 3 rfl
      have u4 : w8.cell? ⟨w.heap.size, 4, none⟩ = some (.int .i64 ex) := block_cell HVB8.out 4 rfl
      have u5 : w8.cell? ⟨w.heap.size, 5, none⟩ = some (.int .i64 wd) := block_cell HVB8.out 5 rfl
      have u6 : w8.cell? ⟨w.heap.size, 6, none⟩ = some (.int .i64 dl) := block_cell HVB8.out 6 rfl
      clear hk8
      go_wp2_with fail
      refine (regSet_nil ⟨bal, st, sl, rq, ex, wd, dl⟩ 0 w8).mono ?_
      rintro r w9 ⟨rfl, hk9⟩
      have HVB9 := Lib.hid (hk9.at HVB8.out (fun h => h))
      have HVN9 := Lib.hid (hk9.at HVN8.out (fun h => h))
      have HK9 := Lib.hid (HK8.out.keep hk9)
      clear hk9 u0 u1 u2 u3 u4 u5 u6
      have u0 : w9.cell? ⟨w.heap.size, 0, none⟩ = some (.int .u64 bal) := block_cell HVB9.out 0 rfl
      have u1 : w9.cell? ⟨w.heap.size, 1, none⟩ = some (.int .i64 st) := block_cell HVB9.out 1 rfl
      have u2 : w9.cell? ⟨w.heap.size, 2, none⟩ = some (.bool sl) := block_cell HVB9.out 2 rfl
      have u3 : w9.cell? ⟨w.heap.size, 3, none⟩ = some (.int .i64 rq) := block_cell HVB9.out 3 rfl
      have u4 : w9.cell? ⟨w.heap.size, 4, none⟩ = some (.int .i64 ex) := block_cell HVB9.out 4 rfl
      have u5 : w9.cell? ⟨w.heap.size, 5, none⟩ = some (.int .i64 wd) := block_cell HVB9.out 5 rfl
      have u6 : w9.cell? ⟨w.heap.size, 6, none⟩ = some (.int .i64 dl) := block_cell HVB9.out 6 rfl
      have v0 : w9.cell? ⟨w6.heap.size, 0, none⟩ = some (.int .u64 bal) := block_cell HVN9.out 0 rfl
      have v1 : w9.cell? ⟨w6.heap.size, 1, none⟩ = some (.int .i64 st) := block_cell HVN9.out 1 rfl
      have v2 : w9.cell? ⟨w6.heap.size, 2, none⟩ = some (.bool sl) := block_cell HVN9.out 2 rfl
      have v3 : w9.cell? ⟨w6.heap.size, 3, none⟩ = some (.int .i64 rq) := block_cell HVN9.out 3 rfl
      have v4 : w9.cell? ⟨w6.heap.size, 4, none⟩ = some (.int .i64 ex) := block_cell HVN9.out 4 rfl
      have v5 : w9.cell? ⟨w6.heap.size, 5, none⟩ = some (.int .i64 wd) := block_cell HVN9.out 5 rfl
      have v6 : w9.cell? ⟨w6.heap.size, 6, none⟩ = some (.int .i64 dl) := block_cell HVN9.out 6 rfl
      go_wp2_with fail
      refine (regLen_nil w9).mono ?_
      rintro r w10 ⟨rfl, rfl⟩
      go_wp2_with fail
      refine (regActive_nil w9).mono ?_
      rintro r w10 ⟨rfl, rfl⟩
      go_wp2_with fail
      refine (regTotal_nil w9).mono ?_
      rintro r w10 ⟨rfl, rfl⟩
      go_wp2_with fail
      refine (regCount_nil _ w9).mono ?_
      rintro r w10 ⟨rfl, rfl⟩
      go_wp2_with fail
      refine (regAll_nil w9).mono ?_
      rintro r w10 ⟨rfl, rfl⟩
      go_wp2
      go_ret
      exact ⟨rfl, ((HK2.out.keep HL4.out).seq HK9.out fun i hi e => by have := HK2.out.size; have := HL4.out.size; omega).below'⟩
end Go.Proofs.Ythngncklmkneoaa
