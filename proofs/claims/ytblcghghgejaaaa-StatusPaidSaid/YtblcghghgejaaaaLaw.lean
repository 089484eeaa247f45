/- The example of the chapter, and the walks of the laws of layer 5. -/
import Derived.Test.YtblcghghgejaaaaStatusD
import Derived.ProofKit
namespace Go.Proofs.Ytblcghghgejaaaa
open Go.RowKit Go.Maps Go.Eg
def abc (j : Nat) : Int := [1, 2, 3].getD j 0
theorem alive_any (w : World) : Calls Try.prog 11 #[] w fun r w' => r = .returned (.bool true) ∧ Below w.heap.size w w' := by
  go_enter Try.func11, Try.ntmps11
  go_wp2_with fail
  refine (run_any 1 abc (some ⟨w.heap.size, 0, none⟩) 3 3 _ (by omega) (by decide) ⟨w.heap.size, 0, fun _ => by simp, fun _ => rfl, ?_⟩).mono ?_
  · intro j hj
    match j, hj with
    | 0, _ => exact ⟨by simp [go_sem, abc], by decide⟩
    | 1, _ => exact ⟨by simp [go_sem, abc], by decide⟩
    | 2, _ => exact ⟨by simp [go_sem, abc], by decide⟩
  · have e1 : st 1 abc (runLen 1 abc 3) = 4 := by decide
    have e2 : runLen 1 abc 3 = 3 := by decide
    rw [e2] at e1 ⊢
    rw [e1]
    rintro r w1 ⟨rfl, hb⟩
    have hb2 := ((Below.refl _ _).alloc (Nat.le_refl _) _).trans (hb.mono (by simp))
    clear hb e1 e2
    go_wp2_with fail
    refine (name_any 4 _).mono ?_
    have e3 : nameOf 4 = ⟨#[117, 110, 98, 111, 110, 100, 105, 110, 103]⟩ := rfl
    rw [e3]
    clear e3
    rintro r w2 ⟨rfl, hb3⟩
    have hb4 := hb2.trans (hb3.mono hb2.size)
    clear hb2 hb3
    go_wp2
    go_ret
    exact ⟨rfl, hb4⟩
theorem intRow_of {P : Program} {H : Type} {enc : TypeId × Value → H} {w : World} {base : Nat} {spare : Nat → Bool} {held : Bool} {t e : TypeId} {fuel : Nat} {a : Option Addr} {len cap : Nat} {x : DataW H × List MemPlace} (ht : P.underlying t = some (.slice e)) (he : P.underlying e = some (.int .i64)) (hc : P.cellsOf e = 1)
    (h : DataW.trod enc P w base spare held fuel t (Value.slice a len cap).cells.toList = some x) : ∃ z, len ≤ cap ∧ IntRow w a len z := by
  rcases Go.ChangeShapes.open_ints ht he hc h with ⟨hcs, _⟩ | ⟨x, l, c, zs, hcs, _, hl, hm, hz, _, hcell, hwz⟩
  · simp [Value.cells] at hcs
    obtain ⟨rfl, rfl, rfl⟩ := hcs
    exact ⟨fun _ => 0, Nat.le_refl _, 0, 0, fun h => by omega, fun h => by omega, fun j hj => by omega⟩
  · simp [Value.cells] at hcs
    obtain ⟨rfl, rfl, rfl⟩ := hcs
    have hlz : len ≤ zs.length := by rw [hz]; split <;> omega
    obtain ⟨b, off, spot⟩ := x
    have hsp : 0 < len → spot = none := fun h => by
      have h0 := hcell 0 (by omega)
      simpa [Addr.add] using World.cell?_spot h0
    refine ⟨fun j => zs.getD j 0, hl, b, off, fun h => ?_, fun h => by rw [hsp h], fun j hj => ?_⟩
    · have h0 := cell_lt (hcell 0 (by omega))
      simpa [Addr.add] using h0
    · have h0 := hcell j (by omega)
      obtain rfl := hsp (by omega)
      rw [addr_add] at h0
      have hj2 : j < zs.length := by omega
      refine ⟨h0, hwz _ ?_⟩
      show zs.getD j 0 ∈ zs
      rw [List.getD_eq_getElem?_getD, List.getElem?_eq_getElem hj2]
      exact List.getElem_mem hj2
theorem statusNext_walk (from_ event : Int) (w : World) (w0 : (Lit.int .i64 from_).wf = true) (w1 : (Lit.int .i64 event).wf = true) :
    Calls Try.prog 3 #[.int .i64 from_, .int .i64 event] w fun e w' => e = .returned (.bool true) ∧ Below w.heap.size w w' := by
  go_enter Try.func3, Try.ntmps3
  go_wp2_with fail
  refine (next_any from_ event _ w0 w1).mono ?_
  rintro r w1 ⟨rfl, hb1⟩
  go_wp2_with fail
  refine (refNext_any from_ event _).mono ?_
  rintro r w2 ⟨rfl, rfl⟩
  go_wp2_with fail
  refine (alive_any _).mono ?_
  rintro r w3 ⟨rfl, hb3⟩
  have hb := hb1.trans (hb3.mono hb1.size)
  clear hb1 hb3
  generalize refNext from_ event = x
  go_wp2
  go_ret
  exact ⟨rfl, hb⟩
end Go.Proofs.Ytblcghghgejaaaa
