/- A struct whose fields are all integers, read as data: what its cells are. -/
import Derived.Test.YtljcodkcmenpaaaReg
import Derived.ProofKit
namespace Go.Eg
open Go Go.RowKit Go.WideShapes
section
variable {H : Type} {enc : TypeId × Value → H} {P : Program} {w : World} {base : Nat} {spare : Nat → Bool} {held : Bool}
/-- the fields are integers of these kinds, one cell each, in order -/
def intFieldsB (P : Program) (fs : Array Field) (kinds : List IntKind) : Bool :=
  (fs.size == kinds.length) && (List.range kinds.length).all fun i =>
    match fs[i]?, kinds[i]? with
    | some f, some k => f.offset == i && P.cellsOf f.type == 1 && (match P.underlying f.type with | some (.int q) => decide (q = k) | _ => false)
    | _, _ => false
theorem intFields_at {fs : Array Field} {kinds : List IntKind} (h : intFieldsB P fs kinds = true) {i : Nat} {k : IntKind} (hk : kinds[i]? = some k) :
    ∃ f, fs[i]? = some f ∧ f.offset = i ∧ P.cellsOf f.type = 1 ∧ P.underlying f.type = some (.int k) := by
  unfold intFieldsB at h
  simp only [Bool.and_eq_true, List.all_eq_true, List.mem_range] at h
  have hi : i < kinds.length := (List.getElem?_eq_some_iff.1 hk).1
  have hh := h.2 i hi
  rw [hk] at hh
  cases hf : fs[i]? with
  | none => simp [hf] at hh
  | some f =>
    simp only [hf, Bool.and_eq_true, beq_iff_eq] at hh
    obtain ⟨⟨h1, h2⟩, h3⟩ := hh
    refine ⟨f, rfl, h1, h2, ?_⟩
    cases hu : P.underlying f.type with
    | none => simp [hu] at h3
    | some d =>
      cases d <;> simp [hu] at h3
      rw [h3]
theorem ints_of_struct {t : TypeId} {fs : Array Field} {kinds : List IntKind} {fuel : Nat} {cs : List Value} {x : DataW H × List MemPlace} (ht : P.underlying t = some (.struct fs)) (hB : intFieldsB P fs kinds = true) (hc : P.cellsOf t = kinds.length)
    (h : DataW.trod enc P w base spare held fuel t cs = some x) : ∃ z : Nat → Int, cs = (kinds.zipIdx.map fun p => Value.int p.1 (z p.2)) ∧ ∀ (i : Nat) (k : IntKind), kinds[i]? = some k → (Lit.int k (z i)).wf = true := by
  obtain ⟨xs, n, _, _, hl, hxl, hf⟩ := DataW.trod_struct ht h
  have each : ∀ (i : Nat) (k : IntKind), kinds[i]? = some k → ∃ a : Int, cs[i]? = some (Value.int k a) ∧ (Lit.int k a).wf = true := by
    intro i k hk
    obtain ⟨f, h1, h2, h3, h4⟩ := intFields_at hB hk
    have hi : i < kinds.length := (List.getElem?_eq_some_iff.1 hk).1
    have hic : i < cs.length := by omega
    have := hf i f h1
    rw [h2, h3] at this
    have e : (cs.drop i).take 1 = [cs[i]] := by rw [List.drop_eq_getElem_cons hic]; rfl
    rw [e] at this
    have hx : i < xs.length := by
      rw [hxl]
      exact (Array.getElem?_eq_some_iff.1 h1).1
    rw [List.getElem?_eq_getElem hx] at this
    obtain ⟨a, e1, _, wa⟩ := DataW.trod_int h4 this
    refine ⟨a, ?_, wa⟩
    rw [List.getElem?_eq_getElem hic]
    simp at e1
    rw [e1]
  refine ⟨fun i => match cs[i]? with | some (.int _ a) => a | _ => 0, ?_, ?_⟩
  · apply List.ext_getElem?
    intro i
    by_cases hi : i < kinds.length
    · obtain ⟨a, e, _⟩ := each i kinds[i] (List.getElem?_eq_getElem hi)
      rw [e]
      simp [hi, e]
    · rw [List.getElem?_eq_none (by omega), List.getElem?_eq_none (by simp; omega)]
  · intro i k hk
    obtain ⟨a, e, wa⟩ := each i k hk
    simp only [e]
    exact wa
/-- .. by value -/
theorem open_ints_agg {r : Reach} {b0 : Nat} {t : TypeId} {fs : Array Field} {kinds : List IntKind} {v : Value} {d : DataW H} {p : List MemPlace} (ht : P.underlying t = some (.struct fs)) (hB : intFieldsB P fs kinds = true) (hc : P.cellsOf t = kinds.length)
    (hv : Value.okWide P w r b0 t v) (h : DataW.Trod enc P w base spare held t v d p) : ∃ z : Nat → Int, v = .agg (kinds.zipIdx.map fun p => Value.int p.1 (z p.2)).toArray ∧ ∀ (i : Nat) (k : IntKind), kinds[i]? = some k → (Lit.int k (z i)).wf = true := by
  obtain ⟨cs, rfl, hsz⟩ := okWide_struct ht hv
  obtain ⟨fuel, hf⟩ := h
  obtain ⟨z, h1, h2⟩ := ints_of_struct ht hB hc hf
  refine ⟨z, ?_, h2⟩
  simp only [Value.cells] at h1
  rw [← h1]
end
end Go.Eg
