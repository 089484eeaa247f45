/- A region that draws its order and whose operations leave the world alone but for new memory: one walk in the order of the text, over the class of the worlds that are alike below a block number. -/
import Derived.Test.YtljcodkcmenpaaaBig
import Derived.Deep.Quiet
namespace Go.Eg
open Go Go.RowKit
section
variable {P : Program} {ops : Array Oper} {rest : List Oper} {o : Oper} {a : Act} {C : World → Prop} {Q : Act → Prop}
theorem wpQuiet_val (hw : Region.wanted o (yielded ops a.tmps) = true) {v : Value} (hrun : ∀ w, C w → (execOp a.eval o).run P w = .ok (.value v) w)
    (h : wpQuiet P ops C Q rest (a.put o.dst v)) : wpQuiet P ops C Q (o :: rest) a :=
  wpQuiet_step fun K hK => by
    rw [if_pos hw]
    refine ⟨v, fun w hC => ?_, hK _ h⟩
    unfold Oper.quietAt
    rw [hrun w hC]
    exact ⟨rfl, rfl⟩
theorem wpQuiet_enter (hw : Region.wanted o (yielded ops a.tmps) = true) {f : FuncId} {args : Array Value} {v : Value} (hrun : ∀ w, C w → (execOp a.eval o).run P w = .ok (.enter f args) w)
    (hc : ∀ w, C w → Calls P f args w fun e w' => e = .returned v ∧ C w') (h : wpQuiet P ops C Q rest (a.put o.dst v)) : wpQuiet P ops C Q (o :: rest) a :=
  wpQuiet_step fun K hK => by
    rw [if_pos hw]
    refine ⟨v, fun w hC => ?_, hK _ h⟩
    unfold Oper.quietAt
    rw [hrun w hC]
    exact ⟨rfl, hc w hC⟩
theorem wpQuiet_pass (hw : Region.wanted o (yielded ops a.tmps) = false) (h : wpQuiet P ops C Q rest (a.put o.dst undef)) : wpQuiet P ops C Q (o :: rest) a :=
  wpQuiet_step fun K hK => by
    rw [if_neg (by rw [hw]; simp)]
    exact hK _ h
theorem wpQuiet_load_big (hw : Region.wanted o (yielded ops a.tmps) = true) (ty : TypeId) (x : Operand) (ho : o.op = .load ty x)
    (g : Nat) (hx : a.eval x = .pointer (some ⟨g, 0, none⟩)) (t : TypeId) (cs : Array Value) (fr : Nat × Nat) (d : TypeDesc)
    (hu : P.underlying ty = some d) (hd : (match d with | .struct _ | .array _ _ => true | _ => false) = true) (hi : (P.info? ty).map (·.size) = some cs.size)
    (hg : ∀ w, C w → w.heap[g]? = some (.cells cs t fr))
    (h : wpQuiet P ops C Q rest (a.put o.dst (.agg cs))) : wpQuiet P ops C Q (o :: rest) a :=
  wpQuiet_val hw (fun w hC => by
    unfold execOp
    simp only [ho, hx, Instr.loadAt, Instr.sureAddr, Sem.run_bind, Sem.run_pure, Result.andThen_ok, run_loadVar_row w g t ty cs fr d (hg w hC) hu hd hi]) h
end
/-- alike below B, and as large -/
def Alow (B : Nat) (W w : World) : Prop := Below B W w ∧ B ≤ w.heap.size
theorem Alow.call {P : Program} {f : FuncId} {args : Array Value} {B : Nat} {W w : World} {v : Value} (hC : Alow B W w)
    (h : Calls P f args w fun e w' => e = .returned v ∧ Below w.heap.size w w') : Calls P f args w fun e w' => e = .returned v ∧ Alow B W w' :=
  h.mono fun _ _ ⟨he, hb⟩ => ⟨he, hC.1.trans (hb.mono hC.2), Nat.le_trans hC.2 hb.size⟩
theorem Alow.same {P : Program} {f : FuncId} {args : Array Value} {B : Nat} {W w : World} {v : Value} (hC : Alow B W w)
    (h : Calls P f args w fun e w' => e = .returned v ∧ w = w') : Calls P f args w fun e w' => e = .returned v ∧ Alow B W w' :=
  h.mono fun _ _ ⟨he, hb⟩ => ⟨he, hb ▸ hC⟩
theorem Alow.cell {B : Nat} {W w : World} (h : Alow B W w) {p : Addr} (hp : p.block < B) : w.cell? p = W.cell? p := h.1.cell hp
theorem Alow.block {B : Nat} {W w : World} (h : Alow B W w) {i : Nat} (hp : i < B) : w.heap[i]? = W.heap[i]? := h.1.block i hp
end Go.Eg
