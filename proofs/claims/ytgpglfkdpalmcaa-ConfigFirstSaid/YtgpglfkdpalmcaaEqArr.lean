/- An array of integers equals itself. -/
import Derived.Test.YtgpglfkdpalmcaaBig
namespace Go.Eg
open Go Go.RowKit
variable {P : Program}
theorem run_part_int (w : World) {e : TypeId} {k : IntKind} (he : P.underlying e = some (.int k)) (xs : Array Value) (i : Nat) (v : Value) (hv : xs[i]? = some v) : (part e xs i).run P w = .ok v w := by
  have hn : (isAgg e).run P w = .ok false w := by
    unfold isAgg
    rw [Sem.run_bind, run_underlying he w]
    simp
  simp [part, Sem.run_bind, hn, hv]
theorem run_equalIn_array_self (w : World) (d : Nat) {t e : TypeId} {n : Nat} {k : IntKind} (ht : P.underlying t = some (.array n e)) (he : P.underlying e = some (.int k)) (hs : (P.info? e).map (·.size) = some 1)
    (xs : Array Value) (hx : ∀ i, i < n → ∃ a, xs[i]? = some (.int k a)) : (Op.equalIn (d + 2) t (.agg xs) (.agg xs)).run P w = .ok true w := by
  have hsz : (sizeOf e).run P w = .ok 1 w := by
    cases hq : P.info? e with
    | none => simp [hq] at hs
    | some i => simp [hq] at hs; simp [sizeOf, typeInfo, hq, hs]
  rw [Op.equalIn]
  simp only [Sem.run_bind, run_underlying ht, Result.andThen_ok, hsz, Nat.mul_one]
  rw [Std.Legacy.Range.forIn_eq_forIn_range']
  simp only [Std.Legacy.Range.size]
  have key : ∀ (m s : Nat), s + m ≤ n → (Sem.run P (forIn (List.range' s m 1) ((none, ()) : Option Bool × Unit) fun i r => do
      if (!(← Op.equalIn (d + 1) e (← part e xs i) (← part e xs i))) = true then pure (ForInStep.done (some false, ())) else pure (ForInStep.yield (none, ()))) w) = .ok (none, ()) w := by
    intro m
    induction m with
    | zero => intro s _; simp
    | succ m ih =>
      intro s h
      obtain ⟨a, ha⟩ := hx s (by omega)
      rw [List.range'_succ, List.forIn_cons]
      simp only [Sem.run_bind, run_part_int w he xs s _ ha, Result.andThen_ok, run_equalIn_int w d e k k a a he, beq_self_eq_true, Bool.not_true, Bool.false_eq_true, if_false, Sem.run_pure]
      exact ih (s + 1) (by omega)
  have hk := key n 0 (by omega)
  have e1 : (n - 0 + 1 - 1) / 1 = n := by simp
  rw [e1, hk]
  simp
end Go.Eg
