/- status.Run, status.Final: their contracts. -/
import Derived.Test.YtblcghghgejaaaaStatusB
namespace Go.Proofs.Ytblcghghgejaaaa
open Go.RowKit Go.Maps Go.Eg
/-- the status after k events -/
def st (s : Int) (z : Nat → Int) : Nat → Int
  | 0 => s
  | k + 1 => refNext (st s z k) (z k)
/-- the first of the next n events that does not apply -/
def runFrom (s : Int) (z : Nat → Int) : Nat → Nat → Nat
  | k, 0 => k
  | k, n + 1 => if refNext (st s z k) (z k) = 0 then k else runFrom s z (k + 1) n
def runLen (s : Int) (z : Nat → Int) (n : Nat) : Nat := runFrom s z 0 n
theorem runFrom_at (s : Int) (z : Nat → Int) : ∀ (n k m : Nat), k ≤ m → m ≤ k + n → (∀ j, k ≤ j → j < m → refNext (st s z j) (z j) ≠ 0) → (m < k + n → refNext (st s z m) (z m) = 0) → runFrom s z k n = m
  | 0, k, m, h1, h2, _, _ => by rw [runFrom]; omega
  | n + 1, k, m, h1, h2, h3, h4 => by
    rw [runFrom]
    by_cases hk : k = m
    · subst hk; rw [if_pos (h4 (by omega))]
    · rw [if_neg (h3 k (Nat.le_refl _) (by omega))]
      exact runFrom_at s z n (k + 1) m (by omega) (by omega) (fun j a b => h3 j (by omega) b) (fun h => h4 (by omega))
theorem runFrom_spec (s : Int) (z : Nat → Int) : ∀ (n k : Nat), k ≤ runFrom s z k n ∧ runFrom s z k n ≤ k + n ∧ (∀ j, k ≤ j → j < runFrom s z k n → refNext (st s z j) (z j) ≠ 0) ∧ (runFrom s z k n < k + n → refNext (st s z (runFrom s z k n)) (z (runFrom s z k n)) = 0)
  | 0, k => ⟨Nat.le_refl _, Nat.le_refl _, fun j a b => by rw [runFrom] at b; omega, fun h => by rw [runFrom] at h; omega⟩
  | n + 1, k => by
    rw [runFrom]
    by_cases h : refNext (st s z k) (z k) = 0
    · rw [if_pos h]; exact ⟨Nat.le_refl _, by omega, fun j a b => by omega, fun _ => h⟩
    · rw [if_neg h]
      obtain ⟨a, b, c, d⟩ := runFrom_spec s z n (k + 1)
      refine ⟨by omega, by omega, fun j x y => ?_, fun x => d (by omega)⟩
      by_cases hj : j = k
      · subst hj; exact h
      · exact c j (by omega) y
theorem wf_small {x : Int} (h0 : 0 ≤ x) (h1 : x ≤ 1000) : (Lit.int .i64 x).wf = true := WalkArith.wf_i64 (by omega)
theorem st_wf (s : Int) (z : Nat → Int) (hs : (Lit.int .i64 s).wf = true) : ∀ k, (Lit.int .i64 (st s z k)).wf = true
  | 0 => hs
  | k + 1 => by have := refNext_range (st s z k) (z k); exact wf_small (by show 0 ≤ refNext _ _; omega) (by show refNext _ _ ≤ 1000; omega)
/-- a slice of ints that the world holds -/
def IntRow (w : World) (a0 : Option Addr) (n : Nat) (z : Nat → Int) : Prop :=
  ∃ b off, (0 < n → b < w.heap.size) ∧ (0 < n → a0 = some ⟨b, off, none⟩) ∧ ∀ j, j < n → w.cell? ⟨b, off + j, none⟩ = some (.int .i64 (z j)) ∧ (Lit.int .i64 (z j)).wf = true
theorem IntRow.below {w w' : World} {a0 : Option Addr} {n : Nat} {z : Nat → Int} (h : IntRow w a0 n z) (hb : Below w.heap.size w w') : IntRow w' a0 n z := by
  obtain ⟨b, off, h1, h2, h3⟩ := h
  exact ⟨b, off, fun h => Nat.lt_of_lt_of_le (h1 h) hb.size, h2, fun j hj => ⟨(hb.cell (h1 (by omega))).trans (h3 j hj).1, (h3 j hj).2⟩⟩
set_option maxHeartbeats 400000 in
theorem run_any (s : Int) (z : Nat → Int) (a0 : Option Addr) (n cap : Nat) (w : World) (hn : n ≤ 1000000) (hs : (Lit.int .i64 s).wf = true) (hrow : IntRow w a0 n z) :
    Calls Try.prog 12 #[.int .i64 s, .slice a0 n cap] w fun r w' => r = .returned (.tuple #[.int .i64 (st s z (runLen s z n)), .int .i64 (runLen s z n)]) ∧ Below w.heap.size w w' := by
  obtain ⟨b, off, hbl, ha, hc⟩ := hrow
  have HC := Lib.hid hc
  clear hc
  have HA := Lib.hid ha
  have HB := Lib.hid hbl
  clear ha hbl
  go_enter Try.func12, Try.ntmps12
  go_wp2
  go_loopw [0, 12] (fun t i wr => ∃ k : Nat, k ≤ n ∧ i = .int .i64 k ∧ t = .int .i64 (st s z k) ∧ (∀ j, j < k → refNext (st s z j) (z j) ≠ 0) ∧ Below w.heap.size w wr) (fun _ i _ => n - (intOf i).toNat)
  case atStart => exact ⟨0, Nat.zero_le _, rfl, rfl, fun j hj => by omega, Below.refl _ _⟩
  case round =>
    obtain ⟨k, hk, rfl, rfl, hok, hb⟩ := hrel
    have HO := Lib.hid hok
    clear hok
    by_cases hlt : k < n
    · obtain ⟨hcs, hw⟩ := HC.out k hlt
      rw [← hb.cell (by exact HB.out (by omega))] at hcs
      obtain rfl := HA.out (by omega)
      have hsw := st_wf s z hs k
      have HE : Hid (st s z (k + 1) = refNext (st s z k) (z k)) := Lib.hid rfl
      go_wp2_with fail
      refine (next_any (st s z k) (z k) _ hsw hw).mono ?_
      rintro r w1 ⟨rfl, hb1⟩
      have hb2 := hb.trans (hb1.mono hb.size)
      clear hb1 hb hcs
      by_cases h0 : refNext (st s z k) (z k) = 0
      · have h0b : (refNext (st s z k) (z k) != 0) = false := by rw [h0]; rfl
        have H0 := Lib.hid h0
        clear h0
        go_wp2
        go_ret2
        have e : runLen s z n = k := runFrom_at s z n 0 k (by omega) (by omega) (fun j _ h => HO.out j h) (fun _ => H0.out)
        exact ⟨ret2 (by rw [e]; rfl) (by rw [e]; rfl), hb2⟩
      · have h0b : (refNext (st s z k) (z k) != 0) = true := by simpa using h0
        have H0 := Lib.hid h0
        clear h0
        go_wp2
        go_roundw
        case rel =>
          refine ⟨k + 1, by omega, by go_num, by rw [HE.out], fun j hj => ?_, hb2⟩
          by_cases hjk : j = k
          · subst hjk; exact H0.out
          · exact HO.out j (by omega)
        case measure => simp [intOf]; omega
    · have hkn : k = n := by omega
      have e : runLen s z n = n := runFrom_at s z n 0 n (by omega) (by omega) (fun j _ h => HO.out j (by omega)) (fun h => by omega)
      subst hkn
      have HE := Lib.hid e
      clear e
      go_wp2
      go_ret2
      exact ⟨ret2 (by rw [HE.out]; rfl) (by rw [HE.out]; rfl), hb⟩

theorem keyOf_inv {key : Value} {kl : Lit} (h : keyOf Try.prog 41 key = some kl) : ∃ x : Int × Int, key = keyVal x.1 x.2 := by
  obtain ⟨n, hn⟩ := tsz
  simp only [keyOf, Try.underlying41, kt41, hn] at h
  cases key
  case agg cs =>
    simp [Value.formed, Try.underlying41, cells41, Value.cells] at h
    obtain ⟨hsz, ls, hl, _⟩ := h
    obtain ⟨l⟩ := cs
    match l, hsz with
    | [a, b], hsz2 =>
      clear hsz2
      simp [Program.keyLits, Try.underlying41, cells41, cells3, Try.underlying3] at hl
      cases a
      case int k x =>
        by_cases h1 : k = .i64 ∧ (Lit.int .i64 x).wf = true
        · simp only [h1, and_self, if_true, Option.bind_some] at hl
          cases b
          case int k' y =>
            by_cases h2 : k' = .i64 ∧ (Lit.int .i64 y).wf = true
            · exact ⟨(x, y), by rw [h1.1, h2.1]; rfl⟩
            · simp [h2] at hl
          all_goals simp at hl
        · simp [h1] at hl
      all_goals simp at hl
  all_goals simp [Value.formed, Try.underlying41] at h
end Go.Proofs.Ytblcghghgejaaaa
