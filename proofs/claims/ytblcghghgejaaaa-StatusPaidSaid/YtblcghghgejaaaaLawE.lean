/- The walk of StatusPaid. -/
import Derived.Test.YtblcghghgejaaaaLaw
namespace Go.Proofs.Ytblcghghgejaaaa
open Go.RowKit Go.Maps Go.Eg
/-- has a Leave come among the first k events? -/
def pL (z : Nat → Int) : Nat → Bool
  | 0 => false
  | k + 1 => if z k = 3 then true else pL z k
/-- is the last Ripen (behind a Leave) not followed by a Slash? -/
def pR (z : Nat → Int) : Nat → Bool
  | 0 => false
  | k + 1 => if z k = 7 then false else if z k = 4 then pL z k else pR z k
theorem refNext_step {s x : Int} (h : refNext s x ≠ 0) : (x = 7 ∧ (s = 2 ∨ s = 3) ∧ refNext s x = 3) ∨ (x = 7 ∧ (s = 4 ∨ s = 5) ∧ refNext s x = 4) ∨ (x = 6 ∧ s = 2 ∧ refNext s x = 7) ∨ (1 ≤ x ∧ x ≤ 5 ∧ s = x ∧ refNext s x = s + 1) := by
  rcases refNext_cases s x with ⟨j, hj, rfl, rfl, _⟩ | ⟨h0, _⟩
  · have : ∀ j, j < 10 → (tE j = 7 ∧ (tS j = 2 ∨ tS j = 3) ∧ refNext (tS j) (tE j) = 3) ∨ (tE j = 7 ∧ (tS j = 4 ∨ tS j = 5) ∧ refNext (tS j) (tE j) = 4) ∨ (tE j = 6 ∧ tS j = 2 ∧ refNext (tS j) (tE j) = 7) ∨ (1 ≤ tE j ∧ tE j ≤ 5 ∧ tS j = tE j ∧ refNext (tS j) (tE j) = tS j + 1) := by decide
    exact this j hj
  · exact absurd h0 h
theorem paid_inv (z : Nat → Int) : ∀ k, (∀ j, j < k → refNext (st 1 z j) (z j) ≠ 0) →
    (1 ≤ st 1 z k ∧ st 1 z k ≤ 7) ∧ (st 1 z k = 4 ∨ st 1 z k = 5 ∨ st 1 z k = 6 → pL z k = true) ∧ (st 1 z k = 5 ∨ st 1 z k = 6 → pR z k = true) ∧ (st 1 z k = 1 ↔ k = 0)
  | 0, _ => ⟨⟨by simp [st], by simp [st]⟩, fun h => by simp [st] at h, fun h => by simp [st] at h, by simp [st]⟩
  | k + 1, h => by
    obtain ⟨⟨a, b⟩, c, d, e⟩ := paid_inv z k (fun j hj => h j (by omega))
    have hk := h k (by omega)
    generalize hs : st 1 z k = s at *
    have e1 : st 1 z (k + 1) = refNext s (z k) := by rw [← hs]; rfl
    rw [e1]
    have e2 : pL z (k + 1) = if z k = 3 then true else pL z k := rfl
    have e3 : pR z (k + 1) = if z k = 7 then false else if z k = 4 then pL z k else pR z k := rfl
    rw [e2, e3]
    generalize z k = x at *
    have hstep := refNext_step hk
    clear hk h
    rcases hstep with ⟨rfl, hs2, hr⟩ | ⟨rfl, hs2, hr⟩ | ⟨rfl, hs2, hr⟩ | ⟨hx1, hx2, rfl, hr⟩
    · rw [hr]; exact ⟨by omega, fun h => by omega, fun h => by omega, by omega⟩
    · rw [hr]; exact ⟨by omega, fun _ => by simpa using c (by omega), fun h => by omega, by omega⟩
    · rw [hr]; exact ⟨by omega, fun h => by omega, fun h => by omega, by omega⟩
    · rw [hr]
      refine ⟨by omega, fun h => ?_, fun h => ?_, by omega⟩
      · by_cases h3 : s = 3
        · simp [h3]
        · rw [if_neg h3]; exact c (by omega)
      · rw [if_neg (by omega)]
        by_cases h4 : s = 4
        · rw [if_pos h4]; exact c (by omega)
        · rw [if_neg h4]; exact d (by omega)
theorem paid_last (z : Nat → Int) {m : Nat} (hok : ∀ j, j < m → refNext (st 1 z j) (z j) ≠ 0) (h : st 1 z m = 6) : 0 < m ∧ z (m - 1) = 5 ∧ pL z m = true ∧ pR z m = true ∧ z 0 = 1 := by
  obtain ⟨_, h2, h3, h4⟩ := paid_inv z m hok
  have hm : 0 < m := by
    have : ¬ m = 0 := fun e => by rw [h4.2 e] at h; omega
    omega
  refine ⟨hm, ?_, h2 (by omega), h3 (by omega), ?_⟩
  · obtain ⟨k, rfl⟩ : ∃ k, m = k + 1 := ⟨m - 1, by omega⟩
    have e : refNext (st 1 z k) (z k) = 6 := h
    show z k = 5
    rcases refNext_step (hok k (by omega)) with ⟨_, _, hr⟩ | ⟨_, _, hr⟩ | ⟨_, _, hr⟩ | ⟨_, _, hx, hr⟩ <;> omega
  · have e : st 1 z 0 = 1 := rfl
    have h0 := hok 0 hm
    rw [e] at h0
    rcases refNext_step h0 with ⟨_, _, hr⟩ | ⟨_, _, hr⟩ | ⟨_, _, hr⟩ | ⟨_, _, hx, hr⟩ <;> omega
set_option maxHeartbeats 800000 in
theorem statusPaid_walk (z : Nat → Int) (a0 : Option Addr) (n cap : Nat) (w : World) (lc : n ≤ cap) (hrow : IntRow w a0 n z) :
    Calls Try.prog 5 #[.slice a0 n cap] w fun e w' => e = .returned (.bool true) ∧ Below w.heap.size w w' := by
  by_cases hbig : 100 < n
  · go_enter Try.func5, Try.ntmps5
    go_wp2_with fail
    refine (alive_any _).mono ?_
    rintro r w3 ⟨rfl, hb⟩
    go_wp2
    go_ret
    exact ⟨rfl, hb⟩
  · have hm := runFrom_spec 1 z n 0
    have HM : Hid ((0 ≤ runLen 1 z n ∧ runLen 1 z n ≤ 0 + n ∧ (∀ j, 0 ≤ j → j < runLen 1 z n → refNext (st 1 z j) (z j) ≠ 0) ∧ (runLen 1 z n < 0 + n → refNext (st 1 z (runLen 1 z n)) (z (runLen 1 z n)) = 0))) := Lib.hid hm
    have hmn : runLen 1 z n ≤ n := by have := HM.out.2.1; omega
    clear hm
    have hrun := fun w => run_any 1 z a0 n cap w (by omega) (by decide)
    have HR := Lib.hid hrun
    clear hrun
    generalize runLen 1 z n = m at *
    by_cases h6 : st 1 z m = 6
    · obtain ⟨hm0, hlast, hL, hR, hfst⟩ := paid_last z (fun j hj => HM.out.2.2.1 j (Nat.zero_le _) hj) h6
      have HL := Lib.hid hL
      have HRR := Lib.hid hR
      have H6 := Lib.hid h6
      have HF := Lib.hid hfst
      have HLa := Lib.hid hlast
      clear hL hR h6 hfst hlast
      go_enter Try.func5, Try.ntmps5
      go_wp2_with fail
      refine (HR.out _ hrow).mono ?_
      rw [H6.out]
      rintro r w1 ⟨rfl, hb1⟩
      have hrow1 := hrow.below hb1
      obtain ⟨b, off, hbl, ha, hc⟩ := hrow1
      have HC := Lib.hid hc
      obtain rfl := ha (by omega)
      clear hc ha hbl hrow
      go_wp2_with fail
      go_loop [5, 6, 33] (fun l r i => ∃ k : Nat, k ≤ m ∧ i = .int .i64 k ∧ l = .bool (pL z k) ∧ r = .bool (pR z k)) (fun _ _ i => m - (intOf i).toNat)
      case atStart => exact ⟨0, Nat.zero_le _, rfl, rfl, rfl⟩
      case round =>
        obtain ⟨k, hk, rfl, rfl, rfl⟩ := hrel
        have E1 : Hid (pL z (k + 1) = if z k = 3 then true else pL z k) := Lib.hid rfl
        have E2 : Hid (pR z (k + 1) = if z k = 7 then false else if z k = 4 then pL z k else pR z k) := Lib.hid rfl
        by_cases hlt : k < m
        · obtain ⟨hcs, hw⟩ := HC.out k (by omega)
          have hfirst : (((k : Int) == 0) = true ∧ (z k != 1) = false) ∨ ((k : Int) == 0) = false := by
            by_cases h0 : k = 0
            · subst h0; exact .inl ⟨rfl, by rw [HF.out]; rfl⟩
            · exact .inr (by simpa using h0)
          generalize pL z k = bl at *
          generalize pR z k = br at *
          rcases hfirst with ⟨f1, f2⟩ | f1
          all_goals
            by_cases h3 : z k = 3
            · have h3b : (z k == 3) = true := by simpa using h3
              have H3 := Lib.hid h3
              clear h3
              go_wp2
              go_round
              case rel => exact ⟨k + 1, by omega, by go_num, by rw [E1.out, if_pos H3.out], by rw [E2.out, H3.out]; rfl⟩
              case measure => simp [intOf]; omega
            · have h3b : (z k == 3) = false := by simpa using h3
              have H3 := Lib.hid h3
              clear h3
              by_cases h7 : z k = 7
              · have h7b : (z k == 7) = true := by simpa using h7
                have H7 := Lib.hid h7
                clear h7
                go_wp2
                go_round
                case rel => exact ⟨k + 1, by omega, by go_num, by rw [E1.out, if_neg H3.out], by rw [E2.out, if_pos H7.out]⟩
                case measure => simp [intOf]; omega
              · have h7b : (z k == 7) = false := by simpa using h7
                have H7 := Lib.hid h7
                clear h7
                by_cases h4 : z k = 4
                · have h4b : (z k == 4) = true := by simpa using h4
                  have H4 := Lib.hid h4
                  clear h4
                  go_wp2
                  go_round
                  case rel => exact ⟨k + 1, by omega, by go_num, by rw [E1.out, if_neg H3.out], by rw [E2.out, if_neg H7.out, if_pos H4.out]⟩
                  case measure => simp [intOf]; omega
                · have h4b : (z k == 4) = false := by simpa using h4
                  have H4 := Lib.hid h4
                  clear h4
                  go_wp2
                  go_round
                  case rel => exact ⟨k + 1, by omega, by go_num, by rw [E1.out, if_neg H3.out], by rw [E2.out, if_neg H7.out, if_neg H4.out]⟩
                  case measure => simp [intOf]; omega
        · obtain rfl : m = k := by omega
          rw [HL.out, HRR.out]
          go_wp2_with fail
          refine (alive_any _).mono ?_
          rintro r w3 ⟨rfl, hb3⟩
          obtain ⟨hcs, hw⟩ := HC.out (m - 1) (by omega)
          rw [← hb3.cell (by exact cell_lt hcs), HLa.out] at hcs
          have hb := hb1.trans (hb3.mono hb1.size)
          have hidx : ((m : Int) - 1).toNat = m - 1 := by omega
          clear hb1 hb3 hw
          go_wp2
          go_ret
          exact ⟨rfl, hb⟩
    · have h6b : (st 1 z m != 6) = true := by simpa using h6
      clear h6
      go_enter Try.func5, Try.ntmps5
      go_wp2_with fail
      refine (HR.out _ hrow).mono ?_
      rintro r w1 ⟨rfl, hb1⟩
      generalize st 1 z m = s at *
      go_wp2_with fail
      refine (alive_any _).mono ?_
      rintro r w3 ⟨rfl, hb3⟩
      have hb := hb1.trans (hb3.mono hb1.size)
      clear hb1 hb3
      go_wp2
      go_ret
      exact ⟨rfl, hb⟩
end Go.Proofs.Ytblcghghgejaaaa
