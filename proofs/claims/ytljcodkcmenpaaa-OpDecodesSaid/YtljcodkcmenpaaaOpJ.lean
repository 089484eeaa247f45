/- What is decoded is valid, and its encoding is the bytes that were read: plain mathematics. -/
import Derived.Test.YtljcodkcmenpaaaOpH
namespace Go.Eg
open Go Go.RowKit
theorem big2 {a b : Int} (h0 : 0 ≤ a ∧ a < 256) (h1 : 0 ≤ b ∧ b < 256) : valL [a, b] = 256 * a + b ∧ bigL (256 * a + b) 2 = [a, b] := by
  refine ⟨by simp [valL], ?_⟩
  have : bigL (256 * a + b) 2 = [(256 * a + b) / 256 % 256, (256 * a + b) / 1 % 256] := by simp [bigL, List.range_succ]
  rw [this]
  congr 1
  · omega
  · congr 1
    omega
def v8 (b0 b1 b2 b3 b4 b5 b6 b7 : Int) : Int := 256 * (256 * (256 * (256 * (256 * (256 * (256 * b0 + b1) + b2) + b3) + b4) + b5) + b6) + b7
theorem big8 {b0 b1 b2 b3 b4 b5 b6 b7 : Int} (h0 : 0 ≤ b0 ∧ b0 < 256) (h1 : 0 ≤ b1 ∧ b1 < 256) (h2 : 0 ≤ b2 ∧ b2 < 256) (h3 : 0 ≤ b3 ∧ b3 < 256) (h4 : 0 ≤ b4 ∧ b4 < 256) (h5 : 0 ≤ b5 ∧ b5 < 256) (h6 : 0 ≤ b6 ∧ b6 < 256) (h7 : 0 ≤ b7 ∧ b7 < 256) :
    valL [b0, b1, b2, b3, b4, b5, b6, b7] = v8 b0 b1 b2 b3 b4 b5 b6 b7 ∧ bigL (v8 b0 b1 b2 b3 b4 b5 b6 b7) 8 = [b0, b1, b2, b3, b4, b5, b6, b7] ∧ 0 ≤ v8 b0 b1 b2 b3 b4 b5 b6 b7 ∧ v8 b0 b1 b2 b3 b4 b5 b6 b7 ≤ 18446744073709551615 := by
  refine ⟨by simp [valL, v8], ?_, by unfold v8; omega, by unfold v8; omega⟩
  have : ∀ x, bigL x 8 = [x / 72057594037927936 % 256, x / 281474976710656 % 256, x / 1099511627776 % 256, x / 4294967296 % 256, x / 16777216 % 256, x / 65536 % 256, x / 256 % 256, x / 1 % 256] := fun x => by simp [bigL, List.range_succ]
  rw [this]
  unfold v8
  have e0 : (256 * (256 * (256 * (256 * (256 * (256 * (256 * b0 + b1) + b2) + b3) + b4) + b5) + b6) + b7) / 72057594037927936 % 256 = b0 := by omega
  have e1 : (256 * (256 * (256 * (256 * (256 * (256 * (256 * b0 + b1) + b2) + b3) + b4) + b5) + b6) + b7) / 281474976710656 % 256 = b1 := by omega
  have e2 : (256 * (256 * (256 * (256 * (256 * (256 * (256 * b0 + b1) + b2) + b3) + b4) + b5) + b6) + b7) / 1099511627776 % 256 = b2 := by omega
  have e3 : (256 * (256 * (256 * (256 * (256 * (256 * (256 * b0 + b1) + b2) + b3) + b4) + b5) + b6) + b7) / 4294967296 % 256 = b3 := by omega
  have e4 : (256 * (256 * (256 * (256 * (256 * (256 * (256 * b0 + b1) + b2) + b3) + b4) + b5) + b6) + b7) / 16777216 % 256 = b4 := by omega
  have e5 : (256 * (256 * (256 * (256 * (256 * (256 * (256 * b0 + b1) + b2) + b3) + b4) + b5) + b6) + b7) / 65536 % 256 = b5 := by omega
  have e6 : (256 * (256 * (256 * (256 * (256 * (256 * (256 * b0 + b1) + b2) + b3) + b4) + b5) + b6) + b7) / 256 % 256 = b6 := by omega
  have e7 : (256 * (256 * (256 * (256 * (256 * (256 * (256 * b0 + b1) + b2) + b3) + b4) + b5) + b6) + b7) / 1 % 256 = b7 := by omega
  rw [e0, e1, e2, e3, e4, e5, e6, e7]
theorem two_of {R : List Int} (hb : Bytes R) (h : 2 ≤ R.length) : ∃ a b r, R = a :: b :: r ∧ (0 ≤ a ∧ a < 256) ∧ (0 ≤ b ∧ b < 256) ∧ Bytes r := by
  match R, hb, h with
  | a :: b :: r, hb, _ => exact ⟨a, b, r, rfl, hb a (by simp), hb b (by simp), fun x hx => hb x (by simp [hx])⟩
theorem eight_of {R : List Int} (hb : Bytes R) (h : 8 ≤ R.length) : ∃ b0 b1 b2 b3 b4 b5 b6 b7 r, R = b0 :: b1 :: b2 :: b3 :: b4 :: b5 :: b6 :: b7 :: r ∧ (0 ≤ b0 ∧ b0 < 256) ∧ (0 ≤ b1 ∧ b1 < 256) ∧ (0 ≤ b2 ∧ b2 < 256) ∧ (0 ≤ b3 ∧ b3 < 256) ∧ (0 ≤ b4 ∧ b4 < 256) ∧ (0 ≤ b5 ∧ b5 < 256) ∧ (0 ≤ b6 ∧ b6 < 256) ∧ (0 ≤ b7 ∧ b7 < 256) := by
  match R, hb, h with
  | b0 :: b1 :: b2 :: b3 :: b4 :: b5 :: b6 :: b7 :: r, hb, _ => exact ⟨b0, b1, b2, b3, b4, b5, b6, b7, r, rfl, hb b0 (by simp), hb b1 (by simp), hb b2 (by simp), hb b3 (by simp), hb b4 (by simp), hb b5 (by simp), hb b6 (by simp), hb b7 (by simp)⟩
theorem u64_lo {x : Int} (h0 : 0 ≤ x) (h1 : x ≤ 18446744073709551615) : IntKind.u64.wrap x = x := by rw [IntKind.wrap_u64]; exact Int.emod_eq_of_lt h0 (by omega)
theorem wf_lo {x : Int} (h0 : 0 ≤ x) (h1 : x < 65536) : (Lit.int .i64 x).wf = true := by
  simp [Lit.wf, IntKind.min, IntKind.max, IntKind.signed, IntKind.bits]
  omega
/-- decoded, then encoded -/
structure DecEnc (k : Int) (cs : List Nat) (R : List Int) : Prop where
  kd : (fillD cs ⟨k, 0, 0, 0⟩ R).kd = k
  ok : (fillD cs ⟨k, 0, 0, 0⟩ R).ok
  body : bodyB (fillD cs ⟨k, 0, 0, 0⟩ R) cs = R.take (sumZ cs)
  again : fillD cs ⟨k, 0, 0, 0⟩ (bodyB (fillD cs ⟨k, 0, 0, 0⟩ R) cs) = fillD cs ⟨k, 0, 0, 0⟩ R
theorem dec_enc {k : Int} {cs : List Nat} {R : List Int} (hk : opsOf k = some cs) (hb : Bytes R) (hl : sumZ cs ≤ R.length) : DecEnc k cs R := by
  obtain ⟨_, _, hk1, hk7, _⟩ := opsOf_small hk
  have wk := wf_lo (x := k) (by omega) (by omega)
  have w0 := wf_lo (x := 0) (by omega) (by omega)
  have hcs : cs = [2] ∨ cs = [0] ∨ cs = [0, 1] ∨ cs = [0, 2] ∨ cs = [] := by
    rcases opsOf_cases k with ⟨e, g⟩ | ⟨e, g⟩ | ⟨e, g⟩ | ⟨e, g⟩ | ⟨e, g⟩ | ⟨e, g⟩ | ⟨e, g⟩ | ⟨_, _, _, _, _, _, _, g⟩ <;> rw [g] at hk <;> simp at hk <;> subst hk <;> simp
  rcases hcs with rfl | rfl | rfl | rfl | rfl
  · obtain ⟨b0, b1, b2, b3, b4, b5, b6, b7, r, rfl, h0, h1, h2, h3, h4, h5, h6, h7⟩ := eight_of hb (by simpa [sumZ, szO] using hl)
    obtain ⟨e1, e2, e3, e4⟩ := big8 h0 h1 h2 h3 h4 h5 h6 h7
    have ef : fillD [2] ⟨k, 0, 0, 0⟩ (b0 :: b1 :: b2 :: b3 :: b4 :: b5 :: b6 :: b7 :: r) = ⟨k, 0, 0, v8 b0 b1 b2 b3 b4 b5 b6 b7⟩ := by rw [← e1]; rfl
    have eb : bodyB ⟨k, 0, 0, v8 b0 b1 b2 b3 b4 b5 b6 b7⟩ [2] = [b0, b1, b2, b3, b4, b5, b6, b7] := by
      show bigL (v8 b0 b1 b2 b3 b4 b5 b6 b7) 8 ++ [] = _
      rw [e2, List.append_nil]
    have ea : fillD [2] ⟨k, 0, 0, 0⟩ [b0, b1, b2, b3, b4, b5, b6, b7] = ⟨k, 0, 0, v8 b0 b1 b2 b3 b4 b5 b6 b7⟩ := by rw [← e1]; rfl
    exact ⟨by rw [ef], by rw [ef]; exact ⟨wk, w0, w0, e3, e4⟩, by rw [ef, eb]; rfl, by rw [ef, eb, ea]⟩
  · obtain ⟨a, b, r, rfl, h0, h1, _⟩ := two_of hb (by simpa [sumZ, szO] using hl)
    obtain ⟨e1, e2⟩ := big2 h0 h1
    have ew := w64 (x := 256 * a + b) (by omega) (by omega)
    have eu := u64_lo (x := 256 * a + b) (by omega) (by omega)
    have wx := wf_lo (x := 256 * a + b) (by omega) (by omega)
    have ef : ∀ r, fillD [0] ⟨k, 0, 0, 0⟩ (a :: b :: r) = ⟨k, 256 * a + b, 0, 0⟩ := fun r => by
      show (⟨k, wrap64 (valL [a, b]), 0, 0⟩ : Od) = _
      rw [e1, ew]
    have eb : bodyB ⟨k, 256 * a + b, 0, 0⟩ [0] = [a, b] := by
      show bigL (IntKind.u64.wrap (256 * a + b)) 2 ++ [] = _
      rw [eu, e2, List.append_nil]
    exact ⟨by rw [ef], by rw [ef]; exact ⟨wk, wx, w0, Int.le_refl _, by show (0 : Int) ≤ _; omega⟩, by rw [ef, eb]; rfl, by rw [ef, eb, ef]⟩
  · obtain ⟨a, b, r, rfl, h0, h1, hr⟩ := two_of hb (by simp [sumZ, szO] at hl; omega)
    obtain ⟨a', b', r', rfl, h0', h1', _⟩ := two_of hr (by simp [sumZ, szO] at hl; omega)
    obtain ⟨e1, e2⟩ := big2 h0 h1
    obtain ⟨e1', e2'⟩ := big2 h0' h1'
    have ew := w64 (x := 256 * a + b) (by omega) (by omega)
    have eu := u64_lo (x := 256 * a + b) (by omega) (by omega)
    have wx := wf_lo (x := 256 * a + b) (by omega) (by omega)
    have ew' := w64 (x := 256 * a' + b') (by omega) (by omega)
    have eu' := u64_lo (x := 256 * a' + b') (by omega) (by omega)
    have wx' := wf_lo (x := 256 * a' + b') (by omega) (by omega)
    have ef : ∀ r, fillD [0, 1] ⟨k, 0, 0, 0⟩ (a :: b :: a' :: b' :: r) = ⟨k, 256 * a + b, 256 * a' + b', 0⟩ := fun r => by
      show (⟨k, wrap64 (valL [a, b]), wrap64 (valL [a', b']), 0⟩ : Od) = _
      rw [e1, ew, e1', ew']
    have eb : bodyB ⟨k, 256 * a + b, 256 * a' + b', 0⟩ [0, 1] = [a, b, a', b'] := by
      show bigL (IntKind.u64.wrap (256 * a + b)) 2 ++ (bigL (IntKind.u64.wrap (256 * a' + b')) 2 ++ []) = _
      rw [eu, e2, eu', e2', List.append_nil]
      rfl
    exact ⟨by rw [ef], by rw [ef]; exact ⟨wk, wx, wx', Int.le_refl _, by show (0 : Int) ≤ _; omega⟩, by rw [ef, eb]; rfl, by rw [ef, eb, ef]⟩
  · obtain ⟨a, b, r, rfl, h0, h1, hr⟩ := two_of hb (by simp [sumZ, szO] at hl; omega)
    obtain ⟨b0, b1, b2, b3, b4, b5, b6, b7, r', rfl, g0, g1, g2, g3, g4, g5, g6, g7⟩ := eight_of hr (by simp [sumZ, szO] at hl; omega)
    obtain ⟨e1, e2⟩ := big2 h0 h1
    obtain ⟨d1, d2, d3, d4⟩ := big8 g0 g1 g2 g3 g4 g5 g6 g7
    have ew := w64 (x := 256 * a + b) (by omega) (by omega)
    have eu := u64_lo (x := 256 * a + b) (by omega) (by omega)
    have wx := wf_lo (x := 256 * a + b) (by omega) (by omega)
    have ef : ∀ r, fillD [0, 2] ⟨k, 0, 0, 0⟩ (a :: b :: b0 :: b1 :: b2 :: b3 :: b4 :: b5 :: b6 :: b7 :: r) = ⟨k, 256 * a + b, 0, v8 b0 b1 b2 b3 b4 b5 b6 b7⟩ := fun r => by
      show (⟨k, wrap64 (valL [a, b]), 0, valL [b0, b1, b2, b3, b4, b5, b6, b7]⟩ : Od) = _
      rw [e1, ew, d1]
    have eb : bodyB ⟨k, 256 * a + b, 0, v8 b0 b1 b2 b3 b4 b5 b6 b7⟩ [0, 2] = [a, b, b0, b1, b2, b3, b4, b5, b6, b7] := by
      show bigL (IntKind.u64.wrap (256 * a + b)) 2 ++ (bigL (v8 b0 b1 b2 b3 b4 b5 b6 b7) 8 ++ []) = _
      rw [eu, e2, d2, List.append_nil]
      rfl
    exact ⟨by rw [ef], by rw [ef]; exact ⟨wk, wx, w0, d3, d4⟩, by rw [ef, eb]; rfl, by rw [ef, eb, ef]⟩
  · exact ⟨rfl, ⟨wk, w0, w0, Int.le_refl _, by show (0 : Int) ≤ _; omega⟩, rfl, rfl⟩
theorem dec_valid {k : Int} {cs : List Nat} {R : List Int} (hk : opsOf k = some cs) (hb : Bytes R) (hl : sumZ cs ≤ R.length) : validO (fillD cs ⟨k, 0, 0, 0⟩ R) = true ∧ writeB (fillD cs ⟨k, 0, 0, 0⟩ R) cs = k :: R.take (sumZ cs) := by
  obtain ⟨h1, h2, h3, h4⟩ := dec_enc hk hb hl
  obtain ⟨_, _, hk1, hk7, _⟩ := opsOf_small hk
  constructor
  · unfold validO
    rw [h1, hk]
    simp only
    rw [h4]
    exact (eqOd_iff _ _).2 rfl
  · unfold writeB
    rw [h1, h3, show k % 256 = k from by omega]
end Go.Eg
