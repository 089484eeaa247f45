/- Sums of amounts: gwei.Saturate, gwei.Add, the reference's Add: their contracts. -/
import Derived.Test.YthngncklmkneoaaRows
import Derived.Test.YthngncklmkneoaaLeaf
namespace Go.Eg
open Go Go.RowKit
/-- the sum of the first k -/
def sumF (f : Nat → Int) : Nat → Int
  | 0 => 0
  | k + 1 => sumF f k + f k
theorem sumF_mono {f : Nat → Int} {n : Nat} (h : ∀ j, j < n → 0 ≤ f j) : ∀ k, k ≤ n → 0 ≤ sumF f k ∧ ∀ m, m ≤ k → sumF f m ≤ sumF f k
  | 0, _ => ⟨Int.le_refl _, fun m hm => by obtain rfl : m = 0 := by omega
                                           exact Int.le_refl _⟩
  | k + 1, hk => by
    obtain ⟨h1, h2⟩ := sumF_mono h k (by omega)
    have := h k (by omega)
    rw [sumF]
    refine ⟨by omega, fun m hm => ?_⟩
    by_cases e : m = k + 1
    · subst e; rw [sumF]; exact Int.le_refl _
    · have := h2 m (by omega)
      omega
def maxU : Int := 18446744073709551615
/-- the sum, or 0 where it does not fit -/
def addV (f : Nat → Int) (n : Nat) : Int := if sumF f n ≤ maxU then sumF f n else 0
def addOk (f : Nat → Int) (n : Nat) : Bool := decide (sumF f n ≤ maxU)
/-- the slice v of n amounts -/
def Amts (w : World) (v : Value) (n : Nat) (f : Nat → Int) : Prop :=
  (∃ a cap, v = .slice a n cap ∧ (0 < n → ∃ b off, a = some ⟨b, off, none⟩ ∧ ∀ j, j < n → w.cell? ⟨b, off + j, none⟩ = some (.int .u64 (f j)))) ∧ ∀ j, j < n → 0 ≤ f j ∧ f j ≤ maxU
theorem Amts.mods {S : Nat → Prop} {a b : World} {v : Value} {n : Nat} {f : Nat → Int} (h : Amts a v n f) (hm : Mods S a b) (hS : ∀ k, v.ownBlock = some k → ¬ S k) : Amts b v n f := by
  obtain ⟨⟨p, cap, rfl, hx⟩, hf⟩ := h
  refine ⟨⟨p, cap, rfl, fun h0 => ?_⟩, hf⟩
  obtain ⟨g, off, rfl, hc⟩ := hx h0
  exact ⟨g, off, rfl, fun j hj => hm.cell (hc j hj) (hS g rfl)⟩
theorem amts_block {w : World} {g : Nat} {cs : Array Value} {t : TypeId} {fr : Nat × Nat} (h : w.heap[g]? = some (.cells cs t fr)) (n c : Nat) (f : Nat → Int) (hc : ∀ j, j < n → cs[j]? = some (.int .u64 (f j)) ∧ 0 ≤ f j ∧ f j ≤ maxU) :
    Amts w (.slice (some ⟨g, 0, none⟩) n c) n f := ⟨⟨_, c, rfl, fun _ => ⟨g, 0, rfl, fun j hj => by simp [World.cell?, h, (hc j hj).1]⟩⟩, fun j hj => (hc j hj).2⟩
theorem amts2 (w : World) (x y : Int) (t : TypeId) (hx : 0 ≤ x ∧ x ≤ maxU) (hy : 0 ≤ y ∧ y ≤ maxU) : Amts (w.alloc (.cells #[.int .u64 x, .int .u64 y] t)) (.slice (some ⟨w.heap.size, 0, none⟩) 2 2) 2 (fun j => if j = 0 then x else y) :=
  amts_block (heap_alloc_last w _) 2 2 _ fun j hj => by
    match j, hj with
    | 0, _ => exact ⟨rfl, hx⟩
    | 1, _ => exact ⟨rfl, hy⟩
theorem amts1 (w : World) (x : Int) (t : TypeId) (hx : 0 ≤ x ∧ x ≤ maxU) : Amts (w.alloc (.cells #[.int .u64 x] t)) (.slice (some ⟨w.heap.size, 0, none⟩) 1 1) 1 (fun _ => x) :=
  amts_block (heap_alloc_last w _) 1 1 _ fun j hj => by
    match j, hj with
    | 0, _ => exact ⟨rfl, hx⟩
theorem sum2 (x y : Int) : sumF (fun j => if j = 0 then x else y) 2 = x + y := by simp [sumF]
theorem sum1 (x : Int) : sumF (fun _ => x) 1 = x := by simp [sumF]
end Go.Eg
namespace Go.Proofs.Ythngncklmkneoaa
open Go.RowKit Go.Eg
theorem saturate_any (v : Value) (n : Nat) (f : Nat → Int) (w : World) (h : Amts w v n f) (hn : n ≤ 4294967296) :
    Calls Try.prog 32 #[v] w fun r w' => r = .returned (.tuple #[.int .u64 (if sumF f n ≤ maxU then sumF f n else maxU), .bool (!addOk f n)]) ∧ w = w' := by
  obtain ⟨⟨a, cap, rfl, hc⟩, hf⟩ := h
  have HM := Lib.hid (sumF_mono (f := f) (n := n) (fun j hj => (hf j hj).1))
  have HF := Lib.hid hf
  have HC := Lib.hid hc
  clear hc hf
  obtain ⟨V, hV⟩ : ∃ V, V = (if sumF f n ≤ maxU then sumF f n else maxU) := ⟨_, rfl⟩
  obtain ⟨B, hB⟩ : ∃ B, B = !addOk f n := ⟨_, rfl⟩
  rw [← hV, ← hB]
  have HV := Lib.hid hV
  have HB := Lib.hid hB
  clear hV hB
  go_enter Try.func32, Try.ntmps32
  go_wp2
  go_loop [4, 9] (fun s i => ∃ k : Nat, k ≤ n ∧ i = .int .i64 k ∧ s = .int .u64 (sumF f k) ∧ sumF f k ≤ maxU) (fun _ i => n - (intOf i).toNat)
  case atStart => exact ⟨0, Nat.zero_le _, rfl, rfl, by show (0 : Int) ≤ _; decide⟩
  case round =>
    obtain ⟨k, hk, rfl, rfl, hs⟩ := hrel
    obtain ⟨s0, _⟩ := HM.out k hk
    by_cases hlt : k < n
    · obtain ⟨b, off, rfl, hcc⟩ := HC.out (by omega)
      have hcell := hcc k hlt
      obtain ⟨f0, f1⟩ := HF.out k hlt
      have hsk : sumF f (k + 1) = sumF f k + f k := rfl
      have hge := (HM.out n (Nat.le_refl _)).2 (k + 1) (by omega)
      generalize hS : sumF f k = S at *
      generalize hx : f k = x at *
      have HSK := Lib.hid hsk
      clear hsk hS hx hcc
      by_cases hov : S + x ≤ maxU
      · unfold maxU at hs f1 hov
        go_wp2
        go_round
        case rel => exact ⟨k + 1, by omega, by go_num, by rw [HSK.out], by rw [HSK.out]; exact hov⟩
        case measure => simp [intOf]; omega
      · have hwr : IntKind.u64.wrap (S + x) = S + x - 18446744073709551616 := by
          rw [IntKind.wrap_u64]
          unfold maxU at hs f1 hov
          omega
        have hres : V = maxU ∧ B = true := by
          rw [HV.out, HB.out]
          have : ¬ sumF f n ≤ maxU := by have := HSK.out; omega
          refine ⟨if_neg this, ?_⟩
          unfold addOk
          simp [this]
        obtain ⟨hV1, hB1⟩ := hres
        subst hV1 hB1
        unfold maxU at hs f1 hov
        go_wp2
        go_ret2
        exact ⟨rfl, rfl⟩
    · have hkn : k = n := by omega
      subst hkn
      have hres : V = sumF f k ∧ B = false := by
        rw [HV.out, HB.out]
        refine ⟨if_pos hs, ?_⟩
        unfold addOk
        simp [hs]
      obtain ⟨hV1, hB1⟩ := hres
      subst hV1 hB1
      go_wp2
      go_ret2
      exact ⟨rfl, rfl⟩
theorem gweiAdd_any (v : Value) (n : Nat) (f : Nat → Int) (w : World) (h : Amts w v n f) (hn : n ≤ 4294967296) :
    Calls Try.prog 26 #[v] w fun r w' => r = .returned (.tuple #[.int .u64 (addV f n), .bool (addOk f n)]) ∧ w = w' := by
  have H := Lib.hid h
  obtain ⟨⟨a, cap, rfl, _⟩, _⟩ := h
  by_cases hov : sumF f n ≤ maxU
  · have e1 : addV f n = sumF f n := if_pos hov
    have e2 : addOk f n = true := by unfold addOk; simp [hov]
    have e3 : (if sumF f n ≤ maxU then sumF f n else maxU) = sumF f n := if_pos hov
    have hs := saturate_any _ n f w H.out hn
    rw [e3, e2] at hs
    rw [e1, e2]
    generalize sumF f n = S at *
    have HS := Lib.hid hs
    clear hs e1 e2 e3 hov
    go_enter Try.func26, Try.ntmps26
    go_wp2_with fail
    refine HS.out.mono ?_
    rintro r w' ⟨rfl, rfl⟩
    go_wp2
    go_ret2
    exact ⟨rfl, rfl⟩
  · have e1 : addV f n = 0 := if_neg hov
    have e2 : addOk f n = false := by unfold addOk; simp [hov]
    have e3 : (if sumF f n ≤ maxU then sumF f n else maxU) = maxU := if_neg hov
    have hs := saturate_any _ n f w H.out hn
    rw [e3, e2] at hs
    rw [e1, e2]
    have HS := Lib.hid hs
    clear hs e1 e2 e3 hov
    go_enter Try.func26, Try.ntmps26
    go_wp2_with fail
    refine HS.out.mono ?_
    rintro r w' ⟨rfl, rfl⟩
    go_wp2
    go_ret2
    exact ⟨rfl, rfl⟩
theorem refMax_any (w : World) : Calls Try.prog 34 #[] w fun r w' => r = .returned (.int .u64 18446744073709551615) ∧ w = w' := by
  go_enter Try.func34, Try.ntmps34
  go_wp2
  go_ret
  exact ⟨rfl, rfl⟩
theorem refAdd_any (v : Value) (n : Nat) (f : Nat → Int) (w : World) (h : Amts w v n f) (hn : n ≤ 4294967296) :
    Calls Try.prog 29 #[v] w fun r w' => r = .returned (.tuple #[.int .u64 (addV f n), .bool (addOk f n)]) ∧ Drawn w w' := by
  obtain ⟨⟨a, cap, rfl, hc⟩, hf⟩ := h
  have HM := Lib.hid (sumF_mono (f := f) (n := n) (fun j hj => (hf j hj).1))
  have HF := Lib.hid hf
  have HC := Lib.hid hc
  clear hc hf
  obtain ⟨V, hV⟩ : ∃ V, V = addV f n := ⟨_, rfl⟩
  obtain ⟨B, hB⟩ : ∃ B, B = addOk f n := ⟨_, rfl⟩
  rw [← hV, ← hB]
  have HV := Lib.hid hV
  have HB := Lib.hid hB
  clear hV hB
  go_enter Try.func29, Try.ntmps29
  go_wp2
  go_loopw [4, 5] (fun s i wr => ∃ k : Nat, k ≤ n ∧ i = .int .i64 k ∧ s = .int .u64 (sumF f k) ∧ sumF f k ≤ maxU ∧ Drawn w wr) (fun _ i _ => n - (intOf i).toNat)
  case atStart => exact ⟨0, Nat.zero_le _, rfl, rfl, by show (0 : Int) ≤ _; decide, Drawn.refl _⟩
  case round =>
    obtain ⟨k, hk, rfl, rfl, hs, hd⟩ := hrel
    have HD := Lib.hid hd
    obtain ⟨s0, _⟩ := HM.out k hk
    by_cases hlt : k < n
    · obtain ⟨b, off, rfl, hcc⟩ := HC.out (by omega)
      have hcell := (hd.mods (S := fun _ => False)).cell (hcc k hlt) (fun h => h)
      obtain ⟨f0, f1⟩ := HF.out k hlt
      have hsk : sumF f (k + 1) = sumF f k + f k := rfl
      have hge := (HM.out n (Nat.le_refl _)).2 (k + 1) (by omega)
      have b1 : (0 : Int) ≤ (k : Int) := by omega
      have b2 : (k : Int) < (n : Int) := by omega
      generalize hS : sumF f k = S at *
      generalize hx : f k = x at *
      have HSK := Lib.hid hsk
      clear hsk hS hx hcc hd
      by_cases hov : S + x ≤ maxU
      · have HOV := Lib.hid hov
        unfold maxU at hs f1 hov
        have hwr : IntKind.u64.wrap (18446744073709551615 - S) = 18446744073709551615 - S := by rw [IntKind.wrap_u64]; omega
        go_wp2
        go_quiet ((go_at_call 34; exact quiet_id (refMax_any _)))
        go_wp2
        go_roundw
        case rel => exact ⟨k + 1, by omega, by go_num, by rw [HSK.out], by rw [HSK.out]; exact HOV.out, HD.out.trans (Drawn.mk _ _)⟩
        case measure => simp [intOf]; omega
      · have hres : V = 0 ∧ B = false := by
          rw [HV.out, HB.out]
          have : ¬ sumF f n ≤ maxU := by have := HSK.out; omega
          refine ⟨if_neg this, ?_⟩
          unfold addOk
          simp [this]
        obtain ⟨hV1, hB1⟩ := hres
        subst hV1 hB1
        unfold maxU at hs f1 hov
        have hwr : IntKind.u64.wrap (18446744073709551615 - S) = 18446744073709551615 - S := by rw [IntKind.wrap_u64]; omega
        go_wp2
        go_quiet ((go_at_call 34; exact quiet_id (refMax_any _)))
        go_wp2
        go_ret2
        exact ⟨rfl, HD.out.trans (Drawn.mk _ _)⟩
    · have hkn : k = n := by omega
      subst hkn
      clear hd
      have hres : V = sumF f k ∧ B = true := by
        rw [HV.out, HB.out]
        refine ⟨if_pos hs, ?_⟩
        unfold addOk
        simp [hs]
      obtain ⟨hV1, hB1⟩ := hres
      subst hV1 hB1
      go_wp2
      go_ret2
      exact ⟨rfl, HD.out⟩
end Go.Proofs.Ythngncklmkneoaa
