/- The reader; what is decoded: plain mathematics. -/
import Derived.Test.YtljcodkcmenpaaaOpD
import Derived.Laws.Bits64b
namespace Go.Eg
open Go Go.RowKit
def valL (l : List Int) : Int := l.foldl (fun a b => 256 * a + b) 0
theorem valL_snoc (l : List Int) (x : Int) : valL (l ++ [x]) = 256 * valL l + x := by simp [valL]
def Bytes (l : List Int) : Prop := ∀ x ∈ l, 0 ≤ x ∧ x < 256
theorem valL_range {l : List Int} (h : Bytes l) : ∀ j, j ≤ l.length → 0 ≤ valL (l.take j) ∧ valL (l.take j) < 256 ^ j
  | 0, _ => ⟨Int.le_refl _, by show (0 : Int) < 1; decide⟩
  | j + 1, hj => by
    obtain ⟨h0, h1⟩ := valL_range h j (by omega)
    have hx := h l[j] (List.getElem_mem (by omega))
    rw [List.take_succ_eq_append_getElem (by omega), valL_snoc, Int.pow_succ]
    omega
theorem valL_small {l : List Int} (h : Bytes l) {j : Nat} (hj : j ≤ l.length) (h7 : j ≤ 7) : 0 ≤ valL (l.take j) ∧ valL (l.take j) < 72057594037927936 := by
  obtain ⟨h0, h1⟩ := valL_range h j hj
  have h2 : (256 : Int) ^ j ≤ 256 ^ 7 := by
    have : j = 0 ∨ j = 1 ∨ j = 2 ∨ j = 3 ∨ j = 4 ∨ j = 5 ∨ j = 6 ∨ j = 7 := by omega
    rcases this with e | e | e | e | e | e | e | e <;> subst e <;> decide
  have h3 : (256 : Int) ^ 7 = 72057594037927936 := by decide
  omega
theorem or_shift {q x : Int} (h0 : 0 ≤ q) (h1 : q < 72057594037927936) (h2 : 0 ≤ x) (h3 : x < 256) : bits .or .u64 (q * 256) x = 256 * q + x := by
  obtain ⟨Q, rfl⟩ : ∃ Q : Nat, q = Q := ⟨q.toNat, by omega⟩
  obtain ⟨X, rfl⟩ : ∃ X : Nat, x = X := ⟨x.toNat, by omega⟩
  have e : ((Q : Int) * 256) = ((Q * 256 : Nat) : Int) := by rw [Int.natCast_mul]; rfl
  rw [e, bits_or_u64_nat _ _ (by omega) (by omega)]
  have h := Nat.shiftLeft_add_eq_or_of_lt (b := X) (i := 8) (by omega) Q
  rw [Nat.shiftLeft_eq, show 2 ^ 8 = 256 from rfl] at h
  rw [← h, Int.natCast_add, Int.natCast_mul]
  show (Q : Int) * 256 + (X : Int) = 256 * (Q : Int) + (X : Int)
  omega
end Go.Eg
namespace Go.Proofs.Ytljcodkcmenpaaa
open Go.RowKit Go.Eg
/-- the reader's box g: the bytes l are left -/
def RD (w : World) (g N : Nat) (l : List Int) : Prop := ∃ b off cap, w.heap[g]? = some (.cells #[.slice (some ⟨b, off, none⟩) l.length cap] 25 (0, 0)) ∧ (b < N ∧ N ≤ g) ∧ l.length ≤ cap ∧ BL w (.slice (some ⟨b, off, none⟩) l.length cap) l
theorem RD.keeps {w w' : World} {g N : Nat} {l : List Int} (h : RD w g N l) (hk : Keeps w w') : RD w' g N l := by
  obtain ⟨b, off, cap, h1, h2, h3, h4⟩ := h
  exact ⟨b, off, cap, hk.at h1 fun h => h, h2, h3, h4.keeps hk⟩
theorem RD.mods {S : Nat → Prop} {w w' : World} {g N : Nat} {l : List Int} (h : RD w g N l) (hm : Mods S w w') (hg : ¬ S g) (hN : ∀ i, i < N → ¬ S i) : RD w' g N l := by
  obtain ⟨b, off, cap, h1, h2, h3, h4⟩ := h
  refine ⟨b, off, cap, hm.at h1 hg, h2, h3, ?_⟩
  obtain ⟨p, c, e, hc, h0, hx⟩ := h4
  refine ⟨p, c, e, hc, h0, fun hl => ?_⟩
  obtain ⟨q, o2, rfl, hcc⟩ := hx hl
  simp only [Value.slice.injEq, Option.some.injEq, Addr.mk.injEq, and_true] at e
  obtain ⟨⟨rfl, rfl⟩, _, rfl⟩ := e
  exact ⟨b, off, rfl, fun i hi => hm.cell (hcc i hi) (hN b h2.1)⟩
theorem rd_end {w : World} {g N b off cap n : Nat} {l : List Int} {q : Addr} (hg : w.heap[g]? = some (.cells #[.slice (some ⟨b, off, none⟩) l.length cap] 25 (0, 0))) (hgN : b < N ∧ N ≤ g) (hcap : l.length ≤ cap) (hl : BL w (.slice (some ⟨b, off, none⟩) l.length cap) l) (hn : n ≤ l.length)
    (hq : q = ⟨b, off + n, none⟩ ∨ (q = ⟨b, off, none⟩ ∧ cap = n)) : RD (w.setCell ⟨g, 0, none⟩ (.slice (some q) (l.length - n) (cap - n))) g N (l.drop n) := by
  have hgb : g ≠ b := by omega
  have hm : Mods (fun i => i = g) w (w.setCell ⟨g, 0, none⟩ (.slice (some q) (l.length - n) (cap - n))) := (Mods.refl _ w).setCell _ _ fun _ => rfl
  have hblk := heap_setCell_same w g 0 _ _ (.slice (some q) (l.length - n) (cap - n)) hg
  have hdl : (l.drop n).length = l.length - n := by simp
  have key : ∀ off', q = ⟨b, off', none⟩ → (off' = off + n ∨ l.length = n) → RD (w.setCell ⟨g, 0, none⟩ (.slice (some q) (l.length - n) (cap - n))) g N (l.drop n) := by
    rintro off' rfl ho
    refine ⟨b, off', cap - n, by rw [hdl]; exact hblk, hgN, by rw [hdl]; omega, _, cap - n, by rw [hdl], by rw [hdl]; omega, (fun h => by cases h), fun hpos => ⟨b, off', rfl, fun i hi => ?_⟩⟩
    rw [hdl] at hpos hi
    have ho' : off' = off + n := by omega
    subst ho'
    obtain ⟨b2, off2, e, x0⟩ := hl.at (n + i) (by omega)
    simp only [Option.some.injEq, Addr.mk.injEq, and_true] at e
    obtain ⟨rfl, rfl⟩ := e
    rw [List.getElem_drop, Nat.add_assoc]
    exact hm.cell x0 (fun e => hgb e.symm)
  rcases hq with h | ⟨h, hc⟩
  · exact key _ h (.inl rfl)
  · exact key _ h (.inr (by omega))
theorem reader1_any (g N : Nat) (l : List Int) (n : Nat) (w : World) (h : RD w g N l) (hb : Bytes l) (hn : n ≤ l.length) (h1 : 1 ≤ n) (h8 : n ≤ 8) :
    Calls Try.prog 35 #[.int .i64 (n : Int), .pointer (some ⟨g, 0, none⟩)] w fun r w' => r = .returned (.int .u64 (valL (l.take n))) ∧ RD w' g N (l.drop n) ∧ Mods (fun i => i = g) w w' := by
  obtain ⟨b, off, cap, hg, hgb, hcap, hl⟩ := h
  have c0 : w.cell? ⟨g, 0, none⟩ = some (.slice (some ⟨b, off, none⟩) l.length cap) := by simp [World.cell?, hg]
  have f0 : w.frozen? ⟨g, 0, none⟩ = false := by simp [World.frozen?, hg]
  have HL := Lib.hid hl
  have HB := Lib.hid hb
  have HG := Lib.hid hg
  have HGB := Lib.hid hgb
  clear hg hl hb hgb
  go_enter Try.func35, Try.ntmps35
  go_wp2_with fail
  go_loop [4, 11] (fun x i => ∃ j : Nat, j ≤ n ∧ i = .int .i64 j ∧ x = .int .u64 (valL (l.take j))) (fun _ i => n - (intOf i).toNat)
  case atStart => exact ⟨0, Nat.zero_le _, rfl, rfl⟩
  case round =>
    obtain ⟨j, hj, rfl, rfl⟩ := hrel
    by_cases hlt : j < n
    · obtain ⟨b', off', e, x0⟩ := HL.out.at j (by omega)
      simp only [Option.some.injEq, Addr.mk.injEq, and_true] at e
      obtain ⟨rfl, rfl⟩ := e
      have hx := HB.out l[j] (List.getElem_mem (by omega))
      have hv := valL_small HB.out (show j ≤ l.length by omega) (by omega)
      have ht : valL (l.take (j + 1)) = 256 * valL (l.take j) + l[j] := by rw [List.take_succ_eq_append_getElem (by omega), valL_snoc]
      have HT := Lib.hid ht
      have HOR := Lib.hid (or_shift hv.1 hv.2 hx.1 hx.2)
      generalize valL (l.take j) = q at *
      generalize l[j] = x at *
      clear ht
      go_wp2
      go_round
      case rel => exact ⟨j + 1, by omega, by go_num, by rw [HT.out, HOR.out]⟩
      case measure => simp [intOf]; omega
    · have e : j = n := by omega
      subst e
      by_cases hcn : cap = j
      · have h := rd_end HG.out HGB.out hcap HL.out hn (.inr ⟨rfl, hcn⟩)
        rw [show cap - j = 0 by omega, show l.length - j = 0 by omega] at h
        have HH := Lib.hid h
        subst hcn
        clear h
        go_wp2
        go_ret
        exact ⟨rfl, HH.out, (Mods.refl _ w).setCell _ _ fun _ => rfl⟩
      · have HH := Lib.hid (rd_end HG.out HGB.out hcap HL.out hn (.inl rfl))
        have hcn2 : 0 < cap - j := by omega
        go_wp2
        all_goals
          first
            | (exfalso; omega)
            | (go_ret; exact ⟨rfl, HH.out, (Mods.refl _ w).setCell _ _ fun _ => rfl⟩)
end Go.Proofs.Ytljcodkcmenpaaa
