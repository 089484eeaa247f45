/- The reference's Decode; the walk of OpDecodes. -/
import Derived.Test.YtljcodkcmenpaaaOpN
namespace Go.Proofs.Ytljcodkcmenpaaa
open Go.RowKit Go.Eg
theorem value_any (v : Value) (l : List Int) (w : World) (hv : BL w v l) (hb : Bytes l) (h8 : l.length ≤ 8) : Calls Try.prog 30 #[v] w fun r w' => r = .returned (.int .u64 (valL l)) ∧ w = w' := by
  have HV := Lib.hid hv
  have HB := Lib.hid hb
  obtain ⟨a, cap, rfl⟩ := hv.slice
  clear hv hb
  go_enter Try.func30, Try.ntmps30
  go_wp2
  go_loop [3, 4] (fun x i => ∃ j : Nat, j ≤ l.length ∧ i = .int .i64 j ∧ x = .int .u64 (valL (l.take j))) (fun _ i => l.length - (intOf i).toNat)
  case atStart => exact ⟨0, Nat.zero_le _, rfl, rfl⟩
  case round =>
    obtain ⟨j, hj, rfl, rfl⟩ := hrel
    by_cases hlt : j < l.length
    · obtain ⟨b, off, rfl, x0⟩ := HV.out.at j hlt
      have hx := HB.out l[j] (List.getElem_mem hlt)
      have hvv := valL_small HB.out (show j ≤ l.length by omega) (by omega)
      have ht : valL (l.take (j + 1)) = 256 * valL (l.take j) + l[j] := by rw [List.take_succ_eq_append_getElem hlt, valL_snoc]
      have HT := Lib.hid ht
      have hlw := cell_lt x0
      generalize valL (l.take j) = q at *
      generalize l[j] = x at *
      clear ht
      have w1 : IntKind.u64.wrap (256 * q) = 256 * q := u64_lo (by omega) (by omega)
      have w2 : IntKind.u64.wrap (256 * q + x) = 256 * q + x := u64_lo (by omega) (by omega)
      go_wp2
      go_round
      case rel => exact ⟨j + 1, by omega, by go_num, by rw [HT.out]⟩
      case measure => simp [intOf]; omega
    · have e : j = l.length := by omega
      subst e
      rw [List.take_length]
      go_wp2
      go_ret
      exact ⟨rfl, rfl⟩
theorem refSize_any (k : Int) (w : World) : Calls Try.prog 21 #[.int .i64 k] w fun r w' => r = .returned (.int .i64 (sizeK k)) ∧ w = w' := by
  by_cases h : InK k
  · exact refSize_in k h w
  · have h1 : k ≠ 1 := fun e => h (by simp [InK, e])
    have h2 : k ≠ 2 := fun e => h (by simp [InK, e])
    have h3 : k ≠ 3 := fun e => h (by simp [InK, e])
    have h4 : k ≠ 4 := fun e => h (by simp [InK, e])
    have h5 : k ≠ 5 := fun e => h (by simp [InK, e])
    have h6 : k ≠ 6 := fun e => h (by simp [InK, e])
    have h7 : k ≠ 7 := fun e => h (by simp [InK, e])
    rw [show sizeK k = 0 from sizeK_none (by unfold opsOf; rw [if_neg h1, if_neg h2, if_neg h3, if_neg h4, if_neg h5, if_neg h6, if_neg h7])]
    exact refSize_out k w h1 h2 h3 h4 h5 h6 h7
theorem rdec_neg (v : Value) (l : List Int) (i : Int) (w : World) (hv : BL w v l) (hi : i < 0 ∨ (l.length : Int) ≤ i) :
    Calls Try.prog 17 #[v, .int .i64 i] w fun r w' => r = .returned (.tuple #[od0.val, .int .i64 0, .bool false]) ∧ Keeps w w' := by
  obtain ⟨a, cap, rfl⟩ := hv.slice
  clear hv
  by_cases h0 : i < 0
  · go_enter Try.func17, Try.ntmps17
    go_wp2
    exact bodyPost_ret (v := .tuple #[od0.val, .int .i64 0, .bool false]) (by simp [results, Try.results17, go_sem, od0]) rfl ⟨rfl, (Mods.refl _ w).alloc _⟩
  · have h1 : (l.length : Int) ≤ i := by omega
    clear hi
    go_enter Try.func17, Try.ntmps17
    go_wp2
    exact bodyPost_ret (v := .tuple #[od0.val, .int .i64 0, .bool false]) (by simp [results, Try.results17, go_sem, od0]) rfl ⟨rfl, (Mods.refl _ w).alloc _⟩
theorem rdec_none (v : Value) (l : List Int) (i : Nat) (w : World) (hv : BL w v l) (hb : Bytes l) (hi : i < l.length) (h64 : l.length ≤ 4294967296) (hk : opsOf l[i] = none) :
    Calls Try.prog 17 #[v, .int .i64 (i : Int)] w fun r w' => r = .returned (.tuple #[od0.val, .int .i64 ((i : Int) + 1), .bool true]) ∧ Keeps w w' := by
  obtain ⟨a, cap, rfl⟩ := hv.slice
  obtain ⟨b, off, rfl, x0⟩ := hv.at i hi
  have hx := hb l[i] (List.getElem_mem hi)
  have hil : (i : Int) < (l.length : Int) := by omega
  have HS := Lib.hid (sizeK_none hk)
  have hlt := cell_lt x0
  generalize l[i] = k at *
  clear hv hb hk
  go_enter Try.func17, Try.ntmps17
  go_wp2_with fail
  refine (refSize_any k _).mono ?_
  rw [HS.out]
  rintro r w1 ⟨rfl, rfl⟩
  go_wp2
  exact bodyPost_ret (v := .tuple #[od0.val, .int .i64 ((i : Int) + 1), .bool true]) (by simp [results, Try.results17, go_sem, od0]) rfl ⟨rfl, (Mods.refl _ w).alloc _⟩
theorem rdec_short (v : Value) (l : List Int) (cs : List Nat) (i : Nat) (w : World) (hv : BL w v l) (hb : Bytes l) (hi : i < l.length) (hk : opsOf l[i] = some cs) (hs : (l.length : Int) - i < ((1 + sumZ cs : Nat) : Int)) :
    Calls Try.prog 17 #[v, .int .i64 (i : Int)] w fun r w' => r = .returned (.tuple #[od0.val, .int .i64 (l.length : Int), .bool true]) ∧ Keeps w w' := by
  obtain ⟨a, cap, rfl⟩ := hv.slice
  obtain ⟨b, off, rfl, x0⟩ := hv.at i hi
  have hx := hb l[i] (List.getElem_mem hi)
  have hil : (i : Int) < (l.length : Int) := by omega
  have HS := Lib.hid (sizeK_some hk)
  obtain ⟨_, _, _, _, hz⟩ := opsOf_small hk
  have hlt := cell_lt x0
  generalize l[i] = k at *
  obtain ⟨z, hzz⟩ : ∃ z, 1 + sumZ cs = z := ⟨_, rfl⟩
  rw [hzz] at hs HS
  have hz1 : 1 ≤ z := by omega
  have hz2 : z ≤ 11 := by omega
  have ez : ((z : Int) == 0) = false := by simp only [beq_eq_false_iff_ne]; omega
  clear hv hb hk hzz
  go_enter Try.func17, Try.ntmps17
  go_wp2_with fail
  refine (refSize_any k _).mono ?_
  rw [HS.out]
  rintro r w1 ⟨rfl, rfl⟩
  go_wp2
  exact bodyPost_ret (v := .tuple #[od0.val, .int .i64 (l.length : Int), .bool true]) (by simp [results, Try.results17, go_sem, od0]) rfl ⟨rfl, (Mods.refl _ w).alloc _⟩
theorem bl_mid {w : World} {b off cap : Nat} {l : List Int} (h : BL w (.slice (some ⟨b, off, none⟩) l.length cap) l) (p n : Nat) (hp : p + n ≤ l.length) : BL w (.slice (some ⟨b, off + p, none⟩) n (cap - p)) ((l.drop p).take n) := by
  have h1 := (bl_from h p (by omega) (.inl rfl)).1
  exact bl_to h1 n (by rw [List.length_drop]; omega)
end Go.Proofs.Ytljcodkcmenpaaa
