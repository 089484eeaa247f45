/- The reference's Size; the walk of OpNames. -/
import Derived.Test.YtljcodkcmenpaaaOpK
namespace Go.Proofs.Ytljcodkcmenpaaa
open Go.RowKit Go.Eg
theorem opName_out (k : Int) (hk : k < 1 ∨ 7 < k) (w : World) : Calls Try.prog 22 #[.int .i64 k] w fun r w' => r = .returned (.string ⟨#[]⟩) ∧ Keeps w w' := by
  rcases hk with h | h
  · go_enter Try.func22, Try.ntmps22
    go_wp2
    go_ret
    exact ⟨rfl, Mods.refl _ _⟩
  · go_enter Try.func22, Try.ntmps22
    have h1 : ¬ k < 1 := by omega
    go_wp2_with fail
    refine (names_any _).mono ?_
    rintro r w1 ⟨rfl, rfl⟩
    go_wp2
    go_ret
    exact ⟨rfl, (Mods.refl _ w).alloc _⟩
def strB (k : Int) : ByteArray := if k = 1 then ⟨#[97]⟩ else if k = 2 then ⟨#[105]⟩ else if k = 3 then ⟨#[105]⟩ else if k = 4 then ⟨#[105]⟩ else if k = 5 then ⟨#[105, 116]⟩ else if k = 6 then ⟨#[105, 97]⟩ else if k = 7 then ⟨#[]⟩ else ⟨#[63]⟩
theorem operandsR_in (k : Int) (w : World) (hk : k = 1 ∨ k = 2 ∨ k = 3 ∨ k = 4 ∨ k = 5 ∨ k = 6 ∨ k = 7) : Calls Try.prog 24 #[.int .i64 k] w fun r w' => r = .returned (.string (strB k)) ∧ w = w' := by
  rcases hk with rfl | rfl | rfl | rfl | rfl | rfl | rfl
  all_goals
    go_enter Try.func24, Try.ntmps24
    go_wp2
    go_ret
    exact ⟨rfl, rfl⟩
theorem operandsR_out (k : Int) (w : World) (h1 : k ≠ 1) (h2 : k ≠ 2) (h3 : k ≠ 3) (h4 : k ≠ 4) (h5 : k ≠ 5) (h6 : k ≠ 6) (h7 : k ≠ 7) : Calls Try.prog 24 #[.int .i64 k] w fun r w' => r = .returned (.string ⟨#[63]⟩) ∧ w = w' := by
  have b1 : (k == 1) = false := by simpa using h1
  have b2 : (k == 2) = false := by simpa using h2
  have b3 : (k == 3) = false := by simpa using h3
  have b4 : (k == 4) = false := by simpa using h4
  have b5 : (k == 5) = false := by simpa using h5
  have b6 : (k == 6) = false := by simpa using h6
  have b7 : (k == 7) = false := by simpa using h7
  clear h1 h2 h3 h4 h5 h6 h7
  go_enter Try.func24, Try.ntmps24
  go_wp2
  go_ret
  exact ⟨rfl, rfl⟩
theorem refSize_in (k : Int) (hk : k = 1 ∨ k = 2 ∨ k = 3 ∨ k = 4 ∨ k = 5 ∨ k = 6 ∨ k = 7) (w : World) : Calls Try.prog 21 #[.int .i64 k] w fun r w' => r = .returned (.int .i64 (sizeK k)) ∧ w = w' := by
  have HO := Lib.hid (operandsR_in k w hk)
  rcases hk with rfl | rfl | rfl | rfl | rfl | rfl | rfl
  · go_enter Try.func21, Try.ntmps21
    go_wp2_with fail
    refine HO.out.mono ?_
    rintro r w1 ⟨rfl, rfl⟩
    simp only [strB]
    go_wp2
    go_loop [4, 5] (fun s i => (i = .int .i64 0 ∧ s = .int .i64 1) ∨ (i = .int .i64 1 ∧ s = .int .i64 9)) (fun _ i => 1 - (intOf i).toNat)
    case atStart => simp
    case round =>
      rcases hrel with ⟨rfl, rfl⟩ | ⟨rfl, rfl⟩
      · go_wp2
        go_round
        case rel => simp
        case measure => simp [intOf]
      · go_wp2
        go_ret
        exact ⟨rfl, rfl⟩
  · go_enter Try.func21, Try.ntmps21
    go_wp2_with fail
    refine HO.out.mono ?_
    rintro r w1 ⟨rfl, rfl⟩
    simp only [strB]
    go_wp2
    go_loop [4, 5] (fun s i => (i = .int .i64 0 ∧ s = .int .i64 1) ∨ (i = .int .i64 1 ∧ s = .int .i64 3)) (fun _ i => 1 - (intOf i).toNat)
    case atStart => simp
    case round =>
      rcases hrel with ⟨rfl, rfl⟩ | ⟨rfl, rfl⟩
      · go_wp2
        go_round
        case rel => simp
        case measure => simp [intOf]
      · go_wp2
        go_ret
        exact ⟨rfl, rfl⟩
  · go_enter Try.func21, Try.ntmps21
    go_wp2_with fail
    refine HO.out.mono ?_
    rintro r w1 ⟨rfl, rfl⟩
    simp only [strB]
    go_wp2
    go_loop [4, 5] (fun s i => (i = .int .i64 0 ∧ s = .int .i64 1) ∨ (i = .int .i64 1 ∧ s = .int .i64 3)) (fun _ i => 1 - (intOf i).toNat)
    case atStart => simp
    case round =>
      rcases hrel with ⟨rfl, rfl⟩ | ⟨rfl, rfl⟩
      · go_wp2
        go_round
        case rel => simp
        case measure => simp [intOf]
      · go_wp2
        go_ret
        exact ⟨rfl, rfl⟩
  · go_enter Try.func21, Try.ntmps21
    go_wp2_with fail
    refine HO.out.mono ?_
    rintro r w1 ⟨rfl, rfl⟩
    simp only [strB]
    go_wp2
    go_loop [4, 5] (fun s i => (i = .int .i64 0 ∧ s = .int .i64 1) ∨ (i = .int .i64 1 ∧ s = .int .i64 3)) (fun _ i => 1 - (intOf i).toNat)
    case atStart => simp
    case round =>
      rcases hrel with ⟨rfl, rfl⟩ | ⟨rfl, rfl⟩
      · go_wp2
        go_round
        case rel => simp
        case measure => simp [intOf]
      · go_wp2
        go_ret
        exact ⟨rfl, rfl⟩
  · go_enter Try.func21, Try.ntmps21
    go_wp2_with fail
    refine HO.out.mono ?_
    rintro r w1 ⟨rfl, rfl⟩
    simp only [strB]
    go_wp2
    go_loop [4, 5] (fun s i => (i = .int .i64 0 ∧ s = .int .i64 1) ∨ (i = .int .i64 1 ∧ s = .int .i64 3) ∨ (i = .int .i64 2 ∧ s = .int .i64 5)) (fun _ i => 2 - (intOf i).toNat)
    case atStart => simp
    case round =>
      rcases hrel with ⟨rfl, rfl⟩ | ⟨rfl, rfl⟩ | ⟨rfl, rfl⟩
      · go_wp2
        go_round
        case rel => simp
        case measure => simp [intOf]
      · go_wp2
        go_round
        case rel => simp
        case measure => simp [intOf]
      · go_wp2
        go_ret
        exact ⟨rfl, rfl⟩
  · go_enter Try.func21, Try.ntmps21
    go_wp2_with fail
    refine HO.out.mono ?_
    rintro r w1 ⟨rfl, rfl⟩
    simp only [strB]
    go_wp2
    go_loop [4, 5] (fun s i => (i = .int .i64 0 ∧ s = .int .i64 1) ∨ (i = .int .i64 1 ∧ s = .int .i64 3) ∨ (i = .int .i64 2 ∧ s = .int .i64 11)) (fun _ i => 2 - (intOf i).toNat)
    case atStart => simp
    case round =>
      rcases hrel with ⟨rfl, rfl⟩ | ⟨rfl, rfl⟩ | ⟨rfl, rfl⟩
      · go_wp2
        go_round
        case rel => simp
        case measure => simp [intOf]
      · go_wp2
        go_round
        case rel => simp
        case measure => simp [intOf]
      · go_wp2
        go_ret
        exact ⟨rfl, rfl⟩
  · go_enter Try.func21, Try.ntmps21
    go_wp2_with fail
    refine HO.out.mono ?_
    rintro r w1 ⟨rfl, rfl⟩
    simp only [strB]
    go_wp2
    go_loop [4, 5] (fun s i => (i = .int .i64 0 ∧ s = .int .i64 1)) (fun _ i => 0 - (intOf i).toNat)
    case atStart => simp
    case round =>
      rcases hrel with ⟨rfl, rfl⟩
      · go_wp2
        go_ret
        exact ⟨rfl, rfl⟩
/-- slices.Index at strings -/
def idxFrom (ss : Nat → ByteArray) (v : ByteArray) : Nat → Nat → Int
  | _, 0 => -1
  | i, n + 1 => if v = ss i then i else idxFrom ss v (i + 1) n
theorem idxFrom_not (ss : Nat → ByteArray) (v : ByteArray) : ∀ (n i : Nat), (∀ j, i ≤ j → j < i + n → v ≠ ss j) → idxFrom ss v i n = -1
  | 0, _, _ => rfl
  | n + 1, i, h => by
    rw [idxFrom, if_neg (h i (Nat.le_refl _) (by omega))]
    exact idxFrom_not ss v n (i + 1) (fun j h1 h2 => h j (by omega) (by omega))
theorem idxFrom_at (ss : Nat → ByteArray) (v : ByteArray) : ∀ (n i k : Nat), i ≤ k → k < i + n → (∀ j, i ≤ j → j < k → v ≠ ss j) → v = ss k → idxFrom ss v i n = k
  | 0, i, k, h1, h2, _, _ => by omega
  | n + 1, i, k, h1, h2, h3, h4 => by
    rw [idxFrom]
    by_cases hi : i = k
    · subst hi; rw [if_pos h4]
    · rw [if_neg (h3 i (Nat.le_refl _) (by omega))]
      exact idxFrom_at ss v n (i + 1) k (by omega) (by omega) (fun j a b => h3 j (by omega) b) h4
theorem sindex_any (ss : Nat → ByteArray) (n cap b off : Nat) (v : ByteArray) (w : World) (hn : n ≤ 1000000) (hc : ∀ j, j < n → w.cell? ⟨b, off + j, none⟩ = some (.string (ss j))) :
    Calls Try.prog 19 #[.slice (some ⟨b, off, none⟩) n cap, .string v] w fun r w' => r = .returned (.int .i64 (idxFrom ss v 0 n)) ∧ w = w' := by
  go_enter Try.func19, Try.ntmps19
  have HC := Lib.hid hc
  clear hc
  go_wp2
  go_loop [5, 8] (fun _ i => ∃ k : Nat, k ≤ n ∧ i = .int .i64 k ∧ ∀ j, j < k → v ≠ ss j) (fun _ i => n - (intOf i).toNat)
  case atStart => exact ⟨0, Nat.zero_le _, rfl, fun j hj => by omega⟩
  case round =>
    obtain ⟨k, hk, rfl, hnot⟩ := hrel
    have HN := Lib.hid hnot
    clear hnot
    by_cases hlt : k < n
    · have hcs := HC.out k hlt
      go_wp2
      · have he : (v.toList == (ss k).toList) = true := by assumption
        go_ret
        exact ⟨ret_int (by rw [idxFrom_at ss v n 0 k (by omega) (by omega) (fun j _ h => HN.out j h) (bytes_eq_true he)]), rfl⟩
      · have he : (v.toList == (ss k).toList) = false := by assumption
        go_round
        case rel =>
          refine ⟨k + 1, by omega, by go_num, fun j hj => ?_⟩
          by_cases hjk : j = k
          · subst hjk; exact bytes_eq_false he
          · exact HN.out j (by omega)
        case measure => simp [intOf]; omega
    · go_wp2
      go_ret
      have : k = n := by omega
      subst this
      exact ⟨ret_int (by rw [idxFrom_not ss v k 0 (fun j _ h => HN.out j (by omega))]), rfl⟩

def namesL : List ByteArray := [⟨#[100, 101, 112, 111, 115, 105, 116]⟩, ⟨#[101, 120, 105, 116]⟩, ⟨#[101, 106, 101, 99, 116]⟩, ⟨#[115, 108, 97, 115, 104]⟩, ⟨#[99, 111, 110, 115, 111, 108, 105, 100, 97, 116, 101]⟩, ⟨#[112, 97, 114, 116, 105, 97, 108]⟩, ⟨#[116, 105, 99, 107]⟩]
def nmB (j : Nat) : ByteArray := namesL.getD j ⟨#[]⟩
theorem nmB_at : ∀ j, j < 7 → namesC[j]? = some (.string (nmB j)) := by
  intro j hj
  match j, hj with
  | 0, _ => rfl
  | 1, _ => rfl
  | 2, _ => rfl
  | 3, _ => rfl
  | 4, _ => rfl
  | 5, _ => rfl
  | 6, _ => rfl
theorem refSize_out (k : Int) (w : World) (h1 : k ≠ 1) (h2 : k ≠ 2) (h3 : k ≠ 3) (h4 : k ≠ 4) (h5 : k ≠ 5) (h6 : k ≠ 6) (h7 : k ≠ 7) : Calls Try.prog 21 #[.int .i64 k] w fun r w' => r = .returned (.int .i64 0) ∧ w = w' := by
  have HO := Lib.hid (operandsR_out k w h1 h2 h3 h4 h5 h6 h7)
  clear h1 h2 h3 h4 h5 h6 h7
  go_enter Try.func21, Try.ntmps21
  go_wp2_with fail
  refine HO.out.mono ?_
  rintro r w1 ⟨rfl, rfl⟩
  go_wp2
  go_ret
  exact ⟨rfl, rfl⟩
def nIdx (v : ByteArray) : Int := idxFrom nmB v 0 7
theorem nIdx_range (v : ByteArray) : -1 ≤ nIdx v ∧ nIdx v ≤ 6 := by
  unfold nIdx
  simp only [idxFrom]
  repeat' split
  all_goals omega
theorem names_cells (w : World) (t : TypeId) : ∀ j, j < 7 → (w.alloc (.cells namesC t)).cell? ⟨w.heap.size, 0 + j, none⟩ = some (.string (nmB j)) := fun j hj => by
  simp [go_sem, nmB_at j hj]
theorem opKind_any (v : ByteArray) (w : World) : Calls Try.prog 20 #[.string v] w fun r w' => r = .returned (.tuple #[.int .i64 (nIdx v + 1), .bool (decide (0 ≤ nIdx v))]) ∧ Keeps w w' := by
  have HI := Lib.hid (fun w => sindex_any nmB 7 7 w.heap.size 0 v (w.alloc (.cells namesC 9)) (by omega) (names_cells w _))
  have hr := nIdx_range v
  rw [show idxFrom nmB v 0 7 = nIdx v from rfl] at HI
  generalize nIdx v = x at *
  go_enter Try.func20, Try.ntmps20
  go_wp2_with fail
  refine (names_any _).mono ?_
  rintro r w1 ⟨rfl, rfl⟩
  go_wp2_with fail
  refine (HI.out w).mono ?_
  rintro r w2 ⟨rfl, rfl⟩
  go_wp2
  go_ret2
  exact ⟨rfl, (Mods.refl _ w).alloc _⟩
set_option maxHeartbeats 2000000 in
theorem opNames_walk (k : Int) (v : ByteArray) (w : World) (_w0 : (Lit.int .i64 k).wf = true) (_w1 : v.data.size ≤ 9223372036854775807) :
    Calls Try.prog 8 #[.int .i64 k, .string v] w fun r w' => r = .returned (.bool true) ∧ Below w.heap.size w w' := by
  have HR := Lib.hid (nIdx_range v)
  have hr := nIdx_range v
  have HI := Lib.hid (fun w => sindex_any nmB 7 7 w.heap.size 0 v (w.alloc (.cells namesC 9)) (by omega) (names_cells w _))
  have HK := Lib.hid (fun w => opKind_any v w)
  rw [show idxFrom nmB v 0 7 = nIdx v from rfl] at HI
  generalize nIdx v = x at *
  have hx : decide (0 < x + 1) = decide (0 ≤ x) := by
    by_cases h : 0 ≤ x
    · rw [decide_eq_true h]; exact decide_eq_true (by omega)
    · rw [decide_eq_false h]; exact decide_eq_false (by omega)
  by_cases hin : k = 1 ∨ k = 2 ∨ k = 3 ∨ k = 4 ∨ k = 5 ∨ k = 6 ∨ k = 7
  · have HSR := Lib.hid (fun w => refSize_in k hin w)
    have HN := Lib.hid (fun w => opName_in k hin w)
    rcases hin with rfl | rfl | rfl | rfl | rfl | rfl | rfl
    · go_enter Try.func8, Try.ntmps8
      go_wp2_with fail
      refine (refNames_any _).mono ?_
      rintro r w1 ⟨rfl, rfl⟩
      have hc := names_cells w 9 0 (by omega)
      rw [Nat.zero_add, show nmB 0 = ⟨#[100, 101, 112, 111, 115, 105, 116]⟩ from rfl] at hc
      have hlt := cell_lt hc
      go_wp2_with fail
      refine (refNames_any _).mono ?_
      rintro r w2 ⟨rfl, hw2⟩
      have HK2 : Hid (Keeps w w2) := Lib.hid (hw2 ▸ ((Mods.refl _ w).alloc _).alloc _)
      rw [hw2]
      have hI := HI.out (w.alloc (.cells namesC 9))
      rw [show (w.alloc (.cells namesC 9)).heap.size = w.heap.size + 1 from by simp] at hI
      clear hc hlt
      go_wp2_with fail
      refine hI.mono ?_
      clear hI
      rw [← hw2]
      rintro r w3 ⟨rfl, rfl⟩
      clear hw2
      go_wp2_with fail
      refine (HK.out w2).mono ?_
      rintro r w4 ⟨rfl, hk4⟩
      have HK4 := Lib.hid (HK2.out.keep hk4)
      clear hk4
      go_wp2_with fail
      refine (alive_any w4).mono ?_
      rintro r w5 ⟨rfl, hk5⟩
      have HK5 := Lib.hid (HK4.out.keep hk5)
      clear hk5
      go_wp2_with fail
      refine (opSize_any _ w5).mono ?_
      rintro r w6 ⟨rfl, hk6⟩
      have HK6 := Lib.hid (HK5.out.keep hk6)
      clear hk6
      go_wp2_with fail
      refine (HSR.out w6).mono ?_
      rintro r w7 ⟨rfl, rfl⟩
      go_wp2_with fail
      refine (HN.out w6).mono ?_
      rintro r w7 ⟨rfl, hk7⟩
      have HK7 := Lib.hid (HK6.out.keep hk7)
      clear hk7
      rw [show nameB 1 = ⟨#[100, 101, 112, 111, 115, 105, 116]⟩ from rfl]
      go_wp2
      go_ret
      exact ⟨rfl, HK7.out.below'⟩
    · go_enter Try.func8, Try.ntmps8
      go_wp2_with fail
      refine (refNames_any _).mono ?_
      rintro r w1 ⟨rfl, rfl⟩
      have hc := names_cells w 9 1 (by omega)
      rw [Nat.zero_add, show nmB 1 = ⟨#[101, 120, 105, 116]⟩ from rfl] at hc
      have hlt := cell_lt hc
      go_wp2_with fail
      refine (refNames_any _).mono ?_
      rintro r w2 ⟨rfl, hw2⟩
      have HK2 : Hid (Keeps w w2) := Lib.hid (hw2 ▸ ((Mods.refl _ w).alloc _).alloc _)
      rw [hw2]
      have hI := HI.out (w.alloc (.cells namesC 9))
      rw [show (w.alloc (.cells namesC 9)).heap.size = w.heap.size + 1 from by simp] at hI
      clear hc hlt
      go_wp2_with fail
      refine hI.mono ?_
      clear hI
      rw [← hw2]
      rintro r w3 ⟨rfl, rfl⟩
      clear hw2
      go_wp2_with fail
      refine (HK.out w2).mono ?_
      rintro r w4 ⟨rfl, hk4⟩
      have HK4 := Lib.hid (HK2.out.keep hk4)
      clear hk4
      go_wp2_with fail
      refine (alive_any w4).mono ?_
      rintro r w5 ⟨rfl, hk5⟩
      have HK5 := Lib.hid (HK4.out.keep hk5)
      clear hk5
      go_wp2_with fail
      refine (opSize_any _ w5).mono ?_
      rintro r w6 ⟨rfl, hk6⟩
      have HK6 := Lib.hid (HK5.out.keep hk6)
      clear hk6
      go_wp2_with fail
      refine (HSR.out w6).mono ?_
      rintro r w7 ⟨rfl, rfl⟩
      go_wp2_with fail
      refine (HN.out w6).mono ?_
      rintro r w7 ⟨rfl, hk7⟩
      have HK7 := Lib.hid (HK6.out.keep hk7)
      clear hk7
      rw [show nameB 2 = ⟨#[101, 120, 105, 116]⟩ from rfl]
      go_wp2
      go_ret
      exact ⟨rfl, HK7.out.below'⟩
    · go_enter Try.func8, Try.ntmps8
      go_wp2_with fail
      refine (refNames_any _).mono ?_
      rintro r w1 ⟨rfl, rfl⟩
      have hc := names_cells w 9 2 (by omega)
      rw [Nat.zero_add, show nmB 2 = ⟨#[101, 106, 101, 99, 116]⟩ from rfl] at hc
      have hlt := cell_lt hc
      go_wp2_with fail
      refine (refNames_any _).mono ?_
      rintro r w2 ⟨rfl, hw2⟩
      have HK2 : Hid (Keeps w w2) := Lib.hid (hw2 ▸ ((Mods.refl _ w).alloc _).alloc _)
      rw [hw2]
      have hI := HI.out (w.alloc (.cells namesC 9))
      rw [show (w.alloc (.cells namesC 9)).heap.size = w.heap.size + 1 from by simp] at hI
      clear hc hlt
      go_wp2_with fail
      refine hI.mono ?_
      clear hI
      rw [← hw2]
      rintro r w3 ⟨rfl, rfl⟩
      clear hw2
      go_wp2_with fail
      refine (HK.out w2).mono ?_
      rintro r w4 ⟨rfl, hk4⟩
      have HK4 := Lib.hid (HK2.out.keep hk4)
      clear hk4
      go_wp2_with fail
      refine (alive_any w4).mono ?_
      rintro r w5 ⟨rfl, hk5⟩
      have HK5 := Lib.hid (HK4.out.keep hk5)
      clear hk5
      go_wp2_with fail
      refine (opSize_any _ w5).mono ?_
      rintro r w6 ⟨rfl, hk6⟩
      have HK6 := Lib.hid (HK5.out.keep hk6)
      clear hk6
      go_wp2_with fail
      refine (HSR.out w6).mono ?_
      rintro r w7 ⟨rfl, rfl⟩
      go_wp2_with fail
      refine (HN.out w6).mono ?_
      rintro r w7 ⟨rfl, hk7⟩
      have HK7 := Lib.hid (HK6.out.keep hk7)
      clear hk7
      rw [show nameB 3 = ⟨#[101, 106, 101, 99, 116]⟩ from rfl]
      go_wp2
      go_ret
      exact ⟨rfl, HK7.out.below'⟩
    · go_enter Try.func8, Try.ntmps8
      go_wp2_with fail
      refine (refNames_any _).mono ?_
      rintro r w1 ⟨rfl, rfl⟩
      have hc := names_cells w 9 3 (by omega)
      rw [Nat.zero_add, show nmB 3 = ⟨#[115, 108, 97, 115, 104]⟩ from rfl] at hc
      have hlt := cell_lt hc
      go_wp2_with fail
      refine (refNames_any _).mono ?_
      rintro r w2 ⟨rfl, hw2⟩
      have HK2 : Hid (Keeps w w2) := Lib.hid (hw2 ▸ ((Mods.refl _ w).alloc _).alloc _)
      rw [hw2]
      have hI := HI.out (w.alloc (.cells namesC 9))
      rw [show (w.alloc (.cells namesC 9)).heap.size = w.heap.size + 1 from by simp] at hI
      clear hc hlt
      go_wp2_with fail
      refine hI.mono ?_
      clear hI
      rw [← hw2]
      rintro r w3 ⟨rfl, rfl⟩
      clear hw2
      go_wp2_with fail
      refine (HK.out w2).mono ?_
      rintro r w4 ⟨rfl, hk4⟩
      have HK4 := Lib.hid (HK2.out.keep hk4)
      clear hk4
      go_wp2_with fail
      refine (alive_any w4).mono ?_
      rintro r w5 ⟨rfl, hk5⟩
      have HK5 := Lib.hid (HK4.out.keep hk5)
      clear hk5
      go_wp2_with fail
      refine (opSize_any _ w5).mono ?_
      rintro r w6 ⟨rfl, hk6⟩
      have HK6 := Lib.hid (HK5.out.keep hk6)
      clear hk6
      go_wp2_with fail
      refine (HSR.out w6).mono ?_
      rintro r w7 ⟨rfl, rfl⟩
      go_wp2_with fail
      refine (HN.out w6).mono ?_
      rintro r w7 ⟨rfl, hk7⟩
      have HK7 := Lib.hid (HK6.out.keep hk7)
      clear hk7
      rw [show nameB 4 = ⟨#[115, 108, 97, 115, 104]⟩ from rfl]
      go_wp2
      go_ret
      exact ⟨rfl, HK7.out.below'⟩
    · go_enter Try.func8, Try.ntmps8
      go_wp2_with fail
      refine (refNames_any _).mono ?_
      rintro r w1 ⟨rfl, rfl⟩
      have hc := names_cells w 9 4 (by omega)
      rw [Nat.zero_add, show nmB 4 = ⟨#[99, 111, 110, 115, 111, 108, 105, 100, 97, 116, 101]⟩ from rfl] at hc
      have hlt := cell_lt hc
      go_wp2_with fail
      refine (refNames_any _).mono ?_
      rintro r w2 ⟨rfl, hw2⟩
      have HK2 : Hid (Keeps w w2) := Lib.hid (hw2 ▸ ((Mods.refl _ w).alloc _).alloc _)
      rw [hw2]
      have hI := HI.out (w.alloc (.cells namesC 9))
      rw [show (w.alloc (.cells namesC 9)).heap.size = w.heap.size + 1 from by simp] at hI
      clear hc hlt
      go_wp2_with fail
      refine hI.mono ?_
      clear hI
      rw [← hw2]
      rintro r w3 ⟨rfl, rfl⟩
      clear hw2
      go_wp2_with fail
      refine (HK.out w2).mono ?_
      rintro r w4 ⟨rfl, hk4⟩
      have HK4 := Lib.hid (HK2.out.keep hk4)
      clear hk4
      go_wp2_with fail
      refine (alive_any w4).mono ?_
      rintro r w5 ⟨rfl, hk5⟩
      have HK5 := Lib.hid (HK4.out.keep hk5)
      clear hk5
      go_wp2_with fail
      refine (opSize_any _ w5).mono ?_
      rintro r w6 ⟨rfl, hk6⟩
      have HK6 := Lib.hid (HK5.out.keep hk6)
      clear hk6
      go_wp2_with fail
      refine (HSR.out w6).mono ?_
      rintro r w7 ⟨rfl, rfl⟩
      go_wp2_with fail
      refine (HN.out w6).mono ?_
      rintro r w7 ⟨rfl, hk7⟩
      have HK7 := Lib.hid (HK6.out.keep hk7)
      clear hk7
      rw [show nameB 5 = ⟨#[99, 111, 110, 115, 111, 108, 105, 100, 97, 116, 101]⟩ from rfl]
      go_wp2
      go_ret
      exact ⟨rfl, HK7.out.below'⟩
    · go_enter Try.func8, Try.ntmps8
      go_wp2_with fail
      refine (refNames_any _).mono ?_
      rintro r w1 ⟨rfl, rfl⟩
      have hc := names_cells w 9 5 (by omega)
      rw [Nat.zero_add, show nmB 5 = ⟨#[112, 97, 114, 116, 105, 97, 108]⟩ from rfl] at hc
      have hlt := cell_lt hc
      go_wp2_with fail
      refine (refNames_any _).mono ?_
      rintro r w2 ⟨rfl, hw2⟩
      have HK2 : Hid (Keeps w w2) := Lib.hid (hw2 ▸ ((Mods.refl _ w).alloc _).alloc _)
      rw [hw2]
      have hI := HI.out (w.alloc (.cells namesC 9))
      rw [show (w.alloc (.cells namesC 9)).heap.size = w.heap.size + 1 from by simp] at hI
      clear hc hlt
      go_wp2_with fail
      refine hI.mono ?_
      clear hI
      rw [← hw2]
      rintro r w3 ⟨rfl, rfl⟩
      clear hw2
      go_wp2_with fail
      refine (HK.out w2).mono ?_
      rintro r w4 ⟨rfl, hk4⟩
      have HK4 := Lib.hid (HK2.out.keep hk4)
      clear hk4
      go_wp2_with fail
      refine (alive_any w4).mono ?_
      rintro r w5 ⟨rfl, hk5⟩
      have HK5 := Lib.hid (HK4.out.keep hk5)
      clear hk5
      go_wp2_with fail
      refine (opSize_any _ w5).mono ?_
      rintro r w6 ⟨rfl, hk6⟩
      have HK6 := Lib.hid (HK5.out.keep hk6)
      clear hk6
      go_wp2_with fail
      refine (HSR.out w6).mono ?_
      rintro r w7 ⟨rfl, rfl⟩
      go_wp2_with fail
      refine (HN.out w6).mono ?_
      rintro r w7 ⟨rfl, hk7⟩
      have HK7 := Lib.hid (HK6.out.keep hk7)
      clear hk7
      rw [show nameB 6 = ⟨#[112, 97, 114, 116, 105, 97, 108]⟩ from rfl]
      go_wp2
      go_ret
      exact ⟨rfl, HK7.out.below'⟩
    · go_enter Try.func8, Try.ntmps8
      go_wp2_with fail
      refine (refNames_any _).mono ?_
      rintro r w1 ⟨rfl, rfl⟩
      have hc := names_cells w 9 6 (by omega)
      rw [Nat.zero_add, show nmB 6 = ⟨#[116, 105, 99, 107]⟩ from rfl] at hc
      have hlt := cell_lt hc
      go_wp2_with fail
      refine (refNames_any _).mono ?_
      rintro r w2 ⟨rfl, hw2⟩
      have HK2 : Hid (Keeps w w2) := Lib.hid (hw2 ▸ ((Mods.refl _ w).alloc _).alloc _)
      rw [hw2]
      have hI := HI.out (w.alloc (.cells namesC 9))
      rw [show (w.alloc (.cells namesC 9)).heap.size = w.heap.size + 1 from by simp] at hI
      clear hc hlt
      go_wp2_with fail
      refine hI.mono ?_
      clear hI
      rw [← hw2]
      rintro r w3 ⟨rfl, rfl⟩
      clear hw2
      go_wp2_with fail
      refine (HK.out w2).mono ?_
      rintro r w4 ⟨rfl, hk4⟩
      have HK4 := Lib.hid (HK2.out.keep hk4)
      clear hk4
      go_wp2_with fail
      refine (alive_any w4).mono ?_
      rintro r w5 ⟨rfl, hk5⟩
      have HK5 := Lib.hid (HK4.out.keep hk5)
      clear hk5
      go_wp2_with fail
      refine (opSize_any _ w5).mono ?_
      rintro r w6 ⟨rfl, hk6⟩
      have HK6 := Lib.hid (HK5.out.keep hk6)
      clear hk6
      go_wp2_with fail
      refine (HSR.out w6).mono ?_
      rintro r w7 ⟨rfl, rfl⟩
      go_wp2_with fail
      refine (HN.out w6).mono ?_
      rintro r w7 ⟨rfl, hk7⟩
      have HK7 := Lib.hid (HK6.out.keep hk7)
      clear hk7
      rw [show nameB 7 = ⟨#[116, 105, 99, 107]⟩ from rfl]
      go_wp2
      go_ret
      exact ⟨rfl, HK7.out.below'⟩
  · have h1 : k ≠ 1 := fun e => hin (by simp [e])
    have h2 : k ≠ 2 := fun e => hin (by simp [e])
    have h3 : k ≠ 3 := fun e => hin (by simp [e])
    have h4 : k ≠ 4 := fun e => hin (by simp [e])
    have h5 : k ≠ 5 := fun e => hin (by simp [e])
    have h6 : k ≠ 6 := fun e => hin (by simp [e])
    have h7 : k ≠ 7 := fun e => hin (by simp [e])
    have HSR := Lib.hid (fun w => refSize_out k w h1 h2 h3 h4 h5 h6 h7)
    have HSZ := Lib.hid (show sizeK k = 0 from sizeK_none (by unfold opsOf; rw [if_neg h1, if_neg h2, if_neg h3, if_neg h4, if_neg h5, if_neg h6, if_neg h7]))
    have HN := Lib.hid (fun w => opName_out k (by omega) w)
    have ho : k < 1 ∨ (1 ≤ k ∧ 7 < k) := by omega
    clear hin h1 h2 h3 h4 h5 h6 h7
    rcases ho with ho | ⟨ho1, ho2⟩
    all_goals
      go_enter Try.func8, Try.ntmps8
      go_wp2_with fail
      refine (refNames_any _).mono ?_
      rintro r w2 ⟨rfl, hw2⟩
      have HK2 : Hid (Keeps w w2) := Lib.hid (hw2 ▸ (Mods.refl _ w).alloc _)
      rw [hw2]
      have hI := HI.out w
      go_wp2_with fail
      refine hI.mono ?_
      clear hI
      rw [← hw2]
      rintro r w3 ⟨rfl, rfl⟩
      clear hw2
      go_wp2_with fail
      refine (HK.out w2).mono ?_
      rintro r w4 ⟨rfl, hk4⟩
      have HK4 := Lib.hid (HK2.out.keep hk4)
      clear hk4
      go_wp2_with fail
      refine (alive_any w4).mono ?_
      rintro r w5 ⟨rfl, hk5⟩
      have HK5 := Lib.hid (HK4.out.keep hk5)
      clear hk5
      go_wp2_with fail
      refine (opSize_any _ w5).mono ?_
      rw [HSZ.out]
      rintro r w6 ⟨rfl, hk6⟩
      have HK6 := Lib.hid (HK5.out.keep hk6)
      clear hk6
      go_wp2_with fail
      refine (HSR.out w6).mono ?_
      rintro r w7 ⟨rfl, rfl⟩
      go_wp2_with fail
      refine (HN.out w6).mono ?_
      rintro r w7 ⟨rfl, hk7⟩
      have HK7 := Lib.hid (HK6.out.keep hk7)
      clear hk7
      go_wp2
      go_ret
      exact ⟨rfl, HK7.out.below'⟩
end Go.Proofs.Ytljcodkcmenpaaa
