/- Names, Name, Parse, Index: their contracts. -/
import Derived.Test.YtblcghghgejaaaaStatus
namespace Go.Proofs.Ytblcghghgejaaaa
open Go.RowKit Go.Maps Go.Eg
def statusBytes : List ByteArray := [⟨#[112, 101, 110, 100, 105, 110, 103]⟩, ⟨#[97, 99, 116, 105, 118, 101]⟩, ⟨#[101, 120, 105, 116, 105, 110, 103]⟩, ⟨#[117, 110, 98, 111, 110, 100, 105, 110, 103]⟩, ⟨#[119, 105, 116, 104, 100, 114, 97, 119, 97, 98, 108, 101]⟩, ⟨#[112, 97, 105, 100]⟩, ⟨#[109, 101, 114, 103, 101, 100]⟩]
def nameAt (j : Nat) : ByteArray := statusBytes.getD j ⟨#[]⟩
def nameCells : Array Value := #[.string ⟨#[112, 101, 110, 100, 105, 110, 103]⟩, .string ⟨#[97, 99, 116, 105, 118, 101]⟩, .string ⟨#[101, 120, 105, 116, 105, 110, 103]⟩, .string ⟨#[117, 110, 98, 111, 110, 100, 105, 110, 103]⟩, .string ⟨#[119, 105, 116, 104, 100, 114, 97, 119, 97, 98, 108, 101]⟩, .string ⟨#[112, 97, 105, 100]⟩, .string ⟨#[109, 101, 114, 103, 101, 100]⟩]
theorem nameCells_at : ∀ j, j < 7 → nameCells[j]? = some (.string (nameAt j)) := by
  intro j hj
  match j, hj with
  | 0, _ => rfl
  | 1, _ => rfl
  | 2, _ => rfl
  | 3, _ => rfl
  | 4, _ => rfl
  | 5, _ => rfl
  | 6, _ => rfl
/-- behind a call that makes the seven names -/
def HasNames (w w' : World) : Prop := Below w.heap.size w w' ∧ w.heap.size + 1 ≤ w'.heap.size ∧ ∀ j, j < 7 → w'.cell? ⟨w.heap.size, j, none⟩ = some (.string (nameAt j))
theorem hasNames (w : World) (t : TypeId) : HasNames w (w.alloc (.cells nameCells t)) :=
  ⟨(Below.refl _ _).alloc (Nat.le_refl _) _, by simp, fun j hj => by simp [go_sem, nameCells_at j hj]⟩
theorem names_any (w : World) :
    Calls Try.prog 21 #[] w fun r w' => r = .returned (.slice (some ⟨w.heap.size, 0, none⟩) 7 7) ∧ HasNames w w' := by
  go_enter Try.func21, Try.ntmps21
  go_wp2
  go_ret
  exact ⟨rfl, hasNames w _⟩
theorem refNames_any (w : World) :
    Calls Try.prog 16 #[] w fun r w' => r = .returned (.slice (some ⟨w.heap.size, 0, none⟩) 7 7) ∧ HasNames w w' := by
  go_enter Try.func16, Try.ntmps16
  go_wp2
  go_ret
  exact ⟨rfl, hasNames w _⟩
/-- status.Name in Lean -/
def nameOf (s : Int) : ByteArray := if 1 ≤ s ∧ s ≤ 7 then nameAt (s.toNat - 1) else ⟨#[]⟩
theorem name_any (s : Int) (w : World) :
    Calls Try.prog 18 #[.int .i64 s] w fun r w' => r = .returned (.string (nameOf s)) ∧ Below w.heap.size w w' := by
  go_enter Try.func18, Try.ntmps18
  go_wp2_with fail
  refine (names_any _).mono ?_
  rintro r w' ⟨rfl, hb, hsz, hc⟩
  by_cases h1 : 1 ≤ s
  · by_cases h2 : s ≤ 7
    · have hcs := hc (s.toNat - 1) (by omega)
      clear hc
      go_wp2
      go_ret
      exact ⟨ret_string (by unfold nameOf; rw [if_pos ⟨h1, h2⟩]), hb⟩
    · clear hc
      go_wp2
      go_ret
      exact ⟨ret_string (by unfold nameOf; rw [if_neg (fun h => by omega)]), hb⟩
  · clear hc
    go_wp2
    go_ret
    exact ⟨ret_string (by unfold nameOf; rw [if_neg (fun h => by omega)]), hb⟩
/-- slices.Index at strings -/
def idxFrom (ss : Nat → ByteArray) (v : ByteArray) : Nat → Nat → Int
  | _, 0 => -1
  | i, n + 1 => if v = ss i then i else idxFrom ss v (i + 1) n
theorem idxFrom_not (ss : Nat → ByteArray) (v : ByteArray) : ∀ (n i : Nat), (∀ j, i ≤ j → j < i + n → v ≠ ss j) → idxFrom ss v i n = -1
  | 0, _, _ => rfl
  | n + 1, i, h => by
    rw [idxFrom, if_neg (h i (Nat.le_refl _) (by omega))]
    exact idxFrom_not ss v n (i + 1) (fun j h1 h2 => h j (by omega) (by omega))
theorem idxFrom_at (ss : Nat → ByteArray) (v : ByteArray) : ∀ (n i k : Nat), i ≤ k → k < i + n → (∀ j, i ≤ j → j < k → v ≠ ss j) → v = ss k → idxFrom ss v i n = k
  | 0, i, k, h1, h2, _, _ => by omega
  | n + 1, i, k, h1, h2, h3, h4 => by
    rw [idxFrom]
    by_cases hi : i = k
    · subst hi; rw [if_pos h4]
    · rw [if_neg (h3 i (Nat.le_refl _) (by omega))]
      exact idxFrom_at ss v n (i + 1) k (by omega) (by omega) (fun j a b => h3 j (by omega) b) h4
theorem index_any (ss : Nat → ByteArray) (n cap b off : Nat) (v : ByteArray) (w : World) (hn : n ≤ 1000000) (hc : ∀ j, j < n → w.cell? ⟨b, off + j, none⟩ = some (.string (ss j))) :
    Calls Try.prog 20 #[.slice (some ⟨b, off, none⟩) n cap, .string v] w fun r w' => r = .returned (.int .i64 (idxFrom ss v 0 n)) ∧ w = w' := by
  go_enter Try.func20, Try.ntmps20
  have HC := Lib.hid hc
  clear hc
  go_wp2
  go_loop [5, 8] (fun _ i => ∃ k : Nat, k ≤ n ∧ i = .int .i64 k ∧ ∀ j, j < k → v ≠ ss j) (fun _ i => n - (intOf i).toNat)
  case atStart => exact ⟨0, Nat.zero_le _, rfl, fun j hj => by omega⟩
  case round =>
    obtain ⟨k, hk, rfl, hnot⟩ := hrel
    have HN := Lib.hid hnot
    clear hnot
    by_cases hlt : k < n
    · have hcs := HC.out k hlt
      go_wp2
      · have he : (v.toList == (ss k).toList) = true := by assumption
        go_ret
        exact ⟨ret_int (by rw [idxFrom_at ss v n 0 k (by omega) (by omega) (fun j _ h => HN.out j h) (bytes_eq_true he)]), rfl⟩
      · have he : (v.toList == (ss k).toList) = false := by assumption
        go_round
        case rel =>
          refine ⟨k + 1, by omega, by go_num, fun j hj => ?_⟩
          by_cases hjk : j = k
          · subst hjk; exact bytes_eq_false he
          · exact HN.out j (by omega)
        case measure => simp [intOf]; omega
    · go_wp2
      go_ret
      have : k = n := by omega
      subst this
      exact ⟨ret_int (by rw [idxFrom_not ss v k 0 (fun j _ h => HN.out j (by omega))]), rfl⟩
/-- where a name stands among the seven, or -1 -/
def nameIdx (v : ByteArray) : Int := idxFrom nameAt v 0 7
theorem nameIdx_range (v : ByteArray) : -1 ≤ nameIdx v ∧ nameIdx v ≤ 6 := by
  unfold nameIdx
  simp only [idxFrom]
  repeat' split
  all_goals omega
theorem parse_any (v : ByteArray) (w : World) :
    Calls Try.prog 17 #[.string v] w fun r w' => r = .returned (.tuple #[.int .i64 (nameIdx v + 1), .bool (decide (0 ≤ nameIdx v))]) ∧ Below w.heap.size w w' := by
  obtain ⟨r1, r2⟩ := nameIdx_range v
  have H0 : Hid (idxFrom nameAt v 0 7 = nameIdx v) := Lib.hid rfl
  generalize nameIdx v = i at *
  go_enter Try.func17, Try.ntmps17
  go_wp2_with fail
  refine (names_any _).mono ?_
  rintro r w' ⟨rfl, hb, hsz, hc⟩
  go_wp2_with fail
  refine (index_any nameAt 7 7 w.heap.size 0 v _ (by omega) (by simpa using hc)).mono ?_
  clear hc
  rintro r w2 ⟨rfl, rfl⟩
  rw [H0.out]
  go_wp2
  go_ret2
  exact ⟨rfl, hb⟩
end Go.Proofs.Ytblcghghgejaaaa
