/- Decode. -/
import Derived.Test.YtljcodkcmenpaaaOpE
namespace Go.Eg
open Go Go.RowKit
def od0 : Od := ⟨0, 0, 0, 0⟩
def fillD : List Nat → Od → List Int → Od
  | [], o, _ => o
  | c :: r, o, l => fillD r (setO c (valL (l.take (szO c))) o) (l.drop (szO c))
theorem fillD_snoc (a : List Nat) (c : Nat) (o : Od) (l : List Int) : fillD (a ++ [c]) o l = setO c (valL ((l.drop (sumZ a)).take (szO c))) (fillD a o l) := by
  induction a generalizing o l with
  | nil => simp [fillD, sumZ]
  | cons x r ih =>
    show fillD (r ++ [c]) _ _ = _
    rw [ih]
    show _ = setO c (valL ((l.drop (szO x + sumZ r)).take (szO c))) (fillD r _ _)
    rw [List.drop_drop]
theorem fillD_take {cs : List Nat} {j : Nat} (h : j < cs.length) (o : Od) (l : List Int) : fillD (cs.take (j + 1)) o l = setO cs[j] (valL ((l.drop (sumZ (cs.take j))).take (szO cs[j]))) (fillD (cs.take j) o l) := by
  rw [List.take_succ_eq_append_getElem h, fillD_snoc]
theorem Bytes.drop {l : List Int} (h : Bytes l) (n : Nat) : Bytes (l.drop n) := fun x hx => h x (List.mem_of_mem_drop hx)
end Go.Eg
namespace Go.Proofs.Ytljcodkcmenpaaa
open Go.RowKit Go.Eg
theorem operands_some2 {k : Int} {cs : List Nat} (h : opsOf k = some cs) (w : World) : Calls Try.prog 28 #[.int .i64 k] w fun r w' => ∃ b, r = .returned (.tuple #[.slice (some ⟨b, 0, none⟩) cs.length cs.length, .bool true]) ∧ Keeps w w' ∧ w'.heap[b]? = some (.cells (flatO cs).toArray 55 (0, 0)) :=
  (operands_any k w).mono fun r w' ⟨hk, hr⟩ => by
    rcases hr with ⟨hs, _⟩ | ⟨cs', v, hs, hr, hv⟩
    · rw [h] at hs; cases hs
    · rw [h] at hs
      cases hs
      obtain ⟨b, rfl, hb⟩ := hv
      exact ⟨b, hr, hk, hb⟩
theorem flatO_cells {w : World} {b : Nat} {cs : List Nat} (hb : w.heap[b]? = some (.cells (flatO cs).toArray 55 (0, 0))) (j : Nat) (hj : j < cs.length) : w.cell? ⟨b, j * 3, none⟩ = some (.int .i64 ((szO cs[j] : Nat) : Int)) ∧ w.cell? ⟨b, j * 3 + 1, none⟩ = some (getV cs[j]) ∧ w.cell? ⟨b, j * 3 + 2, none⟩ = some (setV cs[j]) := by
  obtain ⟨h0, h1, h2⟩ := flatO_at cs j hj
  exact ⟨by simp [World.cell?, hb, h0], by simp [World.cell?, hb, h1], by simp [World.cell?, hb, h2]⟩
theorem reader_any (v : Value) (n c : Nat) (a : Option Addr) (hv : v = .slice a n c) (w : World) : Calls Try.prog 29 #[v] w fun r w' => r = .returned (.func (.func 35) #[] #[.pointer (some ⟨w.heap.size, 0, none⟩)]) ∧ w' = w.alloc (.cells #[v] 25) := by
  subst hv
  go_enter Try.func29, Try.ntmps29
  go_wp2
  go_ret
  exact ⟨rfl, rfl⟩
theorem dec_neg (v : Value) (l : List Int) (i : Int) (w : World) (hv : BL w v l) (hi : i < 0 ∨ (l.length : Int) ≤ i) :
    Calls Try.prog 16 #[v, .int .i64 i] w fun r w' => r = .returned (.tuple #[od0.val, .int .i64 0, .bool false]) ∧ Keeps w w' := by
  obtain ⟨a, cap, rfl⟩ := hv.slice
  clear hv
  by_cases h0 : i < 0
  · go_enter Try.func16, Try.ntmps16
    go_wp2
    exact bodyPost_ret (v := .tuple #[od0.val, .int .i64 0, .bool false]) (by simp [results, Try.results16, go_sem, od0]) rfl ⟨rfl, (Mods.refl _ w).alloc _⟩
  · have h1 : (l.length : Int) ≤ i := by omega
    clear hi
    go_enter Try.func16, Try.ntmps16
    go_wp2
    exact bodyPost_ret (v := .tuple #[od0.val, .int .i64 0, .bool false]) (by simp [results, Try.results16, go_sem, od0]) rfl ⟨rfl, (Mods.refl _ w).alloc _⟩
theorem sizeK_none {k : Int} (h : opsOf k = none) : sizeK k = 0 := by unfold sizeK; rw [h]
theorem sizeK_some {k : Int} {cs : List Nat} (h : opsOf k = some cs) : sizeK k = ((1 + sumZ cs : Nat) : Int) := by unfold sizeK; rw [h]
theorem keeps_put4 {w w1 : World} {o : Obj} (h : Keeps (w.alloc o) w1) (a b c d : Value) : Keeps w ((((w1.setCell ⟨w.heap.size, 0, none⟩ a).setCell ⟨w.heap.size, 1, none⟩ b).setCell ⟨w.heap.size, 2, none⟩ c).setCell ⟨w.heap.size, 3, none⟩ d) :=
  (((((((Mods.refl (fun _ => False) w).alloc o).keep h).setCell _ _ fun h => Nat.lt_irrefl _ h).setCell _ _ fun h => Nat.lt_irrefl _ h).setCell _ _ fun h => Nat.lt_irrefl _ h).setCell _ _ fun h => Nat.lt_irrefl _ h)
theorem dec_none (v : Value) (l : List Int) (i : Nat) (w : World) (hv : BL w v l) (hb : Bytes l) (hi : i < l.length) (h64 : l.length ≤ 4294967296) (hk : opsOf l[i] = none) :
    Calls Try.prog 16 #[v, .int .i64 (i : Int)] w fun r w' => r = .returned (.tuple #[od0.val, .int .i64 ((i : Int) + 1), .bool true]) ∧ Keeps w w' := by
  obtain ⟨a, cap, rfl⟩ := hv.slice
  obtain ⟨b, off, rfl, x0⟩ := hv.at i hi
  have hx := hb l[i] (List.getElem_mem hi)
  have hil : (i : Int) < (l.length : Int) := by omega
  have HS := Lib.hid (sizeK_none hk)
  have hlt := cell_lt x0
  generalize l[i] = k at *
  clear hv hb hk
  go_enter Try.func16, Try.ntmps16
  go_wp2_with fail
  refine (opSize_any k _).mono ?_
  rw [HS.out]
  rintro r w1 ⟨rfl, hk1⟩
  have hvb := hk1.at (heap_alloc_last w (odB od0)) (fun h => h)
  obtain ⟨c0, c1, c2, c3⟩ := od_cells hvb
  have f0 := od_free hvb 0
  have f1 := od_free hvb 1
  have f2 := od_free hvb 2
  have f3 := od_free hvb 3
  have HK1 := Lib.hid hk1
  have hw1 := heap_lt hvb
  clear hk1 hvb
  go_wp2
  exact bodyPost_ret (v := .tuple #[od0.val, .int .i64 ((i : Int) + 1), .bool true]) (by simp [results, Try.results16, go_sem, od0, c0, c1, c2, c3]) rfl ⟨rfl, keeps_put4 HK1.out _ _ _ _⟩
theorem dec_short (v : Value) (l : List Int) (cs : List Nat) (i : Nat) (w : World) (hv : BL w v l) (hb : Bytes l) (hi : i < l.length) (hk : opsOf l[i] = some cs) (hs : (l.length : Int) - i < ((1 + sumZ cs : Nat) : Int)) :
    Calls Try.prog 16 #[v, .int .i64 (i : Int)] w fun r w' => r = .returned (.tuple #[od0.val, .int .i64 (l.length : Int), .bool true]) ∧ Keeps w w' := by
  obtain ⟨a, cap, rfl⟩ := hv.slice
  obtain ⟨b, off, rfl, x0⟩ := hv.at i hi
  have hx := hb l[i] (List.getElem_mem hi)
  have hil : (i : Int) < (l.length : Int) := by omega
  have HS := Lib.hid (sizeK_some hk)
  obtain ⟨_, _, _, _, hz⟩ := opsOf_small hk
  have hlt := cell_lt x0
  generalize l[i] = k at *
  obtain ⟨z, hzz⟩ : ∃ z, 1 + sumZ cs = z := ⟨_, rfl⟩
  rw [hzz] at hs HS
  have hz1 : 1 ≤ z := by omega
  have hz2 : z ≤ 11 := by omega
  have ez : ((z : Int) == 0) = false := by simp only [beq_eq_false_iff_ne]; omega
  clear hv hb hk hzz
  go_enter Try.func16, Try.ntmps16
  go_wp2_with fail
  refine (opSize_any k _).mono ?_
  rw [HS.out]
  rintro r w1 ⟨rfl, hk1⟩
  have hvb := hk1.at (heap_alloc_last w (odB od0)) (fun h => h)
  obtain ⟨c0, c1, c2, c3⟩ := od_cells hvb
  have f0 := od_free hvb 0
  have f1 := od_free hvb 1
  have f2 := od_free hvb 2
  have f3 := od_free hvb 3
  have HK1 := Lib.hid hk1
  have hw1 := heap_lt hvb
  clear hk1 hvb
  go_wp2
  exact bodyPost_ret (v := .tuple #[od0.val, .int .i64 (l.length : Int), .bool true]) (by simp [results, Try.results16, go_sem, od0, c0, c1, c2, c3]) rfl ⟨rfl, keeps_put4 HK1.out _ _ _ _⟩
end Go.Proofs.Ytljcodkcmenpaaa
