/- The registry: New and what only reads. -/
import Derived.Test.YthngncklmkneoaaRgsB
import Derived.Laws.ResultCell
namespace Go.Proofs.Ythngncklmkneoaa
open Go.RowKit Go.Eg
abbrev VT : TypeId := 29
/-- a registry lies at g: its map at m, its list lv -/
structure RegAt (B : Nat) (w : World) (g m : Nat) (lv : Value) (cap : Int) (l : List Vd) (n : Nat) : Prop where
  blk : w.heap[g]? = some (regB cap lv (actS l) (totS l) m)
  row : w.ownsRow B 29 7 lv l.length (flatV l)
  map : IM w m n (cntS l)
  bg : B ≤ g
  bm : B ≤ m
  gm : g ≠ m
  og : lv.ownBlock ≠ some g
  om : lv.ownBlock ≠ some m
  ok : ∀ v ∈ l, v.ok
  tot : totS l ≤ maxU
  len : (l.length : Int) ≤ cap
  cap : cap ≤ 4096
def RegS (g m : Nat) (lv : Value) (i : Nat) : Prop := i = g ∨ i = m ∨ lv.ownBlock = some i
theorem RegAt.mods {S : Nat → Prop} {B : Nat} {w w' : World} {g m : Nat} {lv : Value} {cap : Int} {l : List Vd} {n : Nat} (h : RegAt B w g m lv cap l n) (hm : Mods S w w') (hS : ∀ i, RegS g m lv i → ¬ S i) : RegAt B w' g m lv cap l n :=
  ⟨hm.at h.blk (hS g (.inl rfl)), hm.owns h.row (fun k hk => hS k (.inr (.inr hk))), h.map.mods hm (hS m (.inr (.inl rfl))), h.bg, h.bm, h.gm, h.og, h.om, h.ok, h.tot, h.len, h.cap⟩
theorem RegAt.keeps {B : Nat} {w w' : World} {g m : Nat} {lv : Value} {cap : Int} {l : List Vd} {n : Nat} (h : RegAt B w g m lv cap l n) (hm : Keeps w w') : RegAt B w' g m lv cap l n := h.mods hm fun _ _ h => h
theorem size_alloc1 (w : World) (o : Obj) : (w.alloc o).heap.size = w.heap.size + 1 := by simp
theorem owns_slice' {w : World} {B : Nat} {e : TypeId} {size : Nat} {v : Value} {n : Nat} {xs : List Value} (h : w.ownsRow B e size v n xs) : ∃ a c, v = .slice a n c := by
  obtain ⟨h1, h2⟩ := h
  rcases h2 with ⟨rfl, rfl⟩ | ⟨g, cap, cur, rfl, _⟩
  · exact ⟨none, 0, rfl⟩
  · exact ⟨_, _, rfl⟩
theorem regNew_bad (c : Int) (w : World) (h : c < 1 ∨ 4096 < c) : Calls Try.prog 9 #[.int .i64 c] w fun r w' => r = .returned (.pointer none) ∧ w = w' := by
  go_enter Try.func9, Try.ntmps9
  rcases h with h | h
  · go_wp2
    go_ret
    exact ⟨rfl, rfl⟩
  · go_wp2
    all_goals
      go_ret
      exact ⟨rfl, rfl⟩
theorem regNew_any (c : Int) (w : World) (h1 : 1 ≤ c) (h2 : c ≤ 4096) : Calls Try.prog 9 #[.int .i64 c] w fun r w' => r = .returned (.pointer (some ⟨w.heap.size + 1, 0, none⟩)) ∧ RegAt w.heap.size w' (w.heap.size + 1) w.heap.size (.slice none 0 0) c [] 0 ∧ Keeps w w' := by
  have hmm := @run_makeMap Try.prog
  go_enter Try.func9, Try.ntmps9
  go_wp2
  go_ret
  have e := heap_alloc_last (w.alloc (.map #[] 0)) (regB c (.slice none 0 0) 0 0 w.heap.size)
  rw [size_alloc1 w (.map #[] 0)] at e
  exact ⟨rfl, ⟨e, World.ownsRow_nil _ _ _ _, (IMap.made w _ _ _).mods (S := fun _ => False) ((Mods.refl _ _).alloc _) (fun h => h), by omega, by omega, by omega, by simp [Value.ownBlock], by simp [Value.ownBlock], (fun v hv => by cases hv), by show (0 : Int) ≤ maxU; decide, by simp; omega, h2⟩, ((Mods.refl _ w).alloc _).alloc _⟩
theorem regLen_nil (w : World) : Calls Try.prog 17 #[.pointer none] w fun r w' => r = .returned (.int .i64 0) ∧ w = w' := by
  go_enter Try.func17, Try.ntmps17
  go_wp2
  go_ret
  exact ⟨rfl, rfl⟩
theorem regLen_any {B : Nat} {w : World} {g m : Nat} {lv : Value} {cap : Int} {l : List Vd} {n : Nat} (h : RegAt B w g m lv cap l n) : Calls Try.prog 17 #[.pointer (some ⟨g, 0, none⟩)] w fun r w' => r = .returned (.int .i64 l.length) ∧ w = w' := by
  obtain ⟨_, c1, _, _, _⟩ := reg_cells h.blk
  obtain ⟨a, c, rfl⟩ := owns_slice' h.row
  clear h
  go_enter Try.func17, Try.ntmps17
  go_wp2
  go_ret
  exact ⟨rfl, rfl⟩
theorem regActive_nil (w : World) : Calls Try.prog 19 #[.pointer none] w fun r w' => r = .returned (.int .u64 0) ∧ w = w' := by
  go_enter Try.func19, Try.ntmps19
  go_wp2
  go_ret
  exact ⟨rfl, rfl⟩
theorem regActive_any {B : Nat} {w : World} {g m : Nat} {lv : Value} {cap : Int} {l : List Vd} {n : Nat} (h : RegAt B w g m lv cap l n) : Calls Try.prog 19 #[.pointer (some ⟨g, 0, none⟩)] w fun r w' => r = .returned (.int .u64 (actS l)) ∧ w = w' := by
  obtain ⟨_, _, c2, _, _⟩ := reg_cells h.blk
  clear h
  go_enter Try.func19, Try.ntmps19
  go_wp2
  go_ret
  exact ⟨rfl, rfl⟩
theorem regTotal_nil (w : World) : Calls Try.prog 18 #[.pointer none] w fun r w' => r = .returned (.int .u64 0) ∧ w = w' := by
  go_enter Try.func18, Try.ntmps18
  go_wp2
  go_ret
  exact ⟨rfl, rfl⟩
theorem regTotal_any {B : Nat} {w : World} {g m : Nat} {lv : Value} {cap : Int} {l : List Vd} {n : Nat} (h : RegAt B w g m lv cap l n) : Calls Try.prog 18 #[.pointer (some ⟨g, 0, none⟩)] w fun r w' => r = .returned (.int .u64 (totS l)) ∧ w = w' := by
  obtain ⟨_, _, _, c3, _⟩ := reg_cells h.blk
  clear h
  go_enter Try.func18, Try.ntmps18
  go_wp2
  go_ret
  exact ⟨rfl, rfl⟩
theorem regCount_nil (x : Int) (w : World) : Calls Try.prog 12 #[.pointer none, .int .i64 x] w fun r w' => r = .returned (.int .i64 0) ∧ w = w' := by
  go_enter Try.func12, Try.ntmps12
  go_wp2
  go_ret
  exact ⟨rfl, rfl⟩
theorem regCount_any {B : Nat} {w : World} {g m : Nat} {lv : Value} {cap : Int} {l : List Vd} {n : Nat} (h : RegAt B w g m lv cap l n) (x : Int) (hx : (Lit.int .i64 x).wf = true) : Calls Try.prog 12 #[.pointer (some ⟨g, 0, none⟩), .int .i64 x] w fun r w' => r = .returned (.int .i64 (cntS l x)) ∧ w = w' := by
  obtain ⟨_, _, _, _, c4⟩ := reg_cells h.blk
  have hl := h.map.look Try.underlying54 Try.underlying3 Try.underlying3 (zeroInt _) hx
  clear h hx
  go_enter Try.func12, Try.ntmps12
  go_wp2
  go_ret
  exact ⟨rfl, rfl⟩
/-- cells of validator i of the list -/
theorem reg_row {B : Nat} {w : World} {g m : Nat} {a : Option Addr} {c : Nat} {cap : Int} {l : List Vd} {n : Nat} (h : RegAt B w g m (.slice a l.length c) cap l n) (i : Nat) (hi : i < l.length) :
    ∃ b, a = some ⟨b, 0, none⟩ ∧ b ≠ g ∧ b ≠ m ∧ w.cell? ⟨b, i * 7, none⟩ = some (.int .u64 l[i].bal) ∧ w.cell? ⟨b, i * 7 + 1, none⟩ = some (.int .i64 l[i].st) ∧ w.cell? ⟨b, i * 7 + 2, none⟩ = some (.bool l[i].sl) ∧
      w.cell? ⟨b, i * 7 + 3, none⟩ = some (.int .i64 l[i].rq) ∧ w.cell? ⟨b, i * 7 + 4, none⟩ = some (.int .i64 l[i].ex) ∧ w.cell? ⟨b, i * 7 + 5, none⟩ = some (.int .i64 l[i].wd) ∧ w.cell? ⟨b, i * 7 + 6, none⟩ = some (.int .i64 l[i].dl) := by
  have hrow := h.row
  rcases hrow.2 with ⟨e, h0⟩ | ⟨b, cap', cur, hv, hg, hh, r⟩
  · omega
  · simp only [Value.slice.injEq] at hv
    obtain ⟨rfl, _, rfl⟩ := hv
    have hc : ∀ j, j < 7 → w.cell? ⟨b, i * 7 + j, none⟩ = l[i].cells.toList[j]? := fun j hj => by
      rw [hrow.cellAt (i * 7 + j) (by omega), flatV_at l i hi j hj]
    refine ⟨b, rfl, fun e => h.og (by simp [Value.ownBlock, e]), fun e => h.om (by simp [Value.ownBlock, e]), ?_⟩
    have c0 := hc 0 (by omega)
    rw [Nat.add_zero] at c0
    exact ⟨c0, hc 1 (by omega), hc 2 (by omega), hc 3 (by omega), hc 4 (by omega), hc 5 (by omega), hc 6 (by omega)⟩
@[reducible] def vd0 : Vd := ⟨0, 0, false, 0, 0, 0, 0⟩
theorem regGet_out {B : Nat} {w : World} {g m : Nat} {lv : Value} {cap : Int} {l : List Vd} {n : Nat} (h : RegAt B w g m lv cap l n) (i : Int) (hi : i < 0 ∨ l.length ≤ i) :
    Calls Try.prog 14 #[.pointer (some ⟨g, 0, none⟩), .int .i64 i] w fun r w' => r = .returned (.tuple #[vd0.val, .bool false]) ∧ Keeps w w' := by
  have H := Lib.hid h
  clear h
  go_enter Try.func14, Try.ntmps14
  rcases hi with hi | hi
  · go_wp2
    exact bodyPost_ret (v := .tuple #[vd0.val, .bool false]) (by simp [results, Try.results14, go_sem]) rfl ⟨rfl, (Mods.refl _ w).alloc _⟩
  · by_cases h0 : i < 0
    · exfalso
      omega
    · go_wp2_with fail
      refine (regLen_any (H.out.keeps ((Mods.refl _ w).alloc _))).mono ?_
      rintro r w1 ⟨rfl, rfl⟩
      go_wp2
      exact bodyPost_ret (v := .tuple #[vd0.val, .bool false]) (by simp [results, Try.results14, go_sem]) rfl ⟨rfl, (Mods.refl _ w).alloc _⟩
theorem regGet_nil (w : World) (i : Int) :
    Calls Try.prog 14 #[.pointer none, .int .i64 i] w fun r w' => r = .returned (.tuple #[vd0.val, .bool false]) ∧ Keeps w w' := by
  go_enter Try.func14, Try.ntmps14
  by_cases h0 : i < 0
  · go_wp2
    exact bodyPost_ret (v := .tuple #[vd0.val, .bool false]) (by simp [results, Try.results14, go_sem]) rfl ⟨rfl, (Mods.refl _ w).alloc _⟩
  · go_wp2_with fail
    refine (regLen_nil _).mono ?_
    rintro r w1 ⟨rfl, rfl⟩
    go_wp2
    exact bodyPost_ret (v := .tuple #[vd0.val, .bool false]) (by simp [results, Try.results14, go_sem]) rfl ⟨rfl, (Mods.refl _ w).alloc _⟩
theorem regGet_any {B : Nat} {w : World} {g m : Nat} {lv : Value} {cap : Int} {l : List Vd} {n : Nat} (h : RegAt B w g m lv cap l n) (i : Nat) (hi : i < l.length) :
    Calls Try.prog 14 #[.pointer (some ⟨g, 0, none⟩), .int .i64 (i : Int)] w fun r w' => r = .returned (.tuple #[l[i].val, .bool true]) ∧ Keeps w w' := by
  have H := Lib.hid h
  obtain ⟨a, c, rfl⟩ := owns_slice' h.row
  have h1 := h.keeps ((Mods.refl (fun _ => False) w).alloc (.cells vd0.cells 29))
  obtain ⟨_, c1, _, _, _⟩ := reg_cells h.blk
  obtain ⟨b, rfl, _, _, x0, x1, x2, x3, x4, x5, x6⟩ := reg_row h i hi
  generalize l[i] = v at *
  obtain ⟨bal, st, sl, rq, ex, wd, dl⟩ := v
  simp only at x0 x1 x2 x3 x4 x5 x6
  have hlt := cell_lt x0
  have hg := cell_lt c1
  have hi2 : (i : Int) < (l.length : Int) := by omega
  clear h h1
  go_enter Try.func14, Try.ntmps14
  go_wp2_with fail
  refine (regLen_any (H.out.keeps ((Mods.refl _ w).alloc _))).mono ?_
  rintro r w1 ⟨rfl, rfl⟩
  go_wp2
  exact bodyPost_ret (v := .tuple #[(Vd.mk bal st sl rq ex wd dl).val, .bool true]) (by simp [results, Try.results14, go_sem]) rfl ⟨rfl, (Mods.refl _ w).alloc _⟩
end Go.Proofs.Ythngncklmkneoaa
