/- The registry: the operations and lists that a law is given. -/
import Derived.Test.YthngncklmkneoaaRgsH
import Derived.OpenShut
namespace Go.Proofs.Ythngncklmkneoaa
open Go.RowKit Go.Eg
theorem Beside.mono {B : Nat} {w0 w : World} {g m : Nat} {lv u : Value} {cap : Int} {l : List Vd} {n n' : Nat} (h : Beside B w0 w g m lv u cap l n) (hn : n ≤ n') : Beside B w0 w g m lv u cap l n' :=
  ⟨h.reg.mono hn, h.row, h.own, h.apart, h.keeps⟩
theorem DoPost.mono {B : Nat} {w0 w : World} {g m : Nat} {cap : Int} {l : List Vd} {n n' : Nat} {r : Ending} (h : DoPost B w0 w g m cap l n r) (hn : n ≤ n') : DoPost B w0 w g m cap l n' r := by
  obtain ⟨lv, u, hr, hb⟩ := h
  exact ⟨lv, u, hr, hb.mono hn⟩
theorem do_any {B : Nat} {w0 w : World} {g m : Nat} {lv u : Value} {cap : Int} {l : List Vd} {n : Nat} (h : Beside B w0 w g m lv u cap l n) (k : Int) (v : Vd) (hv : v.ok) (hn : n + 1 < 4294967296) :
    Calls Try.prog 11 #[.pointer (some ⟨g, 0, none⟩), u, .int .i64 cap, .agg (opCells k v)] w fun r w' => DoPost B w0 w' g m cap (stepL cap l k v) (n + 2) r := by
  unfold stepL
  by_cases hk : k < 0
  · rw [if_pos hk]
    by_cases hc : (l.length : Int) = cap
    · rw [if_pos hc]
      exact (do_full h k v hk hc).mono fun _ _ h => h.mono (by omega)
    · rw [if_neg hc]
      by_cases ho : totS (l ++ [v]) ≤ maxU
      · rw [if_pos ho]
        exact (do_add h k hk v hv hc ho (by omega)).mono fun _ _ h => h.mono (by omega)
      · rw [if_neg ho]
        exact (do_over h k hk v hv hc ho).mono fun _ _ h => h.mono (by omega)
  · rw [if_neg hk]
    by_cases hc : (l.length : Int) ≤ k
    · rw [if_pos hc]
      exact (do_out h k v (by omega) hc).mono fun _ _ h => h.mono (by omega)
    · rw [if_neg hc]
      obtain ⟨i, rfl⟩ : ∃ i : Nat, k = i := ⟨k.toNat, by omega⟩
      rw [Int.toNat_natCast]
      exact do_set h i (by omega) v hv hn
/-- the validator in these seven cells -/
theorem vd_of_trod {H : Type} {enc : TypeId × Value → H} {w : World} {base : Nat} {spare : Nat → Bool} {held : Bool} {m : Nat} {y : DataW H × List MemPlace} {c : Nat → Value} (h : DataW.trod enc Try.prog w base spare held m 29 [c 0, c 1, c 2, c 3, c 4, c 5, c 6] = some y) :
    ∃ v : Vd, v.ok ∧ c 0 = .int .u64 v.bal ∧ c 1 = .int .i64 v.st ∧ c 2 = .bool v.sl ∧ c 3 = .int .i64 v.rq ∧ c 4 = .int .i64 v.ex ∧ c 5 = .int .i64 v.wd ∧ c 6 = .int .i64 v.dl := by
  have hf : ∃ fs, Try.prog.underlying 29 = some (.struct fs) ∧ (fs[0]?).map (fun f => (f.type, f.offset)) = some (27, 0) ∧ (fs[1]?).map (fun f => (f.type, f.offset)) = some (3, 1) ∧ (fs[2]?).map (fun f => (f.type, f.offset)) = some (4, 2) ∧ (fs[3]?).map (fun f => (f.type, f.offset)) = some (3, 3) ∧ (fs[4]?).map (fun f => (f.type, f.offset)) = some (3, 4) ∧ (fs[5]?).map (fun f => (f.type, f.offset)) = some (3, 5) ∧ (fs[6]?).map (fun f => (f.type, f.offset)) = some (3, 6) := ⟨_, Try.underlying29, by kernel_rfl, by kernel_rfl, by kernel_rfl, by kernel_rfl, by kernel_rfl, by kernel_rfl, by kernel_rfl⟩
  obtain ⟨fs, hfs, h0, h1, h2, h3, h4, h5, h6⟩ := hf
  have get : ∀ (j : Nat) (t : TypeId) (k : Nat), (fs[j]?).map (fun f => (f.type, f.offset)) = some (t, k) → ∃ m y, DataW.trod enc Try.prog w base spare held m t ((([c 0, c 1, c 2, c 3, c 4, c 5, c 6] : List Value).drop k).take (Try.prog.cellsOf t)) = some y := by
    intro j t k hj
    obtain ⟨f, hf, e⟩ := Option.map_eq_some_iff.1 hj
    simp only [Prod.mk.injEq] at e
    obtain ⟨m', y', g⟩ := trod_field hfs h j f hf
    rw [e.1, e.2] at g
    exact ⟨m', y', g⟩
  have ci : Try.prog.cellsOf 3 = 1 := by kernel_rfl
  have cu : Try.prog.cellsOf 27 = 1 := by kernel_rfl
  have cb : Try.prog.cellsOf 4 = 1 := by kernel_rfl
  obtain ⟨m0, y0, g0⟩ := get 0 _ _ h0
  obtain ⟨m1, y1, g1⟩ := get 1 _ _ h1
  obtain ⟨m2, y2, g2⟩ := get 2 _ _ h2
  obtain ⟨m3, y3, g3⟩ := get 3 _ _ h3
  obtain ⟨m4, y4, g4⟩ := get 4 _ _ h4
  obtain ⟨m5, y5, g5⟩ := get 5 _ _ h5
  obtain ⟨m6, y6, g6⟩ := get 6 _ _ h6
  rw [cu] at g0
  rw [cb] at g2
  rw [ci] at g1 g3 g4 g5 g6
  obtain ⟨a0, b0, _, w0⟩ := DataW.trod_int Try.underlying27 g0
  obtain ⟨a1, b1, _, w1⟩ := DataW.trod_int Try.underlying3 g1
  obtain ⟨a2, b2, _⟩ := DataW.trod_bool Try.underlying4 g2
  obtain ⟨a3, b3, _, _⟩ := DataW.trod_int Try.underlying3 g3
  obtain ⟨a4, b4, _, _⟩ := DataW.trod_int Try.underlying3 g4
  obtain ⟨a5, b5, _, _⟩ := DataW.trod_int Try.underlying3 g5
  obtain ⟨a6, b6, _, _⟩ := DataW.trod_int Try.underlying3 g6
  simp at b0 b1 b2 b3 b4 b5 b6
  obtain ⟨c0, c1⟩ := bounds_u64 w0
  exact ⟨⟨a0, a1, a2, a3, a4, a5, a6⟩, ⟨c0, c1, w1⟩, b0, b1, b2, b3, b4, b5, b6⟩
/-- the slice lv holds n operations -/
structure Ops (w : World) (lv : Value) (n : Nat) (F : Nat → Nat → Value) (ks : Nat → Int) (vs : Nat → Vd) : Prop where
  row : RowsOf w lv n 8 F
  el : ∀ i, i < n → (vs i).ok ∧ ∀ j, j < 8 → some (F i j) = (opCells (ks i) (vs i))[j]?
  len : n ≤ 9223372036854775807
theorem Ops.keeps {a b : World} {lv : Value} {n : Nat} {F : Nat → Nat → Value} {ks : Nat → Int} {vs : Nat → Vd} (h : Ops a lv n F ks vs) (hm : Keeps a b) : Ops b lv n F ks vs := ⟨h.row.keeps hm, h.el, h.len⟩
theorem open_ops {H : Type} {enc : TypeId × Value → H} {w : World} {base : Nat} {spare : Nat → Bool} {held : Bool} {v : Value} {d : DataW H} {p : List MemPlace} (h : DataW.Trod enc Try.prog w base spare held 22 v d p) (hsl : ∃ a n cap, v = .slice a n cap) :
    ∃ n F ks vs, Ops w v n F ks vs := by
  obtain ⟨n, F, hrow, hn, hr⟩ := open_rows Try.underlying22 8 (by kernel_rfl) (by omega) h hsl
  have hf : ∃ fs, Try.prog.underlying 31 = some (.struct fs) ∧ (fs[0]?).map (fun f => (f.type, f.offset)) = some (3, 0) ∧ (fs[1]?).map (fun f => (f.type, f.offset)) = some (29, 1) := ⟨_, Try.underlying31, by kernel_rfl, by kernel_rfl⟩
  obtain ⟨fs, hfs, h0, h1⟩ := hf
  have key : ∀ i, i < n → ∃ q : Int × Vd, q.2.ok ∧ ∀ j, j < 8 → some (F i j) = (opCells q.1 q.2)[j]? := by
    intro i hi
    obtain ⟨m, y, hy⟩ := hr i hi
    obtain ⟨f0, hf0, e0⟩ := Option.map_eq_some_iff.1 h0
    obtain ⟨f1, hf1, e1⟩ := Option.map_eq_some_iff.1 h1
    simp only [Prod.mk.injEq] at e0 e1
    obtain ⟨m0, y0, g0⟩ := trod_field hfs hy 0 f0 hf0
    obtain ⟨m1, y1, g1⟩ := trod_field hfs hy 1 f1 hf1
    rw [e0.1, e0.2, show Try.prog.cellsOf 3 = 1 from by kernel_rfl] at g0
    rw [e1.1, e1.2, show Try.prog.cellsOf 29 = 7 from by kernel_rfl] at g1
    have l : (List.range 8).map (F i) = [F i 0, F i 1, F i 2, F i 3, F i 4, F i 5, F i 6, F i 7] := rfl
    rw [l] at g0 g1
    obtain ⟨a0, b0, _⟩ := DataW.trod_int Try.underlying3 g0
    simp at b0
    obtain ⟨x, hx, x0, x1, x2, x3, x4, x5, x6⟩ := vd_of_trod (c := fun j => F i (j + 1)) g1
    refine ⟨(a0, x), hx, fun j hj => ?_⟩
    match j, hj with
    | 0, _ => rw [b0]; rfl
    | 1, _ => exact congrArg some x0
    | 2, _ => exact congrArg some x1
    | 3, _ => exact congrArg some x2
    | 4, _ => exact congrArg some x3
    | 5, _ => exact congrArg some x4
    | 6, _ => exact congrArg some x5
    | 7, _ => exact congrArg some x6
  haveI : Inhabited (Int × Vd) := ⟨(0, vd0)⟩
  obtain ⟨q, hq⟩ := Go.Deep.choose_lt key
  exact ⟨n, F, fun i => (q i).1, fun i => (q i).2, hrow, hq, hn⟩
theorem op_cells {w : World} {a : Option Addr} {cap n : Nat} {F : Nat → Nat → Value} {ks : Nat → Int} {vs : Nat → Vd} (h : Ops w (.slice a n cap) n F ks vs) (k : Nat) (hk : k < n) :
    ∃ b off, a = some ⟨b, off, none⟩ ∧ w.cell? ⟨b, off + k * 8, none⟩ = some (.int .i64 (ks k)) ∧ w.cell? ⟨b, off + k * 8 + 1, none⟩ = some (.int .u64 (vs k).bal) ∧ w.cell? ⟨b, off + k * 8 + 2, none⟩ = some (.int .i64 (vs k).st) ∧ w.cell? ⟨b, off + k * 8 + 3, none⟩ = some (.bool (vs k).sl) ∧
      w.cell? ⟨b, off + k * 8 + 4, none⟩ = some (.int .i64 (vs k).rq) ∧ w.cell? ⟨b, off + k * 8 + 5, none⟩ = some (.int .i64 (vs k).ex) ∧ w.cell? ⟨b, off + k * 8 + 6, none⟩ = some (.int .i64 (vs k).wd) ∧ w.cell? ⟨b, off + k * 8 + 7, none⟩ = some (.int .i64 (vs k).dl) ∧ (vs k).ok := by
  obtain ⟨a', cap', e, hc⟩ := h.row
  simp only [Value.slice.injEq] at e
  obtain ⟨rfl, _, rfl⟩ := e
  obtain ⟨b, off, rfl, hcc⟩ := hc (by omega)
  obtain ⟨hok, he⟩ := h.el k hk
  have c0 := hcc k hk 0 (by omega)
  rw [he 0 (by omega), Nat.add_zero] at c0
  have get : ∀ j, j < 8 → w.cell? ⟨b, off + k * 8 + j, none⟩ = (opCells (ks k) (vs k))[j]? := fun j hj => by rw [← he j hj]; exact hcc k hk j hj
  exact ⟨b, off, rfl, c0, get 1 (by omega), get 2 (by omega), get 3 (by omega), get 4 (by omega), get 5 (by omega), get 6 (by omega), get 7 (by omega), hok⟩
/-- a list of validators that came in -/
theorem open_vl {H : Type} {enc : TypeId × Value → H} {w : World} {base : Nat} {spare : Nat → Bool} {held : Bool} {v : Value} {d : DataW H} {p : List MemPlace} (h : DataW.Trod enc Try.prog w base spare held 26 v d p) (hsl : ∃ a n cap, v = .slice a n cap) :
    ∃ l, VL w v l ∧ l.length ≤ 9223372036854775807 ∧ ∀ x ∈ l, x.ok := by
  obtain ⟨n, F, hrow, hn, hr⟩ := open_rows Try.underlying26 7 (by kernel_rfl) (by omega) h hsl
  have hnone : ∀ n cap, v = .slice none n cap → cap = 0 := by
    intro n cap e
    subst e
    obtain ⟨fuel, hf⟩ := h
    rcases Go.Deep.open_slice Try.underlying26 hf with ⟨h1, _⟩ | ⟨a, len, cap, m, k, D, Pl, hcs, _⟩
    · simp [Value.cells] at h1
      exact h1.2
    · simp [Value.cells] at hcs
  have key : ∀ i, i < n → ∃ x : Vd, x.ok ∧ ∀ j, j < 7 → some (F i j) = x.cells.toList[j]? := by
    intro i hi
    obtain ⟨m, y, hy⟩ := hr i hi
    have l : (List.range 7).map (F i) = [F i 0, F i 1, F i 2, F i 3, F i 4, F i 5, F i 6] := rfl
    rw [l] at hy
    obtain ⟨x, hx, x0, x1, x2, x3, x4, x5, x6⟩ := vd_of_trod hy
    refine ⟨x, hx, fun j hj => ?_⟩
    match j, hj with
    | 0, _ => exact congrArg some x0
    | 1, _ => exact congrArg some x1
    | 2, _ => exact congrArg some x2
    | 3, _ => exact congrArg some x3
    | 4, _ => exact congrArg some x4
    | 5, _ => exact congrArg some x5
    | 6, _ => exact congrArg some x6
  haveI : Inhabited Vd := ⟨vd0⟩
  obtain ⟨q, hq⟩ := Go.Deep.choose_lt key
  obtain ⟨a, cap, rfl, hc⟩ := hrow
  refine ⟨(List.range n).map q, ⟨a, cap, by simp, fun e => hnone n cap (by rw [e]), fun h0 => ?_⟩, by simpa using hn, ?_⟩
  · have h0' : 0 < n := by simpa using h0
    obtain ⟨b, off, rfl, hcc⟩ := hc h0'
    refine ⟨b, off, rfl, fun i hi j hj => ?_⟩
    have hi' : i < n := by simpa using hi
    rw [hcc i hi' j hj, (hq i hi').2 j hj]
    simp
  · intro x hx
    obtain ⟨i, hi, rfl⟩ := List.mem_map.1 hx
    exact (hq i (List.mem_range.1 hi)).1
end Go.Proofs.Ythngncklmkneoaa
