/- What a call has written: all but the named blocks is as it was. Slices that read as lists. No program in sight. -/
import Derived.Test.YtljcodkcmenpaaaQuiet
import Derived.OneCell
import Derived.Deep.Draws
import Derived.Deep.QuietTactic
namespace Go.Eg
open Go Go.RowKit
/-- of the blocks that there were, only those in S may have changed -/
structure Mods (S : Nat → Prop) (w w' : World) : Prop where
  os : w'.os = w.os
  tape : w'.tape = w.tape
  output : w'.output = w.output
  size : w.heap.size ≤ w'.heap.size
  block : ∀ k, k < w.heap.size → ¬ S k → w'.heap[k]? = w.heap[k]?
abbrev Keeps (w w' : World) : Prop := Mods (fun _ => False) w w'
theorem Mods.refl (S : Nat → Prop) (w : World) : Mods S w w := ⟨rfl, rfl, rfl, Nat.le_refl _, fun _ _ _ => rfl⟩
theorem Mods.seq {S T : Nat → Prop} {a b c : World} (h : Mods S a b) (k : Mods T b c) (hT : ∀ i, i < a.heap.size → T i → S i) : Mods S a c :=
  ⟨k.os.trans h.os, k.tape.trans h.tape, k.output.trans h.output, Nat.le_trans h.size k.size,
    fun i hi hs => (k.block i (Nat.lt_of_lt_of_le hi h.size) fun ht => hs (hT i hi ht)).trans (h.block i hi hs)⟩
theorem Mods.trans {S : Nat → Prop} {a b c : World} (h : Mods S a b) (k : Mods S b c) : Mods S a c := h.seq k fun _ _ h => h
theorem Mods.keep {S : Nat → Prop} {a b c : World} (h : Mods S a b) (k : Keeps b c) : Mods S a c := h.seq k fun _ _ h => h.elim
theorem Mods.weaken {S T : Nat → Prop} {a b : World} (h : Mods S a b) (hT : ∀ i, i < a.heap.size → S i → T i) : Mods T a b :=
  ⟨h.os, h.tape, h.output, h.size, fun i hi ht => h.block i hi fun hs => ht (hT i hi hs)⟩
theorem Mods.of_below {S : Nat → Prop} {a b : World} (h : Below a.heap.size a b) : Mods S a b := ⟨h.os, h.tape, h.output, h.size, fun i hi _ => h.block i hi⟩
theorem Mods.of_eq {S : Nat → Prop} {a b : World} (h : a = b) : Mods S a b := h ▸ Mods.refl S a
theorem Mods.below {S : Nat → Prop} {a b : World} (h : Mods S a b) (hS : ∀ i, i < a.heap.size → ¬ S i) : Below a.heap.size a b := ⟨h.os, h.tape, h.output, h.size, fun i hi => h.block i hi (hS i hi)⟩
theorem Mods.below' {a b : World} (h : Keeps a b) : Below a.heap.size a b := h.below fun _ _ h => h
theorem Mods.alloc {S : Nat → Prop} {a b : World} (h : Mods S a b) (o : Obj) : Mods S a (b.alloc o) := h.seq (T := fun _ => False) (Mods.of_below ((Below.refl _ _).alloc (Nat.le_refl _) _)) fun _ _ h => h.elim
theorem Mods.drew {S : Nat → Prop} {a b : World} (h : Mods S a b) : Mods S a b.drew := ⟨h.os, h.tape, h.output, h.size, h.block⟩
theorem Mods.drewN {S : Nat → Prop} {a b : World} (h : Mods S a b) (n : Nat) : Mods S a (b.drewN n) := ⟨h.os, h.tape, h.output, h.size, h.block⟩
theorem Mods.setCell {S : Nat → Prop} {a b : World} (h : Mods S a b) (p : Addr) (u : Value) (hp : p.block < a.heap.size → S p.block) : Mods S a (b.setCell p u) :=
  h.seq (T := (· = p.block)) ⟨rfl, rfl, rfl, by simp [World.setCell], fun k _ hk => Below.heap_setCell _ _ _ _ hk⟩ fun _ hi h => h ▸ hp (h ▸ hi)
theorem Mods.setRow {S : Nat → Prop} {a b : World} (h : Mods S a b) (g : Nat) (cs : Array Value) (hp : g < a.heap.size → S g) : Mods S a (b.setRow g cs) :=
  h.seq (T := (· = g)) ⟨rfl, rfl, rfl, by rw [size_setRow]; exact Nat.le_refl _, fun k _ hk => setRow_other b g k cs (fun e => hk e)⟩ fun _ hi h => h ▸ hp (h ▸ hi)
theorem Mods.grown {S : Nat → Prop} {a b c : World} {row : Option Nat} (h : Mods S a b) (hg : b.grownBy c row) (hr : ∀ k, k < a.heap.size → row = some k → S k) : Mods S a c :=
  h.seq (T := fun k => row = some k) ⟨hg.os, hg.tape, hg.output, hg.size, fun k hk hn => hg.block k hk (fun e => hn e.symm)⟩ hr
/-- a block that was not written -/
theorem Mods.at {S : Nat → Prop} {a b : World} (h : Mods S a b) {i : Nat} {o : Obj} (ho : a.heap[i]? = some o) (hS : ¬ S i) : b.heap[i]? = some o := (h.block i (heap_lt ho) hS).trans ho
theorem Mods.cell {S : Nat → Prop} {a b : World} (h : Mods S a b) {p : Addr} {v : Value} (hc : a.cell? p = some v) (hS : ¬ S p.block) : b.cell? p = some v :=
  (World.cell?_of_block (h.block _ (cell_lt hc) hS)).trans hc
theorem Mods.frozen {S : Nat → Prop} {a b : World} (h : Mods S a b) {p : Addr} (hp : p.block < a.heap.size) (hS : ¬ S p.block) : b.frozen? p = a.frozen? p := World.frozen?_of_block (h.block _ hp hS)
theorem Mods.below_of {S : Nat → Prop} {B : Nat} {a b : World} (h : Mods S a b) (hB : B ≤ a.heap.size) (hS : ∀ i, i < B → ¬ S i) : Below B a b := ⟨h.os, h.tape, h.output, h.size, fun k hk => h.block k (by omega) (hS k hk)⟩
theorem Mods.owns {S : Nat → Prop} {a b : World} {base : Nat} {e : TypeId} {size : Nat} {v : Value} {n : Nat} {xs : List Value} (h : Mods S a b) (ho : a.ownsRow base e size v n xs) (hS : ∀ k, v.ownBlock = some k → ¬ S k) : b.ownsRow base e size v n xs := by
  have hlt := ho.lt
  obtain ⟨h1, h2⟩ := ho
  refine ⟨h1, ?_⟩
  rcases h2 with h2 | ⟨g, cap, cur, hv, hg, hh, r⟩
  · exact .inl h2
  · refine .inr ⟨g, cap, cur, hv, hg, h.at hh (hS g (by rw [hv]; rfl)), r⟩
/-- w' is w after some draws -/
def Drawn (w w' : World) : Prop := ∃ q, w' = w.drewN q
theorem Drawn.refl (w : World) : Drawn w w := ⟨0, rfl⟩
theorem Drawn.mk (w : World) (q : Nat) : Drawn w (w.drewN q) := ⟨q, rfl⟩
theorem Drawn.trans {a b c : World} (h : Drawn a b) (k : Drawn b c) : Drawn a c := by
  obtain ⟨q, rfl⟩ := h
  obtain ⟨r, rfl⟩ := k
  exact ⟨q + r, by rw [World.drewN_drewN]⟩
theorem Drawn.mods {S : Nat → Prop} {a b : World} (h : Drawn a b) : Mods S a b := by
  obtain ⟨q, rfl⟩ := h
  exact (Mods.refl S a).drewN q
theorem Drawn.heap {a b : World} (h : Drawn a b) : b.heap = a.heap := by
  obtain ⟨q, rfl⟩ := h
  rfl
theorem quiet_id {P : Program} {f : FuncId} {args : Array Value} {w : World} {n : Nat} {v : Value}
    (h : Calls P f args (w.drewN n) fun e w' => e = .returned v ∧ w.drewN n = w') : Calls P f args (w.drewN n) fun e w'' => e = .returned v ∧ ∃ m, w'' = w.drewN m :=
  h.mono fun _ _ ⟨he, hm⟩ => ⟨he, n, hm.symm⟩
theorem quiet_drawn {P : Program} {f : FuncId} {args : Array Value} {w : World} {n : Nat} {v : Value}
    (h : Calls P f args (w.drewN n) fun e w' => e = .returned v ∧ Drawn (w.drewN n) w') : Calls P f args (w.drewN n) fun e w'' => e = .returned v ∧ ∃ m, w'' = w.drewN m :=
  h.mono fun _ _ ⟨he, hm⟩ => ⟨he, (Drawn.mk w n).trans hm⟩
/-- v reads as the list xs (one cell an element) -/
def Sl (w : World) (v : Value) (xs : List Value) : Prop :=
  (v = .slice none 0 0 ∧ xs = []) ∨ ∃ b off cap, v = .slice (some ⟨b, off, none⟩) xs.length cap ∧ xs.length ≤ cap ∧ ∀ j x, xs[j]? = some x → w.cell? ⟨b, off + j, none⟩ = some x
theorem Sl.nil (w : World) : Sl w (.slice none 0 0) [] := .inl ⟨rfl, rfl⟩
theorem Sl.mods {S : Nat → Prop} {a b : World} {v : Value} {xs : List Value} (h : Sl a v xs) (hm : Mods S a b) (hS : ∀ k, v.ownBlock = some k → ¬ S k) : Sl b v xs := by
  rcases h with h | ⟨g, off, cap, rfl, hc, hx⟩
  · exact .inl h
  · exact .inr ⟨g, off, cap, rfl, hc, fun j x hj => hm.cell (hx j x hj) (hS g rfl)⟩
theorem Sl.keeps {a b : World} {v : Value} {xs : List Value} (h : Sl a v xs) (hm : Keeps a b) : Sl b v xs := h.mods hm fun _ _ h => h
theorem Sl.of_owns {w : World} {base : Nat} {e : TypeId} {v : Value} {n : Nat} {xs : List Value} (h : w.ownsRow base e 1 v n xs) : Sl w v xs := by
  obtain ⟨h1, h2⟩ := h
  rcases h2 with ⟨rfl, rfl⟩ | ⟨g, cap, cur, rfl, hg, hh, r⟩
  · exact .inl ⟨rfl, List.length_eq_zero_iff.1 (by simpa using h1)⟩
  · have h1 : xs.length = n := by simpa using h1
    subst h1
    have ho : w.ownsRow base e 1 (.slice (some ⟨g, 0, none⟩) xs.length cap) xs.length xs := ⟨by simp, .inr ⟨g, cap, cur, rfl, hg, hh, r⟩⟩
    refine .inr ⟨g, 0, cap, rfl, r.1, fun j x hj => ?_⟩
    rw [Nat.zero_add, ho.cellAt j (by have := (List.getElem?_eq_some_iff.1 hj).1; omega), hj]
theorem Sl.of_block {w : World} {g : Nat} {cs : Array Value} {t : TypeId} {fr : Nat × Nat} (h : w.heap[g]? = some (.cells cs t fr)) {n c : Nat} (hn : cs.size = n) (hc : n ≤ c) : Sl w (.slice (some ⟨g, 0, none⟩) n c) cs.toList := by
  subst hn
  exact .inr ⟨g, 0, c, by simp, by simpa using hc, fun j x hj => by simp [World.cell?, h]; simpa using hj⟩
end Go.Eg
