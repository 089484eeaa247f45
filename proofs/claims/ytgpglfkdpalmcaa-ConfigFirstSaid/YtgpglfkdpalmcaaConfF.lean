/- The walks of ConfigChecks, ConfigSweeps, ConfigCovers. -/
import Derived.Test.YtgpglfkdpalmcaaConfE
import Derived.Test.YtgpglfkdpalmcaaOpen
namespace Go.Proofs.Ytgpglfkdpalmcaa
open Go.RowKit Go.Eg
def cfgKinds : List IntKind := [.i64, .i64, .u64, .u64, .u64, .u64, .u64, .u64, .u64, .u64, .i64, .i64, .i64, .i64, .i64, .i64, .i64, .i64, .u64, .u64]
theorem configChecks_walk (c : Nat → Int) (w : World) (_w0 : ∀ (i : Nat) (k : IntKind), cfgKinds[i]? = some k → (Lit.int k (c i)).wf = true) :
    Calls Try.prog 3 #[cfgV c] w fun e w' => e = .returned (.bool true) ∧ Below w.heap.size w w' := by
  go_enter Try.func3, Try.ntmps3
  have hx := heap_alloc_last w (.cells (cfgC c) 24)
  have hb := (Below.refl w.heap.size w).alloc (Nat.le_refl _) (.cells (cfgC c) 24)
  go_wp2_with (refine wpList_load_big rfl 24 _ rfl w.heap.size rfl 24 (cfgC c) (0, 0) _ Try.underlying24 rfl size24 hx ?_)
  refine (refCheck_any c _).mono ?_
  rintro r w2 ⟨rfl, hb2⟩
  have hx := box_next hx hb2
  have hb := hb.trans (hb2.mono hb.size)
  clear hb2
  go_wp2_with fail
  refine (alive_any _).mono ?_
  rintro r w3 ⟨rfl, hb2⟩
  have hx := box_next hx hb2
  have hb := hb.trans (hb2.mono hb.size)
  clear hb2
  go_wp2_with (refine wpList_load_big rfl 24 _ rfl w.heap.size rfl 24 (cfgC c) (0, 0) _ Try.underlying24 rfl size24 hx ?_)
  refine (check_any c _).mono ?_
  rintro r w4 ⟨rfl, hb2⟩
  have hx := box_next hx hb2
  have hb := hb.trans (hb2.mono hb.size)
  clear hb2
  go_wp2_with (refine wpList_load_big rfl 24 _ rfl w.heap.size rfl 24 (cfgC c) (0, 0) _ Try.underlying24 rfl size24 hx ?_)
  refine (valid_any c _ _ (check_any c)).mono ?_
  rintro r w5 ⟨rfl, hb2⟩
  have hb := hb.trans (hb2.mono hb.size)
  clear hb2 hx
  generalize chk c = n
  go_wp2
  go_ret
  exact ⟨rfl, hb⟩
end Go.Proofs.Ytgpglfkdpalmcaa
