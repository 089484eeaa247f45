/- The walk of ConfigDefault. -/
import Derived.Test.YtgpglfkdpalmcaaConfT
import Derived.Test.YtgpglfkdpalmcaaConfF
import Derived.OpenShut
namespace Go.Proofs.Ytgpglfkdpalmcaa
open Go.RowKit Go.Eg
theorem eq24 (w : World) : (binOp .eql 24 (.agg dfltCells) (.agg dfltCells)).run Try.prog w = .ok (.bool true) w := by kernel_rfl
theorem eqg24 (w : World) : (eqGuard .eql 24 (.tmp 11) (.tmp 12) (.agg dfltCells) (.agg dfltCells)).run Try.prog w = .ok () w := by kernel_rfl
@[reducible] def dvals : Array Value := valsC dflt dflt
theorem dix0 (w : World) : (Instr.index 29 (.agg dvals) (.int .i64 0)).run Try.prog w = .ok (.int .u64 (dflt 0)) w := by kernel_rfl
theorem dix1 (w : World) : (Instr.index 29 (.agg dvals) (.int .i64 1)).run Try.prog w = .ok (.int .u64 (dflt 1)) w := by kernel_rfl
theorem dix2 (w : World) : (Instr.index 29 (.agg dvals) (.int .i64 2)).run Try.prog w = .ok (.int .u64 (dflt 2)) w := by kernel_rfl
theorem dix3 (w : World) : (Instr.index 29 (.agg dvals) (.int .i64 3)).run Try.prog w = .ok (.int .u64 (dflt 3)) w := by kernel_rfl
theorem dix4 (w : World) : (Instr.index 29 (.agg dvals) (.int .i64 4)).run Try.prog w = .ok (.int .u64 (dflt 4)) w := by kernel_rfl
theorem dix5 (w : World) : (Instr.index 29 (.agg dvals) (.int .i64 5)).run Try.prog w = .ok (.int .u64 (dflt 5)) w := by kernel_rfl
theorem dix6 (w : World) : (Instr.index 29 (.agg dvals) (.int .i64 6)).run Try.prog w = .ok (.int .u64 (dflt 6)) w := by kernel_rfl
theorem dix7 (w : World) : (Instr.index 29 (.agg dvals) (.int .i64 7)).run Try.prog w = .ok (.int .u64 (dflt 7)) w := by kernel_rfl
theorem dix8 (w : World) : (Instr.index 29 (.agg dvals) (.int .i64 8)).run Try.prog w = .ok (.int .u64 (dflt 8)) w := by kernel_rfl
theorem dix9 (w : World) : (Instr.index 29 (.agg dvals) (.int .i64 9)).run Try.prog w = .ok (.int .u64 (dflt 9)) w := by kernel_rfl
theorem dix10 (w : World) : (Instr.index 29 (.agg dvals) (.int .i64 10)).run Try.prog w = .ok (.int .u64 (dflt 10)) w := by kernel_rfl
theorem dix11 (w : World) : (Instr.index 29 (.agg dvals) (.int .i64 11)).run Try.prog w = .ok (.int .u64 (dflt 11)) w := by kernel_rfl
theorem dix12 (w : World) : (Instr.index 29 (.agg dvals) (.int .i64 12)).run Try.prog w = .ok (.int .u64 (dflt 12)) w := by kernel_rfl
theorem dix13 (w : World) : (Instr.index 29 (.agg dvals) (.int .i64 13)).run Try.prog w = .ok (.int .u64 (dflt 13)) w := by kernel_rfl
theorem dix14 (w : World) : (Instr.index 29 (.agg dvals) (.int .i64 14)).run Try.prog w = .ok (.int .u64 (dflt 14)) w := by kernel_rfl
theorem dix15 (w : World) : (Instr.index 29 (.agg dvals) (.int .i64 15)).run Try.prog w = .ok (.int .u64 (dflt 15)) w := by kernel_rfl
theorem dix16 (w : World) : (Instr.index 29 (.agg dvals) (.int .i64 16)).run Try.prog w = .ok (.int .u64 (dflt 16)) w := by kernel_rfl
theorem dix17 (w : World) : (Instr.index 29 (.agg dvals) (.int .i64 17)).run Try.prog w = .ok (.int .u64 (dflt 17)) w := by kernel_rfl
theorem dix18 (w : World) : (Instr.index 29 (.agg dvals) (.int .i64 18)).run Try.prog w = .ok (.int .u64 (dflt 18)) w := by kernel_rfl
theorem dix19 (w : World) : (Instr.index 29 (.agg dvals) (.int .i64 19)).run Try.prog w = .ok (.int .u64 (dflt 19)) w := by kernel_rfl
theorem dix_any (n : Int) (h0 : 0 ≤ n) (h1 : n < 20) : ∃ x : Int, ∀ w : World, (Instr.index 29 (.agg dvals) (.int .i64 n)).run Try.prog w = .ok (.int .u64 x) w := by
  obtain ⟨k, rfl⟩ : ∃ k : Nat, n = k := ⟨n.toNat, by omega⟩
  have hk : k < 20 := by omega
  match k, hk with
  | 0, _ => exact ⟨_, dix0⟩
  | 1, _ => exact ⟨_, dix1⟩
  | 2, _ => exact ⟨_, dix2⟩
  | 3, _ => exact ⟨_, dix3⟩
  | 4, _ => exact ⟨_, dix4⟩
  | 5, _ => exact ⟨_, dix5⟩
  | 6, _ => exact ⟨_, dix6⟩
  | 7, _ => exact ⟨_, dix7⟩
  | 8, _ => exact ⟨_, dix8⟩
  | 9, _ => exact ⟨_, dix9⟩
  | 10, _ => exact ⟨_, dix10⟩
  | 11, _ => exact ⟨_, dix11⟩
  | 12, _ => exact ⟨_, dix12⟩
  | 13, _ => exact ⟨_, dix13⟩
  | 14, _ => exact ⟨_, dix14⟩
  | 15, _ => exact ⟨_, dix15⟩
  | 16, _ => exact ⟨_, dix16⟩
  | 17, _ => exact ⟨_, dix17⟩
  | 18, _ => exact ⟨_, dix18⟩
  | 19, _ => exact ⟨_, dix19⟩
  | k + 20, hk => exact absurd hk (by omega)
set_option maxHeartbeats 1000000 in
theorem configDefault_walk (f : Int) (w : World) (w0 : (Lit.int .u8 f).wf = true) :
    Calls Try.prog 4 #[.int .u8 f] w fun e w' => e = .returned (.bool true) ∧ Below w.heap.size w w' := by
  obtain ⟨hf0, hf1⟩ := bounds_u8 w0
  clear w0
  go_enter Try.func4, Try.ntmps4
  go_wp2_with fail
  refine (default_any _).mono ?_
  rintro r w1 ⟨rfl, hb⟩
  have hb : Below w.heap.size w (w1.alloc (.cells dfltCells 24)) := hb.alloc hb.size _
  go_wp2_with (refine wpList_store_new (t := 24) (old := zeroCells) (cs := dfltCells) rfl 24 _ _ rfl rfl rfl size24 rfl rfl ?_)
  have hC0 : Alow (w1.alloc (.cells dfltCells 24)).heap.size (w1.alloc (.cells dfltCells 24)) (w1.alloc (.cells dfltCells 24)).drew := ⟨(Below.refl _ _).drew, Nat.le_refl _⟩
  obtain ⟨x, hix⟩ := dix_any (f % 20) (by omega) (by omega)
  have HIX := Lib.hid hix
  clear hix
  refine wp_region_quiet (by kernel_rfl) (by kernel_rfl) hC0 ?_
  refine wpQuiet_enter rfl (fun wx hC => by first | (go_simp; done) | (go_simp; decide)) (fun wx hC => hC.call (alive_any _)) ?_
  go_frame
  refine wpQuiet_val (v := .bool true) rfl (fun wx hC => by go_simp) ?_
  go_frame
  refine wpQuiet_load_big rfl 24 _ rfl w1.heap.size rfl 24 dfltCells (0, 0) _ Try.underlying24 rfl size24 (fun wx hC => (hC.block (by rw [size_alloc1]; omega)).trans (heap_alloc_last _ _)) ?_
  go_frame
  refine wpQuiet_enter rfl (fun wx hC => by first | (go_simp; done) | (go_simp; decide)) (fun wx hC => hC.call (refDefault_any _)) ?_
  go_frame
  refine wpQuiet_val (v := .bool true) rfl (fun wx hC => by unfold execOp; simp only [Act.eval]; simp [eq24, eqg24]) ?_
  go_frame
  refine wpQuiet_val (v := .bool true) rfl (fun wx hC => by go_simp) ?_
  go_frame
  refine wpQuiet_val (v := .bool true) rfl (fun wx hC => by go_simp) ?_
  go_frame
  refine wpQuiet_load_big rfl 24 _ rfl w1.heap.size rfl 24 dfltCells (0, 0) _ Try.underlying24 rfl size24 (fun wx hC => (hC.block (by rw [size_alloc1]; omega)).trans (heap_alloc_last _ _)) ?_
  go_frame
  refine wpQuiet_enter rfl (fun wx hC => by first | (go_simp; done) | (go_simp; decide)) (fun wx hC => hC.call (values_any dflt dflt _ rfl rfl rfl rfl rfl rfl rfl rfl rfl rfl)) ?_
  go_frame
  refine wpQuiet_val (v := .int .i64 (f % 20)) rfl (fun wx hC => by go_simp) ?_
  go_frame
  refine wpQuiet_val (v := .int .u64 x) rfl (fun wx hC => by unfold execOp; simp only [Act.eval]; simp [HIX.out]) ?_
  go_frame
  refine wpQuiet_enter rfl (fun wx hC => by first | (go_simp; done) | (go_simp; decide)) (fun wx hC => hC.call (refDefault_any _)) ?_
  go_frame
  refine wpQuiet_enter rfl (fun wx hC => by first | (go_simp; done) | (go_simp; decide)) (fun wx hC => hC.call (values_any dflt dflt _ rfl rfl rfl rfl rfl rfl rfl rfl rfl rfl)) ?_
  go_frame
  refine wpQuiet_val (v := .int .i64 (f % 20)) rfl (fun wx hC => by go_simp) ?_
  go_frame
  refine wpQuiet_val (v := .int .u64 x) rfl (fun wx hC => by unfold execOp; simp only [Act.eval]; simp [HIX.out]) ?_
  go_frame
  refine wpQuiet_val (v := .bool true) rfl (fun wx hC => by go_simp) ?_
  go_frame
  refine wpQuiet_val (v := .bool true) rfl (fun wx hC => by go_simp) ?_
  go_frame
  refine wpQuiet_val (v := .bool true) rfl (fun wx hC => by go_simp) ?_
  go_frame
  refine wpQuiet_load_big rfl 24 _ rfl w1.heap.size rfl 24 dfltCells (0, 0) _ Try.underlying24 rfl size24 (fun wx hC => (hC.block (by rw [size_alloc1]; omega)).trans (heap_alloc_last _ _)) ?_
  go_frame
  refine wpQuiet_enter rfl (fun wx hC => by first | (go_simp; done) | (go_simp; decide)) (fun wx hC => hC.call (check_any dflt _)) ?_
  go_frame
  rw [chk_dflt]
  refine wpQuiet_val (v := .bool true) rfl (fun wx hC => by go_simp) ?_
  go_frame
  refine wpQuiet_val (v := .bool true) rfl (fun wx hC => by go_simp) ?_
  go_frame
  refine wpQuiet_val (v := .bool true) rfl (fun wx hC => by go_simp) ?_
  go_frame
  refine wpQuiet_nil ?_
  intro w2 hC
  have hb := hb.trans (hC.1.mono hb.size)
  clear hC hC0
  try go_frame
  go_wp2
  go_ret
  exact ⟨rfl, hb⟩
end Go.Proofs.Ytgpglfkdpalmcaa
