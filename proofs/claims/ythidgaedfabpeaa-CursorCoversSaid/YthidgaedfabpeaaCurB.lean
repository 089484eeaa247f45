/- The cursor: the contract of Sweep. -/
import Derived.Test.YthidgaedfabpeaaCurA
namespace Go.Eg
open Go Go.RowKit
theorem owns_base {w : World} {B B' : Nat} {e : TypeId} {size : Nat} {v : Value} {n : Nat} {xs : List Value} (h : w.ownsRow B e size v n xs) (hb : B' ≤ B) : w.ownsRow B' e size v n xs := by
  obtain ⟨h1, h2⟩ := h
  rcases h2 with h2 | ⟨g, cap, cur, hv, hg, r⟩
  · exact ⟨h1, .inl h2⟩
  · exact ⟨h1, .inr ⟨g, cap, cur, hv, by omega, r⟩⟩
theorem owns_not {w : World} {B : Nat} {e : TypeId} {size : Nat} {v : Value} {n : Nat} {xs : List Value} (h : w.ownsRow B e size v n xs) {b : Nat} (hb : b < B) : v.ownBlock ≠ some b := fun e => by
  have := (h.lt b e).1
  omega
theorem owns_slice {w : World} {B : Nat} {e : TypeId} {size : Nat} {v : Value} {n : Nat} {xs : List Value} (h : w.ownsRow B e size v n xs) : ∃ a c, v = .slice a n c := by
  obtain ⟨h1, h2⟩ := h
  rcases h2 with ⟨rfl, rfl⟩ | ⟨g, cap, cur, rfl, _⟩
  · exact ⟨none, 0, rfl⟩
  · exact ⟨_, _, rfl⟩
/-- where a cursor stands behind k visits -/
def curK (n x k : Nat) : Nat := if k = 0 then x else posN n x k
theorem curK_mod (n x k : Nat) : curK n x k % n = posN n x k := by
  unfold curK
  split
  · rename_i h; subst h; rfl
  · unfold posN; exact Nat.mod_mod _ _
theorem curK_succ (n x k : Nat) : (curK n x k + 1) % n = curK n x (k + 1) := by
  have : (curK n x k + 1) % n = posN n x (k + 1) := by
    rw [← posN_succ, ← curK_mod, Nat.mod_add_mod]
  rw [this]
  unfold curK
  rw [if_neg (by omega)]
def intsV (l : List Nat) : List Value := l.map fun (i : Nat) => Value.int .i64 (i : Int)
theorem intsV_len (l : List Nat) : (intsV l).length = l.length := by simp [intsV]
theorem intsV_snoc (l : List Nat) (i : Nat) : intsV (l ++ [i]) = intsV l ++ [.int .i64 (i : Int)] := by simp [intsV]
end Go.Eg
namespace Go.Proofs.Ythidgaedfabpeaa
open Go.RowKit Go.Eg
theorem infoInt : (Try.prog.info? 3).map (fun i => (i.zero, i.size, i.bytes)) = some (some (.int .i64 0), 1, 8) := by kernel_rfl
/-- the fresh slice v holds these indices -/
def Ints (B : Nat) (w : World) (v : Value) (l : List Nat) : Prop := w.ownsRow B 3 1 v l.length (intsV l)
theorem sweep_nil (v : Value) (n : Nat) (a : Option Addr) (cap : Nat) (visits pays : Int) (w : World) (hv : v = .slice a n cap) :
    Calls Try.prog 13 #[.pointer none, v, .int .i64 visits, .int .i64 pays] w fun r w' => r = .returned (.tuple #[.slice none 0 0, .int .i64 0]) ∧ w = w' := by
  subst hv
  go_enter Try.func13, Try.ntmps13
  go_wp2
  go_step3
  go_wp2
  try rw [Exit.noGoto_ret]
  go_ret2
  exact ⟨rfl, rfl⟩
theorem sweep_zero (p : Addr) (v : Value) (n : Nat) (a : Option Addr) (cap : Nat) (visits pays : Int) (w : World) (hv : v = .slice a n cap) (h : n = 0 ∨ pays < 1) :
    Calls Try.prog 13 #[.pointer (some p), v, .int .i64 visits, .int .i64 pays] w fun r w' => r = .returned (.tuple #[.slice none 0 0, .int .i64 0]) ∧ w = w' := by
  subst hv
  by_cases h0 : n = 0
  · subst h0
    go_enter Try.func13, Try.ntmps13
    go_wp2
    go_step3
    go_wp2
    try rw [Exit.noGoto_ret]
    go_ret2
    exact ⟨rfl, rfl⟩
  · have hp : pays < 1 := by omega
    clear h
    go_enter Try.func13, Try.ntmps13
    go_wp2
    go_step3
    go_wp2
    try rw [Exit.noGoto_ret]
    go_ret2
    exact ⟨rfl, rfl⟩
theorem one_news (w : World) (u : Value) (t : TypeId) : ∀ (j : Nat) (v : Value), [u][j]? = some v → (w.alloc (.cells #[u] t)).cell? ((⟨w.heap.size, 0, none⟩ : Addr).add j) = some v := by
  intro j v hj
  match j, hj with
  | 0, hj => simp at hj; subst hj; rw [addr_add]; exact cell_of_one (heap_alloc_last _ _)
theorem sweep_skip {b n x k m p V : Nat} {rdy : Nat → Bool} {w1 w2 : World} {v : Value} {L : List Nat} (hv : vis rdy n x p (m - (k + 1)) (k + 1) = V) (hL : paidL rdy n x (k + 1) = L ++ if rdy (posN n x k) = true then [posN n x k] else []) (hr : rdy (posN n x k) = false)
    (hlt : k < m) (hown : w2.ownsRow w1.heap.size 3 1 v L.length (intsV L)) (hcb : w2.heap[b]? = some (curB (curK n x (k + 1)))) (hmd : Mods (· = b) w1 w2) :
    ∃ k' : Nat, k' ≤ m ∧ Value.int .i64 ((k : Int) + 1) = .int .i64 k' ∧ vis rdy n x p (m - k') k' = V ∧ w2.ownsRow w1.heap.size 3 1 v (paidL rdy n x k').length (intsV (paidL rdy n x k')) ∧ w2.heap[b]? = some (curB (curK n x k')) ∧ Mods (· = b) w1 w2 := by
  refine ⟨k + 1, hlt, by go_num, hv, ?_, hcb, hmd⟩
  rw [hL, hr]
  simpa using hown
theorem sweep_add {b n x k m p V : Nat} {rdy : Nat → Bool} {w w1 w2 w3 : World} {v v' : Value} {L : List Nat} {o : Obj} (hv : vis rdy n x p (m - (k + 1)) (k + 1) = V) (hL : paidL rdy n x (k + 1) = L ++ if rdy (posN n x k) = true then [posN n x k] else []) (hr : rdy (posN n x k) = true)
    (hlt : k < m) (hown : w3.ownsRow w1.heap.size 3 1 v' (L.length + 1) (intsV L ++ [.int .i64 ((posN n x k : Nat) : Int)])) (hcb : w2.heap[b]? = some (curB (curK n x (k + 1)))) (hmd : Mods (· = b) w1 w2) (hg : (w2.alloc o).grownBy w3 v.ownBlock)
    (ho : w2.ownsRow w1.heap.size 3 1 v L.length (intsV L)) (hb : b < w.heap.size) (hs : w.heap.size ≤ w1.heap.size) :
    ∃ k' : Nat, k' ≤ m ∧ Value.int .i64 ((k : Int) + 1) = .int .i64 k' ∧ vis rdy n x p (m - k') k' = V ∧ w3.ownsRow w1.heap.size 3 1 v' (paidL rdy n x k').length (intsV (paidL rdy n x k')) ∧ w3.heap[b]? = some (curB (curK n x k')) ∧ Mods (· = b) w1 w3 := by
  refine ⟨k + 1, hlt, by go_num, hv, ?_, ?_, ?_⟩
  · rw [hL, hr, if_pos rfl, intsV_snoc]
    simpa using hown
  · rw [hg.block b (by have := heap_lt hcb; simp; omega) (fun e => by have := (ho.lt b e.symm).1; omega)]
    exact heap_keep hcb _
  · exact (hmd.alloc o).grown hg fun j hj e => by have := (ho.lt j e).1; omega
theorem sweep_close {b n x k : Nat} {rdy : Nat → Bool} {w w1 wr : World} {v : Value} {L : List Nat} (hk : Keeps w w1) (hown : wr.ownsRow w1.heap.size 3 1 v L.length (intsV L)) (hcb : wr.heap[b]? = some (curB (curK n x k)))
    (hmd : Mods (· = b) w1 wr) (hL : paidL rdy n x k = L) (hs : w.heap.size ≤ w1.heap.size) : Ints w.heap.size wr v (paidL rdy n x k) ∧ wr.heap[b]? = some (curB (curK n x k)) ∧ Mods (· = b) w wr := by
  subst hL
  exact ⟨owns_base hown hs, hcb, (Mods.weaken hk fun _ _ h => h.elim).trans hmd⟩
set_option maxHeartbeats 1000000 in
theorem sweep_main (b x n rb ro cap p : Nat) (rdy : Nat → Bool) (visits : Int) (w : World) (hb : w.heap[b]? = some (curB x)) (hx : x ≤ 4294967296) (h0 : 0 < n) (h1 : n ≤ 4294967296) (hp : 0 < p)
    (hr : ∀ j, j < n → w.cell? ⟨rb, ro + j, none⟩ = some (.bool (rdy j))) (hrb : rb ≠ b) (m : Nat) (hm : m = min visits.toNat n) :
    Calls Try.prog 13 #[.pointer (some ⟨b, 0, none⟩), .slice (some ⟨rb, ro, none⟩) n cap, .int .i64 visits, .int .i64 (p : Int)] w fun r w' => ∃ v, r = .returned (.tuple #[v, .int .i64 (vis rdy n x p m 0 : Nat)]) ∧
      Ints w.heap.size w' v (paidL rdy n x (vis rdy n x p m 0)) ∧ w'.heap[b]? = some (curB (curK n x (vis rdy n x p m 0))) ∧ Mods (· = b) w w' := by
  have HR := Lib.hid hr
  have HV := Lib.hid (rfl : vis rdy n x p m 0 = vis rdy n x p m 0)
  have HM := Lib.hid hm
  have hbl := heap_lt hb
  have hn0 : ((n : Int) == 0) = false := by simp; omega
  have hp0 : decide ((p : Int) < 1) = false := by simp; omega
  obtain ⟨i0, hi, hz0, hz1, hz2⟩ := info_parts infoInt
  clear hr hm
  generalize hVg : vis rdy n x p m 0 = V at HV ⊢
  clear HV
  have HV := Lib.hid hVg
  clear hVg
  go_enter Try.func13, Try.ntmps13
  go_wp2
  go_step3
  go_wp2_with fail
  refine (cycle_any b n w).mono ?_
  rintro r w1 ⟨rfl, hbp, hbn, hk1⟩
  have hb1 := hk1.at hb (by simp)
  have hbp1 := heap_lt hbp
  have hbn1 := heap_lt hbn
  have HBP := Lib.hid hbp
  have HBN := Lib.hid hbn
  have HB1 := Lib.hid hb1
  have HK1 := Lib.hid hk1
  have hs1 := hk1.size
  clear hb hb1 hbp hbn hk1
  go_wp2_with fail
  go_step3
  go_wp2_with fail
  go_loopw [12, 13] (fun v i wr => ∃ k : Nat, k ≤ m ∧ i = .int .i64 k ∧ vis rdy n x p (m - k) k = V ∧ wr.ownsRow w1.heap.size 3 1 v (paidL rdy n x k).length (intsV (paidL rdy n x k)) ∧ wr.heap[b]? = some (curB (curK n x k)) ∧ Mods (· = b) w1 wr) (fun _ i _ => m - (intOf i).toNat)
  case atStart => exact ⟨0, Nat.zero_le _, rfl, HV.out, World.ownsRow_nil _ _ _ _, HB1.out, Mods.refl _ _⟩
  case round =>
    obtain ⟨k, hk, rfl, hvis, hown, hcb, hmd⟩ := hrel
    have hmn : m ≤ n := by rw [HM.out]; omega
    have hL := paidL_le rdy n x k
    have hLs := paidL_succ rdy n x k
    generalize hLg : paidL rdy n x k = L at *
    obtain ⟨va, vc, rfl⟩ := owns_slice hown
    by_cases hlt : k < m
    · have hv : (k : Int) < visits := by rw [HM.out] at hlt; omega
      have hkn : k < n := by omega
      have hvs : vis rdy n x p (m - k) k = if L.length = p then k else vis rdy n x p (m - (k + 1)) (k + 1) := by
        rw [show m - k = (m - (k + 1)) + 1 from by omega, vis, hLg]
      by_cases hfull : L.length = p
      · have hf1 : ((L.length : Int) == (p : Int)) = true := by simp; omega
        have hVk : V = k := by rw [← hvis, hvs, if_pos hfull]
        have HVK := Lib.hid hVk
        have HLG := Lib.hid hLg
        clear hVk hvis hvs hLs hfull hLg
        by_cases hnv : (n : Int) < visits
        all_goals
          go_wp2
          try rw [Exit.noGoto_ret]
          go_ret2
          refine ⟨_, ret2 rfl (by rw [HVK.out]; rfl), ?_⟩
          rw [HVK.out]
          exact sweep_close HK1.out hown hcb hmd HLG.out hs1
      · have hf1 : ((L.length : Int) == (p : Int)) = false := by simp; omega
        have hbp := hmd.at HBP.out (by omega)
        have hbn := hmd.at HBN.out (by omega)
        have hv2 : vis rdy n x p (m - (k + 1)) (k + 1) = V := by rw [← hvis, hvs, if_neg hfull]
        have HV2 := Lib.hid hv2
        have HLS := Lib.hid hLs
        have HLG := Lib.hid hLg
        have hcl : curK n x k ≤ 9223372036854775807 := by
          unfold curK
          split
          · omega
          · have := posN_lt (n := n) x k (by omega); omega
        have hpn := posN_lt (n := n) x k (by omega)
        have hcell := ((Mods.weaken HK1.out fun _ _ h => h.elim).trans hmd).cell (p := ⟨rb, ro + posN n x k, none⟩) (HR.out _ hpn) hrb
        clear hv2 hvis hvs hLs hfull hLg
        by_cases hnv : (n : Int) < visits
        all_goals
          go_wp2_with fail
          refine (cycle1_any w.heap.size (w.heap.size + 1) b n (curK n x k) _ hbp hbn hcb (by omega) h1 hcl).mono ?_
          rw [curK_mod, curK_succ]
          rintro r w2 ⟨rfl, hcb2, hmd2⟩
          have hcell2 := hmd2.cell hcell hrb
          have hown2 := hmd2.owns hown (fun j hj e => by have := (hown.lt _ hj).1; omega)
          have hmd3 := hmd.trans hmd2
          clear hcell hown hmd hmd2 hcb hbp hbn
          have hlt2 : w1.heap.size ≤ w2.heap.size := hmd3.size
          cases hrd : rdy (posN n x k)
          · rw [hrd] at hcell2
            have HRD := Lib.hid hrd
            clear hrd
            go_wp2
            go_roundw
            case rel => exact sweep_skip HV2.out HLS.out HRD.out hlt hown2 hcb2 hmd3
            case measure => simp [intOf]; omega
          · rw [hrd] at hcell2
            have HRD := Lib.hid hrd
            clear hrd
            go_wp2_with (at_builtin; refine wpList_append_own _ rfl _ _ 30 rfl w1.heap.size 3 i0 (.int .i64 0) 1 8 Try.underlying30 hi hz0 hz1 hz2 rfl (by decide) _ _ _ rfl (hown2.alloc _) ⟨w2.heap.size, 0, none⟩ 1 1 [.int .i64 ((posN n x k : Nat) : Int)] rfl rfl (one_news _ _ _) (fun u hu => by simp at hu; subst hu; rfl) (by unfold maxLen; omega) (by omega) (by simp; omega) ?_)
            intro v' w3 hown3 hgrow _
            go_wp2
            go_roundw
            case rel => exact sweep_add HV2.out HLS.out HRD.out hlt hown3 hcb2 hmd3 hgrow hown2 hbl hs1
            case measure => simp [intOf]; omega
    · have hle : (n : Int) < visits → n ≤ k := by rw [HM.out] at hlt; omega
      have hle2 : ¬ (n : Int) < visits → visits ≤ k := by rw [HM.out] at hlt; omega
      have hVk : V = k := by rw [← hvis, show m - k = 0 from by omega, vis]
      have HVK := Lib.hid hVk
      have HLG := Lib.hid hLg
      clear hVk hvis hLs hLg
      by_cases hnv : (n : Int) < visits
      · have := hle hnv
        clear hle hle2
        go_wp2
        try rw [Exit.noGoto_ret]
        go_ret2
        refine ⟨_, ret2 rfl (by rw [HVK.out]; rfl), ?_⟩
        rw [HVK.out]
        exact sweep_close HK1.out hown hcb hmd HLG.out hs1
      · have := hle2 hnv
        clear hle hle2
        go_wp2
        try rw [Exit.noGoto_ret]
        go_ret2
        refine ⟨_, ret2 rfl (by rw [HVK.out]; rfl), ?_⟩
        rw [HVK.out]
        exact sweep_close HK1.out hown hcb hmd HLG.out hs1
theorem sweep_any (b x n : Nat) (rdy : Nat → Bool) (rv : Value) (visits pays : Int) (w : World) (hb : w.heap[b]? = some (curB x)) (hx : x ≤ 4294967296) (h1 : n ≤ 4294967296)
    (hr : Bools w rv n rdy) (hrb : 0 < n → rv.ownBlock ≠ some b) :
    Calls Try.prog 13 #[.pointer (some ⟨b, 0, none⟩), rv, .int .i64 visits, .int .i64 pays] w fun r w' => ∃ v, r = .returned (.tuple #[v, .int .i64 (sweepV rdy n x visits pays : Nat)]) ∧
      Ints w.heap.size w' v (sweepP rdy n x visits pays) ∧ w'.heap[b]? = some (curB (sweepA rdy n x visits pays)) ∧ Mods (· = b) w w' := by
  by_cases hz : n = 0 ∨ pays < 1
  · have h3 : n = 0 ∨ visits < 1 ∨ pays < 1 := by omega
    have hV : sweepV rdy n x visits pays = 0 := if_pos h3
    have hA : sweepA rdy n x visits pays = x := if_pos h3
    obtain ⟨a, cap, hsl⟩ := hr.slice
    refine (sweep_zero ⟨b, 0, none⟩ rv n a cap visits pays w hsl hz).mono ?_
    rintro r w' ⟨rfl, rfl⟩
    refine ⟨_, by rw [hV]; rfl, ?_, by rw [hA]; exact hb, Mods.refl _ _⟩
    unfold sweepP
    rw [hV]
    exact World.ownsRow_nil _ _ _ _
  · obtain ⟨av, cap, rfl, hr⟩ := hr
    obtain ⟨rb, ro, rfl, hrc⟩ := hr (by omega)
    · obtain ⟨p, rfl⟩ : ∃ p : Nat, pays = p := ⟨pays.toNat, by omega⟩
      refine (sweep_main b x n rb ro cap p rdy visits w hb hx (by omega) h1 (by omega) hrc (fun e => hrb (by omega) (by rw [e]; rfl)) _ rfl).mono ?_
      rintro r w' ⟨v, rfl, hi, hc, hm⟩
      have hV : sweepV rdy n x visits p = vis rdy n x p (min visits.toNat n) 0 := by
        unfold sweepV
        split
        · rename_i h
          rw [show min visits.toNat n = 0 from by omega]
          rfl
        · rw [Int.toNat_natCast]
      have hA : curK n x (vis rdy n x p (min visits.toNat n) 0) = sweepA rdy n x visits p := by
        unfold sweepA
        rw [← hV]
        unfold curK
        by_cases h : n = 0 ∨ visits < 1 ∨ (p : Int) < 1
        · rw [if_pos h, if_pos (by unfold sweepV; rw [if_pos h])]
        · have hpos : 1 ≤ sweepV rdy n x visits p := by
            have e : min visits.toNat n = (min visits.toNat n - 1) + 1 := by omega
            rw [hV, e, vis, if_neg (by rw [paidL_zero]; simp; omega)]
            exact (vis_range _ _ _ _ _ _).1
          rw [if_neg h, if_neg (by omega)]
      refine ⟨v, by rw [hV], ?_, by rw [← hA]; exact hc, hm⟩
      unfold sweepP
      rw [hV]
      exact hi
end Go.Proofs.Ythidgaedfabpeaa
