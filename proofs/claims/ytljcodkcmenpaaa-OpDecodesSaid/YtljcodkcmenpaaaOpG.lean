/- Decode, the full way. -/
import Derived.Test.YtljcodkcmenpaaaOpF
namespace Go.Proofs.Ytljcodkcmenpaaa
open Go.RowKit Go.Eg
theorem heap_alloc2_new' (w : World) (A B : Obj) : ((w.alloc A).alloc B).heap[w.heap.size + 1]? = some B := by
  have h := heap_alloc_last (w.alloc A) B
  rwa [show (w.alloc A).heap.size = w.heap.size + 1 from by simp] at h
/-- b[at+1:] -/
theorem bl_from {w : World} {b off cap : Nat} {l : List Int} (h : BL w (.slice (some ⟨b, off, none⟩) l.length cap) l) (n : Nat) (hn : n ≤ l.length) {q : Addr} (hq : q = ⟨b, off + n, none⟩ ∨ (q = ⟨b, off, none⟩ ∧ cap = n)) :
    BL w (.slice (some q) (l.drop n).length (cap - n)) (l.drop n) ∧ (l.drop n).length ≤ cap - n := by
  have hc : l.length ≤ cap := by
    obtain ⟨a, c, e, h, _⟩ := h
    simp only [Value.slice.injEq] at e
    omega
  have hdl : (l.drop n).length = l.length - n := by simp
  refine ⟨⟨some q, cap - n, rfl, by omega, (fun h => by cases h), fun hpos => ?_⟩, by omega⟩
  rw [hdl] at hpos
  have hq' : q = ⟨b, off + n, none⟩ := by
    rcases hq with h | ⟨_, h⟩
    · exact h
    · omega
  subst hq'
  refine ⟨b, off + n, rfl, fun i hi => ?_⟩
  obtain ⟨b2, off2, e, x0⟩ := h.at (n + i) (by omega)
  simp only [Option.some.injEq, Addr.mk.injEq, and_true] at e
  obtain ⟨rfl, rfl⟩ := e
  rw [List.getElem_drop, Nat.add_assoc]
  exact x0
theorem mk_rd {w w1 : World} {o : Obj} {R : List Int} {b off cap n : Nat} (h : BL w (.slice (some ⟨b, off, none⟩) R.length cap) R) (hc : R.length ≤ cap) (hn : n = R.length) (hk : Keeps w w1) (hb : b < w.heap.size) :
    RD ((w1.alloc o).alloc (.cells #[.slice (some ⟨b, off, none⟩) n cap] 25)) (w1.heap.size + 1) w.heap.size R := by
  subst hn
  exact ⟨b, off, cap, heap_alloc2_new' w1 o _, ⟨hb, by have := hk.size; omega⟩, hc, h.keeps ((hk.alloc o).alloc _)⟩
def TwoB (g q i : Nat) : Prop := i = g ∨ i = q
theorem RD.lt {w : World} {g N : Nat} {l : List Int} (h : RD w g N l) : g < w.heap.size := by
  obtain ⟨_, _, _, h1, _⟩ := h
  exact heap_lt h1
theorem c2_mods {S : Nat → Prop} {w w' : World} {b : Nat} {x y : Value} (p0 : w.cell? ⟨b, 0, none⟩ = some x) (p2 : w.cell? ⟨b, 2, none⟩ = some y) (hm : Mods S w w') (hb : ¬ S b) : w'.cell? ⟨b, 0, none⟩ = some x ∧ w'.cell? ⟨b, 2, none⟩ = some y := ⟨hm.cell p0 hb, hm.cell p2 hb⟩
theorem dec_round {wb w5 w6 : World} {g N : Nat} {l : List Int} {o : Od} (hrd : RD w5 (g + 1) N l) (hm5 : Mods (fun i => i = g + 1) wb w5) (hN : N ≤ g) (hod : w6.heap[g]? = some (odB o)) (hm6 : Mods (fun i => i = g) w5 w6) :
    w6.heap[g]? = some (odB o) ∧ RD w6 (g + 1) N l ∧ Mods (TwoB g (g + 1)) wb w6 :=
  ⟨hod, hrd.mods hm6 (by omega) (fun i hi => by omega), (hm5.weaken fun _ _ h => .inr h).seq hm6 fun _ _ h => .inl h⟩
theorem c4_mods {S : Nat → Prop} {w w' : World} {b : Nat} {x0 x1 x2 x3 : Value} (p0 : w.cell? ⟨b, 0, none⟩ = some x0) (p1 : w.cell? ⟨b, 1, none⟩ = some x1) (p2 : w.cell? ⟨b, 2, none⟩ = some x2) (p3 : w.cell? ⟨b, 3, none⟩ = some x3) (hm : Mods S w w') (hb : ¬ S b) :
    w'.cell? ⟨b, 0, none⟩ = some x0 ∧ w'.cell? ⟨b, 1, none⟩ = some x1 ∧ w'.cell? ⟨b, 2, none⟩ = some x2 ∧ w'.cell? ⟨b, 3, none⟩ = some x3 := ⟨hm.cell p0 hb, hm.cell p1 hb, hm.cell p2 hb, hm.cell p3 hb⟩
theorem put4_mods {w w6 : World} (h : Keeps w w6) (g : Nat) (a b c d : Value) : Mods (fun i => i = g) w ((((w6.setCell ⟨g, 0, none⟩ a).setCell ⟨g, 1, none⟩ b).setCell ⟨g, 2, none⟩ c).setCell ⟨g, 3, none⟩ d) :=
  (((((Mods.weaken (T := fun i => i = g) h fun _ _ h => h.elim).setCell _ _ fun _ => rfl).setCell _ _ fun _ => rfl).setCell _ _ fun _ => rfl).setCell _ _ fun _ => rfl)
theorem wrap64_id' {x : Int} (h0 : 0 ≤ x) (h1 : x ≤ 8589934592) : IntKind.i64.wrap x = x := wrap_small x h0 (by omega)
theorem dec_last {w wr w6 : World} {g : Nat} (hm : Mods (TwoB g (g + 1)) (w.alloc (odB od0)) wr) (hg : w.heap.size < g) (hk : Keeps wr w6) (hv : wr.heap[w.heap.size]? = some (odB od0)) (a b c d : Int) :
    ∃ W, W = (((w6.setCell ⟨w.heap.size, 0, none⟩ (.int .i64 a)).setCell ⟨w.heap.size, 1, none⟩ (.int .i64 b)).setCell ⟨w.heap.size, 2, none⟩ (.int .i64 c)).setCell ⟨w.heap.size, 3, none⟩ (.int .u64 d) ∧ W.heap[w.heap.size]? = some (odB ⟨a, b, c, d⟩) ∧ Keeps w W := by
  have h6 := hk.at hv fun h => h
  refine ⟨_, rfl, heap_setCell_same _ _ 3 _ _ _ (heap_setCell_same _ _ 2 _ _ _ (heap_setCell_same _ _ 1 _ _ _ (heap_setCell_same _ _ 0 _ _ _ h6))), ?_⟩
  have h1 : Keeps w wr := ((Mods.refl (fun _ => False) w).alloc (odB od0)).seq hm fun i hi h => by rcases h with h | h <;> omega
  exact ((((h1.keep hk).setCell _ _ fun h => Nat.lt_irrefl _ h).setCell _ _ fun h => Nat.lt_irrefl _ h).setCell _ _ fun h => Nat.lt_irrefl _ h).setCell _ _ fun h => Nat.lt_irrefl _ h
set_option maxHeartbeats 1000000 in
theorem dec_full (v : Value) (l : List Int) (cs : List Nat) (i : Nat) (w : World) (hv : BL w v l) (hb : Bytes l) (hi : i < l.length) (h64 : l.length ≤ 4294967296) (hk : opsOf l[i] = some cs) (hs : 1 + sumZ cs ≤ l.length - i) :
    Calls Try.prog 16 #[v, .int .i64 (i : Int)] w fun r w' => r = .returned (.tuple #[(fillD cs ⟨l[i], 0, 0, 0⟩ (l.drop (i + 1))).val, .int .i64 (((i + (1 + sumZ cs) : Nat)) : Int), .bool true]) ∧ Keeps w w' := by
  obtain ⟨a, cap, rfl⟩ := hv.slice
  obtain ⟨b, off, rfl, x0⟩ := hv.at i hi
  have hcap : l.length ≤ cap := by
    obtain ⟨a, c, e, h, _⟩ := hv
    simp only [Value.slice.injEq] at e
    omega
  have hx := hb l[i] (List.getElem_mem hi)
  have hil : (i : Int) < (l.length : Int) := by omega
  have HS := Lib.hid (sizeK_some hk)
  obtain ⟨hcl, hc3, _, _, hz⟩ := opsOf_small hk
  have hlt := cell_lt x0
  have HOPS := Lib.hid (fun w => operands_some2 hk w)
  have HC3 := Lib.hid hc3
  have HBR := Lib.hid (hb.drop (i + 1))
  have HFT := Lib.hid (fun (j : Nat) (h : j < cs.length) => fillD_take h ⟨l[i], 0, 0, 0⟩ (l.drop (i + 1)))
  have HF0 := Lib.hid (show fillD (cs.take 0) ⟨l[i], 0, 0, 0⟩ (l.drop (i + 1)) = ⟨l[i], 0, 0, 0⟩ from rfl)
  have HF1 := Lib.hid (show fillD (cs.take cs.length) ⟨l[i], 0, 0, 0⟩ (l.drop (i + 1)) = fillD cs ⟨l[i], 0, 0, 0⟩ (l.drop (i + 1)) from by rw [List.take_length])
  have HD := Lib.hid (show ∀ q : Addr, q = ⟨b, off + (i + 1), none⟩ ∨ (q = ⟨b, off, none⟩ ∧ cap = i + 1) → BL w (.slice (some q) (l.drop (i + 1)).length (cap - (i + 1))) (l.drop (i + 1)) ∧ (l.drop (i + 1)).length ≤ cap - (i + 1) from fun q hq => bl_from hv (i + 1) (by omega) hq)
  have hdl : (l.drop (i + 1)).length = l.length - (i + 1) := by simp
  have HDL := Lib.hid hdl
  have HLB := Lib.hid (show sumZ cs ≤ l.length - (i + 1) by omega)
  have HTL := Lib.hid (fun j => sumZ_take_le cs j)
  have HTK := Lib.hid (fun (j : Nat) (h : j < cs.length) => sumZ_take h)
  generalize hR : l.drop (i + 1) = R at *
  generalize l[i] = k at *
  obtain ⟨z, hzz⟩ : ∃ z, 1 + sumZ cs = z := ⟨_, rfl⟩
  rw [hzz] at hs HS ⊢
  have HZ := Lib.hid hzz
  have hz1 : 1 ≤ z := by omega
  have hz2 : z ≤ 11 := by omega
  have ez : ((z : Int) == 0) = false := by simp only [beq_eq_false_iff_ne]; omega
  clear hv hb hk hzz hc3 hR hdl
  go_enter Try.func16, Try.ntmps16
  go_wp2_with fail
  refine (opSize_any k _).mono ?_
  rw [HS.out]
  rintro r w1 ⟨rfl, hk1⟩
  have HVB := Lib.hid (hk1.at (heap_alloc_last w (odB od0)) (fun h => h))
  have HK1 := Lib.hid hk1
  clear hk1
  by_cases hcn : cap = i + 1
  all_goals
    go_wp2_with fail
    refine (reader_any _ _ _ _ rfl _).mono ?_
    rintro r w2 ⟨rfl, hw2⟩
    have HOD : Hid (w2.heap[w1.heap.size]? = some (odB ⟨k, 0, 0, 0⟩)) := Lib.hid (hw2 ▸ heap_keep (heap_alloc_last w1 _) _)
    have HK2 : Hid (Keeps (w.alloc (odB od0)) w2) := Lib.hid (hw2 ▸ (HK1.out.alloc _).alloc _)
    have HRD : Hid (RD w2 (w1.heap.size + 1) w.heap.size R) := Lib.hid (by
      rw [hw2]
      first
        | (have hh := HD.out _ (.inr ⟨rfl, hcn⟩); exact mk_rd (n := l.length - (i + 1)) (cap := 0) (by simpa [hcn] using hh.1) (by have := hh.2; omega) HDL.out.symm (((Mods.refl (fun _ => False) w).alloc _).keep HK1.out) hlt)
        | (have hh := HD.out _ (.inl rfl); exact mk_rd hh.1 hh.2 HDL.out.symm (((Mods.refl (fun _ => False) w).alloc _).keep HK1.out) hlt))
    have hs12 : (w1.alloc (odB ⟨k, 0, 0, 0⟩)).heap.size = w1.heap.size + 1 := by simp
    rw [hs12]
    have hs01 : w.heap.size < w1.heap.size := heap_lt HVB.out
    have HVB2 := Lib.hid (HK2.out.at (heap_alloc_last w (odB od0)) fun h => h)
    clear hw2 hs12
    generalize w1.heap.size = g at *
    go_wp2_with fail
    refine (HOPS.out _).mono ?_
    rintro r w3 ⟨bo, rfl, hk3, hbo⟩
    have HOD := Lib.hid (hk3.at HOD.out fun h => h)
    have HRD := Lib.hid (HRD.out.keeps hk3)
    have HVB3 := Lib.hid (hk3.at HVB2.out fun h => h)
    have HK3 := Lib.hid (HK2.out.keep hk3)
    have HBO := Lib.hid hbo
    have NBO : Hid (¬ TwoB g (g + 1) bo) := Lib.hid (by
      have h1 := HOD.out
      obtain ⟨_, _, _, h2, _⟩ := HRD.out
      rintro (e | e)
      · subst e
        rw [hbo] at h1
        simp at h1
      · subst e
        rw [hbo] at h2
        simp at h2
        )
    clear hk3 hbo
    go_wp2_with fail
    go_loopw [61] (fun ii wr => ∃ j : Nat, j ≤ cs.length ∧ ii = .int .i64 j ∧ wr.heap[g]? = some (odB (fillD (cs.take j) ⟨k, 0, 0, 0⟩ R)) ∧ RD wr (g + 1) w.heap.size (R.drop (sumZ (cs.take j))) ∧ Mods (TwoB g (g + 1)) w3 wr) (fun ii _ => cs.length - (intOf ii).toNat)
    case atStart => exact ⟨0, Nat.zero_le _, rfl, by rw [HF0.out]; exact HOD.out, HRD.out, Mods.refl _ _⟩
    case round =>
      obtain ⟨j, hj, rfl, hod, hrd, hm⟩ := hrel
      have HODJ := Lib.hid hod
      have HRDJ := Lib.hid hrd
      have HM := Lib.hid hm
      by_cases hj2 : j < cs.length
      · have hbo := hm.at HBO.out NBO.out
        obtain ⟨y0, y1, y2⟩ := flatO_cells hbo j hj2
        have hc3 := HC3.out cs[j] (List.getElem_mem hj2)
        have hcs := callS cs[j] hc3
        have HFJ := Lib.hid (HFT.out j hj2)
        have htk := HTK.out j hj2
        have htl := HTL.out (j + 1)
        have hzc := szO_le cs[j]
        have hdr : R.drop (sumZ (cs.take (j + 1))) = (R.drop (sumZ (cs.take j))).drop (szO cs[j]) := by rw [htk, List.drop_drop]
        have HDR := Lib.hid hdr
        have HBY := Lib.hid (HBR.out.drop (sumZ (cs.take j)))
        have hle : szO cs[j] ≤ (R.drop (sumZ (cs.take j))).length := by rw [List.length_drop, HDL.out]; have := HLB.out; omega
        have hbw := cell_lt y0
        have hg3 := heap_lt hod
        have hg4 := RD.lt hrd
        have HC3J := Lib.hid hc3
        generalize hQ : R.drop (sumZ (cs.take j)) = Q at *
        generalize fillD (cs.take j) ⟨k, 0, 0, 0⟩ R = OD at *
        generalize cs[j] = c at *
        generalize szO c = zc at *
        clear hod hrd hm htk htl hdr hQ hbo hc3
        go_wp2_with fail
        rename World => wq
        obtain ⟨wb, hwb⟩ : ∃ wb, wb = wq.alloc (.cells #[.int .i64 (zc : Int), .func (.func (gF c)) #[] #[], .func (.func (sF c)) #[] #[]] 55) := ⟨_, rfl⟩
        have HKB := Lib.hid (show Keeps wq wb from hwb ▸ (Mods.refl _ wq).alloc _)
        have hbx : wb.heap[wq.heap.size]? = some (.cells #[.int .i64 (zc : Int), .func (.func (gF c)) #[] #[], .func (.func (sF c)) #[] #[]] 55 (0, 0)) := hwb ▸ heap_alloc_last wq _
        have p0 : wb.cell? ⟨wq.heap.size, 0, none⟩ = some (.int .i64 (zc : Int)) := by simp [World.cell?, hbx]
        have p2 : wb.cell? ⟨wq.heap.size, 2, none⟩ = some (.func (.func (sF c)) #[] #[]) := by simp [World.cell?, hbx]
        have HODB := Lib.hid (HKB.out.at HODJ.out fun h => h)
        have HRDB := Lib.hid (HRDJ.out.keeps HKB.out)
        rw [← hwb]
        clear hwb hbx y0 y1 y2
        go_region_held3 (fun w' => w'.cell? ⟨wq.heap.size, 0, none⟩ = some (.int .i64 (zc : Int)) ∧ w'.cell? ⟨wq.heap.size, 2, none⟩ = some (.func (.func (sF c)) #[] #[]))
          (first
            | (simp [p0, p2]; done)
            | (refine c2_mods (S := fun i => i = g + 1) p0 p2 ?_ (by omega); assumption)
            | (refine c2_mods (S := TwoB g (g + 1)) p0 p2 ?_ (by unfold TwoB; omega); assumption))
          (first
            | (go_at_call 35; refine (reader1_any (g + 1) w.heap.size Q zc _ (HRDB.out.keeps ((Mods.refl _ wb).drew)) HBY.out hle (by omega) (by omega)).mono ?_; rintro e w5 ⟨rfl, hrd5, hm5⟩; have hm5' : Mods (fun i => i = g + 1) wb w5 := ((Mods.refl _ wb).drew).trans hm5)
            | (refine (opset_any c HC3J.out OD g _ _ (Mods.at (S := fun i => i = g + 1) (by assumption) HODB.out (by omega))).mono ?_; rintro e w6 ⟨rfl, hod6, hm6⟩; have hF := dec_round (by assumption) (by assumption) (by omega) hod6 hm6; have hm6' := hF.2.2))
        have HFIN := Lib.hid (show _ ∧ RD _ (g + 1) w.heap.size _ ∧ Mods (TwoB g (g + 1)) wb _ from by assumption)
        clear p0 p2
        go_wp2
        go_roundw
        case rel => exact ⟨j + 1, by omega, by go_num, by rw [HFJ.out]; exact HFIN.out.1, by rw [HDR.out]; exact HFIN.out.2.1, (HM.out.keep HKB.out).trans HFIN.out.2.2⟩
        case measure => simp [intOf]; omega
      · have e : j = cs.length := by omega
        subst e
        rw [HF1.out] at HODJ
        have HVBR := Lib.hid (hm.at HVB3.out (by unfold TwoB; omega))
        have HKR : Hid (Mods (TwoB g (g + 1)) (w.alloc (odB od0)) wr) := Lib.hid ((Mods.weaken HK3.out fun _ _ h => h.elim).trans hm)
        obtain ⟨OD, hE⟩ : ∃ OD, fillD cs ⟨k, 0, 0, 0⟩ R = OD := ⟨_, rfl⟩
        rw [hE] at HODJ
        obtain ⟨okd, oix, otg, oam⟩ := OD
        have HE := Lib.hid hE
        clear hE
        have HZ2 := HZ.out
        clear hod hrd hm
        obtain ⟨q0, q1, q2, q3⟩ := od_cells HODJ.out
        simp only at q0 q1 q2 q3
        have hgw := heap_lt HODJ.out
        have hww := heap_lt HVBR.out
        have hgw2 : g ≠ w.heap.size := by omega
        go_wp2_with fail
        go_region_held3 (fun w' => w'.cell? ⟨g, 0, none⟩ = some (.int .i64 okd) ∧ w'.cell? ⟨g, 1, none⟩ = some (.int .i64 oix) ∧ w'.cell? ⟨g, 2, none⟩ = some (.int .i64 otg) ∧ w'.cell? ⟨g, 3, none⟩ = some (.int .u64 oam))
          (first
            | (simp [q0, q1, q2, q3]; done)
            | (refine c4_mods (S := fun _ => False) q0 q1 q2 q3 ?_ (fun h => h); assumption)
            | (refine c4_mods (S := fun i => i = w.heap.size) q0 q1 q2 q3 (put4_mods ?_ _ _ _ _ _) hgw2; assumption))
          (first
            | (go_at_call 15; refine (opSize_any k _).mono ?_; rw [HS.out]; rintro e w6 ⟨rfl, hk6⟩; have hk6' : Keeps wr w6 := ((Mods.refl _ wr).drew).keep hk6; have hv := hk6'.at HVBR.out (fun h => h); obtain ⟨t0, t1, t2, t3⟩ := od_cells hv; have f0 := od_free hv 0; have f1 := od_free hv 1; have f2 := od_free hv 2; have f3 := od_free hv 3; have hwl := heap_lt hv))
        have hwr : IntKind.i64.wrap ((i : Int) + (z : Int)) = (i : Int) + (z : Int) := wrap64_id' (by omega) (by omega)
        rw [hwr]
        have FIN := Lib.hid (dec_last (w := w) HKR.out (by omega) (show Keeps wr _ from by assumption) HVBR.out okd oix otg oam)
        clear q0 q1 q2 q3 hwr
        go_wp2
        obtain ⟨W, hW, hb1, hb2⟩ := FIN.out
        rw [← hW]
        obtain ⟨s0, s1, s2, s3⟩ := od_cells hb1
        simp only at s0 s1 s2 s3
        exact bodyPost_ret (v := .tuple #[Od.val ⟨okd, oix, otg, oam⟩, .int .i64 ((i + z : Nat) : Int), .bool true]) (by simp [results, Try.results16, go_sem, s0, s1, s2, s3]) rfl ⟨by rw [HE.out], hb2⟩
end Go.Proofs.Ytljcodkcmenpaaa
