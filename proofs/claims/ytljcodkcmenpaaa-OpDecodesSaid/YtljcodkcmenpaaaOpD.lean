/- The bytes of an operation: write. -/
import Derived.Test.YtljcodkcmenpaaaOpC
namespace Go.Proofs.Ytljcodkcmenpaaa
open Go.RowKit Go.Eg
theorem BO.base {B B' : Nat} {w : World} {v : Value} {l : List Int} (h : BO B w v l) (hb : B' ≤ B) : BO B' w v l := by
  obtain ⟨h1, h2⟩ := h
  rcases h2 with h2 | ⟨g, cap, cur, hv, hg, r⟩
  · exact ⟨h1, .inl h2⟩
  · exact ⟨h1, .inr ⟨g, cap, cur, hv, by omega, r⟩⟩
theorem BO.keeps {B : Nat} {w w' : World} {v : Value} {l : List Int} (h : BO B w v l) (hk : Keeps w w') : BO B w' v l := hk.owns h fun _ _ h => h
theorem BO.slice {B : Nat} {w : World} {v : Value} {l : List Int} (h : BO B w v l) : ∃ a c, v = .slice a l.length c := by
  rcases h.2 with ⟨rfl, e⟩ | ⟨g, cap, cur, rfl, _⟩
  · exact ⟨none, 0, by rw [e]⟩
  · exact ⟨_, _, rfl⟩
theorem BO.ne {B : Nat} {w : World} {v : Value} {l : List Int} (h : BO B w v l) {b : Nat} {cs : Array Value} {t : TypeId} {fr : Nat × Nat} (hb : w.heap[b]? = some (.cells cs t fr)) (ht : t ≠ 5) : v.ownBlock ≠ some b := by
  intro e
  rcases h.2 with ⟨rfl, _⟩ | ⟨g, cap, cur, rfl, _, hh, _⟩
  · cases e
  · simp [Value.ownBlock] at e
    subst e
    rw [hb] at hh
    simp at hh
    exact ht hh.2.1
theorem callG (c : Nat) (hc : c < 3) (args : Array Value) (w : World) : (callFunc (gF c) args).run Try.prog w = .ok (.enter (gF c) args) w := by
  match c, hc with
  | 0, _ => rfl
  | 1, _ => rfl
  | 2, _ => rfl
theorem callS (c : Nat) (hc : c < 3) (args : Array Value) (w : World) : (callFunc (sF c) args).run Try.prog w = .ok (.enter (sF c) args) w := by
  match c, hc with
  | 0, _ => rfl
  | 1, _ => rfl
  | 2, _ => rfl
theorem write_none (o : Od) (w : World) (h : opsOf o.kd = none) : Calls Try.prog 23 #[o.val] w fun r w' => r = .returned (.tuple #[.slice none 0 0, .bool false]) ∧ Keeps w w' := by
  have HO := Lib.hid (operands_none h (w.alloc (.cells o.cells 24)))
  obtain ⟨kd, ix, tg, am⟩ := o
  clear h
  go_enter Try.func23, Try.ntmps23
  go_wp2_with fail
  refine HO.out.mono ?_
  rintro r w1 ⟨rfl, hk1⟩
  have HK1 := Lib.hid (((Mods.refl (fun _ => False) w).alloc _).keep hk1)
  clear hk1
  go_wp2
  go_ret2
  exact ⟨rfl, HK1.out⟩
set_option maxHeartbeats 1000000 in
theorem write_any (o : Od) (cs : List Nat) (w : World) (h : opsOf o.kd = some cs) (ho : o.ok) :
    Calls Try.prog 23 #[o.val] w fun r w' => ∃ v, r = .returned (.tuple #[v, .bool true]) ∧ BO w.heap.size w' v (writeB o cs) ∧ Keeps w w' := by
  obtain ⟨hl, hcs, hk1, hk7, hz⟩ := opsOf_small h
  have HO := Lib.hid (operands_some h (w.alloc (.cells o.cells 24)))
  have HG := Lib.hid (fun c => getO_range ho c)
  have HB := Lib.hid (show ∀ j, (bodyB o (cs.take j)).length ≤ 16 from fun j => by rw [bodyB_len]; have := sumZ_take_le cs j; omega)
  have HCS := Lib.hid hcs
  have HW := Lib.hid (show writeB o cs = o.kd :: bodyB o cs from by unfold writeB; rw [show o.kd % 256 = o.kd from by omega])
  have HT := Lib.hid (fun (j : Nat) (h : j < cs.length) => bodyB_take (o := o) h)
  have HGET := Lib.hid (fun (c : Nat) (hc : c < 3) (w : World) => opget_any c hc o w)
  generalize writeB o cs = WB at *
  have hb0 : bodyB o (cs.take 0) = [] := rfl
  have hb1 : bodyB o (cs.take cs.length) = bodyB o cs := by rw [List.take_length]
  generalize hF : (fun j => bodyB o (cs.take j)) = Fb at *
  have e1 : ∀ j, bodyB o (cs.take j) = Fb j := fun j => by rw [← hF]
  simp only [e1] at HB HT hb0 hb1
  have HB0 := Lib.hid hb0
  have HB1 := Lib.hid hb1
  generalize bodyB o cs = BB at *
  generalize hGe : (fun c => getO c o) = Gf at *
  have e2 : ∀ c, getO c o = Gf c := fun c => by rw [← hGe]
  simp only [e2] at HG HT HGET
  clear hF hGe e1 e2 hb0 hb1 hcs h ho
  obtain ⟨kd, ix, tg, am⟩ := o
  simp only at HW HGET hk1 hk7
  go_enter Try.func23, Try.ntmps23
  go_wp2_with fail
  refine HO.out.mono ?_
  rintro r w1 ⟨b, rfl, hk1', hb, hc⟩
  have HK1 := Lib.hid (((Mods.refl (fun _ => False) w).alloc (.cells (Od.cells ⟨kd, ix, tg, am⟩) 24)).keep hk1')
  have HC := Lib.hid hc
  have hvb := hk1'.at (heap_alloc_last w (.cells (Od.cells ⟨kd, ix, tg, am⟩) 24)) (fun h => h)
  have HVB := Lib.hid hvb
  have u0 : w1.cell? ⟨w.heap.size, 0, none⟩ = some (.int .i64 kd) := (od_cells hvb).1
  have hww := heap_lt hvb
  clear hk1' hc hvb
  go_wp2_with fail
  go_loopw [6, 24] (fun s i wr => ∃ j : Nat, j ≤ cs.length ∧ i = .int .i64 j ∧ BO w1.heap.size wr s (kd :: Fb j) ∧ Keeps w1 wr) (fun _ i _ => cs.length - (intOf i).toNat)
  case atStart =>
    refine ⟨0, Nat.zero_le _, rfl, ?_, (Mods.refl _ w1).alloc _⟩
    rw [HB0.out]
    exact World.ownsRow_lit (size := 1) w1 #[.int .u8 (kd)] 1 (Nat.le_refl _) (by unfold maxLen; omega) rfl
  case round =>
    obtain ⟨j, hj, rfl, hown, hm⟩ := hrel
    have HM := Lib.hid hm
    have HOW := Lib.hid hown
    by_cases hlt : j < cs.length
    · obtain ⟨x0, x1, x2⟩ := HC.out wr hm j hlt
      have hc3 := HCS.out cs[j] (List.getElem_mem hlt)
      have hcg := callG cs[j] hc3
      have HTJ := Lib.hid (HT.out j hlt)
      have hz := szO_le cs[j]
      have hlb := HB.out j
      have hgr := HG.out cs[j]
      have HGJ := Lib.hid (HGET.out cs[j] hc3)
      have hbw := cell_lt x0
      have hszm := hm.size
      generalize cs[j] = c at *
      generalize szO c = z at *
      generalize Gf c = X at *
      generalize Fb j = L at *
      clear hm hown
      go_wp2_with fail
      rename World => wq
      obtain ⟨wo, hwo⟩ : ∃ wo, wo = wq.alloc (.cells #[.int .i64 (z : Int), .func (.func (gF c)) #[] #[], .func (.func (sF c)) #[] #[]] 55) := ⟨_, rfl⟩
      have HKO := Lib.hid (show Keeps wq wo from hwo ▸ (Mods.refl _ wq).alloc _)
      have HBX := Lib.hid (show wo.heap[wq.heap.size]? = some (.cells #[.int .i64 (z : Int), .func (.func (gF c)) #[] #[], .func (.func (sF c)) #[] #[]] 55 (0, 0)) from hwo ▸ heap_alloc_last wq _)
      rw [← hwo]
      clear hwo x0 x1 x2
      go_loopw [6, 9] (fun s q wi => ∃ m : Nat, m ≤ z ∧ q = .int .i64 ((z : Int) - 1 - m) ∧ BO w1.heap.size wi s (kd :: (L ++ (bigL X z).take m)) ∧ Keeps w1 wi ∧ wi.heap[wq.heap.size]? = some (.cells #[.int .i64 (z : Int), .func (.func (gF c)) #[] #[], .func (.func (sF c)) #[] #[]] 55 (0, 0))) (fun _ q _ => (1 + intOf q).toNat)
      case atStart => exact ⟨0, Nat.zero_le _, by go_num, by rw [List.take_zero, List.append_nil]; exact HOW.out.keeps HKO.out, HM.out.keep HKO.out, HBX.out⟩
      case round =>
        obtain ⟨m, hmz, rfl, hown, hmi, hbx⟩ := hrel
        have HMI := Lib.hid hmi
        have HOI := Lib.hid hown
        have HBI := Lib.hid hbx
        by_cases hlm : m < z
        · have y1 : wr.cell? ⟨wq.heap.size, 1, none⟩ = some (.func (.func (gF c)) #[] #[]) := by simp [World.cell?, hbx]
          obtain ⟨v0, v1, v2, v3⟩ := od_cells (o := ⟨kd, ix, tg, am⟩) (hmi.at HVB.out fun h => h)
          simp only at v0 v1 v2 v3
          have hwx := heap_lt hbx
          have hwi := cell_lt v0
          have HTM := Lib.hid (bigL_take (x := X) hlm)
          have hlen : (kd :: (L ++ (bigL X z).take m)).length ≤ 8192 := by rw [List.length_cons, List.length_append, List.length_take, bigL_len]; omega
          clear hmi hown hbx
          go_wp2_with fail
          refine (HGJ.out _).mono ?_
          rintro r w5 ⟨rfl, hk5⟩
          have HM5 := Lib.hid (HMI.out.keep hk5)
          have HO5 := Lib.hid (HOI.out.keeps hk5)
          have HB5 := Lib.hid (hk5.at HBI.out fun h => h)
          have HS5 := Lib.hid (show w1.heap.size ≤ w5.heap.size from HM5.out.size)
          clear hk5 y1 v0 v1 v2 v3 hwx hwi
          go_wp2_with (at_builtin; refine append1 w5 rfl (.tmp 35) (.tmp 44) rfl w1.heap.size _ _ _ rfl HO5.out rfl hlen HS5.out ?_)
          intro v' w6 ho' hg'
          have HO' := Lib.hid ho'
          have HK' := Lib.hid (grown_keeps HO5.out HM5.out (Nat.le_refl _) hg')
          have HB' := Lib.hid (((Mods.refl (fun i => u6.ownBlock = some i) w5).alloc _).grown hg' (fun _ _ h => h) |>.at HB5.out (HO5.out.ne HB5.out (by decide)))
          clear ho' hg'
          go_wp2
          go_roundw
          case rel => exact ⟨m + 1, by omega, by go_num, by rw [HTM.out]; simpa using HO'.out, HK'.out, HB'.out⟩
          case measure => simp [intOf]; omega
        · have e : m = z := by omega
          subst e
          rw [List.take_of_length_le (by rw [bigL_len]; exact Nat.le_refl _)] at HOI
          clear hmi hown hbx
          go_wp2
          go_roundw
          case rel => exact ⟨j + 1, by omega, by go_num, by rw [HTJ.out]; exact HOI.out, HMI.out⟩
          case measure => simp [intOf]; omega
    · have e : j = cs.length := by omega
      subst e
      have HF : Hid (BO w1.heap.size wr u6 WB) := Lib.hid (by rw [HW.out, ← HB1.out]; exact hown)
      rcases hown.2 with ⟨rfl, _⟩ | ⟨g, cap, cur, rfl, _⟩
      all_goals
        clear hm hown
        go_wp2
        go_ret2
        exact ⟨_, rfl, HF.out.base (by omega), HK1.out.keep HM.out⟩
end Go.Proofs.Ytljcodkcmenpaaa
