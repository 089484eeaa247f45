/- Lists of validators; the reference of the registry; All. -/
import Derived.Test.YthngncklmkneoaaRgsE
import Derived.Laws.AppendOwnNone
namespace Go.Eg
open Go Go.RowKit
/-- the slice v holds the validators l -/
def VL (w : World) (v : Value) (l : List Vd) : Prop :=
  ∃ a cap, v = .slice a l.length cap ∧ (a = none → cap = 0) ∧ (0 < l.length → ∃ b off, a = some ⟨b, off, none⟩ ∧ ∀ i (hi : i < l.length) j, j < 7 → w.cell? ⟨b, off + i * 7 + j, none⟩ = l[i].cells.toList[j]?)
theorem VL.mods {S : Nat → Prop} {a b : World} {v : Value} {l : List Vd} (h : VL a v l) (hm : Mods S a b) (hS : ∀ k, v.ownBlock = some k → ¬ S k) : VL b v l := by
  obtain ⟨p, cap, rfl, h0, hx⟩ := h
  refine ⟨p, cap, rfl, h0, fun hl => ?_⟩
  obtain ⟨g, off, rfl, hc⟩ := hx hl
  refine ⟨g, off, rfl, fun i hi j hj => ?_⟩
  have h1 := hc i hi j hj
  obtain ⟨u, hu⟩ : ∃ u, l[i].cells.toList[j]? = some u := ⟨_, List.getElem?_eq_getElem (l := l[i].cells.toList) (i := j) (by show j < 7; exact hj)⟩
  rw [hu] at h1 ⊢
  exact hm.cell h1 (hS g rfl)
theorem VL.keeps {a b : World} {v : Value} {l : List Vd} (h : VL a v l) (hm : Keeps a b) : VL b v l := h.mods hm fun _ _ h => h
theorem VL.slice {w : World} {v : Value} {l : List Vd} (h : VL w v l) : ∃ a cap, v = .slice a l.length cap := by
  obtain ⟨a, cap, h, _⟩ := h
  exact ⟨a, cap, h⟩
theorem VL.of_owns {w : World} {B : Nat} {e : TypeId} {v : Value} {l : List Vd} (h : w.ownsRow B e 7 v l.length (flatV l)) : VL w v l := by
  rcases h.2 with ⟨rfl, h0⟩ | ⟨b, cap, cur, rfl, hg, hh, r⟩
  · exact ⟨none, 0, by rw [h0], fun _ => rfl, fun hl => by omega⟩
  · refine ⟨_, cap, rfl, (fun h => by cases h), fun hl => ⟨b, 0, rfl, fun i hi j hj => ?_⟩⟩
    rw [Nat.zero_add, h.cellAt (i * 7 + j) (by omega), flatV_at l i hi j hj]
theorem VL.nil (w : World) : VL w (.slice none 0 0) [] := ⟨none, 0, rfl, fun _ => rfl, fun h => by simp at h⟩
theorem VL.news {w : World} {b off cap : Nat} {l : List Vd} (h : VL w (.slice (some ⟨b, off, none⟩) l.length cap) l) : ∀ j u, (flatV l)[j]? = some u → w.cell? ((⟨b, off, none⟩ : Addr).add j) = some u := by
  intro j u hu
  have hj : j < l.length * 7 := by have := (List.getElem?_eq_some_iff.1 hu).1; rw [flatV_len] at this; exact this
  obtain ⟨a, c, e, _, hx⟩ := h
  simp only [Value.slice.injEq] at e
  obtain ⟨rfl, _, rfl⟩ := e
  obtain ⟨b', off', e, hc⟩ := hx (by omega)
  simp only [Option.some.injEq, Addr.mk.injEq, and_true] at e
  obtain ⟨rfl, rfl⟩ := e
  have hd : j / 7 < l.length := by omega
  have h1 := hc (j / 7) hd (j % 7) (by omega)
  have h2 := flatV_at l (j / 7) hd (j % 7) (by omega)
  rw [show j / 7 * 7 + j % 7 = j from by omega] at h2
  rw [addr_add, ← hu, h2, ← h1, show b = b from rfl, Nat.add_assoc, show j / 7 * 7 + j % 7 = j from by omega]
theorem flatV_one (l : List Vd) : ∀ u ∈ flatV l, u.oneCell' = true := by
  intro u hu
  unfold flatV at hu
  obtain ⟨v, _, h⟩ := List.mem_flatMap.1 hu
  simp at h
  rcases h with rfl | rfl | rfl | rfl | rfl | rfl | rfl <;> rfl
theorem VL.at {w : World} {a : Option Addr} {cap : Nat} {l : List Vd} (h : VL w (.slice a l.length cap) l) (i : Nat) (hi : i < l.length) :
    ∃ b off, a = some ⟨b, off, none⟩ ∧ w.cell? ⟨b, off + i * 7, none⟩ = some (.int .u64 l[i].bal) ∧ w.cell? ⟨b, off + i * 7 + 1, none⟩ = some (.int .i64 l[i].st) ∧ w.cell? ⟨b, off + i * 7 + 2, none⟩ = some (.bool l[i].sl) ∧
      w.cell? ⟨b, off + i * 7 + 3, none⟩ = some (.int .i64 l[i].rq) ∧ w.cell? ⟨b, off + i * 7 + 4, none⟩ = some (.int .i64 l[i].ex) ∧ w.cell? ⟨b, off + i * 7 + 5, none⟩ = some (.int .i64 l[i].wd) ∧ w.cell? ⟨b, off + i * 7 + 6, none⟩ = some (.int .i64 l[i].dl) := by
  obtain ⟨a', c, e, _, hx⟩ := h
  simp only [Value.slice.injEq] at e
  obtain ⟨rfl, _, rfl⟩ := e
  obtain ⟨b, off, rfl, hc⟩ := hx (by omega)
  have c0 := hc i hi 0 (by omega)
  rw [Nat.add_zero] at c0
  exact ⟨b, off, rfl, c0, hc i hi 1 (by omega), hc i hi 2 (by omega), hc i hi 3 (by omega), hc i hi 4 (by omega), hc i hi 5 (by omega), hc i hi 6 (by omega)⟩
theorem take_step {l : List Vd} {k : Nat} (hk : k < l.length) : l.take (k + 1) = l.take k ++ [l[k]] := by simp
/-- the balances, as a function -/
def balF (l : List Vd) (j : Nat) : Int := ((l[j]?).map Vd.bal).getD 0
theorem sum_balF (l : List Vd) : ∀ k, k ≤ l.length → sumF (balF l) k = totS (l.take k)
  | 0, _ => rfl
  | k + 1, hk => by
    rw [sumF, sum_balF l k (by omega), take_step (show k < l.length by omega), totS_append]
    simp [balF, List.getElem?_eq_getElem (show k < l.length by omega)]
theorem addOk_bal (l : List Vd) : addOk (balF l) l.length = decide (totS l ≤ maxU) := by
  unfold addOk
  rw [sum_balF l l.length (Nat.le_refl _), List.take_length]
theorem addV_bal (l : List Vd) : addV (balF l) l.length = if totS l ≤ maxU then totS l else 0 := by
  unfold addV
  rw [sum_balF l l.length (Nat.le_refl _), List.take_length]
theorem amts_owns {w : World} {B : Nat} {e : TypeId} {v : Value} {l : List Vd} (h : w.ownsRow B e 1 v l.length (l.map fun x => Value.int .u64 x.bal)) (hok : ∀ v ∈ l, v.ok) : Amts w v l.length (balF l) := by
  have hf : ∀ j, j < l.length → 0 ≤ balF l j ∧ balF l j ≤ maxU := fun j hj => by
    have := hok l[j] (List.getElem_mem hj)
    simp only [balF, List.getElem?_eq_getElem hj, Option.map_some, Option.getD_some]
    exact ⟨this.b0, this.b1⟩
  refine ⟨?_, hf⟩
  rcases Sl.of_owns h with ⟨rfl, hx⟩ | ⟨b, off, cap, rfl, hc, hx⟩
  · have : l.length = 0 := by simpa using congrArg List.length hx
    exact ⟨none, 0, by rw [this], fun h => by omega⟩
  · refine ⟨_, cap, by rw [List.length_map], fun _ => ⟨b, off, rfl, fun j hj => hx j _ ?_⟩⟩
    simp [balF, List.getElem?_eq_getElem hj]
end Go.Eg
namespace Go.Proofs.Ythngncklmkneoaa
open Go.RowKit Go.Eg
theorem infoU : (Try.prog.info? 27).map (fun i => (i.zero, i.size, i.bytes)) = some (some (Value.int .u64 0), 1, 8) := by kernel_rfl
theorem balances_any (v : Value) (l : List Vd) (w : World) (h : VL w v l) (hn : l.length ≤ 8192) :
    Calls Try.prog 30 #[v] w fun r w' => ∃ v', r = .returned v' ∧ w'.ownsRow w.heap.size 27 1 v' l.length (l.map fun x => Value.int .u64 x.bal) ∧ Keeps w w' := by
  have H := Lib.hid h
  obtain ⟨a, cap, rfl⟩ := h.slice
  obtain ⟨i0, hi, hz0, hz1, hz2⟩ := info_parts infoU
  clear h
  go_enter Try.func30, Try.ntmps30
  go_wp2
  go_loopw [3, 4] (fun s i wr => ∃ k : Nat, k ≤ l.length ∧ i = .int .i64 k ∧ wr.ownsRow w.heap.size 27 1 s k ((l.take k).map fun x => Value.int .u64 x.bal) ∧ Keeps w wr) (fun _ i _ => l.length - (intOf i).toNat)
  case atStart => exact ⟨0, Nat.zero_le _, rfl, World.ownsRow_nil _ _ _ _, Mods.refl _ _⟩
  case round =>
    obtain ⟨k, hk, rfl, hown, hm⟩ := hrel
    have HM := Lib.hid hm
    by_cases hlt : k < l.length
    · obtain ⟨b, off, rfl, x0, _⟩ := (H.out.keeps hm).at k hlt
      have ht := take_step hlt
      have HT := Lib.hid ht
      generalize hx : l[k].bal = x at *
      have HX := Lib.hid hx
      have hsz := hm.size
      have hb := cell_lt x0
      clear hm ht hx
      go_wp2_with (at_builtin; refine wpList_append_own _ rfl _ _ 62 rfl w.heap.size 27 i0 (.int .u64 0) 1 8 Try.underlying62 hi hz0 hz1 hz2 rfl (by decide) _ _ _ rfl (hown.alloc _) ⟨wr.heap.size, 0, none⟩ 1 1 [.int .u64 x] rfl rfl (World.news_of_block (heap_alloc_last wr (.cells #[.int .u64 x] 27))) (fun u hu => by simp at hu; subst hu; rfl) (by unfold maxLen; omega) (by omega) (by simp; omega) ?_)
      intro v' w3 hown3 hgrow _
      go_wp2
      go_roundw
      case rel => 
        refine ⟨k + 1, by omega, by go_num, ?_, ?_⟩
        · rw [HT.out, List.map_append, List.map_take]
          simp only [List.map_cons, List.map_nil, HX.out]
          exact hown3
        · refine (HM.out.alloc _).grown hgrow fun j hj e => ?_
          have := (hown.lt _ e).1
          omega
      case measure => simp [intOf]; omega
    · have hkn : k = l.length := by omega
      subst hkn
      rw [List.take_length] at hown
      clear hm
      go_wp2
      go_ret
      exact ⟨_, rfl, hown, HM.out⟩
theorem fits_any (v : Value) (l : List Vd) (w : World) (h : VL w v l) (hn : l.length ≤ 8192) (hok : ∀ v ∈ l, v.ok) :
    Calls Try.prog 24 #[v] w fun r w' => r = .returned (.bool (decide (totS l ≤ maxU))) ∧ Keeps w w' := by
  have HB := Lib.hid (balances_any v l w h hn)
  have HK := Lib.hid hok
  clear h hok
  go_enter Try.func24, Try.ntmps24
  go_wp2_with fail
  refine HB.out.mono ?_
  rintro r w1 ⟨v', rfl, hown, hm⟩
  have HM := Lib.hid hm
  have HO := Lib.hid hown
  clear hm hown
  go_wp2_with fail
  refine (refAdd_any v' l.length (balF l) w1 (amts_owns HO.out HK.out) (by omega)).mono ?_
  rw [addOk_bal]
  rintro r w2 ⟨rfl, hd⟩
  have HD := Lib.hid hd
  clear hd
  go_wp2
  go_ret
  exact ⟨rfl, HM.out.keep HD.out.mods⟩
theorem total_any (v : Value) (l : List Vd) (w : World) (h : VL w v l) (hn : l.length ≤ 8192) (hok : ∀ v ∈ l, v.ok) (ht : totS l ≤ maxU) :
    Calls Try.prog 21 #[v] w fun r w' => r = .returned (.int .u64 (totS l)) ∧ Keeps w w' := by
  have HB := Lib.hid (balances_any v l w h hn)
  have HK := Lib.hid hok
  have HT := Lib.hid ht
  clear h hok ht
  go_enter Try.func21, Try.ntmps21
  go_wp2_with fail
  refine HB.out.mono ?_
  rintro r w1 ⟨v', rfl, hown, hm⟩
  have HM := Lib.hid hm
  have HO := Lib.hid hown
  clear hm hown
  go_wp2_with fail
  refine (refAdd_any v' l.length (balF l) w1 (amts_owns HO.out HK.out) (by omega)).mono ?_
  rw [addV_bal, if_pos HT.out]
  rintro r w2 ⟨rfl, hd⟩
  have HD := Lib.hid hd
  clear hd
  go_wp2
  go_ret
  exact ⟨rfl, HM.out.keep HD.out.mods⟩
theorem refLive_any (s : Int) (w : World) :
    Calls Try.prog 28 #[.int .i64 s] w fun r w' => r = .returned (.bool (s == 2 || s == 3)) ∧ w = w' := by
  go_enter Try.func28, Try.ntmps28
  go_wp2
  all_goals
    go_ret
    refine ⟨ret_bool ?_, rfl⟩
    simp_all
theorem active_any (v : Value) (l : List Vd) (w : World) (h : VL w v l) (hn : l.length ≤ 8192) (hok : ∀ v ∈ l, v.ok) (ht : totS l ≤ maxU) :
    Calls Try.prog 20 #[v] w fun r w' => r = .returned (.int .u64 (actS l)) ∧ w = w' := by
  have H := Lib.hid h
  have HK := Lib.hid hok
  have hle := (actS_le hok).2
  have HLE := Lib.hid (Int.le_trans hle ht)
  obtain ⟨a, cap, rfl⟩ := h.slice
  clear h hok ht hle
  go_enter Try.func20, Try.ntmps20
  go_wp2
  go_loop [3, 4] (fun s i => ∃ k : Nat, k ≤ l.length ∧ i = .int .i64 k ∧ s = .int .u64 (actS (l.take k))) (fun _ i => l.length - (intOf i).toNat)
  case atStart => exact ⟨0, Nat.zero_le _, rfl, rfl⟩
  case round =>
    obtain ⟨k, hk, rfl, rfl⟩ := hrel
    by_cases hlt : k < l.length
    · obtain ⟨b, off, rfl, x0, x1, _⟩ := H.out.at k hlt
      have hb := cell_lt x0
      have hw : actS (l.take (k + 1)) = actS (l.take k) + (if l[k].live = true then l[k].bal else 0) := by rw [take_step hlt, actS_append]
      have hr0 := (actS_le (l := l.take k) fun v hv => HK.out v (List.mem_of_mem_take hv)).1
      have hb0 := (HK.out l[k] (List.getElem_mem hlt)).b0
      have hf : actS (l.take (k + 1)) ≤ maxU := by
        have e : actS l = actS (l.take (k + 1)) + actS (l.drop (k + 1)) := by
          have : ∀ a b : List Vd, actS (a ++ b) = actS a + actS b := fun a b => by
            induction a with
            | nil => simp [actS]
            | cons x r ih => simp only [List.cons_append, actS, ih]; omega
          rw [← this, List.take_append_drop]
        have := (actS_le (l := l.drop (k + 1)) fun v hv => HK.out v (List.mem_of_mem_drop hv)).1
        have := HLE.out
        omega
      have hlv : l[k].live = (l[k].st == 2 || l[k].st == 3) := rfl
      rw [hlv] at hw
      have HLV := Lib.hid (refLive_any l[k].st w)
      generalize l[k].bal = x at *
      generalize l[k].st = s at *
      generalize (s == 2 || s == 3) = lb at *
      have HW := Lib.hid hw
      have HF := Lib.hid hf
      have HR0 := Lib.hid hr0
      clear hw hf hlv hr0
      go_wp2_with fail
      refine HLV.out.mono ?_
      rintro r w' ⟨rfl, rfl⟩
      have w1 : IntKind.u64.wrap (actS (l.take k) + x) = actS (l.take k) + x ∨ lb = false := by
        cases lb
        · exact .inr rfl
        · exact .inl (u64_id (by have := HR0.out; omega) (by have h1 := HW.out; have := HF.out; rw [if_pos rfl] at h1; omega))
      cases lb
      · go_wp2
        go_round
        case rel => exact ⟨k + 1, by omega, by go_num, by rw [HW.out]; simp⟩
        case measure => simp [intOf]; omega
      · have w2 : IntKind.u64.wrap (actS (l.take k) + x) = actS (l.take k) + x := by
          rcases w1 with h | h
          · exact h
          · cases h
        clear w1
        go_wp2
        go_round
        case rel => exact ⟨k + 1, by omega, by go_num, by rw [HW.out]; simp⟩
        case measure => simp [intOf]; omega
    · have hkn : k = l.length := by omega
      subst hkn
      rw [List.take_length]
      go_wp2
      go_ret
      exact ⟨rfl, rfl⟩
theorem count_any (v : Value) (l : List Vd) (x : Int) (w : World) (h : VL w v l) (hn : l.length ≤ 8192) :
    Calls Try.prog 13 #[v, .int .i64 x] w fun r w' => r = .returned (.int .i64 (cntS l x)) ∧ w = w' := by
  have H := Lib.hid h
  obtain ⟨a, cap, rfl⟩ := h.slice
  clear h
  go_enter Try.func13, Try.ntmps13
  go_wp2
  go_loop [5, 6] (fun s i => ∃ k : Nat, k ≤ l.length ∧ i = .int .i64 k ∧ s = .int .i64 (cntS (l.take k) x)) (fun _ i => l.length - (intOf i).toNat)
  case atStart => exact ⟨0, Nat.zero_le _, rfl, rfl⟩
  case round =>
    obtain ⟨k, hk, rfl, rfl⟩ := hrel
    by_cases hlt : k < l.length
    · obtain ⟨b, off, rfl, _, x1, _⟩ := H.out.at k hlt
      have hb := cell_lt x1
      have hw : cntS (l.take (k + 1)) x = cntS (l.take k) x + (if l[k].st = x then 1 else 0) := by rw [take_step hlt, cntS_append]
      have hr0 := cntS_range (l.take k) x
      have hr1 : ((l.take k).length : Int) ≤ 8192 := by rw [List.length_take]; omega
      generalize l[k].st = s at *
      generalize cntS (l.take k) x = q at *
      have HW := Lib.hid hw
      have w1 : wrap64 (q + 1) = q + 1 := wrap64_id (by omega) (by omega)
      clear hw hr0 hr1
      by_cases hsx : s = x
      · subst hsx
        go_wp2
        go_round
        case rel => exact ⟨k + 1, by omega, by go_num, by rw [HW.out, if_pos rfl, w1]⟩
        case measure => simp [intOf]; omega
      · have hsb : (s == x) = false := by simpa using hsx
        clear hsx
        go_wp2
        go_round
        case rel => exact ⟨k + 1, by omega, by go_num, by rw [HW.out, if_neg (by simpa using hsb)]; simp⟩
        case measure => simp [intOf]; omega
    · have hkn : k = l.length := by omega
      subst hkn
      rw [List.take_length]
      go_wp2
      go_ret
      exact ⟨rfl, rfl⟩
theorem appendAll {ops : Array Oper} {rest : List Oper} {o : Oper} {a : Act} {Q : Exit → Act → World → Prop} (w : World) (hgd : o.guard = none) (s x : Operand)
    (ho : o.op = .call { callee := .builtin .append, args := #[s, x], argTypes := #[26, 26] })
    (B : Nat) (v : Value) (l0 l : List Vd) (hs : a.eval s = v) (hown : w.ownsRow B 29 7 v l0.length (flatV l0)) (u : Value) (hx : a.eval x = u) (hu : VL w u l) (hn : l0.length + l.length ≤ 8192) (hB : B ≤ w.heap.size)
    (h : ∀ v' w', w'.ownsRow B 29 7 v' (l0 ++ l).length (flatV (l0 ++ l)) → w.grownBy w' v.ownBlock → wpList Try.prog ops Q rest (a.put o.dst v') w') : wpList Try.prog ops Q (o :: rest) a w := by
  obtain ⟨i0, hi, hz0, hz1, hz2⟩ := info_parts infoV
  have hU := hu
  obtain ⟨ad, cap, rfl, h0, hc⟩ := hu
  have hf : flatV (l0 ++ l) = flatV l0 ++ flatV l := by simp [flatV]
  cases ad with
  | none =>
    obtain rfl := h0 rfl
    have hl : l = [] := by
      by_cases e : 0 < l.length
      · obtain ⟨_, _, e, _⟩ := hc e
        cases e
      · exact List.length_eq_zero_iff.1 (by omega)
    subst hl
    refine wpList_append_own_none hgd s x _ ho B _ i0 7 Try.underlying26 hi v l0.length (flatV l0) hs hown hx (h v w ?_ ?_)
    · simpa using hown
    · exact ⟨rfl, rfl, rfl, Nat.le_refl _, fun _ _ _ => rfl⟩
  | some ad =>
    refine wpList_append_own w hgd s x _ ho B _ i0 _ 7 56 Try.underlying26 hi hz0 hz1 hz2 rfl (by decide) v l0.length (flatV l0) hs hown ad l.length cap (flatV l) hx (flatV_len l) ?_ (flatV_one l) (by unfold maxLen; omega) (by omega) hB ?_
    · by_cases e : 0 < l.length
      · obtain ⟨b, off, e, _⟩ := hc e
        simp only [Option.some.injEq] at e
        subst e
        exact hU.news
      · have : l = [] := List.length_eq_zero_iff.1 (by omega)
        subst this
        intro j u hu
        simp [flatV] at hu
    · intro v' w' ho' hg _
      refine h v' w' ?_ hg
      rw [hf, List.length_append]
      exact ho'
theorem sliceNil (w : World) (n c : Nat) (ad : Addr) : (binOp .eql 26 (.slice (some ad) n c) (.slice none 0 0)).run Try.prog w = .ok (.bool false) w := rfl
theorem sliceNil2 (w : World) : (binOp .eql 26 (.slice none 0 0) (.slice none 0 0)).run Try.prog w = .ok (.bool true) w := rfl
theorem clone_any (v : Value) (l : List Vd) (w : World) (h : VL w v l) (hn : l.length ≤ 8192) :
    Calls Try.prog 31 #[v] w fun r w' => ∃ v', r = .returned v' ∧ w'.ownsRow w.heap.size 29 7 v' l.length (flatV l) ∧ Keeps w w' := by
  have H := Lib.hid h
  obtain ⟨a, cap, rfl, h0, hc⟩ := h
  by_cases hnil : a = none
  · have := h0 hnil
    have hl : l = [] := by
      by_cases e : 0 < l.length
      · obtain ⟨_, _, e, _⟩ := hc e
        rw [hnil] at e
        cases e
      · exact List.length_eq_zero_iff.1 (by omega)
    subst this hnil hl
    have hsn := sliceNil2
    go_enter Try.func31, Try.ntmps31
    go_wp2
    go_ret
    exact ⟨_, rfl, World.ownsRow_nil _ _ _ _, Mods.refl _ _⟩
  · obtain ⟨ad, rfl⟩ := Option.ne_none_iff_exists'.1 hnil
    clear h0 hc hnil
    have hsn := sliceNil
    go_enter Try.func31, Try.ntmps31
    go_wp2_with (at_builtin; refine appendAll _ rfl (.tmp 5) (.tmp 6) rfl w.heap.size (.slice (some ⟨w.heap.size, 0, none⟩) 0 0) [] l rfl ?_ _ rfl (H.out.keeps ((Mods.refl _ w).alloc _)) (by simpa using hn) (by simp) ?_)
    · exact World.ownsRow_lit w #[] 0 (Nat.le_refl _) (by unfold maxLen; omega) rfl
    · intro v' w' ho hg
      have HO := Lib.hid ho
      have HG := Lib.hid hg
      obtain ⟨a', c', rfl⟩ := owns_slice' ho
      clear ho hg
      go_wp2
      go_ret
      exact ⟨_, rfl, HO.out, ((Mods.refl _ w).alloc _).grown HG.out (fun j hj e => by simp [Value.ownBlock] at e; omega)⟩
theorem regAll_nil (w : World) : Calls Try.prog 23 #[.pointer none] w fun r w' => r = .returned (.slice none 0 0) ∧ w = w' := by
  go_enter Try.func23, Try.ntmps23
  go_wp2
  go_ret
  exact ⟨rfl, rfl⟩
theorem regAll_any {B : Nat} {w : World} {g m : Nat} {lv : Value} {cap : Int} {l : List Vd} {n : Nat} (h : RegAt B w g m lv cap l n) :
    Calls Try.prog 23 #[.pointer (some ⟨g, 0, none⟩)] w fun r w' => ∃ v', r = .returned v' ∧ w'.ownsRow w.heap.size 29 7 v' l.length (flatV l) ∧ Keeps w w' := by
  obtain ⟨_, c1, _, _, _⟩ := reg_cells h.blk
  have hlen : l.length ≤ 4096 := by have := h.len; have := h.cap; omega
  obtain ⟨a, c, rfl⟩ := owns_slice' h.row
  have HC := Lib.hid (clone_any _ l w (VL.of_owns h.row) (by omega))
  clear h
  go_enter Try.func23, Try.ntmps23
  go_wp2_with fail
  refine HC.out.mono ?_
  rintro r w1 ⟨v', rfl, ho, hm⟩
  have HO := Lib.hid ho
  have HM := Lib.hid hm
  obtain ⟨a', c', rfl⟩ := owns_slice' ho
  clear ho hm
  go_wp2
  go_ret
  exact ⟨_, rfl, HO.out, HM.out⟩
set_option maxHeartbeats 400000 in
theorem put_any (v : Value) (l : List Vd) (i : Nat) (x : Vd) (w : World) (h : VL w v l) (hn : l.length ≤ 8192) (hi : i < l.length) :
    Calls Try.prog 25 #[v, .int .i64 (i : Int), x.val] w fun r w' => ∃ v', r = .returned v' ∧ w'.ownsRow w.heap.size 29 7 v' (l.set i x).length (flatV (l.set i x)) ∧ Keeps w w' := by
  have H := Lib.hid h
  obtain ⟨a, cap, rfl, h0, hc⟩ := h
  obtain ⟨ad, rfl⟩ : ∃ ad, a = some ad := by
    obtain ⟨b, off, e, _⟩ := hc (by omega)
    exact ⟨_, e⟩
  have hil : (i : Int) < (l.length : Int) := by omega
  obtain ⟨bal, st, sl, rq, ex, wd, dl⟩ := x
  clear h0 hc
  go_enter Try.func25, Try.ntmps25
  go_wp2_with (at_builtin; refine appendAll _ rfl (.tmp 8) (.tmp 9) rfl w.heap.size (.slice (some ⟨w.heap.size + 1, 0, none⟩) 0 0) [] l rfl ?_ _ rfl (H.out.keeps (((Mods.refl _ w).alloc _).alloc _)) (by simpa using hn) (by simp; omega) ?_)
  · have h := World.ownsRow_lit (base := w.heap.size) (e := 29) (size := 7) (w.alloc (.cells (Vd.cells ⟨bal, st, sl, rq, ex, wd, dl⟩) 29)) #[] 0 (by simp) (by unfold maxLen; omega) rfl
    rw [size_alloc1] at h
    exact h
  · intro v' w1 ho hg
    have hm1 : Keeps w w1 := (((Mods.refl (fun _ => False) w).alloc (.cells (Vd.cells ⟨bal, st, sl, rq, ex, wd, dl⟩) 29)).alloc (.cells #[] 29)).grown hg (fun j hj e => by simp [Value.ownBlock] at e; omega)
    have hvb := ((((Mods.refl (fun _ => False) (w.alloc (.cells (Vd.cells ⟨bal, st, sl, rq, ex, wd, dl⟩) 29))).alloc (.cells #[] 29)).grown hg (fun j hj e => by simp [Value.ownBlock] at e hj; omega))).at (heap_alloc_last w (.cells (Vd.cells ⟨bal, st, sl, rq, ex, wd, dl⟩) 29)) (fun h => h)
    have HO := Lib.hid ho
    have HM := Lib.hid hm1
    obtain ⟨a', c', rfl⟩ := owns_slice' ho
    obtain ⟨b, rfl, hBb, hrc⟩ := row_at ho i hi
    have u0 : w1.cell? ⟨w.heap.size, 0, none⟩ = some (.int .u64 bal) := block_cell hvb 0 rfl
    have u1 : w1.cell? ⟨w.heap.size, 1, none⟩ = some (.int .i64 st) := block_cell hvb 1 rfl
    have u2 : w1.cell? ⟨w.heap.size, 2, none⟩ = some (.bool sl) := block_cell hvb 2 rfl
    have u3 : w1.cell? ⟨w.heap.size, 3, none⟩ = some (.int .i64 rq) := block_cell hvb 3 rfl
    have u4 : w1.cell? ⟨w.heap.size, 4, none⟩ = some (.int .i64 ex) := block_cell hvb 4 rfl
    have u5 : w1.cell? ⟨w.heap.size, 5, none⟩ = some (.int .i64 wd) := block_cell hvb 5 rfl
    have u6 : w1.cell? ⟨w.heap.size, 6, none⟩ = some (.int .i64 dl) := block_cell hvb 6 rfl
    obtain ⟨r0, z0⟩ := hrc 0 (by omega)
    obtain ⟨r1, z1⟩ := hrc 1 (by omega)
    obtain ⟨r2, z2⟩ := hrc 2 (by omega)
    obtain ⟨r3, z3⟩ := hrc 3 (by omega)
    obtain ⟨r4, z4⟩ := hrc 4 (by omega)
    obtain ⟨r5, z5⟩ := hrc 5 (by omega)
    obtain ⟨r6, z6⟩ := hrc 6 (by omega)
    rw [Nat.add_zero] at r0 z0
    generalize l[i] = o at *
    obtain ⟨bal', st', sl', rq', ex', wd', dl'⟩ := o
    have HI := Lib.hid hi
    clear hrc ho hg hm1 hvb hi
    go_wp2
    go_ret
    have hp := putV_row HO.out i HI.out ⟨bal, st, sl, rq, ex, wd, dl⟩
    rw [List.length_set] at hp
    exact ⟨_, rfl, hp, HM.out.seq (putV_mods w1 b i ⟨bal, st, sl, rq, ex, wd, dl⟩) fun _ hi e => by omega⟩
theorem same_any (v u : Value) (l : List Vd) (w : World) (hv : VL w v l) (hu : VL w u l) (hn : l.length ≤ 8192) :
    Calls Try.prog 22 #[v, u] w fun r w' => r = .returned (.bool true) ∧ Drawn w w' := by
  have HV := Lib.hid hv
  have HU := Lib.hid hu
  obtain ⟨a, cap, rfl⟩ := hv.slice
  obtain ⟨a', cap', rfl⟩ := hu.slice
  clear hv hu
  go_enter Try.func22, Try.ntmps22
  go_wp2
  go_loopw [5] (fun i wr => ∃ k : Nat, k ≤ l.length ∧ i = .int .i64 k ∧ Drawn w wr) (fun i _ => l.length - (intOf i).toNat)
  case atStart => exact ⟨0, Nat.zero_le _, rfl, Drawn.refl _⟩
  case round =>
    obtain ⟨k, hk, rfl, hd⟩ := hrel
    have HD := Lib.hid hd
    by_cases hlt : k < l.length
    · obtain ⟨b, off, rfl, x0, x1, x2, x3, x4, x5, x6⟩ := (HV.out.keeps hd.mods).at k hlt
      obtain ⟨b', off', rfl, y0, y1, y2, y3, y4, y5, y6⟩ := (HU.out.keeps hd.mods).at k hlt
      have b1 : (0 : Int) ≤ (k : Int) := by omega
      have b2 : (k : Int) < (l.length : Int) := by omega
      generalize l[k] = o at *
      obtain ⟨bal, st, sl, rq, ex, wd, dl⟩ := o
      clear hd
      go_wp2
      go_quiet (fail)
      go_wp2
      go_roundw
      case rel => exact ⟨k + 1, by omega, by go_num, HD.out.trans (Drawn.mk _ _)⟩
      case measure => simp [intOf]; omega
    · clear hd
      go_wp2
      go_ret
      exact ⟨rfl, HD.out⟩
end Go.Proofs.Ythngncklmkneoaa
