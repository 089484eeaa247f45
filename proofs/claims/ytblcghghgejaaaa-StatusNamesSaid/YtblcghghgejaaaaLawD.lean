/- The walk of StatusNames. -/
import Derived.Test.YtblcghghgejaaaaLawC
namespace Go.Proofs.Ytblcghghgejaaaa
open Go.RowKit Go.Maps Go.Eg
set_option maxHeartbeats 800000 in
theorem statusNames_walk (s : Int) (v : ByteArray) (w : World) (_w0 : (Lit.int .i64 s).wf = true) (_w1 : v.size ≤ maxLen) :
    Calls Try.prog 8 #[.int .i64 s, .string v] w fun e w' => e = .returned (.bool true) ∧ Below w.heap.size w w' := by
  obtain ⟨r1, r2⟩ := nameIdx_range v
  have K1 : Hid (kn v 7 = nameIdx v + 1) := Lib.hid (kn_end v)
  by_cases hs : 1 ≤ s ∧ s ≤ 7
  · have X1 : Hid (nameIdx (nameOf s) = s - 1) := Lib.hid (nameIdx_name hs)
    have X2 : (nameOf s).toList.isEmpty = false := nameOf_nonempty hs
    have X3 : Hid (nameOf s = nameAt (s.toNat - 1)) := Lib.hid (by unfold nameOf; rw [if_pos hs])
    obtain ⟨h1, h2⟩ := hs
    go_enter Try.func8, Try.ntmps8
    go_wp2_with fail
    refine (refNames_any _).mono ?_
    rintro r w2 ⟨rfl, hb, hsz, hc⟩
    have hcs := hc (s.toNat - 1) (by omega)
    rw [← X3.out] at hcs
    clear hc
    go_wp2_with fail
    refine (parse_any v _).mono ?_
    rintro r w3 ⟨rfl, hb3⟩
    have hb := hb.trans (hb3.mono hb.size)
    clear hb3 hcs hsz
    go_wp2_with fail
    refine (name_any s _).mono ?_
    rintro r w4 ⟨rfl, hb3⟩
    have hb := hb.trans (hb3.mono hb.size)
    clear hb3
    go_wp2_with fail
    refine (parse_any (nameOf s) _).mono ?_
    rw [X1.out]
    rintro r w5 ⟨rfl, hb3⟩
    have hb := hb.trans (hb3.mono hb.size)
    clear hb3
    go_wp2_with fail
    refine (refNames_any _).mono ?_
    rintro r w6 ⟨rfl, hb3, hsz, hc⟩
    have hb := hb.trans (hb3.mono hb.size)
    clear hb3
    have HC := Lib.hid hc
    clear hc
    have Hn : Hid (nameIdx v + 1 = kn v 7) := Lib.hid K1.out.symm
    generalize hi : nameIdx v = i at *
    have HI := Lib.hid hi
    clear hi
    go_wp2_with fail
    go_loop [10, 37] (fun kk i => ∃ k : Nat, k ≤ 7 ∧ i = .int .i64 k ∧ kk = .int .i64 (kn v k)) (fun _ i => 7 - (intOf i).toNat)
    case atStart => exact ⟨0, by omega, rfl, by unfold kn; rw [if_neg (by omega)]⟩
    case round =>
      obtain ⟨k, hk, rfl, rfl⟩ := hrel
      by_cases hlt : k < 7
      · have hcs := HC.out k hlt
        by_cases he : (nameAt k).toList = v.toList
        · have hb0 : ((nameAt k).toList == v.toList) = true := by simpa using he
          have E := Lib.hid (kn_hit hlt (bytes_inj he))
          clear he
          go_wp2
          go_round
          case rel => exact ⟨k + 1, by omega, by go_num, by rw [E.out]⟩
          case measure => simp [intOf]; omega
        · have hb0 : ((nameAt k).toList == v.toList) = false := by simpa using he
          have E := Lib.hid (kn_miss (v := v) (fun e => he (by rw [e])))
          clear he
          go_wp2
          go_round
          case rel => exact ⟨k + 1, by omega, by go_num, by rw [E.out]⟩
          case measure => simp [intOf]; omega
      · obtain rfl : k = 7 := by omega
        rw [← Hn.out]
        go_wp2_with fail
        refine (alive_any _).mono ?_
        rintro r w7 ⟨rfl, hb3⟩
        have hb := hb.trans (hb3.mono hb.size)
        clear hb3
        go_wp2_with fail
        refine (name_any s _).mono ?_
        rintro r w8 ⟨rfl, hb3⟩
        have hb := hb.trans (hb3.mono hb.size)
        clear hb3
        go_wp2
        go_ret
        exact ⟨rfl, hb⟩
  · have X1 : Hid (nameIdx ⟨#[]⟩ = -1) := Lib.hid nameIdx_empty
    have X3 : Hid (nameOf s = ⟨#[]⟩) := Lib.hid (by unfold nameOf; rw [if_neg hs])
    by_cases h1 : 1 ≤ s
    · have h2 : 7 < s := by omega
      clear hs
      go_enter Try.func8, Try.ntmps8
      go_wp2_with fail
      refine (parse_any v _).mono ?_
      rintro r w3 ⟨rfl, hb⟩
      go_wp2_with fail
      refine (name_any s _).mono ?_
      rw [X3.out]
      rintro r w4 ⟨rfl, hb3⟩
      have hb := hb.trans (hb3.mono hb.size)
      clear hb3
      go_wp2_with fail
      refine (parse_any ⟨#[]⟩ _).mono ?_
      rw [X1.out]
      rintro r w5 ⟨rfl, hb3⟩
      have hb := hb.trans (hb3.mono hb.size)
      clear hb3
      go_wp2_with fail
      refine (refNames_any _).mono ?_
      rintro r w6 ⟨rfl, hb3, hsz, hc⟩
      have hb := hb.trans (hb3.mono hb.size)
      clear hb3
      have HC := Lib.hid hc
      clear hc
      have Hn : Hid (nameIdx v + 1 = kn v 7) := Lib.hid K1.out.symm
      generalize hi : nameIdx v = i at *
      have HI := Lib.hid hi
      clear hi
      go_wp2_with fail
      go_loop [10, 37] (fun kk i => ∃ k : Nat, k ≤ 7 ∧ i = .int .i64 k ∧ kk = .int .i64 (kn v k)) (fun _ i => 7 - (intOf i).toNat)
      case atStart => exact ⟨0, by omega, rfl, by unfold kn; rw [if_neg (by omega)]⟩
      case round =>
        obtain ⟨k, hk, rfl, rfl⟩ := hrel
        by_cases hlt : k < 7
        · have hcs := HC.out k hlt
          by_cases he : (nameAt k).toList = v.toList
          · have hb0 : ((nameAt k).toList == v.toList) = true := by simpa using he
            have E := Lib.hid (kn_hit hlt (bytes_inj he))
            clear he
            go_wp2
            go_round
            case rel => exact ⟨k + 1, by omega, by go_num, by rw [E.out]⟩
            case measure => simp [intOf]; omega
          · have hb0 : ((nameAt k).toList == v.toList) = false := by simpa using he
            have E := Lib.hid (kn_miss (v := v) (fun e => he (by rw [e])))
            clear he
            go_wp2
            go_round
            case rel => exact ⟨k + 1, by omega, by go_num, by rw [E.out]⟩
            case measure => simp [intOf]; omega
        · obtain rfl : k = 7 := by omega
          rw [← Hn.out]
          go_wp2_with fail
          refine (alive_any _).mono ?_
          rintro r w7 ⟨rfl, hb3⟩
          have hb := hb.trans (hb3.mono hb.size)
          clear hb3
          go_wp2_with fail
          refine (name_any s _).mono ?_
          rw [X3.out]
          rintro r w8 ⟨rfl, hb3⟩
          have hb := hb.trans (hb3.mono hb.size)
          clear hb3
          go_wp2
          go_ret
          exact ⟨rfl, hb⟩
    · clear hs
      go_enter Try.func8, Try.ntmps8
      go_wp2_with fail
      refine (parse_any v _).mono ?_
      rintro r w3 ⟨rfl, hb⟩
      go_wp2_with fail
      refine (name_any s _).mono ?_
      rw [X3.out]
      rintro r w4 ⟨rfl, hb3⟩
      have hb := hb.trans (hb3.mono hb.size)
      clear hb3
      go_wp2_with fail
      refine (parse_any ⟨#[]⟩ _).mono ?_
      rw [X1.out]
      rintro r w5 ⟨rfl, hb3⟩
      have hb := hb.trans (hb3.mono hb.size)
      clear hb3
      go_wp2_with fail
      refine (refNames_any _).mono ?_
      rintro r w6 ⟨rfl, hb3, hsz, hc⟩
      have hb := hb.trans (hb3.mono hb.size)
      clear hb3
      have HC := Lib.hid hc
      clear hc
      have Hn : Hid (nameIdx v + 1 = kn v 7) := Lib.hid K1.out.symm
      generalize hi : nameIdx v = i at *
      have HI := Lib.hid hi
      clear hi
      go_wp2_with fail
      go_loop [10, 37] (fun kk i => ∃ k : Nat, k ≤ 7 ∧ i = .int .i64 k ∧ kk = .int .i64 (kn v k)) (fun _ i => 7 - (intOf i).toNat)
      case atStart => exact ⟨0, by omega, rfl, by unfold kn; rw [if_neg (by omega)]⟩
      case round =>
        obtain ⟨k, hk, rfl, rfl⟩ := hrel
        by_cases hlt : k < 7
        · have hcs := HC.out k hlt
          by_cases he : (nameAt k).toList = v.toList
          · have hb0 : ((nameAt k).toList == v.toList) = true := by simpa using he
            have E := Lib.hid (kn_hit hlt (bytes_inj he))
            clear he
            go_wp2
            go_round
            case rel => exact ⟨k + 1, by omega, by go_num, by rw [E.out]⟩
            case measure => simp [intOf]; omega
          · have hb0 : ((nameAt k).toList == v.toList) = false := by simpa using he
            have E := Lib.hid (kn_miss (v := v) (fun e => he (by rw [e])))
            clear he
            go_wp2
            go_round
            case rel => exact ⟨k + 1, by omega, by go_num, by rw [E.out]⟩
            case measure => simp [intOf]; omega
        · obtain rfl : k = 7 := by omega
          rw [← Hn.out]
          go_wp2_with fail
          refine (alive_any _).mono ?_
          rintro r w7 ⟨rfl, hb3⟩
          have hb := hb.trans (hb3.mono hb.size)
          clear hb3
          go_wp2_with fail
          refine (name_any s _).mono ?_
          rw [X3.out]
          rintro r w8 ⟨rfl, hb3⟩
          have hb := hb.trans (hb3.mono hb.size)
          clear hb3
          go_wp2
          go_ret
          exact ⟨rfl, hb⟩
end Go.Proofs.Ytblcghghgejaaaa
