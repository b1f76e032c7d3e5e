/-
  The reference's Number.
-/
import Derived.Test.YtbhfkhfnljddhaaDoorRows
import Derived.Test.YtbhfkhfnljddhaaDoorLines2
namespace Go.Proofs.YtbhfkhfnljddhaaDoor
open Go.RowKit

set_option maxHeartbeats 4000000 in
set_option maxRecDepth 100000 in
theorem Number01_any (s : ByteArray) (most : Int) (w : World) (hs : s.size ≤ maxLen) (h1 : -9223372036854775808 ≤ most) (h2 : most ≤ 9223372036854775807) :
    Calls Tryd.prog 20 #[.string s, .int .i64 most] w fun e w' => NumRet s.data.toList most e ∧ w = w' := by
  have hl := len_toList s
  unfold maxLen at hs
  by_cases h0 : s.size = 0
  · have hR := Lib.hid (numRet_no s.data.toList most (by rw [isEmpty0 s h0]; simp [numOk]))
    have hz : ((s.size : Int) == 0) = true := by rw [h0]; rfl
    clear hl h0
    go_enter Tryd.func20, Tryd.ntmps20
    go_wp2_with fail
    go_ret2
    exact ⟨hR.out, rfl⟩
  · have hp : 0 < s.size := by omega
    have he := notEmpty s hp
    have hz0 : ((s.size : Int) == 0) = false := by rw [beq_eq_false_iff_ne]; omega
    have HE : Hid (s.data.toList.isEmpty = false) := by
      have := he; rw [Lib.toList_data] at this; exact this
    clear he
    have HH := Lib.hid (head_at s hp)
    by_cases hz : 1 < s.size ∧ s[0].toNat = 48
    · obtain ⟨hz1, hz2⟩ := hz
      have hz3 : ((s[0].toNat : Int) == 48) = true := by rw [hz2]; rfl
      have hR := Lib.hid (numRet_no s.data.toList most (by
        have e : s[0] = 48 := UInt8.toNat_inj.1 hz2
        simp [numOk, HH.out, e, hl, hz1]))
      clear hz2 hl h0
      go_enter Tryd.func20, Tryd.ntmps20
      go_wp2_with fail
      go_ret2
      exact ⟨hR.out, rfl⟩
    · have hok : numOk s.data.toList = s.data.toList.all digB := by
        have : (decide (1 < s.data.toList.length) && s.data.toList.head? == some 48) = false := by
          rw [HH.out, hl]
          by_cases h : 1 < s.size
          · have : s[0].toNat ≠ 48 := fun e => hz ⟨h, e⟩
            have : s[0] ≠ 48 := fun e => this (by rw [e]; rfl)
            simp [this]
          · simp [h]
        rw [numOk, HE.out, this]; simp
      have HOK := Lib.hid hok
      have hz' : (1 < s.size ∧ ((s[0].toNat : Int) == 48) = false) ∨ ¬ 1 < s.size := by
        by_cases h : 1 < s.size
        · left; exact ⟨h, by rw [beq_eq_false_iff_ne]; intro e; exact hz ⟨h, by omega⟩⟩
        · exact .inr h
      clear hz hok h0
      have HL := Lib.hid hl
      clear hl
      rcases hz' with ⟨hz1, hz2⟩ | hz1
      all_goals
        go_enter Tryd.func20, Tryd.ntmps20
        go_wp2_with fail
        go_loop [7] (fun i => ∃ k : Nat, k ≤ s.size ∧ i = .int .i64 k ∧ (s.data.toList.take k).all digB = true) (fun i => s.size - (intOf i).toNat)
        case atStart => exact ⟨0, Nat.zero_le _, rfl, rfl⟩
        case round =>
          obtain ⟨k, hk, rfl, ha⟩ := hrel
          have HA := Lib.hid ha
          clear ha
          by_cases hlt : k < s.size
          · have hb := s[k].toNat_lt
            have HT := Lib.hid (take_snoc s k hlt)
            have HMem : Hid (s[k] ∈ s.data.toList) := Lib.hid (by rw [← Array.mem_def]; exact Array.getElem_mem _)
            by_cases hd : 48 ≤ (s[k].toNat : Int) ∧ (s[k].toNat : Int) ≤ 57
            · obtain ⟨hd1, hd2⟩ := hd
              have HAll : Hid ((s.data.toList.take (k + 1)).all digB = true) := Lib.hid (by
                rw [HT.out, List.all_append, HA.out]; simp [digB_iff]; omega)
              go_wp2_with fail
              go_round
              case rel => exact ⟨k + 1, by omega, by go_num, HAll.out⟩
              case measure => simp [intOf]; omega
            · have hR := Lib.hid (numRet_no s.data.toList most (by
                rintro ⟨h, _⟩
                rw [HOK.out, List.all_eq_true] at h
                exact hd ((digB_iff _).1 (h _ HMem.out))))
              rcases (show (s[k].toNat : Int) < 48 ∨ 57 < (s[k].toNat : Int) by omega) with hx | hx
              all_goals
                clear hd
                go_wp2_with fail
                go_ret2
                exact ⟨hR.out, rfl⟩
          · obtain rfl : k = s.size := by omega
            have HAL : Hid (s.data.toList.all digB = true) := Lib.hid (by
              have h3 := HA.out
              rwa [show s.data.toList.take s.size = s.data.toList from List.take_of_length_le (by simp)] at h3)
            clear HA hk
            go_wp2_with fail
            go_loop [6, 8] (fun n i => ∃ k v : Nat, k ≤ s.size ∧ i = .int .i64 k ∧ n = .int .i64 v ∧ v = valOf (s.data.toList.take k) ∧ (v : Int) ≤ 9223372036854775807) (fun _ i => s.size - (intOf i).toNat)
            case atStart => exact ⟨0, 0, Nat.zero_le _, rfl, rfl, rfl, by omega⟩
            case round =>
              obtain ⟨k, v, hk, rfl, rfl, hv, hm⟩ := hrel
              have HV := Lib.hid hv
              clear hv
              by_cases hlt2 : k < s.size
              · have hb := s[k].toNat_lt
                have HT := Lib.hid (take_snoc s k hlt2)
                have HMem : Hid (s[k] ∈ s.data.toList) := Lib.hid (by rw [← Array.mem_def]; exact Array.getElem_mem _)
                obtain ⟨hd1, hd2⟩ := (digB_iff s[k]).1 (List.all_eq_true.1 HAL.out _ HMem.out)
                have HVal : Hid (valOf (s.data.toList.take (k + 1)) = 10 * v + (s[k].toNat - 48)) := Lib.hid (by rw [HT.out, valOf_snoc, ← HV.out])
                have HGe : Hid (10 * v + (s[k].toNat - 48) ≤ valOf s.data.toList) := Lib.hid (by rw [← HVal.out]; exact val_take _ _)
                by_cases hq1 : 922337203685477580 < (v : Int)
                · have hR := Lib.hid (numRet_no s.data.toList most (by rintro ⟨_, h⟩; have := HGe.out; omega))
                  go_wp2_with fail
                  go_ret2
                  exact ⟨hR.out, rfl⟩
                · by_cases hq2 : (v : Int) = 922337203685477580
                  · have hq2' : ((v : Int) == 922337203685477580) = true := by rw [hq2]; rfl
                    by_cases hq3 : 7 < (s[k].toNat : Int) - 48
                    · have hR := Lib.hid (numRet_no s.data.toList most (by rintro ⟨_, h⟩; have := HGe.out; omega))
                      clear hq2
                      go_wp2_with fail
                      go_ret2
                      exact ⟨hR.out, rfl⟩
                    · have hup : 10 * (v : Int) + ((s[k].toNat : Int) - 48) ≤ 9223372036854775807 := by omega
                      clear hq2
                      go_wp2_with fail
                      go_round
                      case rel => exact ⟨k + 1, 10 * v + (s[k].toNat - 48), by omega, by go_num, by congr 1; omega, by rw [HVal.out], by omega⟩
                      case measure => simp [intOf]; omega
                  · have hq2' : ((v : Int) == 922337203685477580) = false := by rw [beq_eq_false_iff_ne]; exact hq2
                    have hup : 10 * (v : Int) + ((s[k].toNat : Int) - 48) ≤ 9223372036854775807 := by omega
                    clear hq2
                    go_wp2_with fail
                    go_round
                    case rel => exact ⟨k + 1, 10 * v + (s[k].toNat - 48), by omega, by go_num, by congr 1; omega, by rw [HVal.out], by omega⟩
                    case measure => simp [intOf]; omega
              · obtain rfl : k = s.size := by omega
                have HT := Lib.hid (show s.data.toList.take s.size = s.data.toList from List.take_of_length_le (by simp))
                have HV2 : Hid (v = valOf s.data.toList) := Lib.hid (by have h4 := HV.out; rwa [HT.out] at h4)
                by_cases hmost : most < (v : Int)
                · have hR := Lib.hid (numRet_no s.data.toList most (by rintro ⟨_, h⟩; have := HV2.out; omega))
                  go_wp2_with fail
                  go_ret2
                  exact ⟨hR.out, rfl⟩
                · have hR := Lib.hid (numRet_yes s.data.toList most (by
                    have := HV2.out
                    exact ⟨by rw [HOK.out, HAL.out], by omega⟩))
                  go_wp2_with fail
                  go_ret2
                  refine ⟨?_, rfl⟩
                  rw [HV2.out]; exact hR.out
end Go.Proofs.YtbhfkhfnljddhaaDoor
