/-
  Records framed: the reference's Frame.
-/
import Derived.Test.YtehbjfjhalpgaaaRows
import Derived.Test.YtehbjfjhalpgaaaImg7
namespace Go.Proofs.Ytehbjfjhalpgaaa
open Go.RowKit

theorem fits_full (ss : List ByteArray) (ht : fitsL (ss.take ss.length) = true) : fitsL ss = true := by rwa [List.take_length] at ht
theorem fits_at (ss : List ByteArray) (hf : fitsL ss = true) (k : Nat) (h : k < ss.length) : ss[k].size ≤ 255 := by
  unfold fitsL at hf
  rw [List.all_eq_true] at hf
  exact of_decide_eq_true (hf _ (List.getElem_mem h))
theorem take_app (F : List UInt8) (s : ByteArray) (q : Nat) (h : q < s.size) : F ++ s.data.toList.take (q + 1) = F ++ s.data.toList.take q ++ [s[q]] := by
  rw [take_snoc s q h, List.append_assoc]

set_option maxHeartbeats 4000000 in
set_option maxRecDepth 100000 in
theorem rFrame_any (ss : List ByteArray) (g o cap : Nat) (w : World) (hn : ss.length ≤ 1000) (hg : g < w.heap.size) (hc : ∀ k (h : k < ss.length), w.cell? ⟨g, o + k, none⟩ = some (.string ss[k])) :
    Calls Try.prog 30 #[.slice (some ⟨g, o, none⟩) ss.length cap] w fun e w' => e = .returned (.tuple #[.string (frameS ss).1, .int .i64 (frameS ss).2]) ∧ Below w.heap.size w w' := by
  obtain ⟨i0, hi, hz0, hz1, hz2⟩ := info_parts byte_info
  have HC := Lib.hid hc
  have HE := Lib.hid (Own.empty w 5 1)
  clear hc
  go_enter Try.func30, Try.ntmps30
  go_wp2_with fail
  go_loopw [5] (fun i W => ∃ k : Nat, k ≤ ss.length ∧ i = .int .i64 k ∧ Hid (fitsL (ss.take k) = true) ∧ W = w.alloc (.cells #[] 5)) (fun i _ => ss.length - (intOf i).toNat)
  case atStart => exact ⟨0, Nat.zero_le _, rfl, Lib.hid rfl, rfl⟩
  case round =>
    obtain ⟨k, hk, rfl, HT, rfl⟩ := hrel
    by_cases hlt : k < ss.length
    · have hcell := (HE.out.below.cell (p := ⟨g, o + k, none⟩) hg).trans (HC.out k hlt)
      by_cases h255 : ss[k].size ≤ 255
      · have HT2 := Lib.hid (fits_take ss k hlt h255 HT.out)
        obtain ⟨x, hx⟩ : ∃ x, ss[k]'hlt = x := ⟨_, rfl⟩
        rw [hx] at hcell h255
        clear hx
        go_wp2_with fail
        go_roundw
        case rel => exact ⟨k + 1, by omega, by go_num, HT2, trivial⟩
        case measure => simp [intOf]; omega
      · have HN := Lib.hid (frameS_no ss k hlt h255)
        obtain ⟨x, hx⟩ : ∃ x, ss[k]'hlt = x := ⟨_, rfl⟩
        rw [hx] at hcell h255
        clear hx
        go_wp2_with fail
        go_ret2
        exact ⟨by rw [HN.out]; rfl, HE.out.below⟩
    · obtain rfl : k = ss.length := by omega
      have HF := Lib.hid (fits_full ss HT.out)
      have HN : Hid (frameS ss = (mkS (frameL ss), 0)) := Lib.hid (by unfold frameS; rw [if_pos HF.out])
      go_wp2_with fail
      go_loopw [4, 6, 7, 8, 9] (fun v i _ _ _ W => ∃ k n : Nat, k ≤ ss.length ∧ i = .int .i64 k ∧ n ≤ 265 * k ∧ Hid (Own w W 5 1 v n (Lib.byteCells (frameL (ss.take k))))) (fun _ i _ _ _ _ => ss.length - (intOf i).toNat)
      case atStart => exact ⟨0, 0, Nat.zero_le _, rfl, Nat.le_refl _, HE⟩
      case round =>
        obtain ⟨k, n, hk, rfl, hn2, HO⟩ := hrel
        by_cases hlt : k < ss.length
        · have hcell := (HO.out.below.cell (p := ⟨g, o + k, none⟩) hg).trans (HC.out k hlt)
          have HCk := Lib.hid (HC.out k hlt)
          have HS := Lib.hid (frameL_snoc ss k hlt)
          have h255 := fits_at ss HF.out k hlt
          obtain ⟨x, hx⟩ : ∃ x, ss[k]'hlt = x := ⟨_, rfl⟩
          rw [hx] at hcell HS h255 HCk
          clear hx
          have hUint := fun w => rUint_any x.size w (by omega)
          obtain ⟨T, hT⟩ : ∃ T, mkS (uintB x.size) = T := ⟨_, rfl⟩
          have hT1 : T.size ≤ 10 := by rw [← hT, mkS_size]; exact uintB_ten x.size (by omega)
          have HTd : Hid (uintB x.size = T.data.toList) := Lib.hid (by rw [← hT, mkS_data])
          rw [hT] at hUint
          rw [HTd.out] at HS
          have HUint := Lib.hid hUint
          obtain ⟨F, hF⟩ : ∃ F, frameL (ss.take k) = F := ⟨_, rfl⟩
          rw [hF] at HS HO
          clear hT hUint HTd hF
          go_wp2_with (first | (go_at_call 51; refine (HUint.out _).mono ?_; rintro e w1 ⟨rfl, hb1⟩; have HO1 := Lib.hid (HO.out.call hb1); clear hb1))
          go_loopw [4, 8] (fun v j W => ∃ q m : Nat, q ≤ T.size ∧ j = .int .i64 q ∧ m ≤ n + q ∧ Hid (Own w W 5 1 v m (Lib.byteCells (F ++ T.data.toList.take q)))) (fun _ j _ => T.size - (intOf j).toNat)
          case atStart => exact ⟨0, n, Nat.zero_le _, rfl, by omega, Lib.hid (by rw [List.take_zero, List.append_nil]; exact HO1.out)⟩
          case round =>
            obtain ⟨q, m, hq, rfl, hm, HP⟩ := hrel
            by_cases hqt : q < T.size
            · have HA := Lib.hid (take_app F T q hqt)
              go_wp2_with (at_builtin; refine wpList_push1 rfl _ _ 57 rfl w.heap.size 5 i0 (.int .u8 0) 1 Try.underlying57 hi hz0 hz1 hz2 rfl _ _ _ rfl HP.out.own _ rfl rfl (by unfold maxLen; omega) (by omega) HP.out.size ?_; intro gg cc w5 hown hg5; have HO' := Lib.hid (HP.out.push hown hg5); clear hown hg5)
              go_roundw
              case rel => exact ⟨q + 1, m + 1, by omega, by go_num, by omega, Lib.hid (by rw [HA.out, ← bytes_snoc]; exact HO'.out)⟩
              case measure => simp [intOf]; omega
            · obtain rfl : q = T.size := by omega
              have HQ : Hid (F ++ T.data.toList.take T.size = F ++ T.data.toList) := Lib.hid (by rw [List.take_of_length_le (by simp)])
              rw [HQ.out] at HP
              obtain ⟨G, hG⟩ : ∃ G, F ++ T.data.toList = G := ⟨_, rfl⟩
              rw [hG] at HP HS
              clear hG HQ
              go_wp2_with fail
              go_loopw [4, 9] (fun v j W => ∃ q m2 : Nat, q ≤ x.size ∧ j = .int .i64 q ∧ m2 ≤ m + q ∧ Hid (Own w W 5 1 v m2 (Lib.byteCells (G ++ x.data.toList.take q)))) (fun _ j _ => x.size - (intOf j).toNat)
              case atStart => exact ⟨0, m, Nat.zero_le _, rfl, by omega, Lib.hid (by rw [List.take_zero, List.append_nil]; exact HP.out)⟩
              case round =>
                obtain ⟨q, m2, hq2, rfl, hm2, HP2⟩ := hrel
                have hcell2 := (HP2.out.below.cell (p := ⟨g, o + k, none⟩) hg).trans HCk.out
                by_cases hqt : q < x.size
                · have HA := Lib.hid (take_app G x q hqt)
                  go_wp2_with (at_builtin; refine wpList_push1 rfl _ _ 57 rfl w.heap.size 5 i0 (.int .u8 0) 1 Try.underlying57 hi hz0 hz1 hz2 rfl _ _ _ rfl HP2.out.own _ rfl rfl (by unfold maxLen; omega) (by omega) HP2.out.size ?_; intro gg cc w5 hown hg5; have HO' := Lib.hid (HP2.out.push hown hg5); clear hown hg5)
                  go_roundw
                  case rel => exact ⟨q + 1, m2 + 1, by omega, by go_num, by omega, Lib.hid (by rw [HA.out, ← bytes_snoc]; exact HO'.out)⟩
                  case measure => simp [intOf]; omega
                · obtain rfl : q = x.size := by omega
                  have HQ : Hid (G ++ x.data.toList.take x.size = G ++ x.data.toList) := Lib.hid (by rw [List.take_of_length_le (by simp)])
                  rw [HQ.out] at HP2
                  go_wp2_with fail
                  go_roundw
                  case rel => exact ⟨k + 1, m2, by omega, by go_num, by omega, Lib.hid (by rw [HS.out]; exact HP2.out)⟩
                  case measure => simp [intOf]; omega
        · obtain rfl : k = ss.length := by omega
          have HFl : Hid (frameL (ss.take ss.length) = frameL ss) := Lib.hid (by rw [List.take_length])
          have hcv := run_string_of_own HO.out.own 57 9 Try.underlying57 Try.underlying5 Try.underlying9
          rw [HFl.out] at hcv
          go_wp2_with fail
          go_ret2
          exact ⟨by rw [HN.out]; rfl, HO.out.below⟩
end Go.Proofs.Ytehbjfjhalpgaaa
