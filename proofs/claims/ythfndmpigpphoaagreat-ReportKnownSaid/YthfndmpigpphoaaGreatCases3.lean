/-
  The reference's words in small letters and in capitals.
-/
import Derived.Test.YthfndmpigpphoaaGreatRows
import Derived.Test.YthfndmpigpphoaaGreatKA
import Derived.Test.YthfndmpigpphoaaGreatCases2
namespace Go.Proofs.YthfndmpigpphoaaGreat
open Go.RowKit

theorem sort_cap (b : UInt8) : (sortOf b == 2) = capB b := by
  have := not_both b
  unfold sortOf
  cases h1 : smallB b <;> cases h2 : capB b <;> simp_all
theorem sort_small (b : UInt8) : (sortOf b == 1) = smallB b := by
  unfold sortOf
  cases h1 : smallB b <;> cases h2 : capB b <;> simp_all

set_option maxHeartbeats 1000000 in
set_option maxRecDepth 100000 in
theorem Lower22_any (s : ByteArray) (w : World) (hs : s.size ≤ 140737488355328) :
    Calls Tryz.prog 66 #[.string s] w fun e w' => e = .returned (.string ⟨(s.data.toList.map lowB).toArray⟩) ∧ Below w.heap.size w w' := by
  obtain ⟨i0, hi, hz0, hz1, hz2⟩ := info_parts byte_info
  go_enter Tryz.func66, Tryz.ntmps66
  go_wp2_with fail
  go_loopw [3, 4] (fun v i wr => ∃ k : Nat, k ≤ s.size ∧ i = .int .i64 k ∧ wr.ownsRow w.heap.size 5 1 v k (Lib.byteCells ((s.data.toList.map lowB).take k)) ∧ Below w.heap.size w wr) (fun _ i _ => s.size - (intOf i).toNat)
  case atStart => exact ⟨0, Nat.zero_le _, rfl, own_empty w _ _, (Below.refl _ _).alloc (Nat.le_refl _) _⟩
  case round =>
    obtain ⟨k, hk, rfl, hb, hw⟩ := hrel
    rename_i v
    have HB := Lib.hid hb
    have HW := Lib.hid hw
    have hsz := hw.size
    clear hb hw
    by_cases hlt : k < s.size
    · have ht := Lib.hid (take_snoc s k hlt)
      have hfin : ∀ (x : UInt8), x = lowB s[k] → Lib.byteCells ((s.data.toList.map lowB).take k) ++ [Value.int .u8 x.toNat] = Lib.byteCells ((s.data.toList.map lowB).take (k + 1)) := by
        intro x hx; rw [← List.map_take, ← List.map_take, ht.out, hx]; simp [Lib.byteCells]
      have HF := Lib.hid hfin
      clear hfin
      have HS := Lib.hid (sort_cap s[k])
      cases hc : capB s[k]
      · have HV := Lib.hid (lowB_not s[k] hc)
        have hq : (sortOf s[k] == 2) = false := by rw [HS.out, hc]
        go_wp2_with (first
          | (go_at_call 91; refine (letter22_any _ _).mono ?_; rintro e w' ⟨rfl, rfl⟩)
          | (at_builtin; refine wpList_push1 rfl _ _ 123 rfl w.heap.size 5 i0 (.int .u8 0) 1 Tryz.underlying123 hi hz0 hz1 hz2 rfl _ k _ rfl HB.out _ rfl rfl ?c3 ?c4 hsz ?_))
        case c3 => unfold maxLen; omega
        case c4 => omega
        intro gg cap w2 hown hg
        have HO := Lib.hid hown
        have HW2 := Lib.hid (below_push HW.out HB.out hg (Nat.le_refl _) hsz)
        clear hown hg
        go_wp2
        go_roundw
        case rel => exact ⟨k + 1, by omega, by go_num, by rw [← HF.out _ HV.out.symm]; exact HO.out, HW2.out⟩
        case measure => simp [intOf]; omega
      · have HV := Lib.hid (lowB_cap s[k] hc)
        obtain ⟨q1, q2⟩ := cap_bd s[k] hc
        have hq : (sortOf s[k] == 2) = true := by rw [HS.out, hc]
        go_wp2_with (first
          | (go_at_call 91; refine (letter22_any _ _).mono ?_; rintro e w' ⟨rfl, rfl⟩)
          | (at_builtin; refine wpList_push1 rfl _ _ 123 rfl w.heap.size 5 i0 (.int .u8 0) 1 Tryz.underlying123 hi hz0 hz1 hz2 rfl _ k _ rfl HB.out _ rfl rfl ?c3 ?c4 hsz ?_))
        case c3 => unfold maxLen; omega
        case c4 => omega
        intro gg cap w2 hown hg
        have HO := Lib.hid hown
        have HW2 := Lib.hid (below_push HW.out HB.out hg (Nat.le_refl _) hsz)
        clear hown hg
        go_wp2
        go_roundw
        case rel => exact ⟨k + 1, by omega, by go_num, by rw [← HF.out _ rfl, HV.out]; first | exact HO.out | (have h5 := HO.out; simp only [show ((s[k].toNat : Int) - 65 + 97) = s[k].toNat + 32 from by omega, show ((s[k].toNat : Int) - 97 + 65) = s[k].toNat - 32 from by omega] at h5; exact h5), HW2.out⟩
        case measure => simp [intOf]; omega
    · obtain rfl : k = s.size := by omega
      have HT := Lib.hid (show (s.data.toList.map lowB).take s.size = s.data.toList.map lowB from List.take_of_length_le (by simp))
      have hcv := run_string_of_own HB.out 123 9 Tryz.underlying123 Tryz.underlying5 Tryz.underlying9
      go_wp2
      go_ret
      exact ⟨ret_str (by rw [HT.out]), HW.out⟩

set_option maxHeartbeats 1000000 in
set_option maxRecDepth 100000 in
theorem Upper22_any (s : ByteArray) (w : World) (hs : s.size ≤ 140737488355328) :
    Calls Tryz.prog 92 #[.string s] w fun e w' => e = .returned (.string ⟨(s.data.toList.map upB).toArray⟩) ∧ Below w.heap.size w w' := by
  obtain ⟨i0, hi, hz0, hz1, hz2⟩ := info_parts byte_info
  go_enter Tryz.func92, Tryz.ntmps92
  go_wp2_with fail
  go_loopw [3, 4] (fun v i wr => ∃ k : Nat, k ≤ s.size ∧ i = .int .i64 k ∧ wr.ownsRow w.heap.size 5 1 v k (Lib.byteCells ((s.data.toList.map upB).take k)) ∧ Below w.heap.size w wr) (fun _ i _ => s.size - (intOf i).toNat)
  case atStart => exact ⟨0, Nat.zero_le _, rfl, own_empty w _ _, (Below.refl _ _).alloc (Nat.le_refl _) _⟩
  case round =>
    obtain ⟨k, hk, rfl, hb, hw⟩ := hrel
    rename_i v
    have HB := Lib.hid hb
    have HW := Lib.hid hw
    have hsz := hw.size
    clear hb hw
    by_cases hlt : k < s.size
    · have ht := Lib.hid (take_snoc s k hlt)
      have hfin : ∀ (x : UInt8), x = upB s[k] → Lib.byteCells ((s.data.toList.map upB).take k) ++ [Value.int .u8 x.toNat] = Lib.byteCells ((s.data.toList.map upB).take (k + 1)) := by
        intro x hx; rw [← List.map_take, ← List.map_take, ht.out, hx]; simp [Lib.byteCells]
      have HF := Lib.hid hfin
      clear hfin
      have HS := Lib.hid (sort_small s[k])
      cases hc : smallB s[k]
      · have HV := Lib.hid (upB_not s[k] hc)
        have hq : (sortOf s[k] == 1) = false := by rw [HS.out, hc]
        go_wp2_with (first
          | (go_at_call 91; refine (letter22_any _ _).mono ?_; rintro e w' ⟨rfl, rfl⟩)
          | (at_builtin; refine wpList_push1 rfl _ _ 123 rfl w.heap.size 5 i0 (.int .u8 0) 1 Tryz.underlying123 hi hz0 hz1 hz2 rfl _ k _ rfl HB.out _ rfl rfl ?c3 ?c4 hsz ?_))
        case c3 => unfold maxLen; omega
        case c4 => omega
        intro gg cap w2 hown hg
        have HO := Lib.hid hown
        have HW2 := Lib.hid (below_push HW.out HB.out hg (Nat.le_refl _) hsz)
        clear hown hg
        go_wp2
        go_roundw
        case rel => exact ⟨k + 1, by omega, by go_num, by rw [← HF.out _ HV.out.symm]; exact HO.out, HW2.out⟩
        case measure => simp [intOf]; omega
      · have HV := Lib.hid (upB_small s[k] hc)
        obtain ⟨q1, q2⟩ := small_bd s[k] hc
        have hq : (sortOf s[k] == 1) = true := by rw [HS.out, hc]
        go_wp2_with (first
          | (go_at_call 91; refine (letter22_any _ _).mono ?_; rintro e w' ⟨rfl, rfl⟩)
          | (at_builtin; refine wpList_push1 rfl _ _ 123 rfl w.heap.size 5 i0 (.int .u8 0) 1 Tryz.underlying123 hi hz0 hz1 hz2 rfl _ k _ rfl HB.out _ rfl rfl ?c3 ?c4 hsz ?_))
        case c3 => unfold maxLen; omega
        case c4 => omega
        intro gg cap w2 hown hg
        have HO := Lib.hid hown
        have HW2 := Lib.hid (below_push HW.out HB.out hg (Nat.le_refl _) hsz)
        clear hown hg
        go_wp2
        go_roundw
        case rel => exact ⟨k + 1, by omega, by go_num, by rw [← HF.out _ rfl, HV.out]; first | exact HO.out | (have h5 := HO.out; simp only [show ((s[k].toNat : Int) - 65 + 97) = s[k].toNat + 32 from by omega, show ((s[k].toNat : Int) - 97 + 65) = s[k].toNat - 32 from by omega] at h5; exact h5), HW2.out⟩
        case measure => simp [intOf]; omega
    · obtain rfl : k = s.size := by omega
      have HT := Lib.hid (show (s.data.toList.map upB).take s.size = s.data.toList.map upB from List.take_of_length_le (by simp))
      have hcv := run_string_of_own HB.out 123 9 Tryz.underlying123 Tryz.underlying5 Tryz.underlying9
      go_wp2
      go_ret
      exact ⟨ret_str (by rw [HT.out]), HW.out⟩
end Go.Proofs.YthfndmpigpphoaaGreat
