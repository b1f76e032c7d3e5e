/-
  What the functions of 'cases' compute on words: letters turned, words turned.
-/
import Derived.Test.YthfndmpigpphoaaGreatRows
import Derived.Test.YthfndmpigpphoaaGreatKA
import Derived.Test.YthfndmpigpphoaaGreatKB
import Derived.Test.YthfndmpigpphoaaGreatCases1
namespace Go.Proofs.YthfndmpigpphoaaGreat
open Go.RowKit

def lowB (b : UInt8) : UInt8 := if capB b then b + 32 else b
def upB (b : UInt8) : UInt8 := if smallB b then b - 32 else b
theorem lowB_cap (b : UInt8) (h : capB b = true) : ((lowB b).toNat : Int) = b.toNat + 32 := by
  rw [lowB, if_pos h]
  simp [capB] at h
  rw [UInt8.toNat_add]
  have : (32 : UInt8).toNat = 32 := rfl
  omega
theorem lowB_not (b : UInt8) (h : capB b = false) : lowB b = b := by rw [lowB, h]; rfl
theorem upB_small (b : UInt8) (h : smallB b = true) : ((upB b).toNat : Int) = b.toNat - 32 := by
  rw [upB, if_pos h]
  simp [smallB] at h
  rw [UInt8.toNat_sub_of_le _ _ (by rw [UInt8.le_iff_toNat_le]; have : (32 : UInt8).toNat = 32 := rfl; omega)]
  have : (32 : UInt8).toNat = 32 := rfl
  omega
theorem upB_not (b : UInt8) (h : smallB b = false) : upB b = b := by rw [upB, h]; rfl
theorem cap_bd (b : UInt8) (h : capB b = true) : 65 ≤ (b.toNat : Int) ∧ (b.toNat : Int) ≤ 90 := by simp [capB] at h; omega
theorem small_bd (b : UInt8) (h : smallB b = true) : 97 ≤ (b.toNat : Int) ∧ (b.toNat : Int) ≤ 122 := by simp [smallB] at h; omega

set_option maxHeartbeats 400000 in
theorem lower_any (b : UInt8) (w : World) :
    Calls Tryz.prog 83 #[.int .u8 b.toNat] w fun e w' => e = .returned (.int .u8 (lowB b).toNat) ∧ w = w' := by
  cases h : capB b
  · have H := Lib.hid (lowB_not b h)
    go_enter Tryz.func83, Tryz.ntmps83
    go_wp2_with (go_at_call 80; refine (capital_any _ _).mono ?_; rintro e w' ⟨rfl, rfl⟩)
    go_ret
    exact ⟨ret_int (by rw [H.out]), rfl⟩
  · have H := Lib.hid (lowB_cap b h)
    obtain ⟨h1, h2⟩ := cap_bd b h
    go_enter Tryz.func83, Tryz.ntmps83
    go_wp2_with (go_at_call 80; refine (capital_any _ _).mono ?_; rintro e w' ⟨rfl, rfl⟩)
    go_ret
    exact ⟨ret_int (by rw [H.out]; try rfl), rfl⟩
set_option maxHeartbeats 400000 in
theorem upper_any (b : UInt8) (w : World) :
    Calls Tryz.prog 96 #[.int .u8 b.toNat] w fun e w' => e = .returned (.int .u8 (upB b).toNat) ∧ w = w' := by
  cases h : smallB b
  · have H := Lib.hid (upB_not b h)
    go_enter Tryz.func96, Tryz.ntmps96
    go_wp2_with (go_at_call 79; refine (small_any _ _).mono ?_; rintro e w' ⟨rfl, rfl⟩)
    go_ret
    exact ⟨ret_int (by rw [H.out]), rfl⟩
  · have H := Lib.hid (upB_small b h)
    obtain ⟨h1, h2⟩ := small_bd b h
    go_enter Tryz.func96, Tryz.ntmps96
    go_wp2_with (go_at_call 79; refine (small_any _ _).mono ?_; rintro e w' ⟨rfl, rfl⟩)
    go_ret
    exact ⟨ret_int (by rw [H.out]; try rfl), rfl⟩

set_option maxHeartbeats 1000000 in
set_option maxRecDepth 100000 in
theorem mapped_lower (s : ByteArray) (w : World) (hs : s.size ≤ 140737488355328) :
    Calls Tryz.prog 82 #[.string s, .func (.func 83) #[] #[]] w fun e w' => e = .returned (.string ⟨(s.data.toList.map lowB).toArray⟩) ∧ Below w.heap.size w w' := by
  go_enter Tryz.func82, Tryz.ntmps82
  go_wp2_with fail
  go_loopw [9] (fun i wr => ∃ k : Nat, k ≤ s.size ∧ i = .int .i64 k ∧ IsB w.heap.size w.heap.size (Lib.byteCells ((s.data.toList.take k).map lowB)) wr ∧ Below w.heap.size w wr) (fun i _ => s.size - (intOf i).toNat)
  case atStart => exact ⟨0, Nat.zero_le _, rfl, fresh_isB w, (Below.refl _ _).alloc (Nat.le_refl _) _⟩
  case round =>
    obtain ⟨k, hk, rfl, hb, hw⟩ := hrel
    have HB := Lib.hid hb
    have HW := Lib.hid hw
    have hsz := hw.size
    clear hb hw
    by_cases hlt : k < s.size
    · have ht := Lib.hid (take_snoc s k hlt)
      go_wp2_with (first
        | (go_at_call 83; refine (lower_any _ _).mono ?_; rintro e w' ⟨rfl, rfl⟩)
        | (go_at_call 74; refine (writeByte_any w.heap.size w.heap.size _ _ _ HB.out ?c1 ?c2).mono ?_))
      case c1 => simp [Lib.byteCells]; omega
      case c2 => exact hsz
      rintro e w1 ⟨rfl, h1, hb1⟩
      have HB1 := Lib.hid h1
      have HW1 := Lib.hid (HW.out.trans hb1)
      clear h1 hb1
      go_wp2
      go_roundw
      case rel => exact ⟨k + 1, by omega, by go_num, by rw [ht.out]; simpa [Lib.byteCells] using HB1.out.is, HW1.out⟩
      case measure => simp [intOf]; omega
    · obtain rfl : k = s.size := by omega
      have ht : s.data.toList.take s.size = s.data.toList := List.take_of_length_le (by simp)
      have HT := Lib.hid ht
      clear ht
      go_wp2_with (go_at_call 75; refine (builderString_any w.heap.size w.heap.size _ _ HB.out ?c2).mono ?_)
      case c2 => exact hsz
      rintro e w1 ⟨rfl, hb1⟩
      have HW1 := Lib.hid (HW.out.trans hb1)
      clear hb1
      go_wp2
      go_ret
      exact ⟨ret_str (by rw [← List.map_take, HT.out]), HW1.out⟩

set_option maxHeartbeats 400000 in
theorem Lower_any (s : ByteArray) (w : World) (hs : s.size ≤ 140737488355328) :
    Calls Tryz.prog 61 #[.string s] w fun e w' => e = .returned (.string ⟨(s.data.toList.map lowB).toArray⟩) ∧ Below w.heap.size w w' := by
  go_enter Tryz.func61, Tryz.ntmps61
  go_wp2_with (go_at_call 82; refine (mapped_lower _ _ hs).mono ?_; rintro e w1 ⟨rfl, hb1⟩)
  go_ret
  exact ⟨rfl, hb1⟩

set_option maxHeartbeats 1000000 in
set_option maxRecDepth 100000 in
theorem mapped_upper (s : ByteArray) (w : World) (hs : s.size ≤ 140737488355328) :
    Calls Tryz.prog 82 #[.string s, .func (.func 96) #[] #[]] w fun e w' => e = .returned (.string ⟨(s.data.toList.map upB).toArray⟩) ∧ Below w.heap.size w w' := by
  go_enter Tryz.func82, Tryz.ntmps82
  go_wp2_with fail
  go_loopw [9] (fun i wr => ∃ k : Nat, k ≤ s.size ∧ i = .int .i64 k ∧ IsB w.heap.size w.heap.size (Lib.byteCells ((s.data.toList.take k).map upB)) wr ∧ Below w.heap.size w wr) (fun i _ => s.size - (intOf i).toNat)
  case atStart => exact ⟨0, Nat.zero_le _, rfl, fresh_isB w, (Below.refl _ _).alloc (Nat.le_refl _) _⟩
  case round =>
    obtain ⟨k, hk, rfl, hb, hw⟩ := hrel
    have HB := Lib.hid hb
    have HW := Lib.hid hw
    have hsz := hw.size
    clear hb hw
    by_cases hlt : k < s.size
    · have ht := Lib.hid (take_snoc s k hlt)
      go_wp2_with (first
        | (go_at_call 96; refine (upper_any _ _).mono ?_; rintro e w' ⟨rfl, rfl⟩)
        | (go_at_call 74; refine (writeByte_any w.heap.size w.heap.size _ _ _ HB.out ?c1 ?c2).mono ?_))
      case c1 => simp [Lib.byteCells]; omega
      case c2 => exact hsz
      rintro e w1 ⟨rfl, h1, hb1⟩
      have HB1 := Lib.hid h1
      have HW1 := Lib.hid (HW.out.trans hb1)
      clear h1 hb1
      go_wp2
      go_roundw
      case rel => exact ⟨k + 1, by omega, by go_num, by rw [ht.out]; simpa [Lib.byteCells] using HB1.out.is, HW1.out⟩
      case measure => simp [intOf]; omega
    · obtain rfl : k = s.size := by omega
      have ht : s.data.toList.take s.size = s.data.toList := List.take_of_length_le (by simp)
      have HT := Lib.hid ht
      clear ht
      go_wp2_with (go_at_call 75; refine (builderString_any w.heap.size w.heap.size _ _ HB.out ?c2).mono ?_)
      case c2 => exact hsz
      rintro e w1 ⟨rfl, hb1⟩
      have HW1 := Lib.hid (HW.out.trans hb1)
      clear hb1
      go_wp2
      go_ret
      exact ⟨ret_str (by rw [← List.map_take, HT.out]), HW1.out⟩

set_option maxHeartbeats 400000 in
theorem Upper_any (s : ByteArray) (w : World) (hs : s.size ≤ 140737488355328) :
    Calls Tryz.prog 81 #[.string s] w fun e w' => e = .returned (.string ⟨(s.data.toList.map upB).toArray⟩) ∧ Below w.heap.size w w' := by
  go_enter Tryz.func81, Tryz.ntmps81
  go_wp2_with (go_at_call 82; refine (mapped_upper _ _ hs).mono ?_; rintro e w1 ⟨rfl, hb1⟩)
  go_ret
  exact ⟨rfl, hb1⟩
end Go.Proofs.YthfndmpigpphoaaGreat
