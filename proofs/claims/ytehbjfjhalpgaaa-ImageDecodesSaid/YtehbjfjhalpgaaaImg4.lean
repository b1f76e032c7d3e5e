/-
  Bytes that may stand in a word: the program's fit, Valid and plain; the reference's Bytes.
-/
import Derived.Test.YtehbjfjhalpgaaaRows
import Derived.Test.YtehbjfjhalpgaaaImg3
namespace Go.Proofs.Ytehbjfjhalpgaaa
open Go.RowKit

def fitB (b : UInt8) : Bool := decide (32 < b.toNat) && decide (b.toNat ≠ 127)
theorem fitB_eq (b : UInt8) : fitB b = (decide (32 < (b.toNat : Int)) && ((b.toNat : Int) != 127)) := by
  unfold fitB
  rw [Bool.eq_iff_iff]; simp; omega
/-- Do all its bytes fit? -/
def fitAll (s : ByteArray) : Bool := s.data.toList.all fitB
theorem all_no (s : ByteArray) (k : Nat) (h : k < s.size) (hf : fitB s[k] = false) : fitAll s = false := by
  unfold fitAll; rw [List.all_eq_false]
  exact ⟨s[k], by show s.data[k] ∈ _; simp, by simp [hf]⟩
theorem all_take (s : ByteArray) (k : Nat) (h : k < s.size) (hf : fitB s[k] = true) (ht : (s.data.toList.take k).all fitB = true) : (s.data.toList.take (k + 1)).all fitB = true := by
  rw [take_snoc s k h, List.all_append, ht]; simp [hf]
theorem all_full (s : ByteArray) (ht : (s.data.toList.take s.size).all fitB = true) : fitAll s = true := by
  unfold fitAll; rwa [List.take_of_length_le (by simp)] at ht

set_option maxHeartbeats 400000 in
theorem fit_any (b : UInt8) (w : World) :
    Calls Try.prog 57 #[.int .u8 b.toNat] w fun e w' => e = .returned (.bool (fitB b)) ∧ w = w' := by
  have H := Lib.hid (fitB_eq b)
  go_enter Try.func57, Try.ntmps57
  go_wp2
  all_goals go_ret
  all_goals exact ⟨ret_bool (by rw [H.out]; simp [*] <;> omega), rfl⟩

def validB (s : ByteArray) : Bool := decide (0 < s.size) && decide (s.size ≤ 64) && fitAll s
set_option maxHeartbeats 1000000 in
theorem Valid_any (s : ByteArray) (w : World) :
    Calls Try.prog 58 #[.string s] w fun e w' => e = .returned (.bool (validB s)) ∧ w = w' := by
  by_cases h0 : s.size = 0
  · have H : Hid (validB s = false) := Lib.hid (by unfold validB; rw [decide_eq_false (by omega)]; rfl)
    have hse : s = ⟨#[]⟩ := by
      apply ByteArray.ext; exact Array.eq_empty_of_size_eq_zero h0
    subst hse
    go_enter Try.func58, Try.ntmps58
    go_wp2_with fail
    go_ret
    exact ⟨ret_bool H.out.symm, rfl⟩
  · have hne := notEmpty s (by omega)
    by_cases h1 : s.size ≤ 64
    · have H : Hid (validB s = fitAll s) := Lib.hid (by unfold validB; rw [decide_eq_true (by omega), decide_eq_true h1]; rfl)
      go_enter Try.func58, Try.ntmps58
      go_wp2_with fail
      go_loop [3, 13] (fun _ i => ∃ k : Nat, k ≤ s.size ∧ i = .int .i64 k ∧ Hid ((s.data.toList.take k).all fitB = true)) (fun _ i => s.size - (intOf i).toNat)
      case atStart => exact ⟨0, Nat.zero_le _, rfl, Lib.hid rfl⟩
      case round =>
        obtain ⟨k, hk, rfl, HT⟩ := hrel
        by_cases hlt : k < s.size
        · cases hf : fitB s[k]
          · have HN := Lib.hid (all_no s k hlt hf)
            go_wp2_with (first | (go_at_call 57; refine (fit_any _ _).mono ?_; rintro e w' ⟨rfl, rfl⟩))
            go_ret
            exact ⟨ret_bool (by rw [H.out, HN.out]), rfl⟩
          · have HN := Lib.hid (all_take s k hlt hf HT.out)
            go_wp2_with (first | (go_at_call 57; refine (fit_any _ _).mono ?_; rintro e w' ⟨rfl, rfl⟩))
            go_round
            case rel => exact ⟨k + 1, by omega, by go_num, HN⟩
            case measure => simp [intOf]; omega
        · obtain rfl : k = s.size := by omega
          have HN := Lib.hid (all_full s HT.out)
          go_wp2_with fail
          go_ret
          exact ⟨ret_bool (by rw [H.out, HN.out]), rfl⟩
    · have H : Hid (validB s = false) := Lib.hid (by unfold validB; rw [decide_eq_false h1]; simp)
      go_enter Try.func58, Try.ntmps58
      go_wp2_with fail
      go_ret
      exact ⟨ret_bool H.out.symm, rfl⟩
theorem valid_one (s : ByteArray) (k : Nat) (h : k < s.size) : validB (s.extract k (k + 1)) = fitB s[k] := by
  have h1 : (s.extract k (k + 1)).data.toList = [s[k]] := by
    rw [extract_mkS, mkS_data, show k + 1 - k = 1 by omega]
    rw [List.drop_eq_getElem_cons (by simpa using h)]
    rfl
  have h2 : (s.extract k (k + 1)).size = 1 := by rw [← len_toList, h1]; rfl
  unfold validB fitAll
  rw [h2, h1]; simp
theorem Valid_one (s : ByteArray) (k : Nat) (h : k < s.size) (w : World) :
    Calls Try.prog 58 #[.string (s.extract k (k + 1))] w fun e w' => e = .returned (.bool (fitB s[k])) ∧ w = w' := by
  rw [← valid_one s k h]
  exact Valid_any _ w

set_option maxHeartbeats 1000000 in
theorem plain_any (s : ByteArray) (m : Nat) (w : World) (hs : s.size ≤ 140737488355328) :
    Calls Try.prog 46 #[.string s, .int .i64 m] w fun e w' => e = .returned (.bool (fitAll s && decide (s.size ≤ m))) ∧ w = w' := by
  go_enter Try.func46, Try.ntmps46
  go_wp2_with fail
  go_loop [5, 8] (fun _ i => ∃ k : Nat, k ≤ s.size ∧ i = .int .i64 k ∧ Hid ((s.data.toList.take k).all fitB = true)) (fun _ i => s.size - (intOf i).toNat)
  case atStart => exact ⟨0, Nat.zero_le _, rfl, Lib.hid rfl⟩
  case round =>
    obtain ⟨k, hk, rfl, HT⟩ := hrel
    by_cases hlt : k < s.size
    · cases hf : fitB s[k]
      · have HN := Lib.hid (all_no s k hlt hf)
        go_wp2_with (first | (go_at_call 58; refine (Valid_one s k hlt _).mono ?_; rintro e w' ⟨rfl, rfl⟩))
        go_ret
        exact ⟨ret_bool (by rw [HN.out]; rfl), rfl⟩
      · have HN := Lib.hid (all_take s k hlt hf HT.out)
        go_wp2_with (first | (go_at_call 58; refine (Valid_one s k hlt _).mono ?_; rintro e w' ⟨rfl, rfl⟩))
        go_round
        case rel => exact ⟨k + 1, by omega, by go_num, HN⟩
        case measure => simp [intOf]; omega
    · obtain rfl : k = s.size := by omega
      have HN := Lib.hid (all_full s HT.out)
      go_wp2_with fail
      go_ret
      exact ⟨ret_bool (by rw [HN.out]; simp), rfl⟩

set_option maxHeartbeats 1000000 in
theorem Bytes02_any (s : ByteArray) (w : World) (hs : s.size ≤ 140737488355328) :
    Calls Try.prog 49 #[.string s] w fun e w' => e = .returned (.bool (fitAll s)) ∧ w = w' := by
  go_enter Try.func49, Try.ntmps49
  go_wp2_with fail
  go_loop [3] (fun i => ∃ k : Nat, k ≤ s.size ∧ i = .int .i64 k ∧ Hid ((s.data.toList.take k).all fitB = true)) (fun i => s.size - (intOf i).toNat)
  case atStart => exact ⟨0, Nat.zero_le _, rfl, Lib.hid rfl⟩
  case round =>
    obtain ⟨k, hk, rfl, HT⟩ := hrel
    by_cases hlt : k < s.size
    · by_cases hf : fitB s[k] = true
      · have HN := Lib.hid (all_take s k hlt hf HT.out)
        have hf2 : ¬ (s[k].toNat : Int) < 33 ∧ ((s[k].toNat : Int) == 127) = false := by
          unfold fitB at hf
          simp only [Bool.and_eq_true, decide_eq_true_eq, ne_eq] at hf
          rw [beq_eq_false_iff_ne]; omega
        obtain ⟨f1, f2⟩ := hf2
        clear hf
        go_wp2_with fail
        go_round
        case rel => exact ⟨k + 1, by omega, by go_num, HN⟩
        case measure => simp [intOf]; omega
      · have HN := Lib.hid (all_no s k hlt (by simpa using hf))
        have hf2 : (s[k].toNat : Int) < 33 ∨ ¬ (s[k].toNat : Int) < 33 ∧ ((s[k].toNat : Int) == 127) = true := by
          unfold fitB at hf
          simp only [Bool.and_eq_true, decide_eq_true_eq, ne_eq] at hf
          rw [beq_iff_eq]; omega
        clear hf
        rcases hf2 with f1 | ⟨f1, f2⟩
        all_goals
          go_wp2_with fail
          go_ret
          exact ⟨ret_bool (by rw [HN.out]), rfl⟩
    · obtain rfl : k = s.size := by omega
      have HN := Lib.hid (all_full s HT.out)
      go_wp2_with fail
      go_ret
      exact ⟨ret_bool (by rw [HN.out]), rfl⟩
end Go.Proofs.Ytehbjfjhalpgaaa
