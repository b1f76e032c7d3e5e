/-
  Decimal of any number; what the digits of a number write is the number.
-/
import Derived.Test.YtbhfkhfnljddhaaDoorRows
import Derived.Test.YtbhfkhfnljddhaaDoorLines3
import Derived.Test.YtbhfkhfnljddhaaDoorLines5
namespace Go.Proofs.YtbhfkhfnljddhaaDoor
open Go.RowKit

set_option maxHeartbeats 1000000 in
theorem Decimal01_any (n : Int) (w : World) (h0 : -9223372036854775808 ≤ n) (h1 : n ≤ 9223372036854775807) :
    Calls Tryd.prog 22 #[.int .i64 n] w fun e w' => e = .returned (.string (decS n)) ∧ Below w.heap.size w w' := by
  rcases (show n = 0 ∨ 0 < n ∨ n < 0 by omega) with h | h | h
  · subst h
    have e : decS 0 = ⟨#[48]⟩ := by
      unfold decS Lib.itoa
      rw [if_neg (by omega), show (0 : Int).toNat = 0 from rfl, Lib.decDigits_one (by omega)]; rfl
    rw [e]
    go_enter Tryd.func22, Tryd.ntmps22
    go_wp2_with fail
    go_ret
    exact ⟨rfl, Below.refl _ _⟩
  · obtain ⟨a, rfl⟩ := Int.eq_ofNat_of_zero_le (show 0 ≤ n by omega)
    have e : decS (a : Int) = mkS ([] ++ Lib.decDigits a) := by unfold decS Lib.itoa; rw [if_neg (by omega)]; simp
    rw [e]
    exact Decimal01_pos a (by omega) (by omega) w
  · obtain ⟨a, ha⟩ := Int.eq_ofNat_of_zero_le (show 0 ≤ -n by omega)
    obtain rfl : n = -(a : Int) := by omega
    have e : decS (-(a : Int)) = mkS ([45] ++ Lib.decDigits a) := by unfold decS Lib.itoa; rw [if_pos (by omega)]; simp
    rw [e]
    exact Decimal01_neg a (by omega) (by omega) w

/-! ### What the digits of a number write is the number -/
theorem dig_byte (m : Nat) (h : m < 10) : digB (UInt8.ofNat (48 + m)) = true ∧ (UInt8.ofNat (48 + m)).toNat - 48 = m := by
  have h1 : (UInt8.ofNat (48 + m)).toNat = 48 + m := by rw [UInt8.toNat_ofNat']; omega
  exact ⟨by simp only [digB, h1, decide_eq_true_eq]; omega, by omega⟩
theorem dec_val (u : Nat) : valOf (Lib.decDigits u) = u ∧ (Lib.decDigits u).all digB = true ∧ Lib.decDigits u ≠ [] ∧ (0 < u → (Lib.decDigits u).head? ≠ some 48) := by
  induction u using Nat.strongRecOn with
  | _ u ih =>
    rw [Lib.decDigits]
    by_cases h : u < 10
    · rw [dif_pos h]
      obtain ⟨h1, h2⟩ := dig_byte u h
      refine ⟨by simp only [valOf, List.foldl_cons, List.foldl_nil]; omega, by rw [List.all_cons, h1]; rfl, by simp, fun hu => ?_⟩
      simp only [List.head?_cons, ne_eq, Option.some.injEq]
      intro e
      have := congrArg UInt8.toNat e
      rw [UInt8.toNat_ofNat'] at this
      have h48 : (48 : UInt8).toNat = 48 := rfl
      omega
    · rw [dif_neg h]
      obtain ⟨i1, i2, i3, i4⟩ := ih (u / 10) (by omega)
      obtain ⟨h1, h2⟩ := dig_byte (u % 10) (Nat.mod_lt _ (by omega))
      refine ⟨by rw [valOf_snoc, i1, h2]; omega, by rw [List.all_append, i2, List.all_cons, h1]; rfl, by simp, fun hu => ?_⟩
      rw [show ∀ (l m : List UInt8), l ≠ [] → (l ++ m).head? = l.head? from fun l m h => by cases l <;> simp_all] <;> try exact i3
      exact i4 (by omega)
theorem num_dec (u : Nat) : numOk (Lib.decDigits u) = true ∧ valOf (Lib.decDigits u) = u := by
  obtain ⟨h1, h2, h3, h4⟩ := dec_val u
  refine ⟨?_, h1⟩
  have e1 : (Lib.decDigits u).isEmpty = false := by cases h : Lib.decDigits u <;> simp_all
  have e2 : (decide (1 < (Lib.decDigits u).length) && (Lib.decDigits u).head? == some 48) = false := by
    rcases Nat.eq_zero_or_pos u with rfl | hu
    · rw [Lib.decDigits_one (by omega)]; rfl
    · have := h4 hu
      simp [this]
  rw [numOk, e1, e2, h2]; rfl
theorem num_neg (l : List UInt8) : numOk (45 :: l) = false := by
  have : digB 45 = false := rfl
  simp [numOk, this]
end Go.Proofs.YtbhfkhfnljddhaaDoor
