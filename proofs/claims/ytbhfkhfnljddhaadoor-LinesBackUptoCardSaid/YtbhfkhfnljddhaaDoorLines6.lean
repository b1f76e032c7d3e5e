/-
  The answers that the document fixes; numbers written and read; two lists of words compared.
-/
import Derived.Test.YtbhfkhfnljddhaaDoorRows
import Derived.Test.YtbhfkhfnljddhaaDoorLinesD
namespace Go.Proofs.YtbhfkhfnljddhaaDoor
open Go.RowKit

/-! ### The answers that the document fixes -/
theorem fields_ab : fieldsS ⟨#[97, 32, 98]⟩ = [⟨#[97]⟩, ⟨#[98]⟩] := by kernel_rfl
theorem num_907 : NumRet (⟨#[57, 48, 55]⟩ : ByteArray).data.toList 1000 = fun e => e = .returned (.tuple #[.int .i64 907, .int .i64 0]) := by
  have h : numOk (⟨#[57, 48, 55]⟩ : ByteArray).data.toList = true ∧ (valOf (⟨#[57, 48, 55]⟩ : ByteArray).data.toList : Int) ≤ 1000 := ⟨by kernel_rfl, by decide⟩
  obtain ⟨h1, h2⟩ := num_yes _ _ h
  funext e
  rw [NumRet, h1, h2]
  rfl
theorem dec_41 : mkS (Lib.decDigits 41) = ⟨#[52, 49]⟩ := by
  rw [Lib.decDigits_two (by omega) (by omega)]; rfl
theorem Decimal_41 (w : World) : Calls Tryd.prog 21 #[.int .i64 41] w fun e w' => e = .returned (.string ⟨#[52, 49]⟩) ∧ w = w' := by
  have := Decimal_small 41 w (by omega)
  rwa [dec_41] at this
theorem Number_907 (w : World) : Calls Tryd.prog 19 #[.string ⟨#[57, 48, 55]⟩, .int .i64 1000] w fun e w' => e = .returned (.tuple #[.int .i64 907, .int .i64 0]) ∧ w = w' := by
  have := Number_any ⟨#[57, 48, 55]⟩ 1000 w (by decide) (by omega) (by omega)
  rwa [num_907] at this
def AbIs (w : World) (e : Ending) (w' : World) : Prop := ∃ g cap, e = .returned (.slice (some ⟨g, 0, none⟩) 2 cap) ∧ w'.cell? ⟨g, 0, none⟩ = some (.string ⟨#[97]⟩) ∧ Below w.heap.size w w'
theorem Fields_ab (w : World) : Calls Tryd.prog 17 #[.string ⟨#[97, 32, 98]⟩] w (AbIs w) := by
  refine (Fields_any ⟨#[97, 32, 98]⟩ w (by decide)).mono ?_
  rintro e w' ⟨v, rfl, ho⟩
  rw [fields_ab] at ho
  obtain ⟨g, cap, rfl⟩ := own_form ho.own (by decide)
  exact ⟨g, cap, rfl, own_str ho.own 0 (by decide), ho.below⟩

set_option maxHeartbeats 1000000 in
theorem wakes01_any (w : World) : Calls Tryd.prog 15 #[] w fun e w' => e = .returned (.bool true) ∧ Below w.heap.size w w' := by
  go_enter Tryd.func15, Tryd.ntmps15
  go_wp2_with (first
    | (go_at_call 19; refine (Number_907 _).mono ?_; rintro e w1 ⟨rfl, rfl⟩)
    | (go_at_call 17; refine (Fields_ab _).mono ?_; rintro e w1 ⟨g, cap, rfl, hc, hb1⟩; have HB1 := Lib.hid hb1; clear hb1)
    | (go_at_call 21; refine (Decimal_41 _).mono ?_; rintro e w1 ⟨rfl, rfl⟩))
  go_ret
  exact ⟨rfl, HB1.out⟩


set_option maxHeartbeats 1000000 in
theorem linesDecimals_walk (n : Int) (w : World) (h0 : -9223372036854775808 ≤ n) (h1 : n ≤ 9223372036854775807) (hpt : ∀ w', Below w.heap.size w w' → PowTab w') :
    Calls Tryd.prog 5 #[.int .i64 n] w fun e w' => e = .returned (.bool true) ∧ Below w.heap.size w w' := by
  have HT := Lib.hid hpt
  have HB := Lib.hid (Below.refl w.heap.size w)
  clear hpt
  go_enter Tryd.func5, Tryd.ntmps5
  go_wp2_with (first
    | (go_at_call 15; refine (wakes01_any _).mono ?_; rintro e w1 ⟨rfl, hb1⟩; have HB' := Lib.hid (HB.out.trans (hb1.mono HB.out.size)); clear hb1 HB; have HB := HB'; clear HB')
    | (go_at_call 21; refine (Decimal_any _ _ h0 h1 (HT.out _ HB.out)).mono ?_; rintro e w1 ⟨rfl, hb1⟩; have HB' := Lib.hid (HB.out.trans (hb1.mono HB.out.size)); clear hb1 HB; have HB := HB'; clear HB')
    | (go_at_call 22; refine (Decimal01_any _ _ h0 h1).mono ?_; rintro e w1 ⟨rfl, hb1⟩; have HB' := Lib.hid (HB.out.trans (hb1.mono HB.out.size)); clear hb1 HB; have HB := HB'; clear HB'))
  go_ret
  exact ⟨ret_bool (by simp), HB.out⟩

set_option maxHeartbeats 1000000 in
theorem linesNumbered_walk (s : ByteArray) (most : Int) (w : World) (hs : s.size ≤ maxLen) (h0 : -9223372036854775808 ≤ most) (h1 : most ≤ 9223372036854775807) :
    Calls Tryd.prog 4 #[.string s, .int .i64 most] w fun e w' => e = .returned (.bool true) ∧ Below w.heap.size w w' := by
  have HB := Lib.hid (Below.refl w.heap.size w)
  go_enter Tryd.func4, Tryd.ntmps4
  go_wp2_with (first
    | (go_at_call 15; refine (wakes01_any _).mono ?_; rintro e w1 ⟨rfl, hb1⟩; have HB' := Lib.hid (HB.out.trans (hb1.mono HB.out.size)); clear hb1 HB; have HB := HB'; clear HB')
    | (go_at_call 19; refine (Number_any _ _ _ hs h0 h1).mono ?_; rintro e w1 ⟨rfl, rfl⟩)
    | (go_at_call 20; refine (Number01_any _ _ _ hs h0 h1).mono ?_; rintro e w1 ⟨rfl, rfl⟩))
  go_ret
  exact ⟨ret_bool (by simp), HB.out⟩

theorem counts_eq (n most : Int) : NumRet (decS n).data.toList most = fun e => e = .returned (.tuple #[.int .i64 (if n < 0 ∨ most < n then 0 else n), .int .i64 (if n < 0 ∨ most < n then 13 else 0)]) := by
  funext e
  unfold NumRet decS
  rw [mkS_data]
  unfold Lib.itoa
  by_cases h : n < 0
  · rw [if_pos h, if_pos (.inl h), if_pos (.inl h)]
    obtain ⟨h1, h2⟩ := num_no (45 :: Lib.decDigits n.natAbs) most (by rw [num_neg]; simp)
    rw [h1, h2]
  · rw [if_neg h]
    obtain ⟨a, rfl⟩ := Int.eq_ofNat_of_zero_le (show 0 ≤ n by omega)
    obtain ⟨h3, h4⟩ := num_dec a
    rw [Int.toNat_natCast]
    by_cases hm : most < (a : Int)
    · rw [if_pos (.inr hm), if_pos (.inr hm)]
      obtain ⟨h1, h2⟩ := num_no (Lib.decDigits a) most (by rw [h4]; omega)
      rw [h1, h2]
    · rw [if_neg (by omega), if_neg (by omega)]
      obtain ⟨h1, h2⟩ := num_yes (Lib.decDigits a) most ⟨h3, by rw [h4]; omega⟩
      rw [h1, h2, h4]
theorem decS_size (n : Int) (h0 : -9223372036854775808 ≤ n) (h1 : n ≤ 9223372036854775807) : (decS n).size ≤ maxLen := by
  have hb : ∀ (k u : Nat), u < 10 ^ (k + 1) → (Lib.decDigits u).length ≤ k + 1 := by
    intro k
    induction k with
    | zero => intro u hu; rw [Lib.decDigits_one (by omega)]; simp
    | succ k ih =>
      intro u hu
      rw [Lib.decDigits]
      by_cases h : u < 10
      · rw [dif_pos h]; simp
      · rw [dif_neg h, List.length_append]
        have := ih (u / 10) (by rw [Nat.pow_succ] at hu; omega)
        simp; omega
  have e10 : (10 : Nat) ^ (19 + 1) = 100000000000000000000 := by decide
  unfold decS Lib.itoa maxLen
  rw [mkS_size]
  split
  · have := hb 19 n.natAbs (by rw [e10]; omega)
    simp only [List.length_cons]; omega
  · have := hb 19 n.toNat (by rw [e10]; omega)
    omega

set_option maxHeartbeats 1000000 in
theorem linesCounts_walk (n most : Int) (w : World) (h0 : -9223372036854775808 ≤ n) (h1 : n ≤ 9223372036854775807) (h2 : -9223372036854775808 ≤ most) (h3 : most ≤ 9223372036854775807) (hpt : ∀ w', Below w.heap.size w w' → PowTab w') :
    Calls Tryd.prog 6 #[.int .i64 n, .int .i64 most] w fun e w' => e = .returned (.bool true) ∧ Below w.heap.size w w' := by
  have HT := Lib.hid hpt
  have HS := Lib.hid (decS_size n h0 h1)
  have HB := Lib.hid (Below.refl w.heap.size w)
  clear hpt
  have HN : Hid (∀ W, Calls Tryd.prog 19 #[.string (decS n), .int .i64 most] W fun e w' => e = .returned (.tuple #[.int .i64 (if n < 0 ∨ most < n then 0 else n), .int .i64 (if n < 0 ∨ most < n then 13 else 0)]) ∧ W = w') := Lib.hid fun W => by
    have := Number_any (decS n) most W HS.out h2 h3
    rwa [counts_eq] at this
  by_cases hn : n < 0
  · simp only [hn, true_or, if_true] at HN
    go_enter Tryd.func6, Tryd.ntmps6
    go_wp2_with (first
      | (go_at_call 15; refine (wakes01_any _).mono ?_; rintro e w1 ⟨rfl, hb1⟩; have HB' := Lib.hid (HB.out.trans (hb1.mono HB.out.size)); clear hb1 HB; have HB := HB'; clear HB')
      | (go_at_call 21; refine (Decimal_any _ _ h0 h1 (HT.out _ HB.out)).mono ?_; rintro e w1 ⟨rfl, hb1⟩; have HB' := Lib.hid (HB.out.trans (hb1.mono HB.out.size)); clear hb1 HB; have HB := HB'; clear HB')
      | (go_at_call 19; refine (HN.out _).mono ?_; rintro e w1 ⟨rfl, rfl⟩))
    go_ret
    exact ⟨rfl, HB.out⟩
  · by_cases hm : most < n
    · simp only [hm, or_true, if_true] at HN
      go_enter Tryd.func6, Tryd.ntmps6
      go_wp2_with (first
        | (go_at_call 15; refine (wakes01_any _).mono ?_; rintro e w1 ⟨rfl, hb1⟩; have HB' := Lib.hid (HB.out.trans (hb1.mono HB.out.size)); clear hb1 HB; have HB := HB'; clear HB')
        | (go_at_call 21; refine (Decimal_any _ _ h0 h1 (HT.out _ HB.out)).mono ?_; rintro e w1 ⟨rfl, hb1⟩; have HB' := Lib.hid (HB.out.trans (hb1.mono HB.out.size)); clear hb1 HB; have HB := HB'; clear HB')
        | (go_at_call 19; refine (HN.out _).mono ?_; rintro e w1 ⟨rfl, rfl⟩))
      go_ret
      exact ⟨rfl, HB.out⟩
    · simp only [hn, hm, or_self, if_false] at HN
      go_enter Tryd.func6, Tryd.ntmps6
      go_wp2_with (first
        | (go_at_call 15; refine (wakes01_any _).mono ?_; rintro e w1 ⟨rfl, hb1⟩; have HB' := Lib.hid (HB.out.trans (hb1.mono HB.out.size)); clear hb1 HB; have HB := HB'; clear HB')
        | (go_at_call 21; refine (Decimal_any _ _ h0 h1 (HT.out _ HB.out)).mono ?_; rintro e w1 ⟨rfl, hb1⟩; have HB' := Lib.hid (HB.out.trans (hb1.mono HB.out.size)); clear hb1 HB; have HB := HB'; clear HB')
        | (go_at_call 19; refine (HN.out _).mono ?_; rintro e w1 ⟨rfl, rfl⟩))
      go_ret
      exact ⟨ret_bool (by simp), HB.out⟩
end Go.Proofs.YtbhfkhfnljddhaaDoor
