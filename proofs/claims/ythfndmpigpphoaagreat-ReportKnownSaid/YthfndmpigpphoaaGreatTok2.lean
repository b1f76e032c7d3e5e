/-
  A byte of a word; the end of a word.
-/
import Derived.Test.YthfndmpigpphoaaGreatRows
import Derived.Test.YthfndmpigpphoaaGreatTok1
import Derived.Test.YthfndmpigpphoaaGreatEach2
namespace Go.Proofs.YthfndmpigpphoaaGreat
open Go.RowKit

theorem letterB_eq (b : UInt8) : letterB b = ((decide (97 ≤ (b.toNat : Int)) && decide ((b.toNat : Int) ≤ 122)) || (decide (65 ≤ (b.toNat : Int)) && decide ((b.toNat : Int) ≤ 90)) || decide (128 ≤ (b.toNat : Int))) := by
  unfold letterB; rw [Bool.eq_iff_iff]; simp [UInt8.le_iff_toNat_le]; omega

set_option maxHeartbeats 400000 in
theorem letter_any (b : UInt8) (w : World) :
    Calls Tryz.prog 22 #[.int .u8 b.toNat] w fun e w' => e = .returned (.bool (letterB b)) ∧ w = w' := by
  have H := Lib.hid (letterB_eq b)
  go_enter Tryz.func22, Tryz.ntmps22
  go_wp2
  all_goals go_ret
  all_goals exact ⟨ret_bool (by rw [H.out, Bool.eq_iff_iff]; simp; omega), rfl⟩

theorem belongs_stop {L : List UInt8} {k : Nat} (h1 : letterB (byteAt L k) = false) (h : byteAt L k ≠ 39 ∨ letterB (byteAt L (k + 1)) = false ∨ letterB (byteAt L (k - 1)) = false) : belongs L k = false := by
  unfold belongs
  rw [h1]
  rcases h with h | h | h
  · have : (byteAt L k == 39) = false := by simpa using h
    rw [this]; rfl
  · rw [h]; simp
  · rw [h]; simp
theorem belongs_quote {L : List UInt8} {k : Nat} (h1 : byteAt L k = 39) (h0 : 0 < k) (h2 : letterB (byteAt L (k + 1)) = true) (h3 : letterB (byteAt L (k - 1)) = true) : belongs L k = true := by
  unfold belongs; rw [h1, h2, h3]; simp [h0]

set_option maxRecDepth 100000 in
set_option maxHeartbeats 4000000 in
theorem end_any (s : ByteArray) (i : Nat) (w : World) (hs : s.size ≤ 65536) (hi : letterB (byteAt s.data.toList i) = true) :
    Calls Tryz.prog 23 #[.string s, .int .i64 i] w fun e w' => e = .returned (.int .i64 (endOf s.data.toList i)) ∧ w = w' := by
  have hlo := len_toList s
  have hil : i < s.size := by have := letter_lt hi; omega
  have HI := Lib.hid hi
  have HEnd := Lib.hid (endOf_is s.data.toList i (by omega))
  clear hi
  have HL := Lib.hid hlo
  clear hlo
  go_enter Tryz.func23, Tryz.ntmps23
  go_wp2_with fail
  go_loop [1] (fun j => ∃ k : Nat, i ≤ k ∧ k ≤ s.size ∧ j = .int .i64 k ∧ ∀ q, i ≤ q → q < k → belongs s.data.toList q = true) (fun j => s.size - (intOf j).toNat)
  case atStart => exact ⟨i, Nat.le_refl _, by omega, rfl, fun q h1 h2 => by omega⟩
  case round =>
    obtain ⟨k, hik, hk, rfl, hall⟩ := hrel
    have HA := Lib.hid hall
    clear hall
    have Fin : Hid ((k < s.data.toList.length → belongs s.data.toList k = false) → endOf s.data.toList i = k) := Lib.hid fun h => HEnd.out.unique ⟨hik, by rw [HL.out]; exact hk, HA.out, h⟩
    have Next : Hid (belongs s.data.toList k = true → ∀ q, i ≤ q → q < k + 1 → belongs s.data.toList q = true) := Lib.hid fun h q h1 h2 => by
      rcases Nat.lt_or_ge q k with g | g
      · exact HA.out q h1 g
      · have : q = k := by omega
        rw [this]; exact h
    by_cases hlt : k < s.size
    · have HK := Lib.hid (byteAt_lt s k hlt)
      cases hb : letterB s[k]
      · have HB : Hid (letterB (byteAt s.data.toList k) = false) := Lib.hid (by rw [HK.out]; exact hb)
        have hik2 : i < k := by
          rcases Nat.lt_or_ge i k with g | g
          · exact g
          · have e : k = i := by omega
            have := HB.out
            rw [e, HI.out] at this; cases this
        cases h39 : ((s[k].toNat : Int) == 39)
        · have HS : Hid (endOf s.data.toList i = k) := Lib.hid (Fin.out fun _ => belongs_stop HB.out (.inl (by rw [HK.out]; intro e; rw [e] at h39; cases h39)))
          go_wp2_with (go_at_call 22; refine (letter_any _ _).mono ?_; rintro e w' ⟨rfl, rfl⟩)
          go_ret
          exact ⟨ret_int (by rw [HS.out]), rfl⟩
        · have HQ : Hid (byteAt s.data.toList k = 39) := Lib.hid (by rw [HK.out]; apply UInt8.toNat_inj.1; have := beq_iff_eq.1 h39; show s[k].toNat = 39; omega)
          by_cases hlt1 : k + 1 < s.size
          · have HK1 := Lib.hid (byteAt_lt s (k + 1) hlt1)
            cases hb1 : letterB s[k + 1]
            · have HS : Hid (endOf s.data.toList i = k) := Lib.hid (Fin.out fun _ => belongs_stop HB.out (.inr (.inl (by rw [HK1.out]; exact hb1))))
              go_wp2_with (go_at_call 22; refine (letter_any _ _).mono ?_; rintro e w' ⟨rfl, rfl⟩)
              go_ret
              exact ⟨ret_int (by rw [HS.out]), rfl⟩
            · obtain ⟨j, rfl⟩ : ∃ j, k = j + 1 := ⟨k - 1, by omega⟩
              have hj : j < s.size := by omega
              have HK2 : Hid (byteAt s.data.toList (j + 1 - 1) = s[j]) := Lib.hid (by rw [Nat.add_sub_cancel]; exact byteAt_lt s j hj)
              cases hb2 : letterB s[j]
              · have HS : Hid (endOf s.data.toList i = j + 1) := Lib.hid (Fin.out fun _ => belongs_stop HB.out (.inr (.inr (by rw [HK2.out]; exact hb2))))
                go_wp2_with (go_at_call 22; refine (letter_any _ _).mono ?_; rintro e w' ⟨rfl, rfl⟩)
                go_ret
                exact ⟨ret_int (by rw [HS.out]; omega), rfl⟩
              · have HN := Lib.hid (Next.out (belongs_quote HQ.out (by omega) (by rw [HK1.out]; exact hb1) (by rw [HK2.out]; exact hb2)))
                go_wp2_with (go_at_call 22; refine (letter_any _ _).mono ?_; rintro e w' ⟨rfl, rfl⟩)
                go_round
                case rel => exact ⟨j + 1 + 1, by omega, by omega, by go_num, HN.out⟩
                case measure => simp [intOf]; omega
          · have HS : Hid (endOf s.data.toList i = k) := Lib.hid (Fin.out fun _ => belongs_stop HB.out (.inr (.inl (by rw [byteAt_beyond _ _ (by rw [HL.out]; omega)]; rfl))))
            go_wp2_with (go_at_call 22; refine (letter_any _ _).mono ?_; rintro e w' ⟨rfl, rfl⟩)
            go_ret
            exact ⟨ret_int (by rw [HS.out]), rfl⟩
      · have HN := Lib.hid (Next.out (belongs_letter (by rw [HK.out]; exact hb)))
        go_wp2_with (go_at_call 22; refine (letter_any _ _).mono ?_; rintro e w' ⟨rfl, rfl⟩)
        go_round
        case rel => exact ⟨k + 1, by omega, by omega, by go_num, HN.out⟩
        case measure => simp [intOf]; omega
    · obtain rfl : k = s.size := by omega
      have HS : Hid (endOf s.data.toList i = s.size) := Lib.hid (Fin.out fun h => by rw [HL.out] at h; omega)
      go_wp2_with fail
      go_ret
      exact ⟨ret_int (by rw [HS.out]), rfl⟩
end Go.Proofs.YthfndmpigpphoaaGreat
