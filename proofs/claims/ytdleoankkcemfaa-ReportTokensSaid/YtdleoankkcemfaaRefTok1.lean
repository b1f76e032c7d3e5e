/-
  The reference's letters, sizes and columns.
-/
import Derived.Test.YtdleoankkcemfaaRows
import Derived.Test.YtdleoankkcemfaaTok8
namespace Go.Proofs.Ytdleoankkcemfaa
open Go.RowKit

theorem letterB_eq2 (b : UInt8) : letterB b = ((decide (97 ≤ (b.toNat : Int)) && decide ((b.toNat : Int) ≤ 122)) || (decide (65 ≤ (b.toNat : Int)) && decide ((b.toNat : Int) ≤ 90)) || decide (127 < (b.toNat : Int))) := by
  rw [letterB_eq, Bool.eq_iff_iff]; simp; omega
set_option maxHeartbeats 400000 in
theorem letterR_any (b : UInt8) (w : World) :
    Calls Try.prog 76 #[.int .u8 b.toNat] w fun e w' => e = .returned (.bool (letterB b)) ∧ w = w' := by
  have H := Lib.hid (letterB_eq2 b)
  go_enter Try.func76, Try.ntmps76
  go_wp2
  all_goals go_ret
  all_goals exact ⟨ret_bool (by rw [H.out, Bool.eq_iff_iff]; simp; omega), rfl⟩

set_option maxHeartbeats 2000000 in
theorem belongsR_any (s : ByteArray) (i : Nat) (w : World) (hs : s.size ≤ 65536) (hi : i < s.size) :
    Calls Try.prog 54 #[.string s, .int .i64 i] w fun e w' => e = .returned (.bool (belongs s.data.toList i)) ∧ w = w' := by
  have HLo := Lib.hid (len_toList s)
  have HK := Lib.hid (byteAt_lt s i hi)
  cases hb : letterB s[i]
  · have HB : Hid (letterB (byteAt s.data.toList i) = false) := Lib.hid (by rw [HK.out]; exact hb)
    cases h39 : ((s[i].toNat : Int) != 39)
    · have HQ : Hid (byteAt s.data.toList i = 39) := Lib.hid (by
        rw [HK.out]; apply UInt8.toNat_inj.1
        have : ¬ ((s[i].toNat : Int) ≠ 39) := by
          intro h; rw [bne_iff_ne.2 h] at h39; cases h39
        show s[i].toNat = 39; omega)
      cases i with
      | zero =>
        have HS : Hid (belongs s.data.toList 0 = false) := Lib.hid (by unfold belongs; rw [HB.out]; simp)
        go_enter Try.func54, Try.ntmps54
        go_wp2_with (go_at_call 76; refine (letterR_any _ _).mono ?_; rintro e w' ⟨rfl, rfl⟩)
        go_ret
        exact ⟨ret_bool (by rw [HS.out]), rfl⟩
      | succ j =>
        have hj : j < s.size := by omega
        have HK2 : Hid (byteAt s.data.toList (j + 1 - 1) = s[j]) := Lib.hid (by rw [Nat.add_sub_cancel]; exact byteAt_lt s j hj)
        have hz0 : (((j : Int) + 1) == 0) = false := by rw [beq_eq_false_iff_ne]; omega
        by_cases hlt1 : j + 1 + 1 < s.size
        · have hns : ((((j : Int) + 1) + 1) == (s.size : Int)) = false := by rw [beq_eq_false_iff_ne]; omega
          have HK1 := Lib.hid (byteAt_lt s (j + 1 + 1) hlt1)
          cases hb1 : letterB s[j + 1 + 1]
          · have HS : Hid (belongs s.data.toList (j + 1) = false) := Lib.hid (belongs_stop HB.out (.inr (.inl (by rw [HK1.out]; exact hb1))))
            cases hb2 : letterB s[j]
            all_goals
              go_enter Try.func54, Try.ntmps54
              go_wp2_with (go_at_call 76; refine (letterR_any _ _).mono ?_; rintro e w' ⟨rfl, rfl⟩)
              go_ret
              exact ⟨ret_bool (by rw [HS.out]), rfl⟩
          · cases hb2 : letterB s[j]
            · have HS : Hid (belongs s.data.toList (j + 1) = false) := Lib.hid (belongs_stop HB.out (.inr (.inr (by rw [HK2.out]; exact hb2))))
              go_enter Try.func54, Try.ntmps54
              go_wp2_with (go_at_call 76; refine (letterR_any _ _).mono ?_; rintro e w' ⟨rfl, rfl⟩)
              go_ret
              exact ⟨ret_bool (by rw [HS.out]), rfl⟩
            · have HS : Hid (belongs s.data.toList (j + 1) = true) := Lib.hid (belongs_quote HQ.out (by omega) (by rw [HK1.out]; exact hb1) (by rw [HK2.out]; exact hb2))
              go_enter Try.func54, Try.ntmps54
              go_wp2_with (go_at_call 76; refine (letterR_any _ _).mono ?_; rintro e w' ⟨rfl, rfl⟩)
              go_ret
              exact ⟨ret_bool (by rw [HS.out]), rfl⟩
        · have HS : Hid (belongs s.data.toList (j + 1) = false) := Lib.hid (belongs_stop HB.out (.inr (.inl (by rw [byteAt_beyond _ _ (by rw [HLo.out]; omega)]; rfl))))
          have hne : ((j + 1 + 1 : Nat) == s.size) = true := by simp; omega
          have hei : ((((j : Int) + 1) + 1) == (s.size : Int)) = true := by simp; omega
          go_enter Try.func54, Try.ntmps54
          go_wp2_with (go_at_call 76; refine (letterR_any _ _).mono ?_; rintro e w' ⟨rfl, rfl⟩)
          go_ret
          exact ⟨ret_bool (by rw [HS.out]), rfl⟩
    · have HS : Hid (belongs s.data.toList i = false) := Lib.hid (belongs_stop HB.out (.inl (by rw [HK.out]; intro e; rw [e] at h39; cases h39)))
      go_enter Try.func54, Try.ntmps54
      go_wp2_with (go_at_call 76; refine (letterR_any _ _).mono ?_; rintro e w' ⟨rfl, rfl⟩)
      go_ret
      exact ⟨ret_bool (by rw [HS.out]), rfl⟩
  · have HS : Hid (belongs s.data.toList i = true) := Lib.hid (belongs_letter (by rw [HK.out]; exact hb))
    go_enter Try.func54, Try.ntmps54
    go_wp2_with (go_at_call 76; refine (letterR_any _ _).mono ?_; rintro e w' ⟨rfl, rfl⟩)
    go_ret
    exact ⟨ret_bool (by rw [HS.out]), rfl⟩

/-- Is the byte at place i one from lo to hi? -/
def folB (s : ByteArray) (i lo hi : Nat) : Bool := decide (i < s.size) && decide (lo ≤ (byteAt s.data.toList i).toNat) && decide ((byteAt s.data.toList i).toNat ≤ hi)
set_option maxHeartbeats 1000000 in
theorem follows_any (s : ByteArray) (i : Nat) (lo hi : Nat) (z : Int) (w : World) (hs : s.size ≤ 65536) (hz : z = (i : Int)) (hhi : hi < 256) (hl : lo < 256) :
    Calls Try.prog 100 #[.string s, .int .i64 z, .int .u8 lo, .int .u8 hi] w fun e w' => e = .returned (.bool (folB s i lo hi)) ∧ w = w' := by
  subst hz
  by_cases h : i < s.size
  · have HK := Lib.hid (byteAt_lt s i h)
    have HS : Hid (folB s i lo hi = (decide ((lo : Int) ≤ (s[i].toNat : Int)) && decide ((s[i].toNat : Int) ≤ (hi : Int)))) := Lib.hid (by
      unfold folB; rw [HK.out, Bool.eq_iff_iff]; simp [h])
    go_enter Try.func100, Try.ntmps100
    go_wp2
    all_goals go_ret
    all_goals exact ⟨ret_bool (by rw [HS.out, Bool.eq_iff_iff]; simp; omega), rfl⟩
  · have HS : Hid (folB s i lo hi = false) := Lib.hid (by unfold folB; simp [h])
    go_enter Try.func100, Try.ntmps100
    go_wp2
    all_goals go_ret
    all_goals exact ⟨ret_bool (by rw [HS.out]), rfl⟩
end Go.Proofs.Ytdleoankkcemfaa
