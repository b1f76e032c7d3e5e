/-
  How many bytes the character at a place has: the reference's answer is the decoder's.
-/
import Derived.Test.YtdleoankkcemfaaRows
import Derived.Test.YtdleoankkcemfaaRefTok1
namespace Go.Proofs.Ytdleoankkcemfaa
open Go.RowKit

/-- Do the d bytes behind the second go on a letter, too? -/
def okU (s : ByteArray) (i lo hi : Nat) : Nat → Bool
  | 0 => folB s (i + 1) lo hi
  | d + 1 => okU s i lo hi d && folB s (i + (2 + d)) 128 191
theorem okU_false (s : ByteArray) (i lo hi d : Nat) (h : okU s i lo hi d = false) : ∀ k, okU s i lo hi (d + k) = false
  | 0 => h
  | k + 1 => by rw [← Nat.add_assoc]; unfold okU; rw [okU_false s i lo hi d h k]; rfl
def sizeR (s : ByteArray) (i n lo hi : Nat) : Nat := if okU s i lo hi (n - 2) then n else 1
theorem folB_n (s : ByteArray) (i lo hi : Nat) (h : 1 ≤ lo) : folB s i lo hi = decide (lo ≤ (byteAt s.data.toList i).toNat ∧ (byteAt s.data.toList i).toNat ≤ hi) := by
  unfold folB
  by_cases hi' : i < s.size
  · simp [hi']
  · rw [byteAt_beyond s.data.toList i (by rw [len_toList]; omega), Bool.eq_iff_iff]
    simp [hi']; omega
theorem beyond0 (s : ByteArray) (k : Nat) (h : s.size ≤ k) : (byteAt s.data.toList k).toNat = 0 := by rw [byteAt_beyond _ _ (by rw [len_toList]; exact h)]; rfl
theorem size_slow2 (s : ByteArray) (i b0 b3 lo hi : Nat) (hl : 128 ≤ lo) : sizeR s i 2 lo hi = (Lib.slowN (s.size - i) b0 (byteAt s.data.toList (i + 1)).toNat (byteAt s.data.toList (i + 2)).toNat b3 2 lo hi).2 := by
  have z1 := beyond0 s (i + 1)
  have e : sizeR s i 2 lo hi = if folB s (i + 1) lo hi then 2 else 1 := rfl
  rw [e, folB_n _ _ _ _ (by omega)]
  unfold Lib.slowN
  generalize (byteAt s.data.toList (i + 1)).toNat = b1 at *
  simp only [decide_eq_true_eq]
  repeat' split
  all_goals first | rfl | omega
theorem size_slow3 (s : ByteArray) (i b0 b3 lo hi : Nat) (hl : 128 ≤ lo) : sizeR s i 3 lo hi = (Lib.slowN (s.size - i) b0 (byteAt s.data.toList (i + 1)).toNat (byteAt s.data.toList (i + 2)).toNat b3 3 lo hi).2 := by
  have z1 := beyond0 s (i + 1)
  have z2 := beyond0 s (i + 2)
  have e : sizeR s i 3 lo hi = if folB s (i + 1) lo hi && folB s (i + 2) 128 191 then 3 else 1 := rfl
  rw [e, folB_n _ _ _ _ (by omega), folB_n _ _ _ _ (by omega)]
  unfold Lib.slowN
  generalize (byteAt s.data.toList (i + 1)).toNat = b1 at *
  generalize (byteAt s.data.toList (i + 2)).toNat = b2 at *
  simp only [Bool.and_eq_true, decide_eq_true_eq]
  repeat' split
  all_goals first | rfl | omega
theorem size_slow4 (s : ByteArray) (i b0 lo hi : Nat) (hl : 128 ≤ lo) : sizeR s i 4 lo hi = (Lib.slowN (s.size - i) b0 (byteAt s.data.toList (i + 1)).toNat (byteAt s.data.toList (i + 2)).toNat (byteAt s.data.toList (i + 3)).toNat 4 lo hi).2 := by
  have z1 := beyond0 s (i + 1)
  have z2 := beyond0 s (i + 2)
  have z3 := beyond0 s (i + 3)
  have e : sizeR s i 4 lo hi = if folB s (i + 1) lo hi && folB s (i + 2) 128 191 && folB s (i + 3) 128 191 then 4 else 1 := rfl
  rw [e, folB_n _ _ _ _ (by omega), folB_n _ _ _ _ (by omega), folB_n _ _ _ _ (by omega)]
  unfold Lib.slowN
  generalize (byteAt s.data.toList (i + 1)).toNat = b1 at *
  generalize (byteAt s.data.toList (i + 2)).toNat = b2 at *
  generalize (byteAt s.data.toList (i + 3)).toNat = b3 at *
  simp only [Bool.and_eq_true, decide_eq_true_eq]
  repeat' split
  all_goals first | rfl | omega
theorem dec_at (s : ByteArray) (i : Nat) : Utf8.decode s i = Lib.decodeN (s.size - i) (byteAt s.data.toList i).toNat (byteAt s.data.toList (i + 1)).toNat (byteAt s.data.toList (i + 2)).toNat (byteAt s.data.toList (i + 3)).toNat := by
  rw [Lib.decode_at, getB_byteAt, getB_byteAt, getB_byteAt, getB_byteAt]
theorem dec_one (s : ByteArray) (i : Nat) (h : (byteAt s.data.toList i).toNat < 194 ∨ 244 < (byteAt s.data.toList i).toNat) : (Utf8.decode s i).2 = 1 := by
  have hb0 := (byteAt s.data.toList i).toNat_lt
  have hb1 := (byteAt s.data.toList (i + 1)).toNat_lt
  have hb2 := (byteAt s.data.toList (i + 2)).toNat_lt
  have hb3 := (byteAt s.data.toList (i + 3)).toNat_lt
  rw [dec_at]
  unfold Lib.decodeN
  repeat' split
  all_goals first | rfl | (exfalso; omega)

theorem dec_C2 (s : ByteArray) (i : Nat) (hi : i < s.size) (hc : 194 ≤ (byteAt s.data.toList i).toNat ∧ (byteAt s.data.toList i).toNat < 224) : (Utf8.decode s i).2 = sizeR s i 2 128 191 := by
  rw [dec_at, size_slow2 s i (byteAt s.data.toList i).toNat (byteAt s.data.toList (i + 3)).toNat 128 191 (by omega), Lib.slow_C2 _ _ _ _ _ (by omega) (byteAt _ _).toNat_lt (byteAt _ _).toNat_lt (byteAt _ _).toNat_lt (hc)]

set_option maxRecDepth 100000 in
set_option maxHeartbeats 4000000 in
theorem Size_C2 (s : ByteArray) (i : Nat) (w : World) (hs : s.size ≤ 65536) (hi : i < s.size) (hc : 194 ≤ (byteAt s.data.toList i).toNat ∧ (byteAt s.data.toList i).toNat < 224) :
    Calls Try.prog 77 #[.string s, .int .i64 i] w fun e w' => e = .returned (.int .i64 ((Utf8.decode s i).2 : Nat)) ∧ w = w' := by
  have HD := Lib.hid (dec_C2 s i hi hc)
  rw [byteAt_lt s i hi] at hc
  have f1 : (194 : Int) ≤ (s[i].toNat : Int) := by omega
  have f2 : (s[i].toNat : Int) ≤ 223 := by omega
  have g224 : ((s[i].toNat : Int) == 224) = false := by rw [beq_eq_false_iff_ne]; omega
  have g237 : ((s[i].toNat : Int) == 237) = false := by rw [beq_eq_false_iff_ne]; omega
  have g240 : ((s[i].toNat : Int) == 240) = false := by rw [beq_eq_false_iff_ne]; omega
  have g244 : ((s[i].toNat : Int) == 244) = false := by rw [beq_eq_false_iff_ne]; omega
  clear hc
  go_enter Try.func77, Try.ntmps77
  go_wp2_with (go_at_call 100; refine (follows_any s (i + 1) 128 191 _ _ hs (by omega) (by omega) (by omega)).mono ?_; rintro e w' ⟨rfl, rfl⟩)
  go_loop [9, 10] (fun ok k => ∃ d : Nat, 2 + d ≤ 2 ∧ k = .int .i64 (2 + d : Nat) ∧ ok = .bool (okU s i 128 191 d)) (fun _ k => 2 - (intOf k).toNat)
  case atStart => exact ⟨0, by omega, rfl, rfl⟩
  case round =>
    obtain ⟨d, hd, rfl, rfl⟩ := hrel
    by_cases hdn : 2 + d < 2
    · exfalso; omega
    · obtain rfl : d = 0 := by omega
      cases hok : okU s i 128 191 0
      · have HF : Hid (sizeR s i 2 128 191 = 1) := Lib.hid (by unfold sizeR; rw [show 2 - 2 = 0 from rfl, hok]; rfl)
        go_wp2_with fail
        go_ret
        exact ⟨ret_int (by rw [HD.out, HF.out]; try rfl), rfl⟩
      · have HF : Hid (sizeR s i 2 128 191 = 2) := Lib.hid (by unfold sizeR; rw [show 2 - 2 = 0 from rfl, hok]; rfl)
        go_wp2_with fail
        go_ret
        exact ⟨ret_int (by rw [HD.out, HF.out]; try rfl), rfl⟩

theorem dec_E0 (s : ByteArray) (i : Nat) (hi : i < s.size) (hc : (byteAt s.data.toList i).toNat = 224) : (Utf8.decode s i).2 = sizeR s i 3 160 191 := by
  rw [dec_at, size_slow3 s i (byteAt s.data.toList i).toNat (byteAt s.data.toList (i + 3)).toNat 160 191 (by omega), Lib.slow_E0 _ _ _ _ _ (by omega) (byteAt _ _).toNat_lt (byteAt _ _).toNat_lt (byteAt _ _).toNat_lt (hc)]

set_option maxRecDepth 100000 in
set_option maxHeartbeats 4000000 in
theorem Size_E0 (s : ByteArray) (i : Nat) (w : World) (hs : s.size ≤ 65536) (hi : i < s.size) (hc : (byteAt s.data.toList i).toNat = 224) :
    Calls Try.prog 77 #[.string s, .int .i64 i] w fun e w' => e = .returned (.int .i64 ((Utf8.decode s i).2 : Nat)) ∧ w = w' := by
  have HD := Lib.hid (dec_E0 s i hi hc)
  rw [byteAt_lt s i hi] at hc
  have f1 : (224 : Int) ≤ (s[i].toNat : Int) := by omega
  have f2 : (s[i].toNat : Int) ≤ 224 := by omega
  have g224 : ((s[i].toNat : Int) == 224) = true := by rw [beq_iff_eq]; omega
  have g237 : ((s[i].toNat : Int) == 237) = false := by rw [beq_eq_false_iff_ne]; omega
  have g240 : ((s[i].toNat : Int) == 240) = false := by rw [beq_eq_false_iff_ne]; omega
  have g244 : ((s[i].toNat : Int) == 244) = false := by rw [beq_eq_false_iff_ne]; omega
  clear hc
  go_enter Try.func77, Try.ntmps77
  go_wp2_with (go_at_call 100; refine (follows_any s (i + 1) 160 191 _ _ hs (by omega) (by omega) (by omega)).mono ?_; rintro e w' ⟨rfl, rfl⟩)
  go_loop [9, 10] (fun ok k => ∃ d : Nat, 2 + d ≤ 3 ∧ k = .int .i64 (2 + d : Nat) ∧ ok = .bool (okU s i 160 191 d)) (fun _ k => 3 - (intOf k).toNat)
  case atStart => exact ⟨0, by omega, rfl, rfl⟩
  case round =>
    obtain ⟨d, hd, rfl, rfl⟩ := hrel
    by_cases hdn : 2 + d < 3
    · cases hok : okU s i 160 191 d
      · have HF : Hid (sizeR s i 3 160 191 = 1) := Lib.hid (by
          have := okU_false s i 160 191 d hok (3 - 2 - d)
          rw [show d + (3 - 2 - d) = 3 - 2 by omega] at this
          unfold sizeR; rw [this]; rfl)
        go_wp2_with fail
        go_ret
        exact ⟨ret_int (by rw [HD.out, HF.out]; try rfl), rfl⟩
      · have HN : Hid (okU s i 160 191 (d + 1) = folB s (i + (2 + d)) 128 191) := Lib.hid (by unfold okU; rw [hok]; rfl)
        go_wp2_with (go_at_call 100; refine (follows_any s (i + (2 + d)) 128 191 _ _ hs (by omega) (by omega) (by omega)).mono ?_; rintro e w' ⟨rfl, rfl⟩)
        go_round
        case rel => exact ⟨d + 1, by omega, by go_num, by rw [HN.out]⟩
        case measure => simp [intOf]; omega
    · obtain rfl : d = 1 := by omega
      cases hok : okU s i 160 191 1
      · have HF : Hid (sizeR s i 3 160 191 = 1) := Lib.hid (by unfold sizeR; rw [show 3 - 2 = 1 from rfl, hok]; rfl)
        go_wp2_with fail
        go_ret
        exact ⟨ret_int (by rw [HD.out, HF.out]; try rfl), rfl⟩
      · have HF : Hid (sizeR s i 3 160 191 = 3) := Lib.hid (by unfold sizeR; rw [show 3 - 2 = 1 from rfl, hok]; rfl)
        go_wp2_with fail
        go_ret
        exact ⟨ret_int (by rw [HD.out, HF.out]; try rfl), rfl⟩

theorem dec_E1a (s : ByteArray) (i : Nat) (hi : i < s.size) (hc : 225 ≤ (byteAt s.data.toList i).toNat ∧ (byteAt s.data.toList i).toNat < 237) : (Utf8.decode s i).2 = sizeR s i 3 128 191 := by
  rw [dec_at, size_slow3 s i (byteAt s.data.toList i).toNat (byteAt s.data.toList (i + 3)).toNat 128 191 (by omega), Lib.slow_E1 _ _ _ _ _ (by omega) (byteAt _ _).toNat_lt (byteAt _ _).toNat_lt (byteAt _ _).toNat_lt (.inl hc)]

set_option maxRecDepth 100000 in
set_option maxHeartbeats 4000000 in
theorem Size_E1a (s : ByteArray) (i : Nat) (w : World) (hs : s.size ≤ 65536) (hi : i < s.size) (hc : 225 ≤ (byteAt s.data.toList i).toNat ∧ (byteAt s.data.toList i).toNat < 237) :
    Calls Try.prog 77 #[.string s, .int .i64 i] w fun e w' => e = .returned (.int .i64 ((Utf8.decode s i).2 : Nat)) ∧ w = w' := by
  have HD := Lib.hid (dec_E1a s i hi hc)
  rw [byteAt_lt s i hi] at hc
  have f1 : (225 : Int) ≤ (s[i].toNat : Int) := by omega
  have f2 : (s[i].toNat : Int) ≤ 236 := by omega
  have g224 : ((s[i].toNat : Int) == 224) = false := by rw [beq_eq_false_iff_ne]; omega
  have g237 : ((s[i].toNat : Int) == 237) = false := by rw [beq_eq_false_iff_ne]; omega
  have g240 : ((s[i].toNat : Int) == 240) = false := by rw [beq_eq_false_iff_ne]; omega
  have g244 : ((s[i].toNat : Int) == 244) = false := by rw [beq_eq_false_iff_ne]; omega
  clear hc
  go_enter Try.func77, Try.ntmps77
  go_wp2_with (go_at_call 100; refine (follows_any s (i + 1) 128 191 _ _ hs (by omega) (by omega) (by omega)).mono ?_; rintro e w' ⟨rfl, rfl⟩)
  go_loop [9, 10] (fun ok k => ∃ d : Nat, 2 + d ≤ 3 ∧ k = .int .i64 (2 + d : Nat) ∧ ok = .bool (okU s i 128 191 d)) (fun _ k => 3 - (intOf k).toNat)
  case atStart => exact ⟨0, by omega, rfl, rfl⟩
  case round =>
    obtain ⟨d, hd, rfl, rfl⟩ := hrel
    by_cases hdn : 2 + d < 3
    · cases hok : okU s i 128 191 d
      · have HF : Hid (sizeR s i 3 128 191 = 1) := Lib.hid (by
          have := okU_false s i 128 191 d hok (3 - 2 - d)
          rw [show d + (3 - 2 - d) = 3 - 2 by omega] at this
          unfold sizeR; rw [this]; rfl)
        go_wp2_with fail
        go_ret
        exact ⟨ret_int (by rw [HD.out, HF.out]; try rfl), rfl⟩
      · have HN : Hid (okU s i 128 191 (d + 1) = folB s (i + (2 + d)) 128 191) := Lib.hid (by unfold okU; rw [hok]; rfl)
        go_wp2_with (go_at_call 100; refine (follows_any s (i + (2 + d)) 128 191 _ _ hs (by omega) (by omega) (by omega)).mono ?_; rintro e w' ⟨rfl, rfl⟩)
        go_round
        case rel => exact ⟨d + 1, by omega, by go_num, by rw [HN.out]⟩
        case measure => simp [intOf]; omega
    · obtain rfl : d = 1 := by omega
      cases hok : okU s i 128 191 1
      · have HF : Hid (sizeR s i 3 128 191 = 1) := Lib.hid (by unfold sizeR; rw [show 3 - 2 = 1 from rfl, hok]; rfl)
        go_wp2_with fail
        go_ret
        exact ⟨ret_int (by rw [HD.out, HF.out]; try rfl), rfl⟩
      · have HF : Hid (sizeR s i 3 128 191 = 3) := Lib.hid (by unfold sizeR; rw [show 3 - 2 = 1 from rfl, hok]; rfl)
        go_wp2_with fail
        go_ret
        exact ⟨ret_int (by rw [HD.out, HF.out]; try rfl), rfl⟩

theorem dec_ED (s : ByteArray) (i : Nat) (hi : i < s.size) (hc : (byteAt s.data.toList i).toNat = 237) : (Utf8.decode s i).2 = sizeR s i 3 128 159 := by
  rw [dec_at, size_slow3 s i (byteAt s.data.toList i).toNat (byteAt s.data.toList (i + 3)).toNat 128 159 (by omega), Lib.slow_ED _ _ _ _ _ (by omega) (byteAt _ _).toNat_lt (byteAt _ _).toNat_lt (byteAt _ _).toNat_lt (hc)]

set_option maxRecDepth 100000 in
set_option maxHeartbeats 4000000 in
theorem Size_ED (s : ByteArray) (i : Nat) (w : World) (hs : s.size ≤ 65536) (hi : i < s.size) (hc : (byteAt s.data.toList i).toNat = 237) :
    Calls Try.prog 77 #[.string s, .int .i64 i] w fun e w' => e = .returned (.int .i64 ((Utf8.decode s i).2 : Nat)) ∧ w = w' := by
  have HD := Lib.hid (dec_ED s i hi hc)
  rw [byteAt_lt s i hi] at hc
  have f1 : (237 : Int) ≤ (s[i].toNat : Int) := by omega
  have f2 : (s[i].toNat : Int) ≤ 237 := by omega
  have g224 : ((s[i].toNat : Int) == 224) = false := by rw [beq_eq_false_iff_ne]; omega
  have g237 : ((s[i].toNat : Int) == 237) = true := by rw [beq_iff_eq]; omega
  have g240 : ((s[i].toNat : Int) == 240) = false := by rw [beq_eq_false_iff_ne]; omega
  have g244 : ((s[i].toNat : Int) == 244) = false := by rw [beq_eq_false_iff_ne]; omega
  clear hc
  go_enter Try.func77, Try.ntmps77
  go_wp2_with (go_at_call 100; refine (follows_any s (i + 1) 128 159 _ _ hs (by omega) (by omega) (by omega)).mono ?_; rintro e w' ⟨rfl, rfl⟩)
  go_loop [9, 10] (fun ok k => ∃ d : Nat, 2 + d ≤ 3 ∧ k = .int .i64 (2 + d : Nat) ∧ ok = .bool (okU s i 128 159 d)) (fun _ k => 3 - (intOf k).toNat)
  case atStart => exact ⟨0, by omega, rfl, rfl⟩
  case round =>
    obtain ⟨d, hd, rfl, rfl⟩ := hrel
    by_cases hdn : 2 + d < 3
    · cases hok : okU s i 128 159 d
      · have HF : Hid (sizeR s i 3 128 159 = 1) := Lib.hid (by
          have := okU_false s i 128 159 d hok (3 - 2 - d)
          rw [show d + (3 - 2 - d) = 3 - 2 by omega] at this
          unfold sizeR; rw [this]; rfl)
        go_wp2_with fail
        go_ret
        exact ⟨ret_int (by rw [HD.out, HF.out]; try rfl), rfl⟩
      · have HN : Hid (okU s i 128 159 (d + 1) = folB s (i + (2 + d)) 128 191) := Lib.hid (by unfold okU; rw [hok]; rfl)
        go_wp2_with (go_at_call 100; refine (follows_any s (i + (2 + d)) 128 191 _ _ hs (by omega) (by omega) (by omega)).mono ?_; rintro e w' ⟨rfl, rfl⟩)
        go_round
        case rel => exact ⟨d + 1, by omega, by go_num, by rw [HN.out]⟩
        case measure => simp [intOf]; omega
    · obtain rfl : d = 1 := by omega
      cases hok : okU s i 128 159 1
      · have HF : Hid (sizeR s i 3 128 159 = 1) := Lib.hid (by unfold sizeR; rw [show 3 - 2 = 1 from rfl, hok]; rfl)
        go_wp2_with fail
        go_ret
        exact ⟨ret_int (by rw [HD.out, HF.out]; try rfl), rfl⟩
      · have HF : Hid (sizeR s i 3 128 159 = 3) := Lib.hid (by unfold sizeR; rw [show 3 - 2 = 1 from rfl, hok]; rfl)
        go_wp2_with fail
        go_ret
        exact ⟨ret_int (by rw [HD.out, HF.out]; try rfl), rfl⟩

theorem dec_E1b (s : ByteArray) (i : Nat) (hi : i < s.size) (hc : 238 ≤ (byteAt s.data.toList i).toNat ∧ (byteAt s.data.toList i).toNat < 240) : (Utf8.decode s i).2 = sizeR s i 3 128 191 := by
  rw [dec_at, size_slow3 s i (byteAt s.data.toList i).toNat (byteAt s.data.toList (i + 3)).toNat 128 191 (by omega), Lib.slow_E1 _ _ _ _ _ (by omega) (byteAt _ _).toNat_lt (byteAt _ _).toNat_lt (byteAt _ _).toNat_lt (.inr hc)]

set_option maxRecDepth 100000 in
set_option maxHeartbeats 4000000 in
theorem Size_E1b (s : ByteArray) (i : Nat) (w : World) (hs : s.size ≤ 65536) (hi : i < s.size) (hc : 238 ≤ (byteAt s.data.toList i).toNat ∧ (byteAt s.data.toList i).toNat < 240) :
    Calls Try.prog 77 #[.string s, .int .i64 i] w fun e w' => e = .returned (.int .i64 ((Utf8.decode s i).2 : Nat)) ∧ w = w' := by
  have HD := Lib.hid (dec_E1b s i hi hc)
  rw [byteAt_lt s i hi] at hc
  have f1 : (238 : Int) ≤ (s[i].toNat : Int) := by omega
  have f2 : (s[i].toNat : Int) ≤ 239 := by omega
  have g224 : ((s[i].toNat : Int) == 224) = false := by rw [beq_eq_false_iff_ne]; omega
  have g237 : ((s[i].toNat : Int) == 237) = false := by rw [beq_eq_false_iff_ne]; omega
  have g240 : ((s[i].toNat : Int) == 240) = false := by rw [beq_eq_false_iff_ne]; omega
  have g244 : ((s[i].toNat : Int) == 244) = false := by rw [beq_eq_false_iff_ne]; omega
  clear hc
  go_enter Try.func77, Try.ntmps77
  go_wp2_with (go_at_call 100; refine (follows_any s (i + 1) 128 191 _ _ hs (by omega) (by omega) (by omega)).mono ?_; rintro e w' ⟨rfl, rfl⟩)
  go_loop [9, 10] (fun ok k => ∃ d : Nat, 2 + d ≤ 3 ∧ k = .int .i64 (2 + d : Nat) ∧ ok = .bool (okU s i 128 191 d)) (fun _ k => 3 - (intOf k).toNat)
  case atStart => exact ⟨0, by omega, rfl, rfl⟩
  case round =>
    obtain ⟨d, hd, rfl, rfl⟩ := hrel
    by_cases hdn : 2 + d < 3
    · cases hok : okU s i 128 191 d
      · have HF : Hid (sizeR s i 3 128 191 = 1) := Lib.hid (by
          have := okU_false s i 128 191 d hok (3 - 2 - d)
          rw [show d + (3 - 2 - d) = 3 - 2 by omega] at this
          unfold sizeR; rw [this]; rfl)
        go_wp2_with fail
        go_ret
        exact ⟨ret_int (by rw [HD.out, HF.out]; try rfl), rfl⟩
      · have HN : Hid (okU s i 128 191 (d + 1) = folB s (i + (2 + d)) 128 191) := Lib.hid (by unfold okU; rw [hok]; rfl)
        go_wp2_with (go_at_call 100; refine (follows_any s (i + (2 + d)) 128 191 _ _ hs (by omega) (by omega) (by omega)).mono ?_; rintro e w' ⟨rfl, rfl⟩)
        go_round
        case rel => exact ⟨d + 1, by omega, by go_num, by rw [HN.out]⟩
        case measure => simp [intOf]; omega
    · obtain rfl : d = 1 := by omega
      cases hok : okU s i 128 191 1
      · have HF : Hid (sizeR s i 3 128 191 = 1) := Lib.hid (by unfold sizeR; rw [show 3 - 2 = 1 from rfl, hok]; rfl)
        go_wp2_with fail
        go_ret
        exact ⟨ret_int (by rw [HD.out, HF.out]; try rfl), rfl⟩
      · have HF : Hid (sizeR s i 3 128 191 = 3) := Lib.hid (by unfold sizeR; rw [show 3 - 2 = 1 from rfl, hok]; rfl)
        go_wp2_with fail
        go_ret
        exact ⟨ret_int (by rw [HD.out, HF.out]; try rfl), rfl⟩

theorem dec_F0 (s : ByteArray) (i : Nat) (hi : i < s.size) (hc : (byteAt s.data.toList i).toNat = 240) : (Utf8.decode s i).2 = sizeR s i 4 144 191 := by
  rw [dec_at, size_slow4 s i (byteAt s.data.toList i).toNat  144 191 (by omega), Lib.slow_F0 _ _ _ _ _ (by omega) (byteAt _ _).toNat_lt (byteAt _ _).toNat_lt (byteAt _ _).toNat_lt (hc)]

set_option maxRecDepth 100000 in
set_option maxHeartbeats 4000000 in
theorem Size_F0 (s : ByteArray) (i : Nat) (w : World) (hs : s.size ≤ 65536) (hi : i < s.size) (hc : (byteAt s.data.toList i).toNat = 240) :
    Calls Try.prog 77 #[.string s, .int .i64 i] w fun e w' => e = .returned (.int .i64 ((Utf8.decode s i).2 : Nat)) ∧ w = w' := by
  have HD := Lib.hid (dec_F0 s i hi hc)
  rw [byteAt_lt s i hi] at hc
  have f1 : (240 : Int) ≤ (s[i].toNat : Int) := by omega
  have f2 : (s[i].toNat : Int) ≤ 240 := by omega
  have g224 : ((s[i].toNat : Int) == 224) = false := by rw [beq_eq_false_iff_ne]; omega
  have g237 : ((s[i].toNat : Int) == 237) = false := by rw [beq_eq_false_iff_ne]; omega
  have g240 : ((s[i].toNat : Int) == 240) = true := by rw [beq_iff_eq]; omega
  have g244 : ((s[i].toNat : Int) == 244) = false := by rw [beq_eq_false_iff_ne]; omega
  clear hc
  go_enter Try.func77, Try.ntmps77
  go_wp2_with (go_at_call 100; refine (follows_any s (i + 1) 144 191 _ _ hs (by omega) (by omega) (by omega)).mono ?_; rintro e w' ⟨rfl, rfl⟩)
  go_loop [9, 10] (fun ok k => ∃ d : Nat, 2 + d ≤ 4 ∧ k = .int .i64 (2 + d : Nat) ∧ ok = .bool (okU s i 144 191 d)) (fun _ k => 4 - (intOf k).toNat)
  case atStart => exact ⟨0, by omega, rfl, rfl⟩
  case round =>
    obtain ⟨d, hd, rfl, rfl⟩ := hrel
    by_cases hdn : 2 + d < 4
    · cases hok : okU s i 144 191 d
      · have HF : Hid (sizeR s i 4 144 191 = 1) := Lib.hid (by
          have := okU_false s i 144 191 d hok (4 - 2 - d)
          rw [show d + (4 - 2 - d) = 4 - 2 by omega] at this
          unfold sizeR; rw [this]; rfl)
        go_wp2_with fail
        go_ret
        exact ⟨ret_int (by rw [HD.out, HF.out]; try rfl), rfl⟩
      · have HN : Hid (okU s i 144 191 (d + 1) = folB s (i + (2 + d)) 128 191) := Lib.hid (by unfold okU; rw [hok]; rfl)
        go_wp2_with (go_at_call 100; refine (follows_any s (i + (2 + d)) 128 191 _ _ hs (by omega) (by omega) (by omega)).mono ?_; rintro e w' ⟨rfl, rfl⟩)
        go_round
        case rel => exact ⟨d + 1, by omega, by go_num, by rw [HN.out]⟩
        case measure => simp [intOf]; omega
    · obtain rfl : d = 2 := by omega
      cases hok : okU s i 144 191 2
      · have HF : Hid (sizeR s i 4 144 191 = 1) := Lib.hid (by unfold sizeR; rw [show 4 - 2 = 2 from rfl, hok]; rfl)
        go_wp2_with fail
        go_ret
        exact ⟨ret_int (by rw [HD.out, HF.out]; try rfl), rfl⟩
      · have HF : Hid (sizeR s i 4 144 191 = 4) := Lib.hid (by unfold sizeR; rw [show 4 - 2 = 2 from rfl, hok]; rfl)
        go_wp2_with fail
        go_ret
        exact ⟨ret_int (by rw [HD.out, HF.out]; try rfl), rfl⟩

theorem dec_F1 (s : ByteArray) (i : Nat) (hi : i < s.size) (hc : 241 ≤ (byteAt s.data.toList i).toNat ∧ (byteAt s.data.toList i).toNat < 244) : (Utf8.decode s i).2 = sizeR s i 4 128 191 := by
  rw [dec_at, size_slow4 s i (byteAt s.data.toList i).toNat  128 191 (by omega), Lib.slow_F1 _ _ _ _ _ (by omega) (byteAt _ _).toNat_lt (byteAt _ _).toNat_lt (byteAt _ _).toNat_lt (hc)]

set_option maxRecDepth 100000 in
set_option maxHeartbeats 4000000 in
theorem Size_F1 (s : ByteArray) (i : Nat) (w : World) (hs : s.size ≤ 65536) (hi : i < s.size) (hc : 241 ≤ (byteAt s.data.toList i).toNat ∧ (byteAt s.data.toList i).toNat < 244) :
    Calls Try.prog 77 #[.string s, .int .i64 i] w fun e w' => e = .returned (.int .i64 ((Utf8.decode s i).2 : Nat)) ∧ w = w' := by
  have HD := Lib.hid (dec_F1 s i hi hc)
  rw [byteAt_lt s i hi] at hc
  have f1 : (241 : Int) ≤ (s[i].toNat : Int) := by omega
  have f2 : (s[i].toNat : Int) ≤ 243 := by omega
  have g224 : ((s[i].toNat : Int) == 224) = false := by rw [beq_eq_false_iff_ne]; omega
  have g237 : ((s[i].toNat : Int) == 237) = false := by rw [beq_eq_false_iff_ne]; omega
  have g240 : ((s[i].toNat : Int) == 240) = false := by rw [beq_eq_false_iff_ne]; omega
  have g244 : ((s[i].toNat : Int) == 244) = false := by rw [beq_eq_false_iff_ne]; omega
  clear hc
  go_enter Try.func77, Try.ntmps77
  go_wp2_with (go_at_call 100; refine (follows_any s (i + 1) 128 191 _ _ hs (by omega) (by omega) (by omega)).mono ?_; rintro e w' ⟨rfl, rfl⟩)
  go_loop [9, 10] (fun ok k => ∃ d : Nat, 2 + d ≤ 4 ∧ k = .int .i64 (2 + d : Nat) ∧ ok = .bool (okU s i 128 191 d)) (fun _ k => 4 - (intOf k).toNat)
  case atStart => exact ⟨0, by omega, rfl, rfl⟩
  case round =>
    obtain ⟨d, hd, rfl, rfl⟩ := hrel
    by_cases hdn : 2 + d < 4
    · cases hok : okU s i 128 191 d
      · have HF : Hid (sizeR s i 4 128 191 = 1) := Lib.hid (by
          have := okU_false s i 128 191 d hok (4 - 2 - d)
          rw [show d + (4 - 2 - d) = 4 - 2 by omega] at this
          unfold sizeR; rw [this]; rfl)
        go_wp2_with fail
        go_ret
        exact ⟨ret_int (by rw [HD.out, HF.out]; try rfl), rfl⟩
      · have HN : Hid (okU s i 128 191 (d + 1) = folB s (i + (2 + d)) 128 191) := Lib.hid (by unfold okU; rw [hok]; rfl)
        go_wp2_with (go_at_call 100; refine (follows_any s (i + (2 + d)) 128 191 _ _ hs (by omega) (by omega) (by omega)).mono ?_; rintro e w' ⟨rfl, rfl⟩)
        go_round
        case rel => exact ⟨d + 1, by omega, by go_num, by rw [HN.out]⟩
        case measure => simp [intOf]; omega
    · obtain rfl : d = 2 := by omega
      cases hok : okU s i 128 191 2
      · have HF : Hid (sizeR s i 4 128 191 = 1) := Lib.hid (by unfold sizeR; rw [show 4 - 2 = 2 from rfl, hok]; rfl)
        go_wp2_with fail
        go_ret
        exact ⟨ret_int (by rw [HD.out, HF.out]; try rfl), rfl⟩
      · have HF : Hid (sizeR s i 4 128 191 = 4) := Lib.hid (by unfold sizeR; rw [show 4 - 2 = 2 from rfl, hok]; rfl)
        go_wp2_with fail
        go_ret
        exact ⟨ret_int (by rw [HD.out, HF.out]; try rfl), rfl⟩

theorem dec_F4 (s : ByteArray) (i : Nat) (hi : i < s.size) (hc : (byteAt s.data.toList i).toNat = 244) : (Utf8.decode s i).2 = sizeR s i 4 128 143 := by
  rw [dec_at, size_slow4 s i (byteAt s.data.toList i).toNat  128 143 (by omega), Lib.slow_F4 _ _ _ _ _ (by omega) (byteAt _ _).toNat_lt (byteAt _ _).toNat_lt (byteAt _ _).toNat_lt (hc)]

set_option maxRecDepth 100000 in
set_option maxHeartbeats 4000000 in
theorem Size_F4 (s : ByteArray) (i : Nat) (w : World) (hs : s.size ≤ 65536) (hi : i < s.size) (hc : (byteAt s.data.toList i).toNat = 244) :
    Calls Try.prog 77 #[.string s, .int .i64 i] w fun e w' => e = .returned (.int .i64 ((Utf8.decode s i).2 : Nat)) ∧ w = w' := by
  have HD := Lib.hid (dec_F4 s i hi hc)
  rw [byteAt_lt s i hi] at hc
  have f1 : (244 : Int) ≤ (s[i].toNat : Int) := by omega
  have f2 : (s[i].toNat : Int) ≤ 244 := by omega
  have g224 : ((s[i].toNat : Int) == 224) = false := by rw [beq_eq_false_iff_ne]; omega
  have g237 : ((s[i].toNat : Int) == 237) = false := by rw [beq_eq_false_iff_ne]; omega
  have g240 : ((s[i].toNat : Int) == 240) = false := by rw [beq_eq_false_iff_ne]; omega
  have g244 : ((s[i].toNat : Int) == 244) = true := by rw [beq_iff_eq]; omega
  clear hc
  go_enter Try.func77, Try.ntmps77
  go_wp2_with (go_at_call 100; refine (follows_any s (i + 1) 128 143 _ _ hs (by omega) (by omega) (by omega)).mono ?_; rintro e w' ⟨rfl, rfl⟩)
  go_loop [9, 10] (fun ok k => ∃ d : Nat, 2 + d ≤ 4 ∧ k = .int .i64 (2 + d : Nat) ∧ ok = .bool (okU s i 128 143 d)) (fun _ k => 4 - (intOf k).toNat)
  case atStart => exact ⟨0, by omega, rfl, rfl⟩
  case round =>
    obtain ⟨d, hd, rfl, rfl⟩ := hrel
    by_cases hdn : 2 + d < 4
    · cases hok : okU s i 128 143 d
      · have HF : Hid (sizeR s i 4 128 143 = 1) := Lib.hid (by
          have := okU_false s i 128 143 d hok (4 - 2 - d)
          rw [show d + (4 - 2 - d) = 4 - 2 by omega] at this
          unfold sizeR; rw [this]; rfl)
        go_wp2_with fail
        go_ret
        exact ⟨ret_int (by rw [HD.out, HF.out]; try rfl), rfl⟩
      · have HN : Hid (okU s i 128 143 (d + 1) = folB s (i + (2 + d)) 128 191) := Lib.hid (by unfold okU; rw [hok]; rfl)
        go_wp2_with (go_at_call 100; refine (follows_any s (i + (2 + d)) 128 191 _ _ hs (by omega) (by omega) (by omega)).mono ?_; rintro e w' ⟨rfl, rfl⟩)
        go_round
        case rel => exact ⟨d + 1, by omega, by go_num, by rw [HN.out]⟩
        case measure => simp [intOf]; omega
    · obtain rfl : d = 2 := by omega
      cases hok : okU s i 128 143 2
      · have HF : Hid (sizeR s i 4 128 143 = 1) := Lib.hid (by unfold sizeR; rw [show 4 - 2 = 2 from rfl, hok]; rfl)
        go_wp2_with fail
        go_ret
        exact ⟨ret_int (by rw [HD.out, HF.out]; try rfl), rfl⟩
      · have HF : Hid (sizeR s i 4 128 143 = 4) := Lib.hid (by unfold sizeR; rw [show 4 - 2 = 2 from rfl, hok]; rfl)
        go_wp2_with fail
        go_ret
        exact ⟨ret_int (by rw [HD.out, HF.out]; try rfl), rfl⟩

set_option maxRecDepth 100000 in
set_option maxHeartbeats 2000000 in
theorem Size_one (s : ByteArray) (i : Nat) (w : World) (hi : i < s.size) (hc : (byteAt s.data.toList i).toNat < 194 ∨ 244 < (byteAt s.data.toList i).toNat) :
    Calls Try.prog 77 #[.string s, .int .i64 i] w fun e w' => e = .returned (.int .i64 ((Utf8.decode s i).2 : Nat)) ∧ w = w' := by
  have HD := Lib.hid (dec_one s i hc)
  rw [byteAt_lt s i hi] at hc
  have g224 : ((s[i].toNat : Int) == 224) = false := by rw [beq_eq_false_iff_ne]; omega
  have g237 : ((s[i].toNat : Int) == 237) = false := by rw [beq_eq_false_iff_ne]; omega
  have g240 : ((s[i].toNat : Int) == 240) = false := by rw [beq_eq_false_iff_ne]; omega
  have g244 : ((s[i].toNat : Int) == 244) = false := by rw [beq_eq_false_iff_ne]; omega
  rcases hc with hc | hc
  · have f1 : (s[i].toNat : Int) < 194 := by omega
    clear hc
    go_enter Try.func77, Try.ntmps77
    go_wp2_with fail
    go_ret
    exact ⟨ret_int (by rw [HD.out]; rfl), rfl⟩
  · have f1 : (244 : Int) < (s[i].toNat : Int) := by omega
    clear hc
    go_enter Try.func77, Try.ntmps77
    go_wp2_with fail
    go_ret
    exact ⟨ret_int (by rw [HD.out]; rfl), rfl⟩
theorem Size_any (s : ByteArray) (i : Nat) (w : World) (hs : s.size ≤ 65536) (hi : i < s.size) :
    Calls Try.prog 77 #[.string s, .int .i64 i] w fun e w' => e = .returned (.int .i64 ((Utf8.decode s i).2 : Nat)) ∧ w = w' := by
  have hb := (byteAt s.data.toList i).toNat_lt
  generalize hx : (byteAt s.data.toList i).toNat = x at hb
  rcases (show x < 194 ∨ 244 < x ∨ (194 ≤ x ∧ x < 224) ∨ x = 224 ∨ (225 ≤ x ∧ x < 237) ∨ x = 237 ∨ (238 ≤ x ∧ x < 240) ∨ x = 240 ∨ (241 ≤ x ∧ x < 244) ∨ x = 244 by omega) with h | h | h | h | h | h | h | h | h | h
  · exact Size_one s i w hi (by rw [hx]; exact .inl h)
  · exact Size_one s i w hi (by rw [hx]; exact .inr h)
  · exact Size_C2 s i w hs hi (by rw [hx]; exact h)
  · exact Size_E0 s i w hs hi (by rw [hx]; exact h)
  · exact Size_E1a s i w hs hi (by rw [hx]; exact h)
  · exact Size_ED s i w hs hi (by rw [hx]; exact h)
  · exact Size_E1b s i w hs hi (by rw [hx]; exact h)
  · exact Size_F0 s i w hs hi (by rw [hx]; exact h)
  · exact Size_F1 s i w hs hi (by rw [hx]; exact h)
  · exact Size_F4 s i w hs hi (by rw [hx]; exact h)
end Go.Proofs.Ytdleoankkcemfaa
