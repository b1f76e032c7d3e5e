/-
  The law's own letters and words.
-/
import Derived.Test.YtdleoankkcemfaaRows
import Derived.Test.YtdleoankkcemfaaTok6
namespace Go.Proofs.Ytdleoankkcemfaa
open Go.RowKit

theorem letter26_all : ∀ n : Fin 256, letterB (UInt8.ofNat n.val) = ((decide (97 ≤ bits BinOp.or IntKind.u8 (n.val : Int) 32) && decide (bits BinOp.or IntKind.u8 (n.val : Int) 32 ≤ 122)) || decide (128 ≤ (n.val : Int))) := by decide +kernel
theorem letter26_eq (b : UInt8) : letterB b = ((decide (97 ≤ bits BinOp.or IntKind.u8 (b.toNat : Int) 32) && decide (bits BinOp.or IntKind.u8 (b.toNat : Int) 32 ≤ 122)) || decide (128 ≤ (b.toNat : Int))) := by
  have := letter26_all ⟨b.toNat, b.toNat_lt⟩
  simpa using this
set_option maxHeartbeats 400000 in
theorem letter26_any (b : UInt8) (w : World) :
    Calls Try.prog 29 #[.int .u8 b.toNat] w fun e w' => e = .returned (.bool (letterB b)) ∧ w = w' := by
  have H := Lib.hid (letter26_eq b)
  go_enter Try.func29, Try.ntmps29
  go_wp2
  all_goals go_ret
  all_goals generalize bits BinOp.or IntKind.u8 (b.toNat : Int) 32 = X at *
  all_goals exact ⟨ret_bool (by rw [H.out, Bool.eq_iff_iff]; simp; omega), rfl⟩

theorem quote_ne (b : UInt8) (h : b ≠ 39) : ((b.toNat : Int) != 39) = true := by
  have : b.toNat ≠ 39 := fun e' => h (UInt8.toNat_inj.1 e')
  simp; omega
/-- What the law asks of a word's bytes, one by one. -/
theorem word_bytes (s : ByteArray) (i k1 : Nat) (h : Word s.data.toList i (k1 + 1)) (hi : i < s.size) (hk1 : k1 < s.size) :
    letterB (s[i]'hi) = true ∧ letterB (s[k1]'hk1) = true ∧ (¬ k1 + 1 < s.size ∨ ∃ hk : k1 + 1 < s.size, letterB (s[k1 + 1]'hk) = false ∧ (¬ k1 + 1 + 1 < s.size ∨ (∃ _ : k1 + 1 + 1 < s.size, (((s[k1 + 1]'hk).toNat : Int) != 39) = true) ∨ (∃ hk2 : k1 + 1 + 1 < s.size, letterB (s[k1 + 1 + 1]'hk2) = false))) := by
  refine ⟨?_, ?_, ?_⟩
  · rw [← byteAt_lt s i hi]; exact h.head
  · rw [← byteAt_lt s k1 hk1]; have := h.last; simpa using this
  · by_cases hk : k1 + 1 < s.size
    · refine .inr ⟨hk, by rw [← byteAt_lt s (k1 + 1) hk]; exact h.over, ?_⟩
      by_cases hk2 : k1 + 1 + 1 < s.size
      · right
        have h1 := h.long
        rw [byteAt_lt s (k1 + 1) hk, byteAt_lt s (k1 + 1 + 1) hk2] at h1
        by_cases e : (s[k1 + 1]'hk) = 39
        · exact .inr ⟨hk2, by cases hb : letterB (s[k1 + 1 + 1]'hk2); rfl; exact absurd ⟨e, hb⟩ h1⟩
        · exact .inl ⟨hk2, quote_ne _ e⟩
      · exact .inl hk2
    · exact .inl hk
theorem word_inner (s : ByteArray) (i k1 q : Nat) (h : Word s.data.toList i (k1 + 1)) (hk1 : k1 < s.size) (h1 : i ≤ q) (h2 : q < k1 + 1) :
    (∃ hq : q < s.size, letterB (s[q]'hq) = true) ∨ (∃ p, q = p + 1 ∧ ∃ (hp : p < s.size) (hq : p + 1 < s.size) (hr : p + 1 + 1 < s.size), letterB (s[p + 1]'hq) = false ∧ (((s[p + 1]'hq).toNat : Int) != 39) = false ∧ letterB (s[p]'hp) = true ∧ letterB (s[p + 1 + 1]'hr) = true) := by
  rcases h.inner q h1 h2 with g | ⟨g1, g2, g3, g4, g5⟩
  · exact .inl ⟨by omega, by rw [← byteAt_lt s q (by omega)]; exact g⟩
  · obtain ⟨p, rfl⟩ : ∃ p, q = p + 1 := ⟨q - 1, by omega⟩
    refine .inr ⟨p, rfl, by omega, by omega, by omega, ?_, ?_, ?_, ?_⟩
    · rw [← byteAt_lt s (p + 1) (by omega), g1]; rfl
    · rw [← byteAt_lt s (p + 1) (by omega), g1]; rfl
    · rw [← byteAt_lt s p (by omega)]; simpa using g3
    · rw [← byteAt_lt s (p + 1 + 1) (by omega)]; exact g4

set_option maxRecDepth 100000 in
set_option maxHeartbeats 8000000 in
theorem whole_any (s : ByteArray) (i k1 : Nat) (w : World) (hs : s.size ≤ 65536) (h : Word s.data.toList i (k1 + 1)) (hks : k1 + 1 ≤ s.size) :
    Calls Try.prog 28 #[.string s, .int .i64 i, .int .i64 ((k1 + 1 : Nat) : Int)] w fun e w' => e = .returned (.bool true) ∧ w = w' := by
  have hik := h.lt
  have hi' : i < s.size := by omega
  have hk1 : k1 < s.size := by omega
  obtain ⟨q1, q2, q3⟩ := word_bytes s i k1 h hi' hk1
  have HW := Lib.hid h
  clear h
  rcases q3 with q3 | ⟨hk, q3, q4 | ⟨hk2, q4⟩ | ⟨hk2, q4⟩⟩
  all_goals
    go_enter Try.func28, Try.ntmps28
    go_wp2_with (go_at_call 29; refine (letter26_any _ _).mono ?_; rintro e w' ⟨rfl, rfl⟩)
    go_loop [7] (fun j => ∃ q : Nat, i ≤ q ∧ q ≤ k1 + 1 ∧ j = .int .i64 q) (fun j => k1 + 1 - (intOf j).toNat)
    case atStart => exact ⟨i, Nat.le_refl _, by omega, rfl⟩
    case round =>
      obtain ⟨q, hiq, hqk, rfl⟩ := hrel
      by_cases hlt : q < k1 + 1
      · rcases word_inner s i k1 q HW.out hk1 hiq hlt with ⟨hq, g⟩ | ⟨p, rfl, hp, hq, hr, g1, g2, g3, g4⟩
        · go_wp2_with (go_at_call 29; refine (letter26_any _ _).mono ?_; rintro e w' ⟨rfl, rfl⟩)
          go_round
          case rel => exact ⟨q + 1, by omega, by omega, by go_num⟩
          case measure => simp [intOf]; omega
        · go_wp2_with (go_at_call 29; refine (letter26_any _ _).mono ?_; rintro e w' ⟨rfl, rfl⟩)
          go_round
          case rel => exact ⟨p + 1 + 1, by omega, by omega, by go_num⟩
          case measure => simp [intOf]; omega
      · obtain rfl : q = k1 + 1 := by omega
        go_wp2_with (go_at_call 29; refine (letter26_any _ _).mono ?_; rintro e w' ⟨rfl, rfl⟩)
        all_goals go_ret
        all_goals exact ⟨rfl, rfl⟩
end Go.Proofs.Ytdleoankkcemfaa
