/-
  Numbers read: the program's ReadUint.
-/
import Derived.Test.YtehbjfjhalpgaaaRows
import Derived.Test.YtehbjfjhalpgaaaBytes0
import Derived.Laws.Bits64b
namespace Go.Proofs.Ytehbjfjhalpgaaa
open Go.RowKit

/-- A number, the place behind it, the fault: from the byte i of the number on, acc read so far. -/
def rdGo (L : List UInt8) (a : Nat) : Nat → Nat → Nat → Nat × Nat × Nat
  | 0, _, _ => (0, 0, 61)
  | f + 1, i, acc =>
    if L.length ≤ a + i then (0, 0, 60)
    else if 128 ≤ (byteAt L (a + i)).toNat then rdGo L a f (i + 1) (acc + ((byteAt L (a + i)).toNat % 128) * 2 ^ (7 * i))
    else if (i = 9 ∧ 1 < (byteAt L (a + i)).toNat) ∨ (0 < i ∧ (byteAt L (a + i)).toNat = 0) then (0, 0, 61)
    else (acc + ((byteAt L (a + i)).toNat % 128) * 2 ^ (7 * i), a + i + 1, 0)
def rdU (L : List UInt8) (a : Nat) : Nat × Nat × Nat := if L.length ≤ a then (0, 0, 60) else rdGo L a 10 0 0

theorem and127_all : ∀ n : Fin 256, bits BinOp.and IntKind.u8 (n.val : Int) 127 = ((n.val % 128 : Nat) : Int) := by decide +kernel
theorem and127 (b : Nat) (h : b < 256) : bits BinOp.and IntKind.u8 (b : Int) 127 = ((b % 128 : Nat) : Int) := and127_all ⟨b, h⟩
theorem wrap_u64_nat (n : Nat) (h : n < 18446744073709551616) : IntKind.u64.wrap (n : Int) = (n : Int) := by
  rw [IntKind.wrap_u64]; omega
theorem pow7 (i : Nat) : 2 ^ (7 * (i + 1)) = 128 * 2 ^ (7 * i) := by
  rw [show 7 * (i + 1) = 7 + 7 * i by omega, Nat.pow_add]
theorem pow7_le (i : Nat) (h : i ≤ 9) : 2 ^ (7 * i) ≤ 9223372036854775808 := Nat.le_trans (Nat.pow_le_pow_right (by omega) (show 7 * i ≤ 63 by omega)) (by decide)
theorem step_lt (acc x i : Nat) (hx : x < 128) (hacc : acc < 2 ^ (7 * i)) : acc + x * 2 ^ (7 * i) < 2 ^ (7 * (i + 1)) := by
  rw [pow7]
  have : x * 2 ^ (7 * i) ≤ 127 * 2 ^ (7 * i) := Nat.mul_le_mul (by omega) (Nat.le_refl _)
  omega
theorem or_step (acc i b : Nat) (hb : b < 256) (hi : i ≤ 9) (hacc : acc < 2 ^ (7 * i)) (h9 : i = 9 → b % 128 ≤ 1) :
    bits BinOp.or IntKind.u64 (acc : Int) (IntKind.u64.wrap (IntKind.u64.wrap (bits BinOp.and IntKind.u8 (b : Int) 127) * 2 ^ (7 * i))) = ((acc + (b % 128) * 2 ^ (7 * i) : Nat) : Int) := by
  have hx : b % 128 < 128 := by omega
  have hp := pow7_le i hi
  have hxp : (b % 128) * 2 ^ (7 * i) ≤ 9223372036854775808 := by
    by_cases e : i = 9
    · have := h9 e
      have : (b % 128) * 2 ^ (7 * i) ≤ 1 * 2 ^ (7 * i) := Nat.mul_le_mul this (Nat.le_refl _)
      omega
    · have h1 : (b % 128) * 2 ^ (7 * i) ≤ 128 * 2 ^ (7 * i) := Nat.mul_le_mul (by omega) (Nat.le_refl _)
      rw [← pow7] at h1
      exact Nat.le_trans h1 (pow7_le (i + 1) (by omega))
  rw [and127 b hb, wrap_u64_nat _ (by omega), show (((b % 128 : Nat) : Int) * 2 ^ (7 * i)) = (((b % 128) * 2 ^ (7 * i) : Nat) : Int) by rw [Int.natCast_mul, Int.natCast_pow]; rfl, wrap_u64_nat _ (by omega), bits_or_u64_nat _ _ (by omega) (by omega)]
  congr 1
  have := Nat.two_pow_add_eq_or_of_lt hacc (b % 128)
  rw [Nat.or_comm, Nat.mul_comm, ← this, Nat.add_comm, Nat.mul_comm]
theorem rdGo_more (L : List UInt8) (a f i acc : Nat) (h1 : a + i < L.length) (h2 : 128 ≤ (byteAt L (a + i)).toNat) : rdGo L a (f + 1) i acc = rdGo L a f (i + 1) (acc + ((byteAt L (a + i)).toNat % 128) * 2 ^ (7 * i)) := by
  rw [rdGo, if_neg (by omega), if_pos h2]
theorem rdGo_form (L : List UInt8) (a f i acc : Nat) (h1 : a + i < L.length) (h2 : (byteAt L (a + i)).toNat < 128) (h3 : (i = 9 ∧ 1 < (byteAt L (a + i)).toNat) ∨ (0 < i ∧ (byteAt L (a + i)).toNat = 0)) : rdGo L a (f + 1) i acc = (0, 0, 61) := by
  rw [rdGo, if_neg (by omega), if_neg (by omega), if_pos h3]
theorem rdGo_ok (L : List UInt8) (a f i acc : Nat) (h1 : a + i < L.length) (h2 : (byteAt L (a + i)).toNat < 128) (h3 : ¬ ((i = 9 ∧ 1 < (byteAt L (a + i)).toNat) ∨ (0 < i ∧ (byteAt L (a + i)).toNat = 0))) : rdGo L a (f + 1) i acc = (acc + ((byteAt L (a + i)).toNat % 128) * 2 ^ (7 * i), a + i + 1, 0) := by
  rw [rdGo, if_neg (by omega), if_neg (by omega), if_neg h3]
theorem rdGo_short (L : List UInt8) (a f i acc : Nat) (h1 : L.length ≤ a + i) : rdGo L a (f + 1) i acc = (0, 0, 60) := by
  rw [rdGo, if_pos h1]
def rdV (r : Nat × Nat × Nat) : Value := .tuple #[.int .u64 (r.1 : Nat), .int .i64 (r.2.1 : Nat), .int .i64 (r.2.2 : Nat)]

set_option maxRecDepth 100000 in
set_option maxHeartbeats 4000000 in
theorem ReadUint_any (s : ByteArray) (a : Nat) (w : World) (hs : s.size ≤ 140737488355328) (ha : a ≤ 140737488355328) :
    Calls Try.prog 53 #[.string s, .int .i64 a] w fun e w' => e = .returned (rdV (rdU s.data.toList a)) ∧ w = w' := by
  have HLo := Lib.hid (len_toList s)
  by_cases hal : s.size ≤ a
  · have HR : Hid (rdU s.data.toList a = (0, 0, 60)) := Lib.hid (by rw [rdU, if_pos (by rw [HLo.out]; exact hal)])
    go_enter Try.func53, Try.ntmps53
    go_wp2_with fail
    go_ret3
    exact ⟨by rw [HR.out]; rfl, rfl⟩
  · have HR : Hid (rdU s.data.toList a = rdGo s.data.toList a 10 0 0) := Lib.hid (by rw [rdU, if_neg (by rw [HLo.out]; exact hal)])
    go_enter Try.func53, Try.ntmps53
    go_wp2_with fail
    go_loop [4, 17] (fun n j => ∃ (i : Nat) (z : Int), i ≤ 10 ∧ j = .int .i64 i ∧ n = .int .u64 z ∧ (i < 10 → ∃ acc : Nat, z = acc ∧ acc < 2 ^ (7 * i) ∧ rdGo s.data.toList a (10 - i) i acc = rdU s.data.toList a) ∧ (i = 10 → rdU s.data.toList a = (0, 0, 61))) (fun _ j => 10 - (intOf j).toNat)
    case atStart => exact ⟨0, 0, by omega, rfl, rfl, fun _ => ⟨0, rfl, by decide, HR.out.symm⟩, fun h => (by cases h)⟩
    case round =>
      obtain ⟨i, z, hi, rfl, rfl, h1, h2⟩ := hrel
      by_cases hi10 : i < 10
      · obtain ⟨acc, rfl, hacc, hgo⟩ := h1 hi10
        obtain ⟨f, hf⟩ : ∃ f, 10 - i = f + 1 := ⟨9 - i, by omega⟩
        rw [hf] at hgo
        have HF : Hid (10 - (i + 1) = f) := Lib.hid (by omega)
        have HF0 : Hid (i = 9 → f = 0) := Lib.hid (by omega)
        have HA := Lib.hid hacc
        have HGo := Lib.hid hgo
        clear hacc hgo h1 h2 hf
        by_cases hle : a + i < s.size
        · have HB := Lib.hid (byteAt_lt s (a + i) hle)
          have hb := s[a + i].toNat_lt
          have HLe : Hid (a + i < s.data.toList.length) := Lib.hid (by rw [HLo.out]; exact hle)
          by_cases h128 : (127 : Int) < (s[a + i].toNat : Int)
          · have HM : Hid (rdGo s.data.toList a f (i + 1) (acc + (s[a + i].toNat % 128) * 2 ^ (7 * i)) = rdU s.data.toList a) := Lib.hid (by
              rw [← HGo.out, rdGo_more _ _ _ _ _ HLe.out (by rw [HB.out]; omega), HB.out]; rfl)
            go_wp2_with fail
            go_round
            case rel =>
              refine ⟨i + 1, _, by omega, by go_num, rfl, fun h => ?_, fun h => ?_⟩
              · exact ⟨acc + (s[a + i].toNat % 128) * 2 ^ (7 * i), or_step acc i _ hb (by omega) HA.out (fun e => by omega), step_lt _ _ _ (by omega) HA.out, by rw [HF.out]; exact HM.out⟩
              · rw [← HM.out, HF0.out (by omega)]; rfl
            case measure => simp [intOf]; omega
          · have hlt : (s[a + i].toNat : Int) ≤ 127 := by omega
            have hcs : (((i : Int) == 9) = true ∧ (1 : Int) < (s[a + i].toNat : Int) ∧ Hid (i = 9)) ∨ ((0 : Int) < (i : Int) ∧ (((i : Int) == 9) = false ∨ (((i : Int) == 9) = true ∧ (s[a + i].toNat : Int) ≤ 1)) ∧ ((s[a + i].toNat : Int) == 0) = true) ∨ (((i : Int) == 9) = false ∧ Hid (i ≠ 9) ∧ ((0 : Int) < (i : Int) ∧ ((s[a + i].toNat : Int) == 0) = false)) ∨ (((i : Int) == 9) = true ∧ Hid (i = 9) ∧ (0 : Int) < (i : Int) ∧ (s[a + i].toNat : Int) ≤ 1 ∧ ((s[a + i].toNat : Int) == 0) = false) ∨ (((i : Int) == 9) = false ∧ Hid (i ≠ 9) ∧ ¬ (0 : Int) < (i : Int)) := by
              simp only [beq_iff_eq, beq_eq_false_iff_ne]
              by_cases e9 : i = 9
              · by_cases e1 : 1 < s[a + i].toNat
                · exact .inl ⟨by omega, by omega, Lib.hid e9⟩
                · by_cases e0 : s[a + i].toNat = 0
                  · exact .inr (.inl ⟨by omega, .inr ⟨by omega, by omega⟩, by omega⟩)
                  · exact .inr (.inr (.inr (.inl ⟨by omega, Lib.hid e9, by omega, by omega, by omega⟩)))
              · by_cases e0 : i = 0
                · exact .inr (.inr (.inr (.inr ⟨by omega, Lib.hid e9, by omega⟩)))
                · by_cases eb : s[a + i].toNat = 0
                  · exact .inr (.inl ⟨by omega, .inl (by omega), by omega⟩)
                  · exact .inr (.inr (.inl ⟨by omega, Lib.hid e9, by omega, by omega⟩))
            rcases hcs with ⟨q1, q2, q3⟩ | ⟨q1, q2, q3⟩ | ⟨q1, q2, q3, q4⟩ | ⟨q1, q2, q3, q4, q5⟩ | ⟨q1, q2, q3⟩
            · have HM : Hid (rdU s.data.toList a = (0, 0, 61)) := Lib.hid (by
                rw [← HGo.out]; exact rdGo_form _ _ _ _ _ HLe.out (by rw [HB.out]; omega) (.inl ⟨q3.out, by rw [HB.out]; omega⟩))
              go_wp2_with fail
              go_ret3
              exact ⟨by rw [HM.out]; rfl, rfl⟩
            · have HM : Hid (rdU s.data.toList a = (0, 0, 61)) := Lib.hid (by
                have e0 := beq_iff_eq.1 q3
                rw [← HGo.out]; exact rdGo_form _ _ _ _ _ HLe.out (by rw [HB.out]; omega) (.inr ⟨by omega, by rw [HB.out]; omega⟩))
              rcases q2 with q2 | ⟨q2, q4⟩
              all_goals
                go_wp2_with fail
                go_ret3
                exact ⟨by rw [HM.out]; rfl, rfl⟩
            · have HM : Hid (rdU s.data.toList a = (acc + (s[a + i].toNat % 128) * 2 ^ (7 * i), a + i + 1, 0)) := Lib.hid (by
                have e0 : ¬ ((s[a + i].toNat : Int) = 0) := beq_eq_false_iff_ne.1 q4
                have e9 := q2.out
                rw [← HGo.out, rdGo_ok _ _ _ _ _ HLe.out (by rw [HB.out]; omega) (by rw [HB.out]; omega), HB.out]; rfl)
              have HO := Lib.hid (or_step acc i _ hb (by omega) HA.out (fun e => absurd e q2.out))
              go_wp2_with fail
              go_ret3
              exact ⟨by rw [HM.out, HO.out]; rfl, rfl⟩
            · have HM : Hid (rdU s.data.toList a = (acc + (s[a + i].toNat % 128) * 2 ^ (7 * i), a + i + 1, 0)) := Lib.hid (by
                have e0 : ¬ ((s[a + i].toNat : Int) = 0) := beq_eq_false_iff_ne.1 q5
                rw [← HGo.out, rdGo_ok _ _ _ _ _ HLe.out (by rw [HB.out]; omega) (by rw [HB.out]; omega), HB.out]; rfl)
              have HO := Lib.hid (or_step acc i _ hb (by omega) HA.out (fun e => by omega))
              go_wp2_with fail
              go_ret3
              exact ⟨by rw [HM.out, HO.out]; rfl, rfl⟩
            · have HM : Hid (rdU s.data.toList a = (acc + (s[a + i].toNat % 128) * 2 ^ (7 * i), a + i + 1, 0)) := Lib.hid (by
                have e9 := q2.out
                rw [← HGo.out, rdGo_ok _ _ _ _ _ HLe.out (by rw [HB.out]; omega) (by rw [HB.out]; omega), HB.out]; rfl)
              have HO := Lib.hid (or_step acc i _ hb (by omega) HA.out (fun e => absurd e q2.out))
              go_wp2_with fail
              go_ret3
              exact ⟨by rw [HM.out, HO.out]; rfl, rfl⟩
        · have HM : Hid (rdU s.data.toList a = (0, 0, 60)) := Lib.hid (by rw [← HGo.out]; exact rdGo_short _ _ _ _ _ (by rw [HLo.out]; omega))
          go_wp2_with fail
          go_ret3
          exact ⟨by rw [HM.out]; rfl, rfl⟩
      · obtain rfl : i = 10 := by omega
        have HM := Lib.hid (h2 rfl)
        clear h1 h2
        go_wp2_with fail
        go_ret3
        exact ⟨by rw [HM.out]; rfl, rfl⟩
end Go.Proofs.Ytehbjfjhalpgaaa
