/-
  Numbers read: the reference's ReadUint.
-/
import Derived.Test.YtehbjfjhalpgaaaRows
import Derived.Test.YtehbjfjhalpgaaaImg1
namespace Go.Proofs.Ytehbjfjhalpgaaa
open Go.RowKit

/-- What the first i bytes of the number say. -/
def accOf (L : List UInt8) (a : Nat) : Nat → Nat
  | 0 => 0
  | i + 1 => accOf L a i + ((byteAt L (a + i)).toNat % 128) * 2 ^ (7 * i)
theorem accOf_lt (L : List UInt8) (a : Nat) : ∀ i, accOf L a i < 2 ^ (7 * i)
  | 0 => by simp [accOf]
  | i + 1 => by rw [accOf]; exact step_lt _ _ _ (by omega) (accOf_lt L a i)
theorem acc_back (v c p b t : Nat) (hb : 128 ≤ b) (hb2 : b < 256) (h : v * (128 * p) + (c + (b % 128) * p) = t) : (v * 128 + (b - 128)) * p + c = t := by
  have e : b % 128 = b - 128 := by omega
  rw [e] at h
  rw [← h, Nat.add_mul, Nat.mul_assoc]; omega
theorem tot_lt (acc i b : Nat) (hi : i ≤ 9) (hacc : acc < 2 ^ (7 * i)) (h9 : i = 9 → b % 128 ≤ 1) : acc + (b % 128) * 2 ^ (7 * i) < 18446744073709551616 := by
  have hp := pow7_le i hi
  by_cases e : i = 9
  · have h1 : (b % 128) * 2 ^ (7 * i) ≤ 1 * 2 ^ (7 * i) := Nat.mul_le_mul (h9 e) (Nat.le_refl _)
    omega
  · have h1 := step_lt acc (b % 128) i (by omega) hacc
    have h2 := pow7_le (i + 1) (by omega)
    omega
theorem back_le (v p c t : Nat) (hp : 0 < p) (h : v * p + c = t) : v ≤ t := by
  have := Nat.le_mul_of_pos_right v hp
  omega

theorem wrap_mul_nat (v : Nat) (h : v * 128 < 18446744073709551616) : IntKind.u64.wrap ((v : Int) * 128) = ((v * 128 : Nat) : Int) := by
  rw [show ((v : Int) * 128) = ((v * 128 : Nat) : Int) by omega, wrap_u64_nat _ h]

set_option maxRecDepth 100000 in
set_option maxHeartbeats 4000000 in
theorem rReadUint_any (s : ByteArray) (a : Nat) (w : World) (hs : s.size ≤ 140737488355328) (ha : a ≤ 140737488355328) :
    Calls Try.prog 55 #[.string s, .int .i64 a] w fun e w' => e = .returned (rdV (rdU s.data.toList a)) ∧ w = w' := by
  have HLo := Lib.hid (len_toList s)
  by_cases hal : s.size ≤ a
  · have HR : Hid (rdU s.data.toList a = (0, 0, 60)) := Lib.hid (by rw [rdU, if_pos (by rw [HLo.out]; exact hal)])
    go_enter Try.func55, Try.ntmps55
    go_wp2_with fail
    go_ret3
    exact ⟨by rw [HR.out]; rfl, rfl⟩
  · have HR : Hid (rdU s.data.toList a = rdGo s.data.toList a 10 0 0) := Lib.hid (by rw [rdU, if_neg (by rw [HLo.out]; exact hal)])
    go_enter Try.func55, Try.ntmps55
    go_wp2_with fail
    go_loop [7] (fun j => ∃ (i : Nat), i ≤ 10 ∧ a + i ≤ s.size ∧ j = .int .i64 i ∧ Hid (rdGo s.data.toList a (10 - i) i (accOf s.data.toList a i) = rdU s.data.toList a) ∧ Hid (∀ k, k < i → 128 ≤ (byteAt s.data.toList (a + k)).toNat)) (fun j => 10 - (intOf j).toNat)
    case atStart => exact ⟨0, by omega, by omega, rfl, Lib.hid HR.out.symm, Lib.hid (fun k h => by omega)⟩
    case round =>
      obtain ⟨i, hi, hai, rfl, HGo, HP⟩ := hrel
      by_cases hi10 : i < 10
      · obtain ⟨f, hf⟩ : ∃ f, 10 - i = f + 1 := ⟨9 - i, by omega⟩
        rw [hf] at HGo
        have HF : Hid (10 - (i + 1) = f) := Lib.hid (by omega)
        clear hf
        by_cases hle : a + i < s.size
        · have HB := Lib.hid (byteAt_lt s (a + i) hle)
          have hb := s[a + i].toNat_lt
          have HLe : Hid (True → a + i < s.data.toList.length) := Lib.hid (fun _ => by rw [HLo.out]; exact hle)
          have hlt2 : (i : Int) < (s.size : Int) - (a : Int) := by omega
          by_cases h128 : (128 : Int) ≤ (s[a + i].toNat : Int)
          · go_wp2_with fail
            go_round
            case rel =>
              refine ⟨i + 1, by omega, by omega, rfl, Lib.hid ?_, Lib.hid fun k h => ?_⟩
              · rw [HF.out, ← HGo.out, rdGo_more _ _ _ _ _ (HLe.out trivial) (by rw [HB.out]; omega), accOf]
              · by_cases e : k = i
                · rw [e, HB.out]; omega
                · exact HP.out k (by omega)
            case measure => simp [intOf]; omega
          · have hlt : (s[a + i].toNat : Int) ≤ 127 := by omega
            have hcs : (((i : Int) == 9) = true ∧ (1 : Int) < (s[a + i].toNat : Int) ∧ Hid (i = 9)) ∨ ((0 : Int) < (i : Int) ∧ (((i : Int) == 9) = false ∨ (((i : Int) == 9) = true ∧ (s[a + i].toNat : Int) ≤ 1)) ∧ ((s[a + i].toNat : Int) == 0) = true) ∨ (((i : Int) == 9) = false ∧ Hid (i ≠ 9) ∧ ((0 : Int) < (i : Int) ∧ ((s[a + i].toNat : Int) == 0) = false)) ∨ (((i : Int) == 9) = true ∧ Hid (i = 9) ∧ (0 : Int) < (i : Int) ∧ (s[a + i].toNat : Int) ≤ 1 ∧ ((s[a + i].toNat : Int) == 0) = false) ∨ (((i : Int) == 9) = false ∧ Hid (i ≠ 9) ∧ ¬ (0 : Int) < (i : Int)) := by
              simp only [beq_iff_eq, beq_eq_false_iff_ne]
              by_cases e9 : i = 9
              · by_cases e1 : 1 < s[a + i].toNat
                · exact .inl ⟨by omega, by omega, Lib.hid e9⟩
                · by_cases e0 : s[a + i].toNat = 0
                  · exact .inr (.inl ⟨by omega, .inr ⟨by omega, by omega⟩, by omega⟩)
                  · exact .inr (.inr (.inr (.inl ⟨by omega, Lib.hid e9, by omega, by omega, by omega⟩)))
              · by_cases e0 : i = 0
                · exact .inr (.inr (.inr (.inr ⟨by omega, Lib.hid e9, by omega⟩)))
                · by_cases eb : s[a + i].toNat = 0
                  · exact .inr (.inl ⟨by omega, .inl (by omega), by omega⟩)
                  · exact .inr (.inr (.inl ⟨by omega, Lib.hid e9, by omega, by omega⟩))
            have HT : Hid (¬ ((i = 9 ∧ 1 < s[a + i].toNat) ∨ (0 < i ∧ s[a + i].toNat = 0)) → rdU s.data.toList a = (accOf s.data.toList a i + (s[a + i].toNat % 128) * 2 ^ (7 * i), a + i + 1, 0) ∧ accOf s.data.toList a i + (s[a + i].toNat % 128) * 2 ^ (7 * i) < 18446744073709551616) := Lib.hid (fun hn => ⟨by
              rw [← HGo.out, rdGo_ok _ _ _ _ _ (HLe.out trivial) (by rw [HB.out]; omega) (by rw [HB.out]; exact hn), HB.out], tot_lt _ _ _ (by omega) (accOf_lt _ _ _) (fun e9 => by omega)⟩)
            have HNa : Hid (a + i + 1 ≤ 140737488355329) := Lib.hid (by omega)
            rcases hcs with ⟨q1, q2, q3⟩ | ⟨q1, q2, q3⟩ | ⟨q1, q2, q3, q4⟩ | ⟨q1, q2, q3, q4, q5⟩ | ⟨q1, q2, q3⟩
            · have HM : Hid (rdU s.data.toList a = (0, 0, 61)) := Lib.hid (by
                rw [← HGo.out]; exact rdGo_form _ _ _ _ _ (HLe.out trivial) (by rw [HB.out]; omega) (.inl ⟨q3.out, by rw [HB.out]; omega⟩))
              go_wp2_with fail
              go_ret3
              exact ⟨by rw [HM.out]; rfl, rfl⟩
            · have HM : Hid (rdU s.data.toList a = (0, 0, 61)) := Lib.hid (by
                have e0 := beq_iff_eq.1 q3
                rw [← HGo.out]; exact rdGo_form _ _ _ _ _ (HLe.out trivial) (by rw [HB.out]; omega) (.inr ⟨by omega, by rw [HB.out]; omega⟩))
              rcases q2 with q2 | ⟨q2, q4⟩
              · go_wp2_with fail
                go_ret3
                exact ⟨by rw [HM.out]; rfl, rfl⟩
              · have e0 : (s[a + i].toNat : Int) = 0 := beq_iff_eq.1 q3
                clear q3 q4
                go_wp2_with fail
                go_ret3
                exact ⟨by rw [HM.out]; rfl, rfl⟩
            all_goals
              have HM := Lib.hid (HT.out (by
                first
                | (have e0 : ¬ ((s[a + i].toNat : Int) = 0) := beq_eq_false_iff_ne.1 q4
                   have e9 := q2.out
                   omega)
                | (have e0 : ¬ ((s[a + i].toNat : Int) = 0) := beq_eq_false_iff_ne.1 q5
                   omega)
                | (have e9 := q2.out
                   omega)))
              clear HT
              generalize hT : accOf s.data.toList a i + (s[a + i].toNat % 128) * 2 ^ (7 * i) = T at HM
              have HTT := Lib.hid hT
              clear hT
              go_wp2_with fail
              go_loop [9, 10] (fun n j => ∃ (v : Nat), n = .int .u64 v ∧ ((j = .int .i64 (-1) ∧ v = T) ∨ ∃ m : Nat, m < i ∧ j = .int .i64 m ∧ Hid (v * 2 ^ (7 * (m + 1)) + accOf s.data.toList a (m + 1) = T))) (fun _ j => (intOf j + 1).toNat)
              case atStart =>
                refine ⟨_, rfl, ?_⟩
                by_cases hi0 : i = 0
                · refine .inl ⟨by subst hi0; rfl, ?_⟩
                  have h1 := HTT.out
                  have h2 : s[a + i].toNat % 128 = s[a + i].toNat := by omega
                  have h3 : ∀ b, b = accOf s.data.toList a i + b * 2 ^ (7 * i) := fun b => by rw [hi0]; simp [accOf]
                  rw [← h1, h2]; exact h3 _
                · refine .inr ⟨i - 1, by omega, by congr 1; omega, Lib.hid ?_⟩
                  have h2 : s[a + i].toNat % 128 = s[a + i].toNat := by omega
                  rw [show i - 1 + 1 = i by omega, ← HTT.out, h2, Nat.add_comm]
              case round => 
                obtain ⟨v, rfl, ⟨rfl, rfl⟩ | ⟨m, hm, rfl, HV⟩⟩ := hrel
                · go_wp2_with fail
                  go_ret3
                  exact ⟨by rw [HM.out.1]; rfl, rfl⟩
                · have HBm := Lib.hid (byteAt_lt s (a + m) (by omega))
                  have hbm := s[a + m].toNat_lt
                  have hbm2 : (128 : Int) ≤ (s[a + m].toNat : Int) := by have := HP.out m hm; rw [HBm.out] at this; omega
                  have HV2 : Hid ((v * 128 + (s[a + m].toNat - 128)) * 2 ^ (7 * m) + accOf s.data.toList a m = T) := Lib.hid (by
                    have h1 := HV.out
                    rw [pow7, accOf, HBm.out] at h1
                    exact acc_back _ _ _ _ _ (by omega) hbm h1)
                  have HV3 : Hid (v * 128 + (s[a + m].toNat - 128) < 18446744073709551616) := Lib.hid (Nat.lt_of_le_of_lt (back_le _ _ _ _ (Nat.pow_pos (by decide)) HV2.out) HM.out.2)
                  have HBl := Lib.hid hbm
                  clear hbm
                  have hm1 : (0 : Int) ≤ (m : Int) := by omega
                  have hm9 : m < 10 := by omega
                  have hm2 : a + m < s.size := by omega
                  first
                  | exact absurd hm (by omega)
                  | (go_wp2_with fail
                     go_round
                     case rel =>
                       refine ⟨v * 128 + (s[a + m].toNat - 128), ?_, ?_⟩
                       · have h1 := HV3.out
                         have h2 := HBl.out
                         rw [wrap_mul_nat v (by omega), show ((s[a + m].toNat : Int) - 128) % 256 = ((s[a + m].toNat - 128 : Nat) : Int) by omega, ← Int.natCast_add, wrap_u64_nat _ h1]
                       · by_cases hm0 : m = 0
                         · refine .inl ⟨by rw [hm0]; rfl, ?_⟩
                           have h1 := HV2.out
                           have h3 : ∀ b, b * 2 ^ (7 * m) + accOf s.data.toList a m = b := fun b => by rw [hm0]; simp [accOf]
                           rw [h3] at h1; exact h1
                         · refine .inr ⟨m - 1, by omega, by congr 1; omega, Lib.hid ?_⟩
                           rw [show m - 1 + 1 = m by omega]; exact HV2.out
                     case measure => simp [intOf])
        · have HM : Hid (rdU s.data.toList a = (0, 0, 60)) := Lib.hid (by rw [← HGo.out]; exact rdGo_short _ _ _ _ _ (by rw [HLo.out]; omega))
          have hlt2 : (s.size : Int) - (a : Int) ≤ (i : Int) := by omega
          have hi11 : ((i : Int) == 10) = false := by rw [beq_eq_false_iff_ne]; omega
          go_wp2_with fail
          go_ret3
          exact ⟨by rw [HM.out]; rfl, rfl⟩
      · obtain rfl : i = 10 := by omega
        have HM : Hid (rdU s.data.toList a = (0, 0, 61)) := Lib.hid HGo.out.symm
        go_wp2_with fail
        go_ret3
        exact ⟨by rw [HM.out]; rfl, rfl⟩
end Go.Proofs.Ytehbjfjhalpgaaa
