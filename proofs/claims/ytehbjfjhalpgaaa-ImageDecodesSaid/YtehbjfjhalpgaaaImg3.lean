/-
  Numbers written: Uint in the program and in the reference.
-/
import Derived.Test.YtehbjfjhalpgaaaRows
import Derived.Test.YtehbjfjhalpgaaaImg2
namespace Go.Proofs.Ytehbjfjhalpgaaa
open Go.RowKit

/-- A number's bytes. -/
def uintB (n : Nat) : List UInt8 := if h : n < 128 then [UInt8.ofNat n] else UInt8.ofNat (n % 128 + 128) :: uintB (n / 128)
termination_by n
decreasing_by omega
theorem uintB_small (n : Nat) (h : n < 128) : uintB n = [UInt8.ofNat n] := by rw [uintB, dif_pos h]
theorem uintB_more (n : Nat) (h : ¬ n < 128) : uintB n = UInt8.ofNat (n % 128 + 128) :: uintB (n / 128) := by rw [uintB, dif_neg h]
theorem u8_info : (Try.prog.info? 5).map (fun i => (i.zero, i.size, i.bytes)) = some (some (.int .u8 0), 1, 1) := by kernel_rfl
theorem bcells_snoc (l : List UInt8) (b : UInt8) : Lib.byteCells l ++ [Value.int .u8 (b.toNat : Int)] = Lib.byteCells (l ++ [b]) := by simp [Lib.byteCells]
theorem or128_all : ∀ n : Fin 256, bits BinOp.or IntKind.u8 (n.val : Int) 128 = ((n.val % 128 + 128 : Nat) : Int) := by decide +kernel
theorem or128 (b : Nat) : bits BinOp.or IntKind.u8 ((b : Int) % 256) 128 = (((UInt8.ofNat (b % 128 + 128)).toNat : Nat) : Int) := by
  have h : bits BinOp.or IntKind.u8 ((b % 256 : Nat) : Int) 128 = ((b % 256 % 128 + 128 : Nat) : Int) := or128_all ⟨b % 256, Nat.mod_lt _ (by decide)⟩
  rw [show (b : Int) % 256 = ((b % 256 : Nat) : Int) by omega, h, UInt8.toNat_ofNat']
  omega
theorem pow128 (a b k : Nat) (h : b * 128 ^ k ≤ a) : b / 128 * 128 ^ (k + 1) ≤ a := by
  refine Nat.le_trans ?_ h
  rw [Nat.pow_succ, Nat.mul_comm (128 ^ k) 128, ← Nat.mul_assoc]
  exact Nat.mul_le_mul_right _ (Nat.div_mul_le_self b 128)
theorem pow128_bound (a b k : Nat) (hb : 0 < b) (h : b * 128 ^ k ≤ a) (ha : a < 18446744073709551616) : k < 10 := by
  rcases Nat.lt_or_ge k 10 with h1 | h1
  · exact h1
  · have h2 : 128 ^ 10 ≤ 128 ^ k := Nat.pow_le_pow_right (by omega) h1
    have h3 : 1 * 128 ^ k ≤ b * 128 ^ k := Nat.mul_le_mul_right _ hb
    have h4 : (128 : Nat) ^ 10 = 1180591620717411303424 := by decide
    omega

theorem uint_fin {w w5 : World} {v : Value} {k b n : Nat} {acc : List UInt8} (h5 : Own w w5 5 1 v k (Lib.byteCells acc ++ [.int .u8 (b : Int)])) (hb : b < 128) (hr : acc ++ uintB b = uintB n) : Own w w5 5 1 v k (Lib.byteCells (uintB n)) := by
  have h6 : ((UInt8.ofNat b).toNat : Int) = (b : Int) := by rw [UInt8.toNat_ofNat']; omega
  rw [← h6, bcells_snoc, ← uintB_small b hb, hr] at h5; exact h5
theorem uintB_len : ∀ (k n : Nat), n < 128 ^ (k + 1) → (uintB n).length ≤ k + 1
  | 0, n, h => by rw [uintB_small n (by omega)]; simp
  | k + 1, n, h => by
    by_cases h1 : n < 128
    · rw [uintB_small n h1]; simp
    · rw [uintB_more n h1, List.length_cons]
      have := uintB_len k (n / 128) (by rw [Nat.pow_succ] at h; omega)
      omega
theorem uintB_ten (n : Nat) (h : n < 18446744073709551616) : (uintB n).length ≤ 10 := uintB_len 9 n (Nat.lt_trans h (by decide))
set_option maxHeartbeats 4000000 in
set_option maxRecDepth 100000 in
theorem Uint_any (n : Nat) (hn : n < 18446744073709551616) (w : World) :
    Calls Try.prog 21 #[.int .u64 (n : Int)] w fun e w' => e = .returned (.string (mkS (uintB n))) ∧ Below w.heap.size w w' := by
  obtain ⟨i0, hi, hz0, hz1, hz2⟩ := info_parts u8_info
  go_enter Try.func21, Try.ntmps21
  go_wp2_with fail
  go_loopw [0, 3] (fun t v wr => ∃ (b k : Nat) (acc : List UInt8), t = .int .u64 (b : Int) ∧ b ≤ n ∧ Hid (b * 128 ^ k ≤ n) ∧ k ≤ 10 ∧ Own w wr 5 1 v k (Lib.byteCells acc) ∧ Hid (acc ++ uintB b = uintB n)) (fun t _ _ => (intOf t).natAbs)
  case atStart => exact ⟨n, 0, [], rfl, Nat.le_refl _, Lib.hid (by omega), by omega, Own.nil_ w _ _, Lib.hid rfl⟩
  case round =>
    obtain ⟨b, k, acc, rfl, hbn, HP, hk, ho, HR⟩ := hrel
    have HO := Lib.hid ho
    clear ho
    by_cases hb : (127 : Int) < (b : Int)
    · have HK : Hid (k < 10) := Lib.hid (pow128_bound n b k (by omega) HP.out hn)
      go_wp2_with (at_builtin; refine wpList_push1 rfl _ _ 57 rfl w.heap.size 5 i0 (.int .u8 0) 1 Try.underlying57 hi hz0 hz1 hz2 rfl _ _ _ rfl HO.out.own _ rfl rfl (by unfold maxLen; omega) (by omega) HO.out.size ?_; intro gg cap w5 hown hg5; have HO' := Lib.hid (HO.out.push hown hg5); clear hown hg5)
      have HFin : Hid (Own w w5 5 1 (.slice (some ⟨gg, 0, none⟩) (k + 1) cap) (k + 1) (Lib.byteCells (acc ++ [UInt8.ofNat (b % 128 + 128)]))) := Lib.hid (by
        have h5 := HO'.out
        rw [or128 b, bcells_snoc] at h5; exact h5)
      have HS : Hid (acc ++ [UInt8.ofNat (b % 128 + 128)] ++ uintB (b / 128) = uintB n) := Lib.hid (by
        rw [← HR.out, uintB_more b (by omega), List.append_assoc]; rfl)
      clear HO' HR
      go_roundw
      case rel => exact ⟨b / 128, k + 1, _, by congr 1, by omega, Lib.hid (pow128 n b k HP.out), by have := HK.out; omega, HFin.out, HS⟩
      case measure => simp [intOf]; omega
    · go_wp2_with (at_builtin; refine wpList_push1 rfl _ _ 57 rfl w.heap.size 5 i0 (.int .u8 0) 1 Try.underlying57 hi hz0 hz1 hz2 rfl _ _ _ rfl HO.out.own _ rfl rfl (by unfold maxLen; omega) (by omega) HO.out.size ?_; intro gg cap w5 hown hg5; have HO' := Lib.hid (HO.out.push hown hg5); clear hown hg5; have HFin := Lib.hid (uint_fin HO'.out (by omega) HR.out); have hcv := run_string_of_own HFin.out.own 57 9 Try.underlying57 Try.underlying5 Try.underlying9; clear HO' HR)
      go_ret
      exact ⟨rfl, HFin.out.below⟩

/-- One byte as a text. -/
theorem conv1 (W : World) (c : Int) (b : UInt8) (h : c = (b.toNat : Int)) :
    (convert 57 9 (.slice (some ⟨W.heap.size, 0, none⟩) 1 1)).run Try.prog (W.alloc (.cells #[.int .u8 c] 5)) = .ok (.string (mkS [b])) (W.alloc (.cells #[.int .u8 c] 5)) := by
  subst h
  have ho : (W.alloc (.cells #[.int .u8 (b.toNat : Int)] 5)).ownsRow W.heap.size 5 1 (.slice (some ⟨W.heap.size, 0, none⟩) 1 1) 1 (Lib.byteCells [b]) := (Own.laid W 5 1 1 #[.int .u8 (b.toNat : Int)] rfl (by decide)).own
  exact run_string_of_own ho 57 9 Try.underlying57 Try.underlying5 Try.underlying9
theorem str_cons (b : UInt8) (l : List UInt8) : mkS [b] ++ mkS l = mkS (b :: l) := by
  apply ByteArray.ext
  simp [mkS]

set_option maxHeartbeats 4000000 in
set_option maxRecDepth 100000 in
theorem rUint_any (n : Nat) : ∀ (w : World), n < 18446744073709551616 →
    Calls Try.prog 51 #[.int .u64 (n : Int)] w fun e w' => e = .returned (.string (mkS (uintB n))) ∧ Below w.heap.size w w' := by
  induction n using Nat.strongRecOn with
  | _ n ih =>
    intro w hn
    by_cases hb : (n : Int) < 128
    · have HU := Lib.hid (uintB_small n (by omega))
      have hcv := conv1 w ((n : Int) % 128) (UInt8.ofNat n) (by rw [UInt8.toNat_ofNat']; omega)
      go_enter Try.func51, Try.ntmps51
      go_wp2_with fail
      go_ret
      exact ⟨by rw [HU.out]; rfl, (Below.refl _ _).alloc (Nat.le_refl _) _⟩
    · have HI : ∀ w : World, Calls Try.prog 51 #[.int .u64 ((n : Int) / 128)] w fun e w' => e = .returned (.string (mkS (uintB (n / 128)))) ∧ Below w.heap.size w w' := fun w => ih (n / 128) (by omega) w (by omega)
      obtain ⟨c, hc⟩ : ∃ c, UInt8.ofNat (n % 128 + 128) = c := ⟨_, rfl⟩
      obtain ⟨T, hT⟩ : ∃ T, mkS (uintB (n / 128)) = T := ⟨_, rfl⟩
      have HU : Hid (mkS (uintB n) = mkS [c] ++ T) := Lib.hid (by rw [uintB_more n (by omega), ← hT, str_cons, hc])
      have HC : Hid ((n : Int) % 128 + 128 = (c.toNat : Int)) := Lib.hid (by rw [← hc, UInt8.toNat_ofNat']; omega)
      have hT1 : T.size ≤ 10 := by rw [← hT, mkS_size]; exact uintB_ten _ (by omega)
      have hT2 : (mkS [c]).size = 1 := rfl
      rw [hT] at HI
      clear hc hT
      go_enter Try.func51, Try.ntmps51
      go_wp2_with (first
        | (refine Calls.mono (HI _) ?_
           rintro _ w1 ⟨rfl, hbl⟩
           have HB := Lib.hid hbl
           clear hbl
           have hcv := conv1 w1 ((n : Int) % 128 + 128) c HC.out))
      go_ret
      exact ⟨by rw [HU.out]; rfl, HB.out.alloc HB.out.size _⟩
end Go.Proofs.Ytehbjfjhalpgaaa
