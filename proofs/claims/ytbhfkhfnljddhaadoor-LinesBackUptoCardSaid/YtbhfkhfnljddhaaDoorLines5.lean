/-
  Decimal: the program's and the reference's digits.
-/
import Derived.Test.YtbhfkhfnljddhaaDoorRows
import Derived.Test.YtbhfkhfnljddhaaDoorShelf
import Derived.Test.YtbhfkhfnljddhaaDoorLines1
import Derived.Lib.ItoaNum
import Derived.Lib.LaidTab
import Derived.Sort.Grow
namespace Go.Proofs.YtbhfkhfnljddhaaDoor
open Go.RowKit

def decS (n : Int) : ByteArray := mkS (Lib.itoa n)
theorem byte_info : (Tryd.prog.info? 5).map (fun i => (i.zero, i.size, i.bytes)) = some (some (.int .u8 0), 1, 1) := by kernel_rfl
theorem below_grow (w : World) (q : Nat) (os : Array Obj) : Below w.heap.size w (Go.Sort.grow (w.drewN q) os) :=
  ⟨rfl, rfl, rfl, by simp [Go.Sort.grow], fun i hi => by
    show ((w.drewN q).heap ++ os)[i]? = _
    rw [Array.getElem?_append_left (by show i < w.heap.size; omega)]
    rfl⟩
/-- The table of powers that the library reads. -/
def PowTab (w : World) : Prop := Lib.TabIs Tryd.prog w "internal/strconv.uint64pow10" .u64 Lib.pow10Tab

set_option maxHeartbeats 400000 in
theorem Decimal_any (n : Int) (w : World) (h0 : -9223372036854775808 ≤ n) (h1 : n ≤ 9223372036854775807) (ht : PowTab w) :
    Calls Tryd.prog 21 #[.int .i64 n] w fun e w' => e = .returned (.string (decS n)) ∧ Below w.heap.size w w' := by
  have HT := Lib.hid ht
  clear ht
  go_enter Tryd.func21, Tryd.ntmps21
  go_wp2_with (go_at_call 36; refine (Tryd.strconv_Itoa n h0 h1 _ HT.out).mono ?_; rintro e w1 ⟨rfl, k, os, hw⟩; have hb1 : Below w.heap.size w w1 := (by rw [hw]; exact below_grow _ _ _); have HB := Lib.hid hb1; clear hw hb1)
  go_ret
  exact ⟨rfl, HB.out⟩
set_option maxHeartbeats 400000 in
theorem Decimal_small (i : Nat) (w : World) (h : i < 100) :
    Calls Tryd.prog 21 #[.int .i64 i] w fun e w' => e = .returned (.string (mkS (Lib.decDigits i))) ∧ w = w' := by
  go_enter Tryd.func21, Tryd.ntmps21
  go_wp2_with (go_at_call 36; refine (Tryd.strconv_Itoa_small i h _).mono ?_; rintro e w1 ⟨rfl, rfl⟩)
  go_ret
  exact ⟨rfl, rfl⟩

/-- The digits of a number, none of 0. -/
def digs (b : Nat) : List UInt8 := if b = 0 then [] else Lib.decDigits b
theorem digs_step (b : Nat) (h : 0 < b) : digs b = digs (b / 10) ++ [UInt8.ofNat (48 + b % 10)] := by
  unfold digs
  rw [if_neg (by omega), Lib.decDigits]
  by_cases h1 : b < 10
  · rw [dif_pos h1, if_pos (by omega)]
    have : b % 10 = b := Nat.mod_eq_of_lt h1
    rw [this]; rfl
  · rw [dif_neg h1, if_neg (by omega)]
theorem byte_of (m : Nat) (h : m < 10) : ((UInt8.ofNat (48 + m)).toNat : Int) = 48 + m := by
  rw [UInt8.toNat_ofNat']; omega
theorem pow_bound (a b k : Nat) (hb : 0 < b) (h : b * 10 ^ k ≤ a) (ha : a ≤ 9223372036854775808) : k < 19 := by
  rcases Nat.lt_or_ge k 19 with h1 | h1
  · exact h1
  · have h2 : 10 ^ 19 ≤ 10 ^ k := Nat.pow_le_pow_right (by omega) h1
    have h3 : 1 * 10 ^ k ≤ b * 10 ^ k := Nat.mul_le_mul_right _ hb
    have h4 : (10 : Nat) ^ 19 = 10000000000000000000 := by decide
    omega
theorem pow_step (a b k : Nat) (h : b * 10 ^ k ≤ a) : b / 10 * 10 ^ (k + 1) ≤ a := by
  refine Nat.le_trans ?_ h
  rw [Nat.pow_succ, Nat.mul_comm (10 ^ k) 10, ← Nat.mul_assoc]
  exact Nat.mul_le_mul_right _ (Nat.div_mul_le_self b 10)

theorem tmod_neg (b : Nat) : (-(b : Int)).tmod 10 = -((b : Int) % 10) := by rw [Int.neg_tmod, Int.tmod_eq_emod_of_nonneg (by omega)]
theorem tdiv_neg (b : Nat) : (-(b : Int)).tdiv 10 = -((b : Int) / 10) := by rw [Int.neg_tdiv, Int.tdiv_eq_ediv_of_nonneg (by omega)]

theorem bytes_snoc (l : List UInt8) (b : UInt8) : Lib.byteCells l ++ [Value.int .u8 (b.toNat : Int)] = Lib.byteCells (l ++ [b]) := by simp [Lib.byteCells]
theorem bytes_len (l : List UInt8) : (Lib.byteCells l).length = l.length := by simp [Lib.byteCells]
theorem own_byte {w : World} {B e n g cap : Nat} {l : List UInt8} (h : w.ownsRow B e 1 (.slice (some ⟨g, 0, none⟩) n cap) n (Lib.byteCells l)) (j : Nat) (hj : j < l.length) :
    w.cell? ⟨g, j, none⟩ = some (.int .u8 (l[j].toNat : Int)) := by
  have := h.cells (g := g) rfl j (.int .u8 (l[j].toNat : Int)) (by simp [Lib.byteCells, hj])
  rwa [row_addr] at this
theorem own_form {w : World} {B e n : Nat} {v : Value} {xs : List Value} (h : w.ownsRow B e 1 v n xs) (hn : 0 < n) : ∃ g cap, v = .slice (some ⟨g, 0, none⟩) n cap := by
  rcases h.2 with ⟨_, h0⟩ | ⟨g, cap, cur, hv, _⟩
  · omega
  · exact ⟨g, cap, hv⟩

theorem digs_ne (b : Nat) (h : 0 < b) : (digs b).length ≠ 0 := by rw [digs_step b h]; simp
theorem digs_val (b : Nat) (h : 0 < b) : digs b = Lib.decDigits b := by rw [digs, if_neg (by omega)]

set_option maxHeartbeats 4000000 in
set_option maxRecDepth 100000 in
theorem Decimal01_pos (a : Nat) (ha : 0 < a) (hb : a ≤ 9223372036854775807) (w : World) :
    Calls Tryd.prog 22 #[.int .i64 (a : Int)] w fun e w' => e = .returned (.string (mkS ([] ++ Lib.decDigits a))) ∧ Below w.heap.size w w' := by
  obtain ⟨i0, hi, hz0, hz1, hz2⟩ := info_parts byte_info
  have hz : ((a : Int) == 0) = false := by rw [beq_eq_false_iff_ne]; omega
  go_enter Tryd.func22, Tryd.ntmps22
  go_wp2_with fail
  go_loopw [3, 4] (fun v m wr => ∃ (b k : Nat) (acc : List UInt8), m = .int .i64 (b : Int) ∧ b ≤ a ∧ b * 10 ^ k ≤ a ∧ acc.length = k ∧ k ≤ 19 ∧ Own w wr 5 1 v k (Lib.byteCells acc) ∧ digs b ++ acc.reverse = digs a) (fun _ m _ => (intOf m).natAbs)
  case atStart => exact ⟨a, 0, [], rfl, Nat.le_refl _, by omega, rfl, by omega, Own.empty w _ _, by simp⟩
  case round =>
    obtain ⟨b, k, acc, rfl, hba, hpow, hlen, hk, ho, hrem⟩ := hrel
    have HO := Lib.hid ho
    have HR := Lib.hid hrem
    have HP := Lib.hid hpow
    have HL := Lib.hid hlen
    clear ho hrem hpow hlen
    by_cases hb0 : 0 < b
    · have hbz : ((b : Int) != 0) = true := by rw [bne_iff_ne]; omega
      have hk19 := pow_bound a b k hb0 HP.out (by omega)
      have hmod : b % 10 < 10 := Nat.mod_lt _ (by omega)
      have HB := Lib.hid (byte_of (b % 10) hmod)
      have HS := Lib.hid (digs_step b hb0)
      have hb10 : (b : Int) % 10 < 10 := by omega

      all_goals
        go_wp2_with (at_builtin; refine wpList_push1 rfl _ _ 36 rfl w.heap.size 5 i0 (.int .u8 0) 1 Tryd.underlying36 hi hz0 hz1 hz2 rfl _ _ _ rfl HO.out.own _ rfl rfl (by unfold maxLen; omega) (by omega) HO.out.size ?_; intro gg cap w5 hown hg5; have HO' := Lib.hid (HO.out.push hown hg5); clear hown hg5)
        have HFin : Hid (Own w w5 5 1 (.slice (some ⟨gg, 0, none⟩) (k + 1) cap) (k + 1) (Lib.byteCells (acc ++ [UInt8.ofNat (48 + b % 10)]))) := by
          have h5 := HO'.out
          rw [← bytes_snoc, HB.out]
          have e : ∀ x : Int, x = 48 + ((b % 10 : Nat) : Int) → Own w w5 5 1 (.slice (some ⟨gg, 0, none⟩) (k + 1) cap) (k + 1) (Lib.byteCells acc ++ [Value.int .u8 x]) → Own w w5 5 1 (.slice (some ⟨gg, 0, none⟩) (k + 1) cap) (k + 1) (Lib.byteCells acc ++ [Value.int .u8 (48 + ((b % 10 : Nat) : Int))]) := by
            rintro x rfl h; exact h
          exact e _ (by push_cast; omega) h5
        clear HO'
        go_wp2_with fail
        go_roundw
        case rel => exact ⟨b / 10, k + 1, acc ++ [UInt8.ofNat (48 + b % 10)], by congr 1 <;> first | done | (push_cast; omega), by omega, pow_step a b k HP.out, by simp [HL.out], by omega, HFin.out, by rw [← HR.out, HS.out]; simp⟩
        case measure => simp [intOf]; omega
    · have hbz : ((b : Int) != 0) = false := by rw [bne_eq_false_iff_eq]; omega
      have HB0 : Hid (b = 0) := Lib.hid (by omega)
      have HR2 : Hid (acc.reverse = Lib.decDigits a) := Lib.hid (by rw [← digs_val a ha, ← HR.out, HB0.out]; rfl)
      have hkp : 0 < k := by
        have h1 := HR.out
        have h2 := digs_ne a ha
        have h3 := HL.out
        rcases Nat.eq_zero_or_pos k with h | h
        · rw [h] at h3
          have h4 : acc = [] := List.eq_nil_of_length_eq_zero h3
          rw [h4, HB0.out] at h1
          rw [← h1] at h2
          exact absurd rfl h2
        · exact h
      obtain ⟨gd, cd, hv⟩ := own_form HO.out.own hkp
      subst hv
      have HD : Hid (∀ j (h : j < acc.length), wr.cell? ⟨gd, j, none⟩ = some (.int .u8 (acc[j].toNat : Int))) := Lib.hid (own_byte HO.out.own)
      have hgd := (HO.out.own.lt gd rfl).2
      obtain ⟨wm, rfl⟩ : ∃ wm : World, wm = wr := ⟨_, rfl⟩
      have HE := Lib.hid (Own.empty wm 5 1)
      have HBW := Lib.hid HO.out.below
      clear HO HR hb0 HP hba
      go_wp2_with fail
      go_loopw [6, 7] (fun v i W2 => ∃ (j : Int) (n : Nat), -1 ≤ j ∧ j < k ∧ i = .int .i64 j ∧ (n : Int) = 0 + (k - 1 - j) ∧ Own wm W2 5 1 v n (Lib.byteCells (([] : List UInt8) ++ acc.reverse.take (k - 1 - j).toNat))) (fun _ i _ => (intOf i + 1).toNat)
      case atStart => exact ⟨k - 1, 0, by omega, by omega, rfl, by omega, by simpa [Lib.byteCells] using HE.out⟩
      case round =>
        obtain ⟨j, n, hj1, hj2, rfl, hn, ho⟩ := hrel
        have HO := Lib.hid ho
        clear ho
        by_cases hj0 : 0 ≤ j
        · obtain ⟨q, rfl⟩ := Int.eq_ofNat_of_zero_le hj0
          have hq : q < acc.length := by rw [HL.out]; omega
          have hcell := (HO.out.below.cell (p := ⟨gd, q, none⟩) hgd).trans (HD.out q hq)
          have HTk : Hid (acc.reverse.take (k - 1 - (q : Int)).toNat ++ [acc[q]] = acc.reverse.take (k - 1 - ((q : Int) - 1)).toNat) := Lib.hid (by
            have e1 : (k - 1 - (q : Int)).toNat = k - 1 - q := by omega
            have e2 : (k - 1 - ((q : Int) - 1)).toNat = (k - 1 - q) + 1 := by omega
            have hl : k - 1 - q < acc.reverse.length := by rw [List.length_reverse, HL.out]; omega
            rw [e1, e2, List.take_succ_eq_append_getElem hl]
            congr 2
            rw [List.getElem_reverse]
            congr 1
            have := HL.out; omega)
          have hnb : n ≤ 100 := by omega
          go_wp2_with (at_builtin; refine wpList_push1 rfl _ _ 36 rfl wm.heap.size 5 i0 (.int .u8 0) 1 Tryd.underlying36 hi hz0 hz1 hz2 rfl _ _ _ rfl HO.out.own _ rfl rfl (by unfold maxLen; omega) (by omega) HO.out.size ?_; intro gg cap w5 hown hg5; have HO' := Lib.hid (HO.out.push hown hg5); clear hown hg5)
          go_roundw
          case rel =>
            refine ⟨(q : Int) - 1, n + 1, by omega, by omega, rfl, by omega, ?_⟩
            have h5 := HO'.out
            rw [bytes_snoc, List.append_assoc, HTk.out] at h5
            exact h5
          case measure => simp [intOf] <;> omega
        · obtain rfl : j = -1 := by omega
          have HT2 : Hid (([] : List UInt8) ++ acc.reverse.take (k - 1 - (-1 : Int)).toNat = ([] : List UInt8) ++ Lib.decDigits a) := Lib.hid (by
            have e2 : (k - 1 - (-1 : Int)).toNat = k := by omega
            rw [e2, ← HR2.out]
            congr 1
            exact List.take_of_length_le (by rw [List.length_reverse, HL.out]; omega))
          have hcv := run_string_of_own HO.out.own 36 9 Tryd.underlying36 Tryd.underlying5 Tryd.underlying9
          rw [HT2.out] at hcv
          go_wp2_with fail
          go_ret
          exact ⟨rfl, HBW.out.trans (HO.out.below.mono HBW.out.size)⟩

set_option maxHeartbeats 4000000 in
set_option maxRecDepth 100000 in
theorem Decimal01_neg (a : Nat) (ha : 0 < a) (hb : a ≤ 9223372036854775808) (w : World) :
    Calls Tryd.prog 22 #[.int .i64 (-(a : Int))] w fun e w' => e = .returned (.string (mkS ([45] ++ Lib.decDigits a))) ∧ Below w.heap.size w w' := by
  obtain ⟨i0, hi, hz0, hz1, hz2⟩ := info_parts byte_info
  have hz : ((-(a : Int)) == 0) = false := by rw [beq_eq_false_iff_ne]; omega
  go_enter Tryd.func22, Tryd.ntmps22
  go_wp2_with fail
  go_loopw [3, 4] (fun v m wr => ∃ (b k : Nat) (acc : List UInt8), m = .int .i64 (-(b : Int)) ∧ b ≤ a ∧ b * 10 ^ k ≤ a ∧ acc.length = k ∧ k ≤ 19 ∧ Own w wr 5 1 v k (Lib.byteCells acc) ∧ digs b ++ acc.reverse = digs a) (fun _ m _ => (intOf m).natAbs)
  case atStart => exact ⟨a, 0, [], rfl, Nat.le_refl _, by omega, rfl, by omega, Own.empty w _ _, by simp⟩
  case round =>
    obtain ⟨b, k, acc, rfl, hba, hpow, hlen, hk, ho, hrem⟩ := hrel
    have HO := Lib.hid ho
    have HR := Lib.hid hrem
    have HP := Lib.hid hpow
    have HL := Lib.hid hlen
    clear ho hrem hpow hlen
    by_cases hb0 : 0 < b
    · have hbz : ((-(b : Int)) != 0) = true := by rw [bne_iff_ne]; omega
      have hk19 := pow_bound a b k hb0 HP.out (by omega)
      have hmod : b % 10 < 10 := Nat.mod_lt _ (by omega)
      have HB := Lib.hid (byte_of (b % 10) hmod)
      have HS := Lib.hid (digs_step b hb0)
      have e1 := tmod_neg b
      have e2 := tdiv_neg b
      have hb10 : (b : Int) % 10 < 10 := by omega
      by_cases hm0 : 0 < (b : Int) % 10
      all_goals
        go_wp2_with (at_builtin; refine wpList_push1 rfl _ _ 36 rfl w.heap.size 5 i0 (.int .u8 0) 1 Tryd.underlying36 hi hz0 hz1 hz2 rfl _ _ _ rfl HO.out.own _ rfl rfl (by unfold maxLen; omega) (by omega) HO.out.size ?_; intro gg cap w5 hown hg5; have HO' := Lib.hid (HO.out.push hown hg5); clear hown hg5)
        have HFin : Hid (Own w w5 5 1 (.slice (some ⟨gg, 0, none⟩) (k + 1) cap) (k + 1) (Lib.byteCells (acc ++ [UInt8.ofNat (48 + b % 10)]))) := by
          have h5 := HO'.out
          rw [← bytes_snoc, HB.out]
          have e : ∀ x : Int, x = 48 + ((b % 10 : Nat) : Int) → Own w w5 5 1 (.slice (some ⟨gg, 0, none⟩) (k + 1) cap) (k + 1) (Lib.byteCells acc ++ [Value.int .u8 x]) → Own w w5 5 1 (.slice (some ⟨gg, 0, none⟩) (k + 1) cap) (k + 1) (Lib.byteCells acc ++ [Value.int .u8 (48 + ((b % 10 : Nat) : Int))]) := by
            rintro x rfl h; exact h
          exact e _ (by push_cast; omega) h5
        clear HO'
        go_wp2_with fail
        go_roundw
        case rel => exact ⟨b / 10, k + 1, acc ++ [UInt8.ofNat (48 + b % 10)], by congr 1 <;> first | done | (push_cast; omega), by omega, pow_step a b k HP.out, by simp [HL.out], by omega, HFin.out, by rw [← HR.out, HS.out]; simp⟩
        case measure => simp [intOf]; omega
    · have hbz : ((-(b : Int)) != 0) = false := by rw [bne_eq_false_iff_eq]; omega
      have HB0 : Hid (b = 0) := Lib.hid (by omega)
      have HR2 : Hid (acc.reverse = Lib.decDigits a) := Lib.hid (by rw [← digs_val a ha, ← HR.out, HB0.out]; rfl)
      have hkp : 0 < k := by
        have h1 := HR.out
        have h2 := digs_ne a ha
        have h3 := HL.out
        rcases Nat.eq_zero_or_pos k with h | h
        · rw [h] at h3
          have h4 : acc = [] := List.eq_nil_of_length_eq_zero h3
          rw [h4, HB0.out] at h1
          rw [← h1] at h2
          exact absurd rfl h2
        · exact h
      obtain ⟨gd, cd, hv⟩ := own_form HO.out.own hkp
      subst hv
      have HD : Hid (∀ j (h : j < acc.length), wr.cell? ⟨gd, j, none⟩ = some (.int .u8 (acc[j].toNat : Int))) := Lib.hid (own_byte HO.out.own)
      have hgd := (HO.out.own.lt gd rfl).2
      obtain ⟨wm, rfl⟩ : ∃ wm : World, wm = wr := ⟨_, rfl⟩
      have HE := Lib.hid (Own.empty wm 5 1)
      have HBW := Lib.hid HO.out.below
      clear HO HR hb0 HP hba
      go_wp2_with (at_builtin; refine wpList_push1_at rfl _ _ 36 rfl wm.heap.size 5 i0 (.int .u8 0) 1 Tryd.underlying36 hi hz0 hz1 hz2 rfl _ _ _ rfl HE.out.own _ rfl _ rfl (by simp) (by unfold maxLen; omega) (by omega) HE.out.size ?_; intro gg cap w5 hown hg5; have HE' := Lib.hid (HE.out.push hown hg5); clear hown hg5)
      go_loopw [6, 7] (fun v i W2 => ∃ (j : Int) (n : Nat), -1 ≤ j ∧ j < k ∧ i = .int .i64 j ∧ (n : Int) = 1 + (k - 1 - j) ∧ Own wm W2 5 1 v n (Lib.byteCells ([45] ++ acc.reverse.take (k - 1 - j).toNat))) (fun _ i _ => (intOf i + 1).toNat)
      case atStart => exact ⟨k - 1, 1, by omega, by omega, rfl, by omega, by simpa [Lib.byteCells] using HE'.out⟩
      case round =>
        obtain ⟨j, n, hj1, hj2, rfl, hn, ho⟩ := hrel
        have HO := Lib.hid ho
        clear ho
        by_cases hj0 : 0 ≤ j
        · obtain ⟨q, rfl⟩ := Int.eq_ofNat_of_zero_le hj0
          have hq : q < acc.length := by rw [HL.out]; omega
          have hcell := (HO.out.below.cell (p := ⟨gd, q, none⟩) hgd).trans (HD.out q hq)
          have HTk : Hid (acc.reverse.take (k - 1 - (q : Int)).toNat ++ [acc[q]] = acc.reverse.take (k - 1 - ((q : Int) - 1)).toNat) := Lib.hid (by
            have e1 : (k - 1 - (q : Int)).toNat = k - 1 - q := by omega
            have e2 : (k - 1 - ((q : Int) - 1)).toNat = (k - 1 - q) + 1 := by omega
            have hl : k - 1 - q < acc.reverse.length := by rw [List.length_reverse, HL.out]; omega
            rw [e1, e2, List.take_succ_eq_append_getElem hl]
            congr 2
            rw [List.getElem_reverse]
            congr 1
            have := HL.out; omega)
          have hnb : n ≤ 100 := by omega
          go_wp2_with (at_builtin; refine wpList_push1 rfl _ _ 36 rfl wm.heap.size 5 i0 (.int .u8 0) 1 Tryd.underlying36 hi hz0 hz1 hz2 rfl _ _ _ rfl HO.out.own _ rfl rfl (by unfold maxLen; omega) (by omega) HO.out.size ?_; intro gg cap w5 hown hg5; have HO' := Lib.hid (HO.out.push hown hg5); clear hown hg5)
          go_roundw
          case rel =>
            refine ⟨(q : Int) - 1, n + 1, by omega, by omega, rfl, by omega, ?_⟩
            have h5 := HO'.out
            rw [bytes_snoc, List.append_assoc, HTk.out] at h5
            exact h5
          case measure => simp [intOf] <;> omega
        · obtain rfl : j = -1 := by omega
          have HT2 : Hid ([45] ++ acc.reverse.take (k - 1 - (-1 : Int)).toNat = [45] ++ Lib.decDigits a) := Lib.hid (by
            have e2 : (k - 1 - (-1 : Int)).toNat = k := by omega
            rw [e2, ← HR2.out]
            congr 1
            exact List.take_of_length_le (by rw [List.length_reverse, HL.out]; omega))
          have hcv := run_string_of_own HO.out.own 36 9 Tryd.underlying36 Tryd.underlying5 Tryd.underlying9
          rw [HT2.out] at hcv
          go_wp2_with fail
          go_ret
          exact ⟨rfl, HBW.out.trans (HO.out.below.mono HBW.out.size)⟩
end Go.Proofs.YtbhfkhfnljddhaaDoor
