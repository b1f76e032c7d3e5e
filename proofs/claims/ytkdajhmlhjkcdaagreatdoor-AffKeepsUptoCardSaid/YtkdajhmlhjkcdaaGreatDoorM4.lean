/-
 Parts of the proof: Lines5, Builder, Img4, Img5, Each, Split, Split2, Split3A, Each2, Rows1, AC0, AS0, Kept.
-/
import Derived.Test.YtkdajhmlhjkcdaaGreatDoorRows
import Derived.Test.YtkdajhmlhjkcdaaGreatDoorM0
import Derived.Test.YtkdajhmlhjkcdaaGreatDoorM3
import Derived.Lib.ItoaNum
import Derived.Lib.LaidTab
import Derived.Sort.Grow
import Derived.Test.YtkdajhmlhjkcdaaGreatDoorM2
import Derived.Lib.Strings
import Derived.Lib.Slices
import Derived.Lib.Walk
import Derived.Lib.Builder
import Derived.Lib.AppendStr
import Derived.Lib.UnsafeStr
import Derived.Laws.Externs
import Derived.Lib.AsciiSet
import Derived.RangeFuncNested
import Derived.RangeFuncBound
import Derived.RangeFuncCalls
import Derived.RangeFuncLeaves
import Derived.RangeFuncBox
import Derived.Shelf.Abstract
import Derived.Shelf.RegionOpen
import Derived.WalkKit
import Derived.OwnWalkIn
import Derived.TacticsInMore
import Derived.LoopNIn
import Derived.LoopIn
import Derived.Lib.IndexMore
import Derived.Maps.AppendAt
import Derived.Laws.BitsLemmas
import Derived.Lib.EndianBits
set_option linter.unusedVariables false
set_option linter.unusedSimpArgs false
namespace Go.Proofs.YtkdajhmlhjkcdaaGreatDoor
open Go.RowKit
def decS (n : Int) : ByteArray := mkS (Lib.itoa n)
theorem byte_info : (Tryz.prog.info? 5).map (fun i => (i.zero, i.size, i.bytes)) = some (some (.int .u8 0), 1, 1) := by kernel_rfl
theorem below_grow (w : World) (q : Nat) (os : Array Obj) : Below w.heap.size w (Go.Sort.grow (w.drewN q) os) :=
 ⟨rfl, rfl, rfl, by simp [Go.Sort.grow], fun i hi => by
  show ((w.drewN q).heap ++ os)[i]? = _
  rw [Array.getElem?_append_left (by show i < w.heap.size; omega)]
  rfl⟩
def PowTab (w : World) : Prop := Lib.TabIs Tryz.prog w "internal/strconv.uint64pow10" .u64 Lib.pow10Tab
set_option maxHeartbeats 400000 in
theorem Decimal_any (n : Int) (w : World) (h0 : -9223372036854775808 ≤ n) (h1 : n ≤ 9223372036854775807) (ht : PowTab w) :
  Calls Tryz.prog 60 #[.int .i64 n] w fun e w' => e = .returned (.string (decS n)) ∧ Below w.heap.size w w' := by
 have HT := Lib.hid ht
 clear ht
 go_enter Tryz.func60, Tryz.ntmps60
 go_wp2_with (go_at_call 95; refine (Tryz.strconv_Itoa n h0 h1 _ HT.out).mono ?_; rintro e w1 ⟨rfl, k, os, hw⟩; have hb1 : Below w.heap.size w w1 := (by rw [hw]; exact below_grow _ _ _); have HB := Lib.hid hb1; clear hw hb1)
 go_ret
 exact ⟨rfl, HB.out⟩
def digs (b : Nat) : List UInt8 := if b = 0 then [] else Lib.decDigits b
theorem digs_step (b : Nat) (h : 0 < b) : digs b = digs (b / 10) ++ [UInt8.ofNat (48 + b % 10)] := by
 unfold digs
 rw [if_neg (by omega), Lib.decDigits]
 by_cases h1 : b < 10
 ·rw [dif_pos h1, if_pos (by omega)]
  have : b % 10 = b := Nat.mod_eq_of_lt h1
  rw [this]; rfl
 rw [dif_neg h1, if_neg (by omega)]
theorem byte_of (m : Nat) (h : m < 10) : ((UInt8.ofNat (48 + m)).toNat : Int) = 48 + m := by
 rw [UInt8.toNat_ofNat']; omega
theorem pow_bound (a b k : Nat) (hb : 0 < b) (h : b * 10 ^ k ≤ a) (ha : a ≤ 9223372036854775808) : k < 19 := by
 rcases Nat.lt_or_ge k 19 with h1 | h1
 ·exact h1
 have h2 : 10 ^ 19 ≤ 10 ^ k := Nat.pow_le_pow_right (by omega) h1
 have h3 : 1 * 10 ^ k ≤ b * 10 ^ k := Nat.mul_le_mul_right _ hb
 have h4 : (10 : Nat) ^ 19 = 10000000000000000000 := by decide
 omega
theorem pow_step (a b k : Nat) (h : b * 10 ^ k ≤ a) : b / 10 * 10 ^ (k + 1) ≤ a := by
 refine Nat.le_trans ?_ h
 rw [Nat.pow_succ, Nat.mul_comm (10 ^ k) 10, ← Nat.mul_assoc]
 exact Nat.mul_le_mul_right _ (Nat.div_mul_le_self b 10)
theorem tmod_neg (b : Nat) : (-(b : Int)).tmod 10 = -((b : Int) % 10) := by rw [Int.neg_tmod, Int.tmod_eq_emod_of_nonneg (by omega)]
theorem tdiv_neg (b : Nat) : (-(b : Int)).tdiv 10 = -((b : Int) / 10) := by rw [Int.neg_tdiv, Int.tdiv_eq_ediv_of_nonneg (by omega)]
theorem bytes_snoc (l : List UInt8) (b : UInt8) : Lib.byteCells l ++ [Value.int .u8 (b.toNat : Int)] = Lib.byteCells (l ++ [b]) := by simp [Lib.byteCells]
theorem own_byte {w : World} {B e n g cap : Nat} {l : List UInt8} (h : w.ownsRow B e 1 (.slice (some ⟨g, 0, none⟩) n cap) n (Lib.byteCells l)) (j : Nat) (hj : j < l.length) :
  w.cell? ⟨g, j, none⟩ = some (.int .u8 (l[j].toNat : Int)) := by
 have := h.cells (g := g) rfl j (.int .u8 (l[j].toNat : Int)) (by simp [Lib.byteCells, hj])
 rwa [row_addr] at this
theorem own_form {w : World} {B e n : Nat} {v : Value} {xs : List Value} (h : w.ownsRow B e 1 v n xs) (hn : 0 < n) : ∃ g cap, v = .slice (some ⟨g, 0, none⟩) n cap := by
 rcases h.2 with ⟨_, h0⟩ | ⟨g, cap, cur, hv, _⟩
 ·omega
 exact ⟨g, cap, hv⟩
theorem digs_ne (b : Nat) (h : 0 < b) : (digs b).length ≠ 0 := by rw [digs_step b h]; simp
theorem digs_val (b : Nat) (h : 0 < b) : digs b = Lib.decDigits b := by rw [digs, if_neg (by omega)]
set_option maxHeartbeats 4000000 in
set_option maxRecDepth 100000 in
theorem Decimal01_pos (a : Nat) (ha : 0 < a) (hb : a ≤ 9223372036854775807) (w : World) :
  Calls Tryz.prog 63 #[.int .i64 (a : Int)] w fun e w' => e = .returned (.string (mkS ([] ++ Lib.decDigits a))) ∧ Below w.heap.size w w' := by
 obtain ⟨i0, hi, hz0, hz1, hz2⟩ := info_parts byte_info
 have hz : ((a : Int) == 0) = false := by rw [beq_eq_false_iff_ne]; omega
 go_enter Tryz.func63, Tryz.ntmps63
 go_wp2_with fail
 go_loopw [3, 4] (fun v m wr => ∃ (b k : Nat) (acc : List UInt8), m = .int .i64 (b : Int) ∧ b ≤ a ∧ b * 10 ^ k ≤ a ∧ acc.length = k ∧ k ≤ 19 ∧ Own w wr 5 1 v k (Lib.byteCells acc) ∧ digs b ++ acc.reverse = digs a) (fun _ m _ => (intOf m).natAbs)
 case atStart => exact ⟨a, 0, [], rfl, Nat.le_refl _, by omega, rfl, by omega, Own.empty w _ _, by simp⟩
 case round =>
 obtain ⟨b, k, acc, rfl, hba, hpow, hlen, hk, ho, hrem⟩ := hrel
 have HO := Lib.hid ho
 have HR := Lib.hid hrem
 have HP := Lib.hid hpow
 have HL := Lib.hid hlen
 clear ho hrem hpow hlen
 by_cases hb0 : 0 < b
 ·have hbz : ((b : Int) != 0) = true := by rw [bne_iff_ne]; omega
  have hk19 := pow_bound a b k hb0 HP.out (by omega)
  have hmod : b % 10 < 10 := Nat.mod_lt _ (by omega)
  have HB := Lib.hid (byte_of (b % 10) hmod)
  have HS := Lib.hid (digs_step b hb0)
  have hb10 : (b : Int) % 10 < 10 := by omega
  all_goals
   go_wp2_with (at_builtin; refine wpList_push1 rfl _ _ 154 rfl w.heap.size 5 i0 (.int .u8 0) 1 Tryz.underlying154 hi hz0 hz1 hz2 rfl _ _ _ rfl HO.out.own _ rfl rfl (by unfold maxLen; omega) (by omega) HO.out.size ?_; intro gg cap w5 hown hg5; have HO' := Lib.hid (HO.out.push hown hg5); clear hown hg5)
   have HFin : Hid (Own w w5 5 1 (.slice (some ⟨gg, 0, none⟩) (k + 1) cap) (k + 1) (Lib.byteCells (acc ++ [UInt8.ofNat (48 + b % 10)]))) := by
    have h5 := HO'.out
    rw [← bytes_snoc, HB.out]
    have e : ∀ x : Int, x = 48 + ((b % 10 : Nat) : Int) → Own w w5 5 1 (.slice (some ⟨gg, 0, none⟩) (k + 1) cap) (k + 1) (Lib.byteCells acc ++ [Value.int .u8 x]) → Own w w5 5 1 (.slice (some ⟨gg, 0, none⟩) (k + 1) cap) (k + 1) (Lib.byteCells acc ++ [Value.int .u8 (48 + ((b % 10 : Nat) : Int))]) := by
     rintro x rfl h; exact h
    exact e _ (by push_cast; omega) h5
   clear HO'
   go_wp2_with fail
   go_roundw
   case rel => exact ⟨b / 10, k + 1, acc ++ [UInt8.ofNat (48 + b % 10)], by congr 1 <;> first | done | (push_cast; omega), by omega, pow_step a b k HP.out, by simp [HL.out], by omega, HFin.out, by rw [← HR.out, HS.out]; simp⟩
   case measure => simp [intOf]; omega
 have hbz : ((b : Int) != 0) = false := by rw [bne_eq_false_iff_eq]; omega
 have HB0 : Hid (b = 0) := Lib.hid (by omega)
 have HR2 : Hid (acc.reverse = Lib.decDigits a) := Lib.hid (by rw [← digs_val a ha, ← HR.out, HB0.out]; rfl)
 have hkp : 0 < k := by
  have h1 := HR.out
  have h2 := digs_ne a ha
  have h3 := HL.out
  rcases Nat.eq_zero_or_pos k with h | h
  ·rw [h] at h3
   have h4 : acc = [] := List.eq_nil_of_length_eq_zero h3
   rw [h4, HB0.out] at h1
   rw [← h1] at h2
   exact absurd rfl h2
  exact h
 obtain ⟨gd, cd, hv⟩ := own_form HO.out.own hkp
 subst hv
 have HD : Hid (∀ j (h : j < acc.length), wr.cell? ⟨gd, j, none⟩ = some (.int .u8 (acc[j].toNat : Int))) := Lib.hid (own_byte HO.out.own)
 have hgd := (HO.out.own.lt gd rfl).2
 obtain ⟨wm, rfl⟩ : ∃ wm : World, wm = wr := ⟨_, rfl⟩
 have HE := Lib.hid (Own.empty wm 5 1)
 have HBW := Lib.hid HO.out.below
 clear HO HR hb0 HP hba
 go_wp2_with fail
 go_loopw [6, 7] (fun v i W2 => ∃ (j : Int) (n : Nat), -1 ≤ j ∧ j < k ∧ i = .int .i64 j ∧ (n : Int) = 0 + (k - 1 - j) ∧ Own wm W2 5 1 v n (Lib.byteCells (([] : List UInt8) ++ acc.reverse.take (k - 1 - j).toNat))) (fun _ i _ => (intOf i + 1).toNat)
 case atStart => exact ⟨k - 1, 0, by omega, by omega, rfl, by omega, by simpa [Lib.byteCells] using HE.out⟩
 case round =>
 obtain ⟨j, n, hj1, hj2, rfl, hn, ho⟩ := hrel
 have HO := Lib.hid ho
 clear ho
 by_cases hj0 : 0 ≤ j
 ·obtain ⟨q, rfl⟩ := Int.eq_ofNat_of_zero_le hj0
  have hq : q < acc.length := by rw [HL.out]; omega
  have hcell := (HO.out.below.cell (p := ⟨gd, q, none⟩) hgd).trans (HD.out q hq)
  have HTk : Hid (acc.reverse.take (k - 1 - (q : Int)).toNat ++ [acc[q]] = acc.reverse.take (k - 1 - ((q : Int) - 1)).toNat) := Lib.hid (by
   have e1 : (k - 1 - (q : Int)).toNat = k - 1 - q := by omega
   have e2 : (k - 1 - ((q : Int) - 1)).toNat = (k - 1 - q) + 1 := by omega
   have hl : k - 1 - q < acc.reverse.length := by rw [List.length_reverse, HL.out]; omega
   rw [e1, e2, List.take_succ_eq_append_getElem hl]
   congr 2
   rw [List.getElem_reverse]
   congr 1
   have := HL.out; omega)
  have hnb : n ≤ 100 := by omega
  go_wp2_with (at_builtin; refine wpList_push1 rfl _ _ 154 rfl wm.heap.size 5 i0 (.int .u8 0) 1 Tryz.underlying154 hi hz0 hz1 hz2 rfl _ _ _ rfl HO.out.own _ rfl rfl (by unfold maxLen; omega) (by omega) HO.out.size ?_; intro gg cap w5 hown hg5; have HO' := Lib.hid (HO.out.push hown hg5); clear hown hg5)
  go_roundw
  case rel =>
   refine ⟨(q : Int) - 1, n + 1, by omega, by omega, rfl, by omega, ?_⟩
   have h5 := HO'.out
   rw [bytes_snoc, List.append_assoc, HTk.out] at h5
   exact h5
  case measure => simp [intOf] <;> omega
 obtain rfl : j = -1 := by omega
 have HT2 : Hid (([] : List UInt8) ++ acc.reverse.take (k - 1 - (-1 : Int)).toNat = ([] : List UInt8) ++ Lib.decDigits a) := Lib.hid (by
  have e2 : (k - 1 - (-1 : Int)).toNat = k := by omega
  rw [e2, ← HR2.out]
  congr 1
  exact List.take_of_length_le (by rw [List.length_reverse, HL.out]; omega))
 have hcv := run_string_of_own HO.out.own 154 9 Tryz.underlying154 Tryz.underlying5 Tryz.underlying9
 rw [HT2.out] at hcv
 go_wp2_with fail
 go_ret
 exact ⟨rfl, HBW.out.trans (HO.out.below.mono HBW.out.size)⟩
set_option maxHeartbeats 4000000 in
set_option maxRecDepth 100000 in
theorem Decimal01_neg (a : Nat) (ha : 0 < a) (hb : a ≤ 9223372036854775808) (w : World) :
  Calls Tryz.prog 63 #[.int .i64 (-(a : Int))] w fun e w' => e = .returned (.string (mkS ([45] ++ Lib.decDigits a))) ∧ Below w.heap.size w w' := by
 obtain ⟨i0, hi, hz0, hz1, hz2⟩ := info_parts byte_info
 have hz : ((-(a : Int)) == 0) = false := by rw [beq_eq_false_iff_ne]; omega
 go_enter Tryz.func63, Tryz.ntmps63
 go_wp2_with fail
 go_loopw [3, 4] (fun v m wr => ∃ (b k : Nat) (acc : List UInt8), m = .int .i64 (-(b : Int)) ∧ b ≤ a ∧ b * 10 ^ k ≤ a ∧ acc.length = k ∧ k ≤ 19 ∧ Own w wr 5 1 v k (Lib.byteCells acc) ∧ digs b ++ acc.reverse = digs a) (fun _ m _ => (intOf m).natAbs)
 case atStart => exact ⟨a, 0, [], rfl, Nat.le_refl _, by omega, rfl, by omega, Own.empty w _ _, by simp⟩
 case round =>
 obtain ⟨b, k, acc, rfl, hba, hpow, hlen, hk, ho, hrem⟩ := hrel
 have HO := Lib.hid ho
 have HR := Lib.hid hrem
 have HP := Lib.hid hpow
 have HL := Lib.hid hlen
 clear ho hrem hpow hlen
 by_cases hb0 : 0 < b
 ·have hbz : ((-(b : Int)) != 0) = true := by rw [bne_iff_ne]; omega
  have hk19 := pow_bound a b k hb0 HP.out (by omega)
  have hmod : b % 10 < 10 := Nat.mod_lt _ (by omega)
  have HB := Lib.hid (byte_of (b % 10) hmod)
  have HS := Lib.hid (digs_step b hb0)
  have e1 := tmod_neg b
  have e2 := tdiv_neg b
  have hb10 : (b : Int) % 10 < 10 := by omega
  by_cases hm0 : 0 < (b : Int) % 10
  all_goals
   go_wp2_with (at_builtin; refine wpList_push1 rfl _ _ 154 rfl w.heap.size 5 i0 (.int .u8 0) 1 Tryz.underlying154 hi hz0 hz1 hz2 rfl _ _ _ rfl HO.out.own _ rfl rfl (by unfold maxLen; omega) (by omega) HO.out.size ?_; intro gg cap w5 hown hg5; have HO' := Lib.hid (HO.out.push hown hg5); clear hown hg5)
   have HFin : Hid (Own w w5 5 1 (.slice (some ⟨gg, 0, none⟩) (k + 1) cap) (k + 1) (Lib.byteCells (acc ++ [UInt8.ofNat (48 + b % 10)]))) := by
    have h5 := HO'.out
    rw [← bytes_snoc, HB.out]
    have e : ∀ x : Int, x = 48 + ((b % 10 : Nat) : Int) → Own w w5 5 1 (.slice (some ⟨gg, 0, none⟩) (k + 1) cap) (k + 1) (Lib.byteCells acc ++ [Value.int .u8 x]) → Own w w5 5 1 (.slice (some ⟨gg, 0, none⟩) (k + 1) cap) (k + 1) (Lib.byteCells acc ++ [Value.int .u8 (48 + ((b % 10 : Nat) : Int))]) := by
     rintro x rfl h; exact h
    exact e _ (by push_cast; omega) h5
   clear HO'
   go_wp2_with fail
   go_roundw
   case rel => exact ⟨b / 10, k + 1, acc ++ [UInt8.ofNat (48 + b % 10)], by congr 1 <;> first | done | (push_cast; omega), by omega, pow_step a b k HP.out, by simp [HL.out], by omega, HFin.out, by rw [← HR.out, HS.out]; simp⟩
   case measure => simp [intOf]; omega
 have hbz : ((-(b : Int)) != 0) = false := by rw [bne_eq_false_iff_eq]; omega
 have HB0 : Hid (b = 0) := Lib.hid (by omega)
 have HR2 : Hid (acc.reverse = Lib.decDigits a) := Lib.hid (by rw [← digs_val a ha, ← HR.out, HB0.out]; rfl)
 have hkp : 0 < k := by
  have h1 := HR.out
  have h2 := digs_ne a ha
  have h3 := HL.out
  rcases Nat.eq_zero_or_pos k with h | h
  ·rw [h] at h3
   have h4 : acc = [] := List.eq_nil_of_length_eq_zero h3
   rw [h4, HB0.out] at h1
   rw [← h1] at h2
   exact absurd rfl h2
  exact h
 obtain ⟨gd, cd, hv⟩ := own_form HO.out.own hkp
 subst hv
 have HD : Hid (∀ j (h : j < acc.length), wr.cell? ⟨gd, j, none⟩ = some (.int .u8 (acc[j].toNat : Int))) := Lib.hid (own_byte HO.out.own)
 have hgd := (HO.out.own.lt gd rfl).2
 obtain ⟨wm, rfl⟩ : ∃ wm : World, wm = wr := ⟨_, rfl⟩
 have HE := Lib.hid (Own.empty wm 5 1)
 have HBW := Lib.hid HO.out.below
 clear HO HR hb0 HP hba
 go_wp2_with (at_builtin; refine wpList_push1_at rfl _ _ 154 rfl wm.heap.size 5 i0 (.int .u8 0) 1 Tryz.underlying154 hi hz0 hz1 hz2 rfl _ _ _ rfl HE.out.own _ rfl _ rfl (by simp) (by unfold maxLen; omega) (by omega) HE.out.size ?_; intro gg cap w5 hown hg5; have HE' := Lib.hid (HE.out.push hown hg5); clear hown hg5)
 go_loopw [6, 7] (fun v i W2 => ∃ (j : Int) (n : Nat), -1 ≤ j ∧ j < k ∧ i = .int .i64 j ∧ (n : Int) = 1 + (k - 1 - j) ∧ Own wm W2 5 1 v n (Lib.byteCells ([45] ++ acc.reverse.take (k - 1 - j).toNat))) (fun _ i _ => (intOf i + 1).toNat)
 case atStart => exact ⟨k - 1, 1, by omega, by omega, rfl, by omega, by simpa [Lib.byteCells] using HE'.out⟩
 case round =>
 obtain ⟨j, n, hj1, hj2, rfl, hn, ho⟩ := hrel
 have HO := Lib.hid ho
 clear ho
 by_cases hj0 : 0 ≤ j
 ·obtain ⟨q, rfl⟩ := Int.eq_ofNat_of_zero_le hj0
  have hq : q < acc.length := by rw [HL.out]; omega
  have hcell := (HO.out.below.cell (p := ⟨gd, q, none⟩) hgd).trans (HD.out q hq)
  have HTk : Hid (acc.reverse.take (k - 1 - (q : Int)).toNat ++ [acc[q]] = acc.reverse.take (k - 1 - ((q : Int) - 1)).toNat) := Lib.hid (by
   have e1 : (k - 1 - (q : Int)).toNat = k - 1 - q := by omega
   have e2 : (k - 1 - ((q : Int) - 1)).toNat = (k - 1 - q) + 1 := by omega
   have hl : k - 1 - q < acc.reverse.length := by rw [List.length_reverse, HL.out]; omega
   rw [e1, e2, List.take_succ_eq_append_getElem hl]
   congr 2
   rw [List.getElem_reverse]
   congr 1
   have := HL.out; omega)
  have hnb : n ≤ 100 := by omega
  go_wp2_with (at_builtin; refine wpList_push1 rfl _ _ 154 rfl wm.heap.size 5 i0 (.int .u8 0) 1 Tryz.underlying154 hi hz0 hz1 hz2 rfl _ _ _ rfl HO.out.own _ rfl rfl (by unfold maxLen; omega) (by omega) HO.out.size ?_; intro gg cap w5 hown hg5; have HO' := Lib.hid (HO.out.push hown hg5); clear hown hg5)
  go_roundw
  case rel =>
   refine ⟨(q : Int) - 1, n + 1, by omega, by omega, rfl, by omega, ?_⟩
   have h5 := HO'.out
   rw [bytes_snoc, List.append_assoc, HTk.out] at h5
   exact h5
  case measure => simp [intOf] <;> omega
 obtain rfl : j = -1 := by omega
 have HT2 : Hid ([45] ++ acc.reverse.take (k - 1 - (-1 : Int)).toNat = [45] ++ Lib.decDigits a) := Lib.hid (by
  have e2 : (k - 1 - (-1 : Int)).toNat = k := by omega
  rw [e2, ← HR2.out]
  congr 1
  exact List.take_of_length_le (by rw [List.length_reverse, HL.out]; omega))
 have hcv := run_string_of_own HO.out.own 154 9 Tryz.underlying154 Tryz.underlying5 Tryz.underlying9
 rw [HT2.out] at hcv
 go_wp2_with fail
 go_ret
 exact ⟨rfl, HBW.out.trans (HO.out.below.mono HBW.out.size)⟩
end Go.Proofs.YtkdajhmlhjkcdaaGreatDoor
namespace Go.Proofs.YtkdajhmlhjkcdaaGreatDoor
open Go.RowKit
def IsB (B b : Nat) (bs : List Value) (w : World) : Prop := Lib.IsBuilder 188 5 B b bs w
def BAt (B b : Nat) (bs : List Value) (w : World) : Prop := Lib.BuilderAt 188 5 B b (.pointer (some ⟨b, 0, none⟩)) bs w
theorem BAt.is {B b : Nat} {bs : List Value} {w : World} (h : BAt B b bs w) : IsB B b bs w := .inr h
theorem builder_info : (Tryz.prog.info? 188).map (fun i => (i.zero, i.size, i.bytes)) = some (some (.agg #[.pointer none, .slice none 0 0]), 2, 32) := by kernel_rfl
theorem builder_lies : liesAt Tryz.prog Tryz.prog.depth 188 (2 / Tryz.prog.cellsOf 188) 0 188 1 = true := by kernel_rfl
set_option maxHeartbeats 1000000 in
set_option maxRecDepth 100000 in
theorem copyCheck_used (b : Nat) (w : World) (h0 : w.cell? ⟨b, 0, none⟩ = some (.pointer (some ⟨b, 0, none⟩))) :
  Calls Tryz.prog 148 #[.pointer (some ⟨b, 0, none⟩)] w fun e w' => e = .returned (.tuple #[]) ∧ w' = w := by
 obtain ⟨i0, hi, hz0, hz1, hz2⟩ := info_parts builder_info
 go_enter Tryz.func148, Tryz.ntmps148
 go_wp2
 rw [Lib.run_neq_ptr_same w _ Tryz.underlying186 hi]
 go_wp2
 go_end0
 exact ⟨rfl, rfl⟩
set_option maxHeartbeats 1000000 in
set_option maxRecDepth 100000 in
theorem copyCheck_fresh (b : Nat) (w : World) (h0 : w.cell? ⟨b, 0, none⟩ = some (.pointer none)) (hsh : w.shape? b = some (188, 2)) (hfz : w.frozen? ⟨b, 0, none⟩ = false) :
  Calls Tryz.prog 148 #[.pointer (some ⟨b, 0, none⟩)] w fun e w' => e = .returned (.tuple #[]) ∧ w' = w.setCell ⟨b, 0, none⟩ (.pointer (some ⟨b, 0, none⟩)) := by
 obtain ⟨i0, hi, hz0, hz1, hz2⟩ := info_parts builder_info
 go_enter Tryz.func148, Tryz.ntmps148
 go_wp2
 rw [Lib.run_to_unsafe w ⟨b, 0, none⟩ Tryz.underlying186 Tryz.underlying247 hi (by rw [hz1]; decide) hsh (Nat.zero_lt_succ 1)]
 simp only [Result.andThen]
 rw [Oper.upon_value]
 go_wp2
 rw [run_callFunc_extern Tryz.func172 (by kernel_rfl) (by kernel_rfl) (by kernel_rfl) (e := Extern.AbiNoEscape.same) (by kernel_rfl)]
 rw [Lib.run_noEscape]
 simp only [Result.andThen]
 rw [Oper.upon_value]
 go_wp2
 rw [Lib.run_from_unsafe w ⟨b, 0, none⟩ Tryz.underlying247 Tryz.underlying186 hi hsh builder_lies]
 simp only [Result.andThen]
 rw [Oper.upon_value]
 go_wp2
 go_end0
 exact ⟨rfl, rfl⟩
theorem copyCheck_any (B b : Nat) (bs : List Value) (w : World) (h : IsB B b bs w) :
  Calls Tryz.prog 148 #[.pointer (some ⟨b, 0, none⟩)] w fun e w' => e = .returned (.tuple #[]) ∧ (BAt B b bs w' ∧ Below B w w') := by
 rcases h with h | h
 ·refine (copyCheck_fresh b w h.cell0 h.shape h.frozen0).mono ?_
  rintro e w' ⟨rfl, rfl⟩
  exact ⟨rfl, h.used _, (Below.refl B w).setCell (p := ⟨b, 0, none⟩) h.1 _⟩
 refine (copyCheck_used b w h.cell0).mono ?_
 rintro e w' ⟨rfl, rfl⟩
 exact ⟨rfl, h, Below.refl B _⟩
set_option maxHeartbeats 2000000 in
set_option maxRecDepth 100000 in
theorem writeByte_any (B b : Nat) (bs : List Value) (c : Int) (w : World) (h : IsB B b bs w) (hlen : bs.length + 1 ≤ 140737488355328) (hBw : B ≤ w.heap.size) :
  Calls Tryz.prog 127 #[.pointer (some ⟨b, 0, none⟩), .int .u8 c] w fun e w' => e = .returned .nilIface ∧ (BAt B b (bs ++ [.int .u8 c]) w' ∧ Below B w w') := by
 obtain ⟨i0, hi, hz0, hz1, hz2⟩ := info_parts byte_info
 go_enter Tryz.func127, Tryz.ntmps127
 go_wp2_with (go_at_call 148; refine (copyCheck_any B b bs _ h).mono ?_)
 rintro e w1 ⟨rfl, h1, hb1⟩
 obtain ⟨hB, v, hbk, hown, hne⟩ := h1
 have c0 : w1.cell? ⟨b, 0, none⟩ = some (.pointer (some ⟨b, 0, none⟩)) := by rw [Lib.cell_of_heap hbk]; rfl
 have c1 : w1.cell? ⟨b, 1, none⟩ = some v := by rw [Lib.cell_of_heap hbk]; rfl
 go_wp2_with (at_builtin; refine wpList_append_own _ rfl _ _ 154 rfl B 5 i0 (.int .u8 0) 1 1 Tryz.underlying154 hi hz0 hz1 hz2 rfl (by decide) _ _ _ rfl (hown.alloc _) ⟨w1.heap.size, 0, none⟩ 1 1 [.int .u8 c] rfl rfl ?c1 ?c2 ?c3 ?c4 ?c5 ?_)
 case c1 =>
  intro j u hj
  match j, hj with
  | 0, hj => simp at hj; subst hj; simp [Addr.add]
 case c2 => intro u hu; simp at hu; subst hu; rfl
 case c3 => unfold maxLen; omega
 case c4 => omega
 case c5 => have := hb1.size; simp; omega
 intro v' w2 hown' hgrow _
 have hlt : b < w1.heap.size := by
  rcases Nat.lt_or_ge b w1.heap.size with h' | h'
  ·exact h'
  simp [Array.getElem?_eq_none h'] at hbk
 have hb2 : w2.heap[b]? = some (.cells #[.pointer (some ⟨b, 0, none⟩), v] 188 (0, 0)) := by
  rw [hgrow.block b (by simp; omega) (fun e => hne e.symm), Lib.alloc_old w1 _ b hlt]
  exact hbk
 have d0 : w2.cell? ⟨b, 0, none⟩ = some (.pointer (some ⟨b, 0, none⟩)) := by rw [Lib.cell_of_heap hb2]; rfl
 have d1 : w2.cell? ⟨b, 1, none⟩ = some v := by rw [Lib.cell_of_heap hb2]; rfl
 have f1 : w2.frozen? ⟨b, 1, none⟩ = false := Lib.frozen_of_heap hb2 1
 obtain ⟨g, cap, rfl⟩ : ∃ g cap, v' = .slice (some ⟨g, 0, none⟩) (bs.length + 1) cap := by
  rcases hown'.2 with ⟨_, h0⟩ | ⟨g, cap, cur, hv, _⟩
  ·omega
  exact ⟨g, cap, hv⟩
 go_wp2
 go_ret
 refine ⟨rfl, ?_, ?_⟩
 ·exact Lib.BuilderAt.put (T := 188) (e := 5) hB hb2 (bs' := bs ++ [.int .u8 c]) (by simpa using hown') (by decide)
 exact ((hb1.alloc (by have := hb1.size; omega) _).grown hgrow (by have := hb1.size; simp; omega) (fun k hk => (hown.lt k hk).1)).setCell (p := ⟨b, 1, none⟩) hB _
theorem builderString_any (B b : Nat) (l : List UInt8) (w : World) (h : IsB B b (Lib.byteCells l) w) (hBw : B ≤ w.heap.size) :
  Calls Tryz.prog 120 #[.pointer (some ⟨b, 0, none⟩)] w fun e w' => e = .returned (.string ⟨l.toArray⟩) ∧ Below B w w' :=
 Tryz.Builder_String_any B b l w h hBw
theorem fresh_isB (w : World) : IsB w.heap.size w.heap.size [] (w.alloc (.cells #[.pointer none, .slice none 0 0] 188)) := Lib.fresh_isBuilder _ _ w
end Go.Proofs.YtkdajhmlhjkcdaaGreatDoor
namespace Go.Proofs.YtkdajhmlhjkcdaaGreatDoor
open Go.RowKit
def fitB (b : UInt8) : Bool := decide (32 < b.toNat) && decide (b.toNat ≠ 127)
theorem fitB_eq (b : UInt8) : fitB b = (decide (32 < (b.toNat : Int)) && ((b.toNat : Int) != 127)) := by
 unfold fitB
 rw [Bool.eq_iff_iff]; simp; omega
def fitAll (s : ByteArray) : Bool := s.data.toList.all fitB
theorem all_no (s : ByteArray) (k : Nat) (h : k < s.size) (hf : fitB s[k] = false) : fitAll s = false := by
 unfold fitAll; rw [List.all_eq_false]
 exact ⟨s[k], by show s.data[k] ∈ _; simp, by simp [hf]⟩
theorem all_take (s : ByteArray) (k : Nat) (h : k < s.size) (hf : fitB s[k] = true) (ht : (s.data.toList.take k).all fitB = true) : (s.data.toList.take (k + 1)).all fitB = true := by
 rw [take_snoc s k h, List.all_append, ht]; simp [hf]
theorem all_full (s : ByteArray) (ht : (s.data.toList.take s.size).all fitB = true) : fitAll s = true := by
 unfold fitAll; rwa [List.take_of_length_le (by simp)] at ht
set_option maxHeartbeats 400000 in
theorem fit_any (b : UInt8) (w : World) :
  Calls Tryz.prog 126 #[.int .u8 b.toNat] w fun e w' => e = .returned (.bool (fitB b)) ∧ w = w' := by
 have H := Lib.hid (fitB_eq b)
 go_enter Tryz.func126, Tryz.ntmps126
 go_wp2
 all_goals go_ret
 all_goals exact ⟨ret_bool (by rw [H.out]; simp [*] <;> omega), rfl⟩
def validB (s : ByteArray) : Bool := decide (0 < s.size) && decide (s.size ≤ 64) && fitAll s
set_option maxHeartbeats 1000000 in
theorem Valid_any (s : ByteArray) (w : World) :
  Calls Tryz.prog 125 #[.string s] w fun e w' => e = .returned (.bool (validB s)) ∧ w = w' := by
 by_cases h0 : s.size = 0
 ·have H : Hid (validB s = false) := Lib.hid (by unfold validB; rw [decide_eq_false (by omega)]; rfl)
  have hse : s = ⟨#[]⟩ := by
   apply ByteArray.ext; exact Array.eq_empty_of_size_eq_zero h0
  subst hse
  go_enter Tryz.func125, Tryz.ntmps125
  go_wp2_with fail
  go_ret
  exact ⟨ret_bool H.out.symm, rfl⟩
 have hne := notEmpty s (by omega)
 by_cases h1 : s.size ≤ 64
 ·have H : Hid (validB s = fitAll s) := Lib.hid (by unfold validB; rw [decide_eq_true (by omega), decide_eq_true h1]; rfl)
  go_enter Tryz.func125, Tryz.ntmps125
  go_wp2_with fail
  go_loop [3, 13] (fun _ i => ∃ k : Nat, k ≤ s.size ∧ i = .int .i64 k ∧ Hid ((s.data.toList.take k).all fitB = true)) (fun _ i => s.size - (intOf i).toNat)
  case atStart => exact ⟨0, Nat.zero_le _, rfl, Lib.hid rfl⟩
  case round =>
  obtain ⟨k, hk, rfl, HT⟩ := hrel
  by_cases hlt : k < s.size
  ·cases hf : fitB s[k]
   ·have HN := Lib.hid (all_no s k hlt hf)
    go_wp2_with (first | (go_at_call 126; refine (fit_any _ _).mono ?_; rintro e w' ⟨rfl, rfl⟩))
    go_ret
    exact ⟨ret_bool (by rw [H.out, HN.out]), rfl⟩
   have HN := Lib.hid (all_take s k hlt hf HT.out)
   go_wp2_with (first | (go_at_call 126; refine (fit_any _ _).mono ?_; rintro e w' ⟨rfl, rfl⟩))
   go_round
   case rel => exact ⟨k + 1, by omega, by go_num, HN⟩
   case measure => simp [intOf]; omega
  obtain rfl : k = s.size := by omega
  have HN := Lib.hid (all_full s HT.out)
  go_wp2_with fail
  go_ret
  exact ⟨ret_bool (by rw [H.out, HN.out]), rfl⟩
 have H : Hid (validB s = false) := Lib.hid (by unfold validB; rw [decide_eq_false h1]; simp)
 go_enter Tryz.func125, Tryz.ntmps125
 go_wp2_with fail
 go_ret
 exact ⟨ret_bool H.out.symm, rfl⟩
theorem valid_one (s : ByteArray) (k : Nat) (h : k < s.size) : validB (s.extract k (k + 1)) = fitB s[k] := by
 have h1 : (s.extract k (k + 1)).data.toList = [s[k]] := by
  rw [extract_mkS, mkS_data, show k + 1 - k = 1 by omega]
  rw [List.drop_eq_getElem_cons (by simpa using h)]
  rfl
 have h2 : (s.extract k (k + 1)).size = 1 := by rw [← len_toList, h1]; rfl
 unfold validB fitAll
 rw [h2, h1]; simp
theorem Valid_one (s : ByteArray) (k : Nat) (h : k < s.size) (w : World) :
  Calls Tryz.prog 125 #[.string (s.extract k (k + 1))] w fun e w' => e = .returned (.bool (fitB s[k])) ∧ w = w' := by
 rw [← valid_one s k h]
 exact Valid_any _ w
set_option maxHeartbeats 1000000 in
theorem Bytes02_any (s : ByteArray) (w : World) (hs : s.size ≤ 140737488355328) :
  Calls Tryz.prog 81 #[.string s] w fun e w' => e = .returned (.bool (fitAll s)) ∧ w = w' := by
 go_enter Tryz.func81, Tryz.ntmps81
 go_wp2_with fail
 go_loop [3] (fun i => ∃ k : Nat, k ≤ s.size ∧ i = .int .i64 k ∧ Hid ((s.data.toList.take k).all fitB = true)) (fun i => s.size - (intOf i).toNat)
 case atStart => exact ⟨0, Nat.zero_le _, rfl, Lib.hid rfl⟩
 case round =>
 obtain ⟨k, hk, rfl, HT⟩ := hrel
 by_cases hlt : k < s.size
 ·by_cases hf : fitB s[k] = true
  ·have HN := Lib.hid (all_take s k hlt hf HT.out)
   have hf2 : ¬ (s[k].toNat : Int) < 33 ∧ ((s[k].toNat : Int) == 127) = false := by
    unfold fitB at hf
    simp only [Bool.and_eq_true, decide_eq_true_eq, ne_eq] at hf
    rw [beq_eq_false_iff_ne]; omega
   obtain ⟨f1, f2⟩ := hf2
   clear hf
   go_wp2_with fail
   go_round
   case rel => exact ⟨k + 1, by omega, by go_num, HN⟩
   case measure => simp [intOf]; omega
  have HN := Lib.hid (all_no s k hlt (by simpa using hf))
  have hf2 : (s[k].toNat : Int) < 33 ∨ ¬ (s[k].toNat : Int) < 33 ∧ ((s[k].toNat : Int) == 127) = true := by
   unfold fitB at hf
   simp only [Bool.and_eq_true, decide_eq_true_eq, ne_eq] at hf
   rw [beq_iff_eq]; omega
  clear hf
  rcases hf2 with f1 | ⟨f1, f2⟩
  all_goals
   go_wp2_with fail
   go_ret
   exact ⟨ret_bool (by rw [HN.out]), rfl⟩
 obtain rfl : k = s.size := by omega
 have HN := Lib.hid (all_full s HT.out)
 go_wp2_with fail
 go_ret
 exact ⟨ret_bool (by rw [HN.out]), rfl⟩
end Go.Proofs.YtkdajhmlhjkcdaaGreatDoor
namespace Go.Proofs.YtkdajhmlhjkcdaaGreatDoor
open Go.RowKit
def onceGo (acc : List UInt8) : List UInt8 → List UInt8
 | [] => acc
 | c :: l => onceGo (if acc.contains c then acc else acc ++ [c]) l
def onceL (l : List UInt8) : List UInt8 := onceGo [] l
theorem onceGo_snoc (acc : List UInt8) (l : List UInt8) (c : UInt8) : onceGo acc (l ++ [c]) = if (onceGo acc l).contains c then onceGo acc l else onceGo acc l ++ [c] := by
 induction l generalizing acc with
 | nil => simp [onceGo]
 | cons a l ih => rw [List.cons_append, onceGo, ih, onceGo]
theorem onceGo_len (acc l : List UInt8) : (onceGo acc l).length ≤ acc.length + l.length := by
 induction l generalizing acc with
 | nil => simp [onceGo]
 | cons a l ih =>
  rw [onceGo]
  refine Nat.le_trans (ih _) ?_
  split <;> simp <;> omega
def lettersS (s : ByteArray) : ByteArray × Int := if s.size = 0 ∨ fitAll s = false then (⟨#[]⟩, 21) else (mkS (onceL s.data.toList), 0)
def SeenAt (W : World) (g : Nat) (l : List UInt8) : Prop := W.heap[g]? = some (.cells (Lib.setCells l) 195 (0, 0))
theorem IsB.below {B b g i : Nat} {bs : List Value} {w : World} (h : IsB B b bs w) (hg : g < B) (u : Value) : IsB B b bs (w.setCell ⟨g, i, none⟩ u) := by
 have key : ∀ p, Lib.BuilderAt 188 5 B b p bs w → Lib.BuilderAt 188 5 B b p bs (w.setCell ⟨g, i, none⟩ u) := by
  rintro p ⟨hB, v, hb, hown, hne⟩
  refine ⟨hB, v, ?_, ownsRow_setCell_below hown (a := ⟨g, i, none⟩) hg u, hne⟩
  rw [Go.heap_setCell_other _ _ _ _ (by show b ≠ g; omega)]; exact hb
 rcases h with h | h
 ·exact .inl (key _ h)
 exact .inr (key _ h)
theorem SeenAt.put {W : World} {g : Nat} {l : List UInt8} (h : SeenAt W g l) (c : UInt8) : SeenAt (W.setCell ⟨g, c.toNat, none⟩ (.bool true)) g (l ++ [c]) := by
 unfold SeenAt
 rw [Lib.setCells_snoc]
 exact Go.heap_setCell_same W g c.toNat _ _ _ h
theorem zero256 (w : World) : (zeroValue 195).run Tryz.prog w = .ok (.agg (Lib.setCells [])) w := by kernel_rfl
structure LetAt (w W : World) (l : List UInt8) : Prop where
 below : Below w.heap.size w W
 seen : SeenAt W w.heap.size l
 out : IsB (w.heap.size + 1) (w.heap.size + 1) (Lib.byteCells l) W
theorem LetAt.start (w : World) : LetAt w ((w.alloc (.cells (Lib.setCells []) 195)).alloc (.cells #[.pointer none, .slice none 0 0] 188)) [] := by
 refine ⟨((Below.refl _ _).alloc (Nat.le_refl _) _).alloc (by simp) _, ?_, ?_⟩
 ·unfold SeenAt
  rw [Lib.alloc_old _ _ _ (by simp)]
  show (w.heap.push (.cells (Lib.setCells []) 195))[w.heap.size]? = _
  rw [Array.getElem?_push_size]
 have := fresh_isB (w.alloc (.cells (Lib.setCells []) 195))
 simpa [Lib.byteCells] using this
theorem LetAt.size {w W : World} {l : List UInt8} (h : LetAt w W l) : w.heap.size + 1 < W.heap.size := by
 rcases h.out with h | h
 ·exact h.lt
 exact h.lt
theorem LetAt.cell {w W : World} {l : List UInt8} (h : LetAt w W l) (c : UInt8) : W.cell? ⟨w.heap.size, c.toNat, none⟩ = some (.bool (l.contains c)) := by
 rw [Lib.cell_of_heap h.seen]; exact Lib.setCells_at l c
theorem LetAt.thaw {w W : World} {l : List UInt8} (h : LetAt w W l) (j : Nat) : W.frozen? ⟨w.heap.size, j, none⟩ = false := Lib.frozen_of_heap h.seen j
theorem LetAt.put {w W : World} {l : List UInt8} (h : LetAt w W l) (c : UInt8) : IsB (w.heap.size + 1) (w.heap.size + 1) (Lib.byteCells l) (W.setCell ⟨w.heap.size, c.toNat, none⟩ (.bool true)) := h.out.below (by omega) _
theorem LetAt.wrote {w W W' : World} {l : List UInt8} {c : UInt8} (h : LetAt w W l) (hb : Below (w.heap.size + 1) (W.setCell ⟨w.heap.size, c.toNat, none⟩ (.bool true)) W')
  (ho : BAt (w.heap.size + 1) (w.heap.size + 1) (Lib.byteCells l ++ [.int .u8 (c.toNat : Int)]) W') : LetAt w W' (l ++ [c]) := by
 refine ⟨(h.below.setCell (p := ⟨w.heap.size, c.toNat, none⟩) (Nat.le_refl _) _).trans (hb.mono (by omega)), ?_, ?_⟩
 ·unfold SeenAt
  rw [hb.block _ (by omega)]
  exact h.seen.put c
 rw [bytes_snoc] at ho; exact ho.is
set_option maxHeartbeats 4000000 in
set_option maxRecDepth 100000 in
theorem Letters_any (s : ByteArray) (w : World) (hs : s.size ≤ 140737488355328) :
  Calls Tryz.prog 103 #[.string s] w fun e w' => e = .returned (.tuple #[.string (lettersS s).1, .int .i64 (lettersS s).2]) ∧ Below w.heap.size w w' := by
 by_cases h0 : s.size = 0
 ·have H : Hid (lettersS s = (⟨#[]⟩, 21)) := Lib.hid (by unfold lettersS; rw [if_pos (.inl h0)])
  have hse : s = ⟨#[]⟩ := by
   apply ByteArray.ext; exact Array.eq_empty_of_size_eq_zero h0
  subst hse
  go_enter Tryz.func103, Tryz.ntmps103
  have hz := zero256
  go_wp2_with fail
  go_ret2
  exact ⟨by rw [H.out]; rfl, (Below.refl _ _).alloc (Nat.le_refl _) _⟩
 have hne := notEmpty s (by omega)
 go_enter Tryz.func103, Tryz.ntmps103
 have hz := zero256
 go_wp2_with fail
 go_loopw [6, 11] (fun _ i W => ∃ k : Nat, k ≤ s.size ∧ i = .int .i64 k ∧ Hid ((s.data.toList.take k).all fitB = true) ∧ LetAt w W (onceL (s.data.toList.take k))) (fun _ i _ => s.size - (intOf i).toNat)
 case atStart => exact ⟨0, Nat.zero_le _, rfl, Lib.hid rfl, LetAt.start w⟩
 case round =>
 obtain ⟨k, hk, rfl, HT, hl⟩ := hrel
 have HL := Lib.hid hl
 clear hl
 by_cases hlt : k < s.size
 ·cases hf : fitB s[k]
  ·have HN : Hid (lettersS s = (⟨#[]⟩, 21)) := Lib.hid (by unfold lettersS; rw [if_pos (.inr (all_no s k hlt hf))])
   go_wp2_with (first | (go_at_call 126; refine (fit_any _ _).mono ?_; rintro e w' ⟨rfl, rfl⟩))
   go_ret2
   exact ⟨by rw [HN.out]; rfl, HL.out.below⟩
  have HN := Lib.hid (all_take s k hlt hf HT.out)
  have hb := s[k].toNat_lt
  have hb2 : (s[k].toNat : Int) < 256 := by omega
  have hcell := HL.out.cell s[k]
  have hthaw := HL.out.thaw s[k].toNat
  have HK : Hid (onceL (s.data.toList.take (k + 1)) = if (onceL (s.data.toList.take k)).contains s[k] then onceL (s.data.toList.take k) else onceL (s.data.toList.take k) ++ [s[k]]) := Lib.hid (by rw [take_snoc s k hlt]; exact onceGo_snoc _ _ _)
  have HLn : Hid ((onceL (s.data.toList.take k)).length ≤ k) := Lib.hid (by
   have h1 := onceGo_len [] (s.data.toList.take k)
   have h2 : (s.data.toList.take k).length ≤ k := List.length_take_le _ _
   rw [onceL]
   simp only [List.length_nil] at h1
   omega)
  cases hc : (onceL (s.data.toList.take k)).contains s[k]
  ·rw [hc] at hcell HK
   go_wp2_with (first
    | (go_at_call 126; refine (fit_any _ _).mono ?_; rintro e w' ⟨rfl, rfl⟩)
    | (go_at_call 127; refine (writeByte_any _ _ _ _ _ (HL.out.put s[k]) (by have := HLn.out; simp [Lib.byteCells]; omega) (by have := HL.out.size; simp [World.setCell]; omega)).mono ?_; rintro e w' ⟨rfl, h1, h2⟩; have HO := Lib.hid (HL.out.wrote h2 h1); clear h1 h2))
   go_roundw
   case rel => exact ⟨k + 1, by omega, by go_num, HN, by rw [HK.out]; exact HO.out⟩
   case measure => simp [intOf]; omega
  rw [hc] at hcell HK
  go_wp2_with (first
   | (go_at_call 126; refine (fit_any _ _).mono ?_; rintro e w' ⟨rfl, rfl⟩))
  go_roundw
  case rel => exact ⟨k + 1, by omega, by go_num, HN, by rw [HK.out]; exact HL.out⟩
  case measure => simp [intOf]; omega
 obtain rfl : k = s.size := by omega
 have HN : Hid (lettersS s = (mkS (onceL (s.data.toList.take s.size)), 0)) := Lib.hid (by
  unfold lettersS; rw [if_neg (by rintro (h | h); · exact h0 h
                                  rw [all_full s HT.out] at h; cases h), List.take_of_length_le (by simp)])
 go_wp2_with (first
  | (go_at_call 120; refine (builderString_any _ _ _ _ HL.out.out (by have := HL.out.size; omega)).mono ?_; rintro e w' ⟨rfl, h2⟩; have HO := Lib.hid (HL.out.below.trans (h2.mono (by omega))); clear h2))
 go_ret2
 exact ⟨by rw [HN.out]; rfl, HO.out⟩
end Go.Proofs.YtkdajhmlhjkcdaaGreatDoor
namespace Go.Proofs.YtkdajhmlhjkcdaaGreatDoor
open Go.RowKit Go.Shelf
def ended (l : List UInt8) : List UInt8 := Lib.trimSuffix l [13]
def linesFrom : Nat → List UInt8 → List (List UInt8)
 | 0, _ => []
 | n + 1, l => if l = [] then [] else ended (Lib.cut l [10]).1 :: linesFrom n (Lib.cut l [10]).2.1
def unmarked (l : List UInt8) : List UInt8 := Lib.trimPrefix l [239, 187, 191]
def linesOf (l : List UInt8) : List (List UInt8) := linesFrom l.length (unmarked l)
def numbered (n : Nat) : List (List UInt8) → List (Int × ByteArray)
 | [] => []
 | l :: r => ((n : Int), mkS l) :: numbered (n + 1) r
abbrev encLine (x : Int × ByteArray) : Array Value := #[.int .i64 x.1, .string x.2]
theorem numbered_len (n : Nat) (r : List (List UInt8)) : (numbered n r).length = r.length := by
 induction r generalizing n with
 | nil => rfl
 | cons a r ih => simp [numbered, ih]
theorem cut_lt (l : List UInt8) (h : l ≠ []) : (Lib.cut l [10]).2.1.length < l.length := by
 have hl : 0 < l.length := List.length_pos_iff.2 h
 unfold Lib.cut
 split
 ·simp; omega
 simpa using hl
theorem linesFrom_nil (n : Nat) : linesFrom n [] = [] := by cases n <;> simp [linesFrom]
theorem linesFrom_len (n : Nat) : ∀ l, (linesFrom n l).length ≤ n := by
 induction n with
 | zero => intro l; simp [linesFrom]
 | succ n ih =>
  intro l
  simp only [linesFrom]
  split
  ·simp
  simp; exact ih _
theorem linesFrom_step (n : Nat) (l : List UInt8) (h : l ≠ []) (hn : l.length ≤ n) : linesFrom n l = ended (Lib.cut l [10]).1 :: linesFrom (n - 1) (Lib.cut l [10]).2.1 := by
 cases n with
 | zero => simp at hn; exact absurd hn h
 | succ n => simp [linesFrom, h]
theorem unmarked_le (l : List UInt8) : (unmarked l).length ≤ l.length := Lib.trimPrefix_le l _
def eachOf (l : List UInt8) : List (Int × ByteArray) := if 65536 < l.length then [] else numbered 1 (linesOf l)
theorem eachOf_len (l : List UInt8) : (eachOf l).length ≤ 65536 := by
 unfold eachOf
 split
 ·simp
 rw [numbered_len]
 have := linesFrom_len l.length (unmarked l)
 unfold linesOf; omega
def strLen : Value → Nat | .string s => s.size | _ => 0
theorem Cut_nl (l : List UInt8) (m : Int) (w : World) (hs : l.length ≤ 65536) (hm : w.cell? ⟨0, 0, none⟩ = some (.int .i64 m)) :
  Calls Tryz.prog 98 #[.string (mkS l), .string ⟨#[10]⟩] w fun e w' => e = .returned (.tuple #[.string (mkS (Lib.cut l [10]).1), .string (mkS (Lib.cut l [10]).2.1), .bool (Lib.cut l [10]).2.2]) ∧ ∃ n, w' = w.drewN n :=
 Tryz.strings_Cut (mkS l) ⟨#[10]⟩ m w (by rw [mkS_size]; omega) hm
theorem Trim_cr (l : List UInt8) (w : World) (hs : l.length ≤ 65536) :
  Calls Tryz.prog 99 #[.string (mkS l), .string ⟨#[13]⟩] w fun e w' => e = .returned (.string (mkS (ended l))) ∧ w = w' :=
 (Tryz.strings_TrimSuffix (mkS l) ⟨#[13]⟩ w (by rw [mkS_size]; omega)).mono fun _ _ h => ⟨h.1, h.2.symm⟩
theorem Trim_mark (s : ByteArray) (w : World) :
  Calls Tryz.prog 97 #[.string s, .string ⟨#[239, 187, 191]⟩] w fun e w' => e = .returned (.string (mkS (unmarked s.data.toList))) ∧ w = w' :=
 (Tryz.strings_TrimPrefix s ⟨#[239, 187, 191]⟩ w).mono fun _ _ h => ⟨h.1, h.2.symm⟩
theorem cut_fst_le (l : List UInt8) : (Lib.cut l [10]).1.length ≤ l.length := by
 unfold Lib.cut
 split
 ·simp; omega
 exact Nat.le_refl _
theorem mkS_empty (l : List UInt8) : (mkS l).toList.isEmpty = l.isEmpty := by rw [Lib.toList_data]; rfl
set_option maxRecDepth 100000 in
set_option maxHeartbeats 2000000 in
theorem each1_in (n : Nat) (hn : 1 ≤ n) (l Bn n₀ : Nat) (s : ByteArray) (hn0 : 0 < n₀) (m : Int) (J Jx : List (Int × ByteArray) → World → Prop)
  (hY : ∀ pre x W, J pre W → pre.length < (eachOf s.data.toList).length → YieldAt Fence.wide (n - 1) Tryz.prog l (encLine x) W fun e W' =>
   (e = .returned (.bool true) ∧ J (pre ++ [x]) W' ∧ Below n₀ W W') ∨ (e = .returned (.bool false) ∧ Jx (pre ++ [x]) W'))
  (hJd : ∀ pre (W : World) k, J pre W → J pre (W.drewN k))
  (W : World) (hBn : W.cell? ⟨Bn, 0, none⟩ = some (.string s)) (hm : W.cell? ⟨0, 0, none⟩ = some (.int .i64 m)) (h0 : J [] W) :
  CallsIn Fence.wide n Tryz.prog 96 #[.func (.yield l) #[] #[], .pointer (some ⟨Bn, 0, none⟩)] W fun e W' => (∃ v, e = .returned v) ∧
   ((∃ ys, ys = eachOf s.data.toList ∧ J ys W') ∨ (∃ pre, pre <+: eachOf s.data.toList ∧ Jx pre W')) := by
 have hl := len_toList s
 by_cases hbig : 65536 < s.size
 ·have HE : Hid (eachOf s.data.toList = []) := Lib.hid (by rw [eachOf, if_pos (by omega)])
  have H0 := Lib.hid h0
  clear hY hJd hl h0
  refine callsIn_of_wp Tryz.func96 rfl trivial ?_ rfl
  simp only [Tryz.ntmps96, List.size_toArray, List.length_cons, List.length_nil, Nat.reduceAdd, Nat.reduceSub, Array.replicate_succ, Array.replicate_zero, List.push_toArray, List.append_toArray, List.nil_append, List.cons_append]
  gi_wp2
  refine bodyPost_ret (results_none rfl _ _ _) rfl ?_
  exact ⟨⟨_, rfl⟩, .inl ⟨[], HE.out.symm, H0.out⟩⟩
 have HE : Hid (eachOf s.data.toList = numbered 1 (linesFrom s.size (unmarked s.data.toList))) := Lib.hid (by rw [eachOf, if_neg (by omega), linesOf, hl])
 have HU : Hid ((unmarked s.data.toList).length ≤ s.size) := Lib.hid (by have := unmarked_le s.data.toList; omega)
 have HY := Lib.hid hY
 have HJD := Lib.hid hJd
 have H0 := Lib.hid h0
 clear hY hJd hl h0
 refine callsIn_of_wp Tryz.func96 rfl trivial ?_ rfl
 simp only [Tryz.ntmps96, List.size_toArray, List.length_cons, List.length_nil, Nat.reduceAdd, Nat.reduceSub, Array.replicate_succ, Array.replicate_zero, List.push_toArray, List.append_toArray, List.nil_append, List.cons_append]
 gi_wp2_with (refine ⟨trivial, ?_⟩; gi_at_call 97; refine (callsIn_wide.2 (Trim_mark _ _)).mono ?_; rintro e w1 ⟨rfl, rfl⟩)
 gi_loopw [3, 4] (fun r i wr => ∃ (pre : List (Int × ByteArray)) (rest : List (UInt8)) (k f : Nat), r = .string (mkS rest) ∧ i = .int .i64 (k + 1 : Nat) ∧ pre.length = k ∧ rest.length ≤ f ∧ f + k ≤ s.size ∧
  eachOf s.data.toList = pre ++ numbered (k + 1) (linesFrom f rest) ∧ J pre wr ∧ Below n₀ W wr) (fun r _ _ => strLen r)
 case atStart => exact ⟨[], unmarked s.data.toList, 0, s.size, rfl, rfl, rfl, HU.out, by omega, HE.out, H0.out, Below.refl _ _⟩
 case round =>
 obtain ⟨pre, rest, k, f, rfl, rfl, hpl, hrf, hfk, hall, hj, hbw⟩ := hrel
 have HAll := Lib.hid hall
 have HJ := Lib.hid hj
 have HBW := Lib.hid hbw
 have HPL := Lib.hid hpl
 clear hall hj hbw hpl
 cases hq : (mkS rest).toList.isEmpty
 ·have HNE : Hid (rest ≠ []) := Lib.hid (by rw [mkS_empty] at hq; intro h; rw [h] at hq; cases hq)
  have HStep := Lib.hid (linesFrom_step f rest HNE.out hrf)
  have hcl := cut_lt rest HNE.out
  have hcf := cut_fst_le rest
  have hm2 := (HBW.out.cell (p := ⟨0, 0, none⟩) hn0).trans hm
  gi_wp2_with first
   | (refine ⟨trivial, ?_⟩; gi_at_call 98; refine (callsIn_wide.2 (Cut_nl rest m _ (by omega) hm2)).mono ?_; rintro e w1 ⟨rfl, nd, rfl⟩)
   | (refine ⟨trivial, ?_⟩; gi_at_call 99; refine (callsIn_wide.2 (Trim_cr _ _ (by omega))).mono ?_; rintro e w1 ⟨rfl, rfl⟩)
  obtain ⟨fn, tmps, assign, body, hy, hR⟩ := HY.out pre ((k : Int) + 1, mkS (ended (Lib.cut rest [10]).1)) (wr.drewN nd) (HJD.out _ _ nd HJ.out) (by rw [HAll.out, HStep.out]; simp [numbered])
  dsimp only [encLine] at hy
  rw [hy]
  gi_wp2
  refine hR.mono ?_
  rintro e W3 (⟨rfl, hJ3, hk3⟩ | ⟨rfl, hJx3⟩)
  ·have HJ3 := Lib.hid hJ3
   have HK3 := Lib.hid hk3
   clear hJ3 hk3
   gi_wp2
   go_roundw
   case rel =>
    refine ⟨pre ++ [((k : Int) + 1, mkS (ended (Lib.cut rest [10]).1))], (Lib.cut rest [10]).2.1, k + 1, f - 1, rfl, ?_, ?_, by omega, by omega, ?_, HJ3.out, ?_⟩
    ·simp only [Int.natCast_add, Int.cast_ofNat_Int]
    ·simp [HPL.out]
    ·rw [HAll.out, HStep.out]; simp [numbered]
    exact HBW.out.trans ((show Below n₀ wr (wr.drewN nd) from ⟨rfl, rfl, rfl, Nat.le_refl _, fun _ _ => rfl⟩).trans HK3.out)
   case measure => simp only [strLen, mkS_size]; exact hcl
  have HJx3 := Lib.hid hJx3
  clear hJx3
  gi_wp2
  refine bodyPost_ret (results_none rfl _ _ _) rfl ?_
  refine ⟨⟨_, rfl⟩, .inr ⟨_, ?_, HJx3.out⟩⟩
  rw [HAll.out, HStep.out]; exact ⟨numbered (k + 1 + 1) (linesFrom (f - 1) (Lib.cut rest [10]).2.1), by simp [numbered]⟩
 have HNE : Hid (rest = []) := Lib.hid (by rw [mkS_empty] at hq; exact List.isEmpty_iff.1 hq)
 gi_wp2
 go_end0
 refine ⟨⟨_, rfl⟩, .inl ⟨pre, ?_, HJ.out⟩⟩
 rw [HAll.out, HNE.out, linesFrom_nil]; simp [numbered]
theorem Each_in (n : Nat) (s : ByteArray) (w : World) :
  CallsIn Fence.wide n Tryz.prog 65 #[.string s] w fun e w' => e = .returned (.func (.func 96) #[] #[.pointer (some ⟨w.heap.size, 0, none⟩)]) ∧ w' = w.alloc (.cells #[.string s] 9) := by
 refine callsIn_of_wp Tryz.func65 rfl trivial ?_ rfl
 simp only [Tryz.ntmps65, List.size_toArray, List.length_cons, List.length_nil, Nat.reduceAdd, Nat.reduceSub, Array.replicate_succ, Array.replicate_zero, List.push_toArray, List.append_toArray, List.nil_append, List.cons_append]
 gi_wp2
 go_ret
 exact ⟨rfl, rfl⟩
theorem each_stops (n : Nat) (hn : 1 ≤ n) (Bn n₀ : Nat) (s : ByteArray) (hn0 : 0 < n₀) (m : Int) (w : World) (hBn : Bn < w.heap.size)
  (hc : w.cell? ⟨Bn, 0, none⟩ = some (.string s)) (hm : w.cell? ⟨0, 0, none⟩ = some (.int .i64 m)) :
  SeqStopsK Fence.wide n Tryz.prog 96 #[.pointer (some ⟨Bn, 0, none⟩)] encLine (Below n₀) (fun ys => ys = eachOf s.data.toList) (fun pre => pre <+: eachOf s.data.toList) (eachOf s.data.toList).length w := fun l J Jx W hW hJ _ hY h0 =>
 each1_in n hn l Bn n₀ s hn0 m J Jx hY (fun pre W k h => hJ pre W _ none h ⟨rfl, rfl, rfl, Nat.le_refl _, fun _ _ _ => rfl⟩ (fun _ e => by cases e)) W
  ((hW.cell (p := ⟨Bn, 0, none⟩) hBn).trans hc) ((hW.cell (p := ⟨0, 0, none⟩) (by show 0 < w.heap.size; omega)).trans hm) h0
end Go.Proofs.YtkdajhmlhjkcdaaGreatDoor
namespace Go.Proofs.YtkdajhmlhjkcdaaGreatDoor
open Go.RowKit Go.Shelf
attribute [local go_sem] Oper.semAt_some
def lineV (pre : List (Int × ByteArray)) : List Value := pre.map fun x => .string x.2
set_option maxRecDepth 100000 in
set_option maxHeartbeats 2000000 in
theorem Split_any (s : ByteArray) (m : Int) (w : World) (h0 : 0 < w.heap.size) (hm : w.cell? ⟨0, 0, none⟩ = some (.int .i64 m)) :
  Calls Tryz.prog 35 #[.string s] w fun e W' => ∃ v, e = .returned (.tuple #[v, .int .i64 (if 65536 < s.size then 10 else 0)]) ∧
   W'.ownsRow w.heap.size 9 1 v (eachOf s.data.toList).length (lineV (eachOf s.data.toList)) ∧ Below w.heap.size w W' := by
 by_cases hbig : 65536 < s.size
 ·have HE : Hid (eachOf s.data.toList = []) := Lib.hid (by rw [eachOf, if_pos (by rw [len_toList]; omega)])
  go_enter Tryz.func35, Tryz.ntmps35
  go_wp2_with fail
  refine bodyPost_ret (results_tmp2 rfl _ _ _) rfl ?_
  exact ⟨.slice none 0 0, by simp, by rw [HE.out]; exact World.ownsRow_nil _ _ _ _, Below.refl _ _⟩
 have hlen := eachOf_len s.data.toList
 refine (callsIn_wide (n := 3)).1 ?_
 obtain ⟨i0, hi, hz0, hz1, hz2⟩ := info_parts str_info
 refine callsIn_of_wp_marks Tryz.func35 rfl trivial ?_ rfl
 simp only [Tryz.ntmps35, List.size_toArray, List.length_cons, List.length_nil, Nat.reduceAdd, Nat.reduceSub, Array.replicate_succ, Array.replicate_zero, List.push_toArray, List.append_toArray, List.nil_append, List.cons_append]
 gi_wp2_with (refine ⟨trivial, ?_⟩; gi_at_call 65; refine (Each_in _ _ _).mono ?_; rintro e w' ⟨rfl, rfl⟩)
 have bO := Boxed.new w 65 (.slice none 0 0)
 have bN := Boxed.new (w.alloc (.cells #[.slice none 0 0] 65)) 9 (.string s)
 rw [World.size_alloc] at bN
 have hB0 : Below w.heap.size w ((w.alloc (.cells #[.slice none 0 0] 65)).alloc (.cells #[.string s] 9)) := ((Below.refl _ w).alloc (Nat.le_refl _) _).alloc (by simp) _
 refine wpIn_rangeFunc_ownG rfl (by omega) (gf := 96) (lb := #[.pointer (some ⟨w.heap.size + 1, 0, none⟩)]) rfl trivial (enters_of Tryz.func96 (by kernel_rfl) rfl)
  (each_stops (3 - 1) (by omega) (w.heap.size + 1) w.heap.size s h0 m _ (by simp) bN.cell ((hB0.cell (p := ⟨0, 0, none⟩) h0).trans hm)) belowK_t (belowK_b (by simp; omega)) (Below.refl _ _) (fun _ => rfl)
  (fun pre W => (∃ v, Boxed W w.heap.size 65 v ∧ W.ownsRow w.heap.size 9 1 v pre.length (lineV pre) ∧ True) ∧ Below w.heap.size w W)
  (fun _ _ _ => False)
  (OwnFrom.and (_root_.Go.Own.from (holdsRow_own w.heap.size w.heap.size 65 9 1 (fun pre => pre.length) (fun pre => lineV pre) (fun pre v => True)) _) (ownFrom_below (Nat.le_refl _) (by simp; omega)))
  (fun _ _ _ _ _ hs _ _ => hs)
  ⟨⟨_, bO.alloc _, World.ownsRow_nil _ _ _ _, trivial⟩, hB0⟩
  (fun x => { tmps := #[.string s, undef, .slice none 0 0, .int .i64 0, .pointer (some ⟨w.heap.size, 0, none⟩), undef, .string x.2, .string s, .int .i64 s.size, .bool (decide (65536 < (s.size : Int))), .string s, .func (.func 96) #[] #[.pointer (some ⟨w.heap.size + 1, 0, none⟩)], .int .i64 x.1, .string x.2, undef, undef, undef, undef, undef], defers := [] }) ?assign ?body ?done ?stop
 case assign =>
  intro l x W K hK
  gi_wp2
  exact hK
 case body =>
  rintro l pre x W ⟨⟨v, hv, hrow, _⟩, hB⟩ hlt
  have hc := hv.cell
  gi_wp2_with (gi_at_builtin; refine wpListIn_append_own _ rfl _ _ 65 rfl w.heap.size 9 i0 (.string ByteArray.empty) 1 16 Tryz.underlying65 hi hz0 hz1 hz2 rfl (by decide) _ _ _ rfl (hrow.alloc _) ⟨W.heap.size, 0, none⟩ 1 1 [.string x.2] rfl rfl (cell_one_new _ _ _) (by simp [Value.oneCell']) (by unfold maxLen; omega) (by omega) (by have := hB.size; simp; omega) ?_; intro v' w1 hown' hgrow _; obtain ⟨g', cap', rfl⟩ := ownsRow_succ hown'; obtain ⟨hv1, hv2, hr2, hk2, hb2⟩ := hv.appended (by decide) hrow hB.size (Nat.le_refl _) hown' hgrow; have hc1 := hv1.cell; have hf1 := hv1.frozen)
  exact ⟨hk2.from _, hb2, ⟨_, hv2, by simpa [lineV] using hr2, trivial⟩, hB.trans hb2⟩
 case done =>
  rintro D ys W hD rfl ⟨⟨v, hv, hrow, _⟩, hB⟩ hK
  have hc := hv.cell
  gi_wp2
  refine ⟨by simp, .inl ⟨_, _, rfl, run_takeDeferred hK, ?_⟩⟩
  exact ⟨_, results_tmp2 rfl _ _ _, v, by simp, ownsRow_putObj hrow _ hK rfl, hB.trans (belowK_b (w := w) (Nat.le_refl _) W D _ _ (by simp at hD; omega) hK rfl rfl)⟩
 case stop =>
 rintro D c pre W _ _ h _
 exact h.elim
end Go.Proofs.YtkdajhmlhjkcdaaGreatDoor
namespace Go.Proofs.YtkdajhmlhjkcdaaGreatDoor
open Go.RowKit
theorem index_no (l : List UInt8) (h : (10 : UInt8) ∉ l) : Lib.index l [10] = -1 := by
 induction l with
 | nil => rfl
 | cons a l ih =>
  have h1 : ¬ (10 : UInt8) = a := fun e => h (by simp [e])
  have h2 := ih (fun e => h (by simp [e]))
  have h3 : ([10] : List UInt8).isPrefixOf (a :: l) = false := by simpa [List.isPrefixOf] using h1
  rw [Lib.index, h3, h2]; rfl
theorem index_at (l r : List UInt8) (h : (10 : UInt8) ∉ l) : Lib.index (l ++ 10 :: r) [10] = (l.length : Int) := by
 induction l with
 | nil => simp [Lib.index, List.isPrefixOf]
 | cons a l ih =>
  have h1 : ¬ (10 : UInt8) = a := fun e => h (by simp [e])
  have h2 := ih (fun e => h (by simp [e]))
  have h3 : ([10] : List UInt8).isPrefixOf (a :: (l ++ 10 :: r)) = false := by simpa [List.isPrefixOf] using h1
  rw [List.cons_append, Lib.index, h3, h2]
  have : ¬ ((l.length : Int) == -1) = true := by simp
  simp [this]
theorem cut_no (l : List UInt8) (h : (10 : UInt8) ∉ l) : Lib.cut l [10] = (l, [], false) := by
 unfold Lib.cut; rw [index_no l h, if_neg (by omega)]
theorem cut_at (l r : List UInt8) (h : (10 : UInt8) ∉ l) : Lib.cut (l ++ 10 :: r) [10] = (l, r, true) := by
 unfold Lib.cut; rw [index_at l r h]
 rw [if_pos (by omega)]
 simp
def rgo : List UInt8 → List UInt8 → List (List UInt8)
 | [], cur => if cur = [] then [] else [ended cur]
 | b :: r, cur => if b = 10 then ended cur :: rgo r [] else rgo r (cur ++ [b])
theorem rgo_eq : ∀ (l cur : List UInt8) (n : Nat), (10 : UInt8) ∉ cur → (cur ++ l).length ≤ n → rgo l cur = linesFrom n (cur ++ l)
 | [], cur, n, hc, hn => by
   by_cases h : cur = []
   ·subst h; simp [rgo, linesFrom_nil]
   ·rw [List.append_nil] at hn ⊢
    rw [rgo, if_neg h, linesFrom_step n cur h hn, cut_no cur hc]; simp [linesFrom_nil]
 | b :: r, cur, n, hc, hn => by
   by_cases hb : b = 10
   ·subst hb
    rw [rgo, if_pos rfl, linesFrom_step n _ (by simp) hn, cut_at cur r hc]
    simp at hn
    have := rgo_eq r [] (n - 1) (by simp) (by simp; omega)
    simpa using this
   ·rw [rgo, if_neg hb, rgo_eq r (cur ++ [b]) n (by simp [hc]; exact fun e => hb e.symm) (by simpa using hn)]; simp
theorem rgo_lines (l : List UInt8) : rgo (unmarked l) [] = linesOf l := by
 rw [rgo_eq _ _ l.length (by simp) (by simpa using unmarked_le l)]; rfl
theorem rgo_brk (r cur : List UInt8) : rgo (10 :: r) cur = ended cur :: rgo r [] := by rw [rgo, if_pos rfl]
theorem rgo_more (b : UInt8) (r cur : List UInt8) (h : b ≠ 10) : rgo (b :: r) cur = rgo r (cur ++ [b]) := by rw [rgo, if_neg h]
theorem Own.beside {w W W' : World} {e size n e' size' n' : Nat} {v v' : Value} {xs xs' : List Value} (h : Own w W e size v n xs) (k : Own w W e' size' v' n' xs') (hne : e ≠ e') (hg : W.grownBy W' v'.ownBlock) : Own w W' e size v n xs := by
 refine ⟨below_push k.below k.own hg (Nat.le_refl _) k.below.size, h.own.kept hg ?_⟩
 rcases h.own.2 with ⟨rfl, _⟩ | ⟨g, cap, cur, rfl, _, hh, _⟩
 ·exact .inl rfl
 refine .inr fun hc => ?_
 rcases k.own.2 with ⟨rfl, _⟩ | ⟨g', cap', cur', rfl, _, hh', _⟩
 ·simp [Value.ownBlock] at hc
 obtain rfl : g = g' := by simpa [Value.ownBlock] using hc
 rw [hh] at hh'; cases hh'; exact hne rfl
theorem ended_some (l : List UInt8) (a : UInt8) : ended (l ++ [a]) = if a = 13 then l else l ++ [a] := by
 unfold ended Lib.trimSuffix Lib.hasSuffix
 by_cases h : a = 13
 ·subst h
  rw [if_pos rfl, if_pos]
  ·simp
  rw [List.isSuffixOf_iff_suffix]; exact ⟨l, rfl⟩
 rw [if_neg h, if_neg]
 rw [List.isSuffixOf_iff_suffix]
 rintro ⟨m, hm⟩
 have := congrArg List.getLast? hm
 simp at this; exact h this.symm
theorem own_front {w : World} {B e : Nat} {g cap n : Nat} {l : List UInt8} {a : UInt8} (h : w.ownsRow B e 1 (.slice (some ⟨g, 0, none⟩) (n + 1) cap) (n + 1) (Lib.byteCells (l ++ [a]))) : w.ownsRow B e 1 (.slice (some ⟨g, 0, none⟩) n cap) n (Lib.byteCells l) := by
 obtain ⟨h1, h2⟩ := h
 have hl : l.length = n := by simpa [Lib.byteCells] using h1
 refine ⟨by simp [Lib.byteCells, hl], ?_⟩
 rcases h2 with ⟨hv, _⟩ | ⟨g', cap', cur, hv, hb, hh, hn, hm, hs, ht⟩
 ·cases hv
 cases hv
 refine .inr ⟨_, _, cur, rfl, hb, hh, by omega, hm, hs, ?_⟩
 have := congrArg (List.take n) ht
 rw [List.take_take] at this
 rw [show min n ((n + 1) * 1) = n * 1 by omega] at this
 rw [this]
 simp [Lib.byteCells, ← hl]
set_option maxHeartbeats 1000000 in
theorem ended01_any (v : Value) (B : Nat) (l : List UInt8) (w : World) (h : w.ownsRow B 5 1 v l.length (Lib.byteCells l)) (hl : l.length ≤ 65536) :
  Calls Tryz.prog 77 #[v] w fun e w' => e = .returned (.string (mkS (ended l))) ∧ w = w' := by
 rcases List.eq_nil_or_concat l with rfl | ⟨m, a, rfl⟩
 ·have HB := Lib.hid h
  have hcv := run_string_of_own h 154 9 Tryz.underlying154 Tryz.underlying5 Tryz.underlying9
  obtain ⟨A, cap, rfl⟩ : ∃ A cap, v = .slice A 0 cap := by
   rcases h.2 with ⟨rfl, _⟩ | ⟨g, cap, cur, rfl, _⟩
   ·exact ⟨_, _, rfl⟩
   exact ⟨_, _, rfl⟩
  clear h
  go_enter Tryz.func77, Tryz.ntmps77
  go_wp2_with fail
  go_ret
  exact ⟨rfl, rfl⟩
 rw [List.concat_eq_append] at h hl ⊢
 have hlen : (m ++ [a]).length = m.length + 1 := by simp
 rw [hlen] at h hl
 rcases h.2 with ⟨_, h0⟩ | ⟨g, cap, cur, rfl, _, _, hcap, _⟩
 ·omega
 have hcv := run_string_of_own h 154 9 Tryz.underlying154 Tryz.underlying5 Tryz.underlying9
 have hcf := run_string_of_own (own_front h) 154 9 Tryz.underlying154 Tryz.underlying5 Tryz.underlying9
 have hc : w.cell? ⟨g, m.length, none⟩ = some (.int .u8 a.toNat) := by
  have := h.cells (g := g) rfl m.length (.int .u8 a.toNat) (by simp [Lib.byteCells])
  rw [row_addr] at this; exact this
 have HE := Lib.hid (ended_some m a)
 clear h
 by_cases ha : a = 13
 ·have q : ((a.toNat : Int) == 13) = true := by rw [ha]; rfl
  have HE2 : Hid (ended (m ++ [a]) = m) := Lib.hid (by rw [HE.out, if_pos ha])
  go_enter Tryz.func77, Tryz.ntmps77
  go_wp2_with fail
  go_ret
  exact ⟨by rw [HE2.out]; rfl, rfl⟩
 have q : ((a.toNat : Int) == 13) = false := by
  have : a.toNat ≠ 13 := fun e => ha (UInt8.toNat_inj.1 e)
  simp; omega
 have HE2 : Hid (ended (m ++ [a]) = m ++ [a]) := Lib.hid (by rw [HE.out, if_neg ha])
 go_enter Tryz.func77, Tryz.ntmps77
 go_wp2_with fail
 go_ret
 exact ⟨by rw [HE2.out]; rfl, rfl⟩
theorem byteEq (b : UInt8) (n : Nat) (hn : n < 256) : ((b.toNat : Int) == (n : Int)) = (UInt8.ofNat n == b) := by
 rw [Bool.eq_iff_iff, beq_iff_eq, beq_iff_eq]
 constructor
 ·intro h
  have : b.toNat = n := by omega
  rw [← this]; simp
 rintro rfl
 simp [Nat.mod_eq_of_lt hn]
theorem hasMark (s : ByteArray) (h : 3 ≤ s.size) : Lib.hasPrefix s.data.toList [239, 187, 191] = (((s[0].toNat : Int) == 239) && (((s[1].toNat : Int) == 187) && ((s[2].toNat : Int) == 191))) := by
 have e : s.data.toList = s[0] :: s[1] :: s[2] :: s.data.toList.drop 3 := by
  have h0 := drop_cons s 0 (by omega)
  have h1 := drop_cons s 1 (by omega)
  have h2 := drop_cons s 2 (by omega)
  rw [List.drop_zero] at h0
  rw [← h2, ← h1, ← h0]
 have e0 : ((s[0].toNat : Int) == 239) = ((239 : UInt8) == s[0]) := byteEq s[0] 239 (by omega)
 have e1 : ((s[1].toNat : Int) == 187) = ((187 : UInt8) == s[1]) := byteEq s[1] 187 (by omega)
 have e2 : ((s[2].toNat : Int) == 191) = ((191 : UInt8) == s[2]) := byteEq s[2] 191 (by omega)
 rw [e, e0, e1, e2]
 simp [Lib.hasPrefix, List.isPrefixOf]
theorem noMark (s : ByteArray) (h : s.size < 3) : Lib.hasPrefix s.data.toList [239, 187, 191] = false := by
 rw [Bool.eq_false_iff]
 intro hp
 have := (List.isPrefixOf_iff_prefix.1 hp).length_le
 rw [len_toList] at this
 simp at this; omega
theorem Marked_any (s : ByteArray) (w : World) :
  Calls Tryz.prog 25 #[.string s] w fun e w' => e = .returned (.bool (Lib.hasPrefix s.data.toList [239, 187, 191])) ∧ w = w' := by
 by_cases h3 : 3 ≤ s.size
 ·have HM := Lib.hid (hasMark s h3)
  cases q0 : ((s[0].toNat : Int) == 239) <;> cases q1 : ((s[1].toNat : Int) == 187) <;> cases q2 : ((s[2].toNat : Int) == 191)
  all_goals
   have HM2 := Lib.hid (HM.out.trans (by rw [q0, q1, q2]))
   go_enter Tryz.func25, Tryz.ntmps25
   go_wp2_with fail
   go_ret
   exact ⟨by rw [HM2.out]; rfl, rfl⟩
 have HM := Lib.hid (noMark s (by omega))
 go_enter Tryz.func25, Tryz.ntmps25
 go_wp2_with fail
 go_ret
 exact ⟨by rw [HM.out]; rfl, rfl⟩
theorem Marked_is (s : ByteArray) (w : World) (b : Bool) (h : Lib.hasPrefix s.data.toList [239, 187, 191] = b) :
 Calls Tryz.prog 25 #[.string s] w fun e w' => e = .returned (.bool b) ∧ w = w' := h ▸ Marked_any s w
set_option maxRecDepth 100000 in
set_option maxHeartbeats 2000000 in
theorem Lines01_any (s : ByteArray) (w : World) (hs : s.size ≤ 65536) :
  Calls Tryz.prog 42 #[.string s] w fun e w' => ∃ v, e = .returned v ∧ Own w w' 9 1 v (linesOf s.data.toList).length (strV ((linesOf s.data.toList).map mkS)) := by
 obtain ⟨i0, hi, hz0, hz1, hz2⟩ := info_parts str_info
 obtain ⟨j0, hj, hy0, hy1, hy2⟩ := info_parts byte_info
 have hlo := len_toList s
 cases hm : Lib.hasPrefix s.data.toList [239, 187, 191]
 all_goals
  have HM := Lib.hid hm
  clear hm
 ·have HU : Hid (rgo (s.data.toList) [] = linesOf s.data.toList) := Lib.hid (by rw [← rgo_lines, unmarked, Lib.trimPrefix, HM.out]; rfl)
  clear hlo
  go_enter Tryz.func42, Tryz.ntmps42
  go_wp2_with (go_at_call 25; refine (Marked_is s _ _ HM.out).mono ?_; rintro e w1 ⟨rfl, rfl⟩)
  go_loopw [3, 4, 5, 6] (fun v b op i wr => ∃ (k : Nat) (acc : List (List UInt8)) (cur : List UInt8) (o : Bool), k ≤ s.size ∧ i = .int .i64 k ∧ acc.length ≤ k ∧ cur.length ≤ k ∧ op = .bool o ∧ o = !cur.isEmpty ∧
   Own w wr 9 1 v acc.length (strV (acc.map mkS)) ∧ Own w wr 5 1 b cur.length (Lib.byteCells cur) ∧ acc ++ rgo (s.data.toList.drop k) cur = linesOf s.data.toList) (fun _ _ _ i _ => s.size - (intOf i).toNat)
  case atStart => exact ⟨0, [], [], false, Nat.zero_le _, rfl, Nat.le_refl _, Nat.le_refl _, rfl, rfl, (Own.nil_ w _ _).alloc _, Own.empty w _ _, HU.out⟩
  case round =>
  obtain ⟨k, acc, cur, o, hk, rfl, hal, hcl, rfl, ho, hl, hb, hrem⟩ := hrel
  have HO := Lib.hid ho
  have HL := Lib.hid hl
  have HB := Lib.hid hb
  have HR := Lib.hid hrem
  clear ho hl hb hrem
  by_cases hlt : k < s.size
  ·have HD := Lib.hid (drop_cons s k hlt)
   by_cases hb : s[k] = 10
   ·have q : ((s[k].toNat : Int) != 10) = false := by rw [hb]; rfl
    have HS : Hid (acc ++ ended cur :: rgo (s.data.toList.drop (k + 1)) [] = linesOf s.data.toList) := Lib.hid (by rw [← HR.out, HD.out, hb, rgo_brk])
    clear hb
    go_wp2_with first
     | (go_at_call 77; refine (ended01_any _ _ cur _ HB.out.own (by omega)).mono ?_; rintro e w1 ⟨rfl, rfl⟩)
     | (at_builtin; refine wpList_push1 rfl _ _ 65 rfl w.heap.size 9 i0 (.string ByteArray.empty) 16 Tryz.underlying65 hi hz0 hz1 hz2 rfl _ acc.length _ rfl HL.out.own _ rfl rfl (by unfold maxLen; omega) (by omega) HL.out.size ?_; intro gg cap w5 hown hg5; have HL' := Lib.hid (HL.out.push hown hg5); clear hown hg5)
    go_roundw
    case rel =>
     refine ⟨k + 1, acc ++ [ended cur], [], false, by omega, by go_num, by simp; omega, by simp, rfl, rfl, ?_, (Own.empty _ _ _).from_ HL'.out.below, by rw [← HS.out]; simp⟩
     have := HL'.out.alloc (.cells #[] 5)
     rw [strV_snoc] at this
     simpa using this
    case measure => simp [intOf] <;> omega
   have q : ((s[k].toNat : Int) != 10) = true := by
    have : s[k].toNat ≠ 10 := fun e => hb (UInt8.toNat_inj.1 e)
    simp; omega
   have HS : Hid (acc ++ rgo (s.data.toList.drop (k + 1)) (cur ++ [s[k]]) = linesOf s.data.toList) := Lib.hid (by rw [← HR.out, HD.out, rgo_more _ _ _ hb])
   clear hb
   go_wp2_with (at_builtin; refine wpList_push1 rfl _ _ 154 rfl w.heap.size 5 j0 (.int .u8 0) 1 Tryz.underlying154 hj hy0 hy1 hy2 rfl _ _ _ rfl HB.out.own _ rfl rfl (by unfold maxLen; omega) (by omega) HB.out.size ?_; intro gg cap w5 hown hg5; have HB' := Lib.hid (HB.out.push hown hg5); have HL' := Lib.hid (HL.out.beside HB.out (by decide) hg5); clear hown hg5)
   go_roundw
   case rel =>
    refine ⟨k + 1, acc, cur ++ [s[k]], true, by omega, by go_num, by omega, by simp; omega, rfl, by simp, HL'.out, ?_, HS.out⟩
    have h5 := HB'.out
    rw [bytes_snoc] at h5
    simpa using h5
   case measure => simp [intOf] <;> omega
  obtain rfl : k = s.size := by omega
  have HE := Lib.hid (drop_all s)
  cases o
  ·have HC : Hid (linesOf s.data.toList = acc) := Lib.hid (by
    have h1 : cur = [] := by have := HO.out; simpa using this
    rw [← HR.out, HE.out, h1]; simp [rgo])
   go_wp2_with fail
   go_ret
   exact ⟨_, rfl, by rw [HC.out]; exact HL.out⟩
  have HC : Hid (linesOf s.data.toList = acc ++ [ended cur]) := Lib.hid (by
   have h1 : cur ≠ [] := by have := HO.out; intro h; rw [h] at this; cases this
   rw [← HR.out, HE.out, rgo, if_neg h1])
  go_wp2_with first
   | (go_at_call 77; refine (ended01_any _ _ cur _ HB.out.own (by omega)).mono ?_; rintro e w1 ⟨rfl, rfl⟩)
   | (at_builtin; refine wpList_push1 rfl _ _ 65 rfl w.heap.size 9 i0 (.string ByteArray.empty) 16 Tryz.underlying65 hi hz0 hz1 hz2 rfl _ acc.length _ rfl HL.out.own _ rfl rfl (by unfold maxLen; omega) (by omega) HL.out.size ?_; intro gg cap w5 hown hg5; have HL' := Lib.hid (HL.out.push hown hg5); clear hown hg5)
  go_ret
  refine ⟨_, rfl, ?_⟩
  have := HL'.out
  rw [strV_snoc] at this
  rw [HC.out]; simpa using this
 obtain ⟨t, ht⟩ : ∃ t, t = s.extract 3 s.size := ⟨_, rfl⟩
 have htd : t.data.toList = s.data.toList.drop 3 := by rw [ht, ← Lib.toList_data, Lib.extract_toList, List.take_of_length_le]; simp [hlo]
 have HU : Hid (rgo (t.data.toList) [] = linesOf s.data.toList) := Lib.hid (by rw [htd, ← rgo_lines, unmarked, Lib.trimPrefix, HM.out]; rfl)
 have h3 : 3 ≤ s.size := by
  have := (List.isPrefixOf_iff_prefix.1 HM.out).length_le
  rw [len_toList] at this; simpa using this
 have htl : t.size ≤ 65536 := by rw [← len_toList, htd, List.length_drop]; omega
 clear hlo htd
 go_enter Tryz.func42, Tryz.ntmps42
 go_wp2_with (go_at_call 25; refine (Marked_is s _ _ HM.out).mono ?_; rintro e w1 ⟨rfl, rfl⟩)
 rw [← ht]
 clear ht hs h3
 go_loopw [3, 4, 5, 6] (fun v b op i wr => ∃ (k : Nat) (acc : List (List UInt8)) (cur : List UInt8) (o : Bool), k ≤ t.size ∧ i = .int .i64 k ∧ acc.length ≤ k ∧ cur.length ≤ k ∧ op = .bool o ∧ o = !cur.isEmpty ∧
  Own w wr 9 1 v acc.length (strV (acc.map mkS)) ∧ Own w wr 5 1 b cur.length (Lib.byteCells cur) ∧ acc ++ rgo (t.data.toList.drop k) cur = linesOf s.data.toList) (fun _ _ _ i _ => t.size - (intOf i).toNat)
 case atStart => exact ⟨0, [], [], false, Nat.zero_le _, rfl, Nat.le_refl _, Nat.le_refl _, rfl, rfl, (Own.nil_ w _ _).alloc _, Own.empty w _ _, HU.out⟩
 case round =>
 obtain ⟨k, acc, cur, o, hk, rfl, hal, hcl, rfl, ho, hl, hb, hrem⟩ := hrel
 have HO := Lib.hid ho
 have HL := Lib.hid hl
 have HB := Lib.hid hb
 have HR := Lib.hid hrem
 clear ho hl hb hrem
 by_cases hlt : k < t.size
 ·have HD := Lib.hid (drop_cons t k hlt)
  by_cases hb : t[k] = 10
  ·have q : ((t[k].toNat : Int) != 10) = false := by rw [hb]; rfl
   have HS : Hid (acc ++ ended cur :: rgo (t.data.toList.drop (k + 1)) [] = linesOf s.data.toList) := Lib.hid (by rw [← HR.out, HD.out, hb, rgo_brk])
   clear hb
   go_wp2_with first
    | (go_at_call 77; refine (ended01_any _ _ cur _ HB.out.own (by omega)).mono ?_; rintro e w1 ⟨rfl, rfl⟩)
    | (at_builtin; refine wpList_push1 rfl _ _ 65 rfl w.heap.size 9 i0 (.string ByteArray.empty) 16 Tryz.underlying65 hi hz0 hz1 hz2 rfl _ acc.length _ rfl HL.out.own _ rfl rfl (by unfold maxLen; omega) (by omega) HL.out.size ?_; intro gg cap w5 hown hg5; have HL' := Lib.hid (HL.out.push hown hg5); clear hown hg5)
   go_roundw
   case rel =>
    refine ⟨k + 1, acc ++ [ended cur], [], false, by omega, by go_num, by simp; omega, by simp, rfl, rfl, ?_, (Own.empty _ _ _).from_ HL'.out.below, by rw [← HS.out]; simp⟩
    have := HL'.out.alloc (.cells #[] 5)
    rw [strV_snoc] at this
    simpa using this
   case measure => simp [intOf] <;> omega
  have q : ((t[k].toNat : Int) != 10) = true := by
   have : t[k].toNat ≠ 10 := fun e => hb (UInt8.toNat_inj.1 e)
   simp; omega
  have HS : Hid (acc ++ rgo (t.data.toList.drop (k + 1)) (cur ++ [t[k]]) = linesOf s.data.toList) := Lib.hid (by rw [← HR.out, HD.out, rgo_more _ _ _ hb])
  clear hb
  go_wp2_with (at_builtin; refine wpList_push1 rfl _ _ 154 rfl w.heap.size 5 j0 (.int .u8 0) 1 Tryz.underlying154 hj hy0 hy1 hy2 rfl _ _ _ rfl HB.out.own _ rfl rfl (by unfold maxLen; omega) (by omega) HB.out.size ?_; intro gg cap w5 hown hg5; have HB' := Lib.hid (HB.out.push hown hg5); have HL' := Lib.hid (HL.out.beside HB.out (by decide) hg5); clear hown hg5)
  go_roundw
  case rel =>
   refine ⟨k + 1, acc, cur ++ [t[k]], true, by omega, by go_num, by omega, by simp; omega, rfl, by simp, HL'.out, ?_, HS.out⟩
   have h5 := HB'.out
   rw [bytes_snoc] at h5
   simpa using h5
  case measure => simp [intOf] <;> omega
 obtain rfl : k = t.size := by omega
 have HE := Lib.hid (drop_all t)
 cases o
 ·have HC : Hid (linesOf s.data.toList = acc) := Lib.hid (by
   have h1 : cur = [] := by have := HO.out; simpa using this
   rw [← HR.out, HE.out, h1]; simp [rgo])
  go_wp2_with fail
  go_ret
  exact ⟨_, rfl, by rw [HC.out]; exact HL.out⟩
 have HC : Hid (linesOf s.data.toList = acc ++ [ended cur]) := Lib.hid (by
  have h1 : cur ≠ [] := by have := HO.out; intro h; rw [h] at this; cases this
  rw [← HR.out, HE.out, rgo, if_neg h1])
 go_wp2_with first
  | (go_at_call 77; refine (ended01_any _ _ cur _ HB.out.own (by omega)).mono ?_; rintro e w1 ⟨rfl, rfl⟩)
  | (at_builtin; refine wpList_push1 rfl _ _ 65 rfl w.heap.size 9 i0 (.string ByteArray.empty) 16 Tryz.underlying65 hi hz0 hz1 hz2 rfl _ acc.length _ rfl HL.out.own _ rfl rfl (by unfold maxLen; omega) (by omega) HL.out.size ?_; intro gg cap w5 hown hg5; have HL' := Lib.hid (HL.out.push hown hg5); clear hown hg5)
 go_ret
 refine ⟨_, rfl, ?_⟩
 have := HL'.out
 rw [strV_snoc] at this
 rw [HC.out]; simpa using this
end Go.Proofs.YtkdajhmlhjkcdaaGreatDoor
namespace Go.Proofs.YtkdajhmlhjkcdaaGreatDoor
open Go.RowKit
def codeS (s : ByteArray) : Int := if 65536 < s.size then 10 else 0
theorem maxLen_of (W : World) (h : W.ShapedOpen Tryz.prog) : ∃ m, W.cell? ⟨0, 0, none⟩ = some (.int .i64 m) :=
 Go.Proofs.cell_of_shapedOpen_int (zero := #[.int .i64 0]) h (by decide +kernel) (by kernel_rfl) rfl (by kernel_rfl) (by kernel_rfl) Tryz.underlying3
end Go.Proofs.YtkdajhmlhjkcdaaGreatDoor
namespace Go.Proofs.YtkdajhmlhjkcdaaGreatDoor
open Go.RowKit Go.Shelf
def clamp (s : ByteArray) : ByteArray := if s.size ≤ 65536 then s else ⟨#[]⟩
theorem clamp_le (s : ByteArray) : (clamp s).size ≤ 65536 := by
 unfold clamp
 split
 ·assumption
 exact Nat.zero_le _
abbrev encC (x : Int × ByteArray) : Array Value := #[.int .i64 x.1, .string (clamp x.2)]
theorem encC_of (x : Int × ByteArray) (h : x.2.size ≤ 65536) : encC x = #[.int .i64 x.1, .string x.2] := by
 show #[Value.int .i64 x.1, .string (clamp x.2)] = _
 unfold clamp; rw [if_pos h]
theorem ended_le (l : List UInt8) : (ended l).length ≤ l.length := by
 unfold ended Lib.trimSuffix
 split
 ·rw [List.length_take]; omega
 exact Nat.le_refl _
set_option maxRecDepth 100000 in
set_option maxHeartbeats 2000000 in
theorem each1c_in (n : Nat) (hn : 1 ≤ n) (l Bn n₀ : Nat) (s : ByteArray) (hn0 : 0 < n₀) (m : Int) (J Jx : List (Int × ByteArray) → World → Prop)
  (hY : ∀ pre x W, J pre W → pre.length < (eachOf s.data.toList).length → YieldAt Fence.wide (n - 1) Tryz.prog l (encC x) W fun e W' =>
   (e = .returned (.bool true) ∧ J (pre ++ [x]) W' ∧ Below n₀ W W') ∨ (e = .returned (.bool false) ∧ Jx (pre ++ [x]) W'))
  (hJd : ∀ pre (W : World) k, J pre W → J pre (W.drewN k))
  (W : World) (hBn : W.cell? ⟨Bn, 0, none⟩ = some (.string s)) (hm : W.cell? ⟨0, 0, none⟩ = some (.int .i64 m)) (h0 : J [] W) :
  CallsIn Fence.wide n Tryz.prog 96 #[.func (.yield l) #[] #[], .pointer (some ⟨Bn, 0, none⟩)] W fun e W' => (∃ v, e = .returned v) ∧
   ((∃ ys, ys = eachOf s.data.toList ∧ J ys W') ∨ (∃ pre, pre <+: eachOf s.data.toList ∧ Jx pre W')) := by
 have hl := len_toList s
 by_cases hbig : 65536 < s.size
 ·have HE : Hid (eachOf s.data.toList = []) := Lib.hid (by rw [eachOf, if_pos (by omega)])
  have H0 := Lib.hid h0
  clear hY hJd hl h0
  refine callsIn_of_wp Tryz.func96 rfl trivial ?_ rfl
  simp only [Tryz.ntmps96, List.size_toArray, List.length_cons, List.length_nil, Nat.reduceAdd, Nat.reduceSub, Array.replicate_succ, Array.replicate_zero, List.push_toArray, List.append_toArray, List.nil_append, List.cons_append]
  gi_wp2
  refine bodyPost_ret (results_none rfl _ _ _) rfl ?_
  exact ⟨⟨_, rfl⟩, .inl ⟨[], HE.out.symm, H0.out⟩⟩
 have HE : Hid (eachOf s.data.toList = numbered 1 (linesFrom s.size (unmarked s.data.toList))) := Lib.hid (by rw [eachOf, if_neg (by omega), linesOf, hl])
 have HU : Hid ((unmarked s.data.toList).length ≤ s.size) := Lib.hid (by have := unmarked_le s.data.toList; omega)
 have HY := Lib.hid hY
 have HJD := Lib.hid hJd
 have H0 := Lib.hid h0
 clear hY hJd hl h0
 refine callsIn_of_wp Tryz.func96 rfl trivial ?_ rfl
 simp only [Tryz.ntmps96, List.size_toArray, List.length_cons, List.length_nil, Nat.reduceAdd, Nat.reduceSub, Array.replicate_succ, Array.replicate_zero, List.push_toArray, List.append_toArray, List.nil_append, List.cons_append]
 gi_wp2_with (refine ⟨trivial, ?_⟩; gi_at_call 97; refine (callsIn_wide.2 (Trim_mark _ _)).mono ?_; rintro e w1 ⟨rfl, rfl⟩)
 gi_loopw [3, 4] (fun r i wr => ∃ (pre : List (Int × ByteArray)) (rest : List (UInt8)) (k f : Nat), r = .string (mkS rest) ∧ i = .int .i64 (k + 1 : Nat) ∧ pre.length = k ∧ rest.length ≤ f ∧ f + k ≤ s.size ∧
  eachOf s.data.toList = pre ++ numbered (k + 1) (linesFrom f rest) ∧ J pre wr ∧ Below n₀ W wr) (fun r _ _ => strLen r)
 case atStart => exact ⟨[], unmarked s.data.toList, 0, s.size, rfl, rfl, rfl, HU.out, by omega, HE.out, H0.out, Below.refl _ _⟩
 case round =>
 obtain ⟨pre, rest, k, f, rfl, rfl, hpl, hrf, hfk, hall, hj, hbw⟩ := hrel
 have HAll := Lib.hid hall
 have HJ := Lib.hid hj
 have HBW := Lib.hid hbw
 have HPL := Lib.hid hpl
 clear hall hj hbw hpl
 cases hq : (mkS rest).toList.isEmpty
 ·have HNE : Hid (rest ≠ []) := Lib.hid (by rw [mkS_empty] at hq; intro h; rw [h] at hq; cases hq)
  have HStep := Lib.hid (linesFrom_step f rest HNE.out hrf)
  have hcl := cut_lt rest HNE.out
  have hcf := cut_fst_le rest
  have hm2 := (HBW.out.cell (p := ⟨0, 0, none⟩) hn0).trans hm
  gi_wp2_with first
   | (refine ⟨trivial, ?_⟩; gi_at_call 98; refine (callsIn_wide.2 (Cut_nl rest m _ (by omega) hm2)).mono ?_; rintro e w1 ⟨rfl, nd, rfl⟩)
   | (refine ⟨trivial, ?_⟩; gi_at_call 99; refine (callsIn_wide.2 (Trim_cr _ _ (by omega))).mono ?_; rintro e w1 ⟨rfl, rfl⟩)
  obtain ⟨fn, tmps, assign, body, hy, hR⟩ := HY.out pre ((k : Int) + 1, mkS (ended (Lib.cut rest [10]).1)) (wr.drewN nd) (HJD.out _ _ nd HJ.out) (by rw [HAll.out, HStep.out]; simp [numbered])
  rw [encC_of _ (by show (mkS (ended (Lib.cut rest [10]).1)).size ≤ 65536; rw [mkS_size]; have := ended_le (Lib.cut rest [10]).1; omega)] at hy
  rw [hy]
  gi_wp2
  refine hR.mono ?_
  rintro e W3 (⟨rfl, hJ3, hk3⟩ | ⟨rfl, hJx3⟩)
  ·have HJ3 := Lib.hid hJ3
   have HK3 := Lib.hid hk3
   clear hJ3 hk3
   gi_wp2
   go_roundw
   case rel =>
    refine ⟨pre ++ [((k : Int) + 1, mkS (ended (Lib.cut rest [10]).1))], (Lib.cut rest [10]).2.1, k + 1, f - 1, rfl, ?_, ?_, by omega, by omega, ?_, HJ3.out, ?_⟩
    ·simp only [Int.natCast_add, Int.cast_ofNat_Int]
    ·simp [HPL.out]
    ·rw [HAll.out, HStep.out]; simp [numbered]
    exact HBW.out.trans ((show Below n₀ wr (wr.drewN nd) from ⟨rfl, rfl, rfl, Nat.le_refl _, fun _ _ => rfl⟩).trans HK3.out)
   case measure => simp only [strLen, mkS_size]; exact hcl
  have HJx3 := Lib.hid hJx3
  clear hJx3
  gi_wp2
  refine bodyPost_ret (results_none rfl _ _ _) rfl ?_
  refine ⟨⟨_, rfl⟩, .inr ⟨_, ?_, HJx3.out⟩⟩
  rw [HAll.out, HStep.out]; exact ⟨numbered (k + 1 + 1) (linesFrom (f - 1) (Lib.cut rest [10]).2.1), by simp [numbered]⟩
 have HNE : Hid (rest = []) := Lib.hid (by rw [mkS_empty] at hq; exact List.isEmpty_iff.1 hq)
 gi_wp2
 go_end0
 refine ⟨⟨_, rfl⟩, .inl ⟨pre, ?_, HJ.out⟩⟩
 rw [HAll.out, HNE.out, linesFrom_nil]; simp [numbered]
theorem eachc_stops (n : Nat) (hn : 1 ≤ n) (Bn n₀ : Nat) (s : ByteArray) (hn0 : 0 < n₀) (m : Int) (w : World) (hBn : Bn < w.heap.size)
  (hc : w.cell? ⟨Bn, 0, none⟩ = some (.string s)) (hm : w.cell? ⟨0, 0, none⟩ = some (.int .i64 m)) :
  SeqStopsK Fence.wide n Tryz.prog 96 #[.pointer (some ⟨Bn, 0, none⟩)] encC (Below n₀) (fun ys => ys = eachOf s.data.toList) (fun pre => pre <+: eachOf s.data.toList) (eachOf s.data.toList).length w := fun l J Jx W hW hJ _ hY h0 =>
 each1c_in n hn l Bn n₀ s hn0 m J Jx hY (fun pre W k h => hJ pre W _ none h ⟨rfl, rfl, rfl, Nat.le_refl _, fun _ _ _ => rfl⟩ (fun _ e => by cases e)) W
  ((hW.cell (p := ⟨Bn, 0, none⟩) hBn).trans hc) ((hW.cell (p := ⟨0, 0, none⟩) (by show 0 < w.heap.size; omega)).trans hm) h0
end Go.Proofs.YtkdajhmlhjkcdaaGreatDoor
namespace Go.Proofs.YtkdajhmlhjkcdaaGreatDoor
open Go.RowKit Go.Shelf
attribute [local go_sem] Oper.semAt_some
theorem fgo_pos : ∀ (l : List UInt8) (c : Option (List UInt8)), (∀ d, c = some d → d ≠ []) → ∀ f ∈ fgo l c, f ≠ []
 | [], none, _, f, hf => by simp [fgo] at hf
 | [], some d, hc, f, hf => by simp [fgo] at hf; subst hf; exact hc _ rfl
 | b :: l, none, hc, f, hf => by
   cases hg : gapB b
   ·rw [fgo_first _ _ hg] at hf; exact fgo_pos l _ (by intro d e; cases e; simp) f hf
   ·rw [fgo_skip _ _ hg] at hf; exact fgo_pos l _ (by intro d e; cases e) f hf
 | b :: l, some d, hc, f, hf => by
   cases hg : gapB b
   ·rw [fgo_more _ _ _ hg] at hf; exact fgo_pos l _ (by intro d' e; cases e; simp) f hf
   ·rw [fgo_end _ _ (.inr ⟨b, l, rfl, hg⟩), fgo_skip _ _ hg] at hf
    rcases List.mem_cons.1 hf with rfl | h
    ·exact hc f rfl
    ·exact fgo_pos l _ (by intro d' e; cases e) f h
theorem fields_pos (s : ByteArray) : ∀ f ∈ fieldsS s, 0 < f.size := by
 intro f hf
 unfold fieldsS at hf
 obtain ⟨m, hm, rfl⟩ := List.mem_map.1 hf
 rw [mkS_size]
 exact List.length_pos_iff.2 (fgo_pos _ none (by intro d e; cases e) m hm)
def sharp (f : ByteArray) : Bool := f.data.toList.head? == some 35
def keptS (fs : List ByteArray) : List ByteArray := fs.takeWhile (fun f => !sharp f)
theorem kept_stop (fs : List ByteArray) (k : Nat) (hk : k < fs.length) (h : ∀ f ∈ fs.take k, sharp f = false) (hs : sharp fs[k] = true) : keptS fs = fs.take k := by
 unfold keptS
 conv => lhs; rw [← List.take_append_drop k fs]
 rw [List.takeWhile_append_of_pos (by intro f hf; simp [h f hf]), List.drop_eq_getElem_cons hk, List.takeWhile_cons_of_neg (by simp [hs]), List.append_nil]
theorem kept_all (fs : List ByteArray) (h : ∀ f ∈ fs, sharp f = false) : keptS fs = fs := by
 induction fs with
 | nil => rfl
 | cons a fs ih =>
  have ih' := ih (fun f hf => h f (by simp [hf]))
  unfold keptS at ih' ⊢
  rw [List.takeWhile_cons_of_pos (by simp [h a (by simp)]), ih']
theorem sharp_at (f : ByteArray) (h : 0 < f.size) : sharp f = ((f[0].toNat : Int) == 35) := by
 have e : f.data.toList = f[0] :: f.data.toList.drop 1 := by
  have := drop_cons f 0 h
  simpa using this
 have b : ((f[0].toNat : Int) == 35) = ((35 : UInt8) == f[0]) := byteEq f[0] 35 (by omega)
 unfold sharp
 rw [e, b, Bool.eq_iff_iff]
 simp
 exact ⟨fun h => h.symm, fun h => h.symm⟩
abbrev RowIn := Int × Value × List ByteArray
def rowCells (rs : List RowIn) : List Value := rs.flatMap fun r => [.int .i64 r.1, r.2.1]
def rowAbs (rs : List RowIn) : List (Int × List ByteArray) := rs.map fun r => (r.1, r.2.2)
def rowOf (n : Int) (l : ByteArray) : List (Int × List ByteArray) := if keptS (fieldsS l) = [] then [] else [(n, keptS (fieldsS l))]
def rowsOf (pre : List (Int × ByteArray)) : List (Int × List ByteArray) := pre.flatMap fun x => rowOf x.1 (clamp x.2)
theorem rowsOf_snoc (pre : List (Int × ByteArray)) (x : Int × ByteArray) : rowsOf (pre ++ [x]) = rowsOf pre ++ rowOf x.1 (clamp x.2) := by simp [rowsOf]
theorem rowOf_len (n : Int) (l : ByteArray) : (rowOf n l).length ≤ 1 := by unfold rowOf; split <;> simp
theorem rowsOf_len (pre : List (Int × ByteArray)) : (rowsOf pre).length ≤ pre.length := by
 induction pre with
 | nil => simp [rowsOf]
 | cons x pre ih =>
  have := rowOf_len x.1 (clamp x.2)
  have e : rowsOf (x :: pre) = rowOf x.1 (clamp x.2) ++ rowsOf pre := by simp [rowsOf]
  rw [e, List.length_append, List.length_cons]; omega
def RdT (W : World) (e : Nat) (v : Value) (n : Nat) (xs : List Value) : Prop :=
 xs.length = n ∧ ∃ A cap, v = .slice A n cap ∧ n ≤ cap ∧ (n = 0 ∨ ∃ (g : Nat) (cur : Array Value) (fr : Nat × Nat), A = some ⟨g, 0, none⟩ ∧ W.heap[g]? = some (.cells cur e fr) ∧ ∀ (j : Nat) (u : Value), xs[j]? = some u → cur[j]? = some u)
theorem RdT.rd {W : World} {e n : Nat} {v : Value} {xs : List Value} (h : RdT W e v n xs) : Rd W 1 v n xs := by
 obtain ⟨h1, A, cap, hv, hc, h2⟩ := h
 refine ⟨by omega, A, cap, hv, hc, ?_⟩
 rcases h2 with h2 | ⟨g, cur, fr, hA, hb, h3⟩
 ·exact .inl h2
 exact .inr ⟨g, 0, hA, fun j u hj => by rw [Nat.zero_add, cell_of_row W g j cur e fr hb]; exact h3 j u hj⟩
theorem RdT.kept {W W' : World} {row : Option Nat} {e n : Nat} {v : Value} {xs : List Value} (h : RdT W e v n xs) (hg : W.grownBy W' row) (hrow : ∀ r, row = some r → ∃ o : Obj, W.heap[r]? = some o ∧ ∀ cur fr, o ≠ .cells cur e fr) : RdT W' e v n xs := by
 obtain ⟨h1, A, cap, hv, hc, h2⟩ := h
 refine ⟨h1, A, cap, hv, hc, ?_⟩
 rcases h2 with h2 | ⟨g, cur, fr, hA, hb, h3⟩
 ·exact .inl h2
 refine .inr ⟨g, cur, fr, hA, ?_, h3⟩
 refine (hg.block g (block_lt hb) fun e' => ?_).trans hb
 obtain ⟨o, ho, hne⟩ := hrow g e'.symm
 rw [hb] at ho; cases ho; exact hne _ _ rfl
theorem RdT.keep {W W' : World} {e n : Nat} {v : Value} {xs : List Value} (h : RdT W e v n xs) (hb : Below W.heap.size W W') : RdT W' e v n xs :=
 h.kept (grown_of_below hb none) (fun r e => by cases e)
theorem RdT.of_own {w : World} {B e n : Nat} {v : Value} {xs : List Value} (h : w.ownsRow B e 1 v n xs) : RdT w e v n xs := by
 refine ⟨by have := h.1; omega, ?_⟩
 rcases h.2 with ⟨rfl, rfl⟩ | ⟨g, cap, cur, rfl, _, hb, hn, _, _, ht⟩
 ·exact ⟨none, 0, rfl, Nat.le_refl _, .inl rfl⟩
 refine ⟨_, cap, rfl, hn, .inr ⟨g, cur, _, rfl, hb, fun j u hj => ?_⟩⟩
 rw [← ht] at hj
 have := List.getElem?_take_of_lt (l := cur.toList) (show j < n * 1 from by
  rcases Nat.lt_or_ge j (n * 1) with h | h
  ·exact h
  rw [List.getElem?_eq_none (by rw [List.length_take]; omega)] at hj; cases hj)
 rw [this] at hj
 simpa using hj
theorem RdT.front {w : World} {e n k g cap : Nat} {xs : List Value} (h : RdT w e (.slice (some ⟨g, 0, none⟩) n cap) n xs) (hk : k ≤ n) : RdT w e (.slice (some ⟨g, 0, none⟩) k k) k (xs.take k) := by
 obtain ⟨h1, A, cap', hv, hc, h2⟩ := h
 cases hv
 refine ⟨by rw [List.length_take]; omega, _, k, rfl, Nat.le_refl _, ?_⟩
 rcases h2 with h2 | ⟨g', cur, fr, hA, hb, h3⟩
 ·exact .inl (by omega)
 cases hA
 refine .inr ⟨_, cur, fr, rfl, hb, fun j u hj => h3 j u ?_⟩
 rw [List.getElem?_take] at hj
 split at hj
 ·exact hj
 cases hj
theorem not_cells {o : Obj} (h : o.isCells = false) (e : Nat) : ∀ cur fr, o ≠ .cells cur e fr := by
 rintro cur fr rfl; cases h
def rowsRead (W : World) (rs : List RowIn) : Prop := ∀ r ∈ rs, RdT W 9 r.2.1 r.2.2.length (strV r.2.2)
def RowsBox (n₀ B : Nat) (t e : Nat) (W : World) (out : List (Int × List ByteArray)) : Prop :=
 ∃ (rs : List RowIn) (v : Value), Boxed W B t v ∧ W.ownsRow n₀ e 2 v rs.length (rowCells rs) ∧ rowsRead W rs ∧ rowAbs rs = out
theorem rowsBox_own {β : Type} (n₀ B t e : Nat) (f : β → List (Int × List ByteArray)) : _root_.Go.Own (fun s W => RowsBox n₀ B t e W (f s)) := by
 rintro s X Y row ⟨rs, v, hv, hr, hrd, ha⟩ hg hrow
 refine ⟨rs, v, hv.kept hg (fun e' => ?_), hr.kept hg ?_, fun r hm => (hrd r hm).kept hg (fun q e => by obtain ⟨o, ho, hc⟩ := hrow q e; exact ⟨o, ho, not_cells hc _⟩), ha⟩
 ·obtain ⟨o, ho, hc⟩ := hrow B e'.symm
  rw [show X.heap[B]? = _ from hv] at ho; cases ho; cases hc
 rcases hr.2 with ⟨rfl, _⟩ | ⟨g, cap, cur, rfl, _, hgb, _⟩
 ·exact .inl rfl
 refine .inr fun e' => ?_
 obtain ⟨o, ho, hc⟩ := hrow g (by simpa [Value.ownBlock] using e'.symm)
 rw [hgb] at ho; cases ho; cases hc
theorem RowsBox.keep {n₀ B t e : Nat} {W W' : World} {out : List (Int × List ByteArray)} (h : RowsBox n₀ B t e W out) (hb : Below W.heap.size W W') : RowsBox n₀ B t e W' out := by
 obtain ⟨rs, v, hv, hr, hrd, ha⟩ := h
 exact ⟨rs, v, (hb.block B hv.lt).trans hv, own_below hr hb, fun r hm => (hrd r hm).keep hb, ha⟩
theorem keepsFrom_below {B : Nat} {W W' : World} (hb : Below W.heap.size W W') : KeepsFrom B W W' :=
 ⟨hb.size, fun _ _ _ h0 _ => (hb.block _ (Array.getElem?_eq_some_iff.1 h0).1).trans h0⟩
theorem rows_push {W w1 : World} {n₀ B t e : Nat} {v v' : Value} {rs : List RowIn} {r : RowIn} {tmp : Obj} {out : List (Int × List ByteArray)} (hte : t ≠ e) (hes : 9 ≠ e) (hts : 9 ≠ t)
  (hv : Boxed W B t v) (hrow : W.ownsRow n₀ e 2 v rs.length (rowCells rs)) (hrd : rowsRead W rs) (hab : rowAbs rs = out) (hr : RdT W 9 r.2.1 r.2.2.length (strV r.2.2)) (hn₀ : n₀ ≤ W.heap.size) (hB : n₀ ≤ B)
  (hown' : w1.ownsRow n₀ e 2 v' (rs.length + 1) (rowCells rs ++ [.int .i64 r.1, r.2.1])) (hgrow : (W.alloc tmp).grownBy w1 v.ownBlock) :
  KeepsOthers W (w1.setCell ⟨B, 0, none⟩ v') ∧ Below n₀ W (w1.setCell ⟨B, 0, none⟩ v') ∧ RowsBox n₀ B t e (w1.setCell ⟨B, 0, none⟩ v') (out ++ [(r.1, r.2.2)]) := by
 obtain ⟨hv1, hv2, hr2, hk2, hb2⟩ := hv.appended hte hrow hn₀ hB hown' hgrow
 refine ⟨hk2, hb2, rs ++ [r], v', hv2, by simpa [rowCells] using hr2, ?_, by rw [← hab]; simp [rowAbs]⟩
 have keep : ∀ (q : RowIn), RdT W 9 q.2.1 q.2.2.length (strV q.2.2) → RdT (w1.setCell ⟨B, 0, none⟩ v') 9 q.2.1 q.2.2.length (strV q.2.2) := by
  intro q hq
  have h1 : RdT (W.alloc tmp) 9 q.2.1 q.2.2.length (strV q.2.2) := hq.kept (World.grownBy_alloc W tmp none) (fun r e => by cases e)
  have h2 : RdT w1 9 q.2.1 q.2.2.length (strV q.2.2) := h1.kept hgrow (fun k ek => by
   rcases (hrow.alloc tmp).2 with ⟨rfl, _⟩ | ⟨g, cap, cur, rfl, _, hgb, _⟩
   ·simp [Value.ownBlock] at ek
   obtain rfl : g = k := by simpa [Value.ownBlock] using ek
   exact ⟨_, hgb, by rintro c f e'; injection e' with _ h; exact hes h.symm⟩)
  exact h2.kept (grownBy_setCell' w1 B v') (fun k ek => by cases ek; exact ⟨_, hv1, by rintro c f e'; injection e' with _ h; exact hts h.symm⟩)
 intro q hq
 rcases List.mem_append.1 hq with h | h
 ·exact keep q (hrd q h)
 rw [List.mem_singleton.1 h]; exact keep r hr
theorem cell_news (w : World) (us : Array Value) (t : Nat) : ∀ j u, us.toList[j]? = some u → (w.alloc (.cells us t)).cell? ((⟨w.heap.size, 0, none⟩ : Addr).add j) = some u := by
 intro j u hj
 rw [row_addr, cell_of_row (w.alloc (.cells us t)) w.heap.size j us t (0, 0) (heap_alloc_new w _)]
 simpa using hj
end Go.Proofs.YtkdajhmlhjkcdaaGreatDoor
namespace Go.Proofs.YtkdajhmlhjkcdaaGreatDoor
open Go.RowKit
def admB (t : List UInt8) (b : UInt8) : Bool := match t with
 | [] => false
 | [c] => c.toNat == 46 || c == b
 | _ :: c :: l => if c.toNat = 94 then !(l.dropLast.contains b) else (c :: l).dropLast.contains b
def itemsGo : Nat → List UInt8 → Except Int (List (List UInt8))
 | 0, _ => .ok []
 | _, [] => .ok []
 | n + 1, b :: l => if b.toNat = 91 then match l.findIdx? (fun c => c.toNat == 93) with
    | none => .error 41
    | some k => if k = 0 ∨ (k = 1 ∧ (l.getD 0 0).toNat = 94) then .error 41 else match itemsGo n (l.drop (k + 1)) with
      | .error c => .error c
      | .ok ts => .ok ((b :: l.take (k + 1)) :: ts)
   else match itemsGo n l with
    | .error c => .error c
    | .ok ts => .ok ([b] :: ts)
def condR (l : List UInt8) : Except Int (List (List UInt8)) :=
 if l.length = 0 ∨ 512 < l.length then .error 40 else if l = [46] then .ok [] else match itemsGo l.length l with
  | .error c => .error c
  | .ok ts => if 16 < ts.length then .error 42 else .ok ts
def all256 : List UInt8 := (List.range 256).map UInt8.ofNat
def shownB (t : List UInt8) : List UInt8 :=
 let yes := all256.filter (fun b => admB t b)
 let no := all256.filter (fun b => !admB t b)
 if no = [] then [46] else if yes.length = 1 ∧ yes ≠ [46] ∧ yes ≠ [91] then yes
 else if admB t 93 = true then [91, 94] ++ no ++ [93] else [91] ++ yes.filter (fun b => b.toNat != 94) ++ (if yes.contains 94 = true then [94] else []) ++ [93]
def condShow (ts : List (List UInt8)) : List UInt8 := if ts = [] then [46] else ts.flatMap shownB
abbrev Ws := Nat → Nat
def clV (X : Ws) : Value := .agg #[.int .u64 (X 0), .int .u64 (X 1), .int .u64 (X 2), .int .u64 (X 3)]
def HasP (X : Ws) (p : UInt8 → Bool) : Prop := (∀ j, X j < 18446744073709551616) ∧ ∀ b : UInt8, (X (b.toNat / 64)).testBit (b.toNat % 64) = p b
def put4 (X : Ws) (n : Nat) : Ws := fun j => if j = n / 64 then X j ||| 2 ^ (n % 64) else X j
def not4 (X : Ws) : Ws := fun j => 18446744073709551615 - X j
theorem HasP.none : HasP (fun _ => 0) (fun _ => false) := ⟨fun j => show 0 < 18446744073709551616 by decide, fun b => by simp⟩
theorem HasP.put {X : Ws} {p : UInt8 → Bool} (h : HasP X p) (c : UInt8) : HasP (put4 X c.toNat) (fun b => p b || c == b) := by
 refine ⟨fun j => ?_, fun b => ?_⟩
 ·unfold put4
  split
  ·exact Nat.or_lt_two_pow (n := 64) (h.1 j) (Nat.pow_lt_pow_right (by decide) (by omega))
  exact h.1 j
 unfold put4
 have hb := h.2 b
 by_cases e : b.toNat / 64 = c.toNat / 64
 ·rw [if_pos e, Nat.testBit_or, Nat.testBit_two_pow, hb]
  congr 1
  rw [Bool.eq_iff_iff, decide_eq_true_iff, beq_iff_eq, ← UInt8.toNat_inj]
  omega
 rw [if_neg e, hb]
 have : (c == b) = false := by rw [beq_eq_false_iff_ne]; rintro rfl; exact e rfl
 show p b = (p b || c == b)
 rw [this, Bool.or_false]
theorem HasP.not {X : Ws} {p : UInt8 → Bool} (h : HasP X p) : HasP (not4 X) (fun b => !p b) := by
 refine ⟨fun j => by unfold not4; omega, fun b => ?_⟩
 have hb := h.2 b
 have hx := h.1 (b.toNat / 64)
 unfold not4
 rw [show 18446744073709551615 - X (b.toNat / 64) = 2 ^ 64 - (X (b.toNat / 64) + 1) by omega, Nat.testBit_two_pow_sub_succ hx, hb]
 have : b.toNat % 64 < 64 := Nat.mod_lt _ (by decide)
 simp [this]
theorem HasP.ext {X : Ws} {p q : UInt8 → Bool} (h : HasP X p) (he : ∀ b, p b = q b) : HasP X q := ⟨h.1, fun b => by rw [h.2 b, he b]⟩
end Go.Proofs.YtkdajhmlhjkcdaaGreatDoor
namespace Go.Proofs.YtkdajhmlhjkcdaaGreatDoor
open Go.RowKit
instance lawfulBA : LawfulBEq ByteArray where
 eq_of_beq {a b} h := by
  obtain ⟨a⟩ := a
  obtain ⟨b⟩ := b
  have : (a == b) = true := h
  rw [eq_of_beq this]
 rfl {a} := by
  obtain ⟨a⟩ := a
  show (a == a) = true
  exact beq_self_eq_true a
def wgo : List UInt8 → List UInt8 → List UInt8 × List UInt8 × Bool × Int
 | acc, [] => (acc, [], false, 0)
 | acc, b :: l =>
  if b.toNat = 47 then (acc, l, true, 0)
  else if b.toNat = 92 then match l with
   | [] => ([], [], false, 20)
   | c :: l' => if c.toNat = 92 ∨ c.toNat = 47 ∨ c.toNat = 35 then wgo (acc ++ [c]) l' else ([], [], false, 20)
  else wgo (acc ++ [b]) l
 termination_by _ l => l.length
theorem wgo_nil (acc : List UInt8) : wgo acc [] = (acc, [], false, 0) := by rw [wgo]
theorem wgo_slash (acc : List UInt8) (b : UInt8) (l : List UInt8) (h : b.toNat = 47) : wgo acc (b :: l) = (acc, l, true, 0) := by rw [wgo.eq_def]; simp [h]
theorem wgo_end (acc : List UInt8) (b : UInt8) (h : b.toNat = 92) : wgo acc [b] = ([], [], false, 20) := by rw [wgo.eq_def]; simp [h]
theorem wgo_esc (acc : List UInt8) (b c : UInt8) (l : List UInt8) (h : b.toNat = 92) (hc : c.toNat = 92 ∨ c.toNat = 47 ∨ c.toNat = 35) : wgo acc (b :: c :: l) = wgo (acc ++ [c]) l := by rw [wgo.eq_def]; simp only [h]; rw [if_neg (by decide), if_pos (by decide), if_pos hc]
theorem wgo_bad (acc : List UInt8) (b c : UInt8) (l : List UInt8) (h : b.toNat = 92) (hc : ¬ (c.toNat = 92 ∨ c.toNat = 47 ∨ c.toNat = 35)) : wgo acc (b :: c :: l) = ([], [], false, 20) := by rw [wgo.eq_def]; simp only [h]; rw [if_neg (by decide), if_pos (by decide), if_neg hc]
theorem wgo_more (acc : List UInt8) (b : UInt8) (l : List UInt8) (h : b.toNat ≠ 47) (h' : b.toNat ≠ 92) : wgo acc (b :: l) = wgo (acc ++ [b]) l := by rw [wgo.eq_def]; simp only []; rw [if_neg h, if_neg h']
def wordR (l : List UInt8) : List UInt8 × List UInt8 × Bool × Int := wgo [] l
structure Cl where
 flag : Int
 kind : Int
 cross : Bool
 first : Int
 count : Int
structure Rl where
 kind : Int
 flag : Int
 cross : Bool
 strip : ByteArray
 add : ByteArray
 cond : ByteArray
 next : List Int
 line : Int
structure Fl where
 kind : Int
 charset : ByteArray
 tryT : ByteArray
 s0 : Int
 s1 : Int
 s2 : Int
 s3 : Int
 s4 : Int
 least : Int
 reps : List (ByteArray × ByteArray)
 als : List (List Int)
 cls : List Cl
 rls : List Rl
def fl0 : Fl := ⟨1, ⟨#[]⟩, ⟨#[]⟩, 0, 0, 0, 0, 0, 3, [], [], [], []⟩
def noCl : Cl := ⟨0, 0, false, 0, 0⟩
def clsIx (cls : List Cl) (f : Int) : Option Nat := cls.findIdx? (fun c => c.flag == f)
def findC (F : Fl) (f : Int) : Option Cl := F.cls.find? (fun c => c.flag == f)
def definedB (F : Fl) (f : Int) : Bool := F.s0 == f || F.s1 == f || F.s2 == f || F.s3 == f || F.s4 == f || (findC F f).isSome
def fitE (s : ByteArray) : Int := if s.size = 0 ∨ fitAll s = false then 21 else if 32 < s.size then 22 else 0
def zeroS : ByteArray := ⟨#[48]⟩
def pieceR (none_ : Bool) (s : ByteArray) : Except Int ByteArray :=
 if none_ = true ∧ s = zeroS then .ok ⟨#[]⟩ else match wordR s.data.toList with
  | (w, _, cut, e) => if e ≠ 0 then .error e else if cut = true then .error 114 else if fitE (mkS w) ≠ 0 then .error (fitE (mkS w)) else .ok (mkS w)
def flagsR (F : Fl) (s : ByteArray) : List Int × Int :=
 if F.als.length = 0 then readF F.kind s.data.toList
 else if numErr s.data.toList F.als.length ≠ 0 ∨ numVal s.data.toList F.als.length = 0 then ([], 13)
 else (F.als.getD (numVal s.data.toList F.als.length - 1).toNat [], 0)
def freshR (F : Fl) (s : ByteArray) : Except Int Int :=
 if (oneF F.kind s.data.toList).2 ≠ 0 then .error (oneF F.kind s.data.toList).2
 else if definedB F (oneF F.kind s.data.toList).1 = true then .error 115 else .ok (oneF F.kind s.data.toList).1
abbrev kFLAG : ByteArray := ⟨#[70, 76, 65, 71]⟩
abbrev kSET : ByteArray := ⟨#[83, 69, 84]⟩
abbrev kTRY : ByteArray := ⟨#[84, 82, 89]⟩
abbrev kNEED : ByteArray := ⟨#[78, 69, 69, 68, 65, 70, 70, 73, 88]⟩
abbrev kFORBID : ByteArray := ⟨#[70, 79, 82, 66, 73, 68, 68, 69, 78, 87, 79, 82, 68]⟩
abbrev kKEEP : ByteArray := ⟨#[75, 69, 69, 80, 67, 65, 83, 69]⟩
abbrev kPART : ByteArray := ⟨#[67, 79, 77, 80, 79, 85, 78, 68, 70, 76, 65, 71]⟩
abbrev kQUIET : ByteArray := ⟨#[78, 79, 83, 85, 71, 71, 69, 83, 84]⟩
abbrev kMIN : ByteArray := ⟨#[67, 79, 77, 80, 79, 85, 78, 68, 77, 73, 78]⟩
abbrev kREP : ByteArray := ⟨#[82, 69, 80]⟩
abbrev kAF : ByteArray := ⟨#[65, 70]⟩
abbrev kPFX : ByteArray := ⟨#[80, 70, 88]⟩
abbrev kSFX : ByteArray := ⟨#[83, 70, 88]⟩
def keyL : List ByteArray := [kFLAG, kSET, kTRY, kNEED, kFORBID, kKEEP, kPART, kQUIET, kMIN, kREP, kAF, kPFX, kSFX]
def keyN (s : ByteArray) : Nat := keyL.findIdx (fun k => decide (k = s))
def keyS (n : Nat) : ByteArray := keyL.getD n kSFX
def widthN (k : Nat) : Nat := if k < 11 then 2 else 4
def lateN (k : Nat) : Bool := (decide (3 ≤ k) && decide (k ≤ 7)) || (decide (10 ≤ k) && decide (k ≤ 12))
abbrev Row := Int × List ByteArray
structure Sx where
 fl : Fl
 rows : List Row
 heads : List ByteArray
 line : Int
abbrev RX := Except (Int × Int) Sx
def groupR (end_ : Int) (ok : List ByteArray → Bool) (inn : Fl → Int → List ByteArray → Except Int Fl) : Nat → Sx → RX
 | 0, S => .ok S
 | n + 1, S => match S.rows with
   | [] => .error (end_, 116)
   | (l, row) :: rest => if ok row = true then match inn S.fl l row with
      | .error c => .error (l, c)
      | .ok F => groupR end_ ok inn n { fl := F, rows := rest, heads := S.heads, line := l }
     else .error (l, 116)
def fieldAt (row : List ByteArray) (i : Nat) : ByteArray := row.getD i ⟨#[]⟩
def repR_ (F : Fl) (_ : Int) (row : List ByteArray) : Except Int Fl :=
 if row.length ≠ 3 then .error 111 else match pieceR false (fieldAt row 1) with
  | .error c => .error c
  | .ok a => match pieceR true (fieldAt row 2) with
    | .error c => .error c
    | .ok b => .ok { F with reps := F.reps ++ [(a, b)] }
def aliasR (F : Fl) (_ : Int) (row : List ByteArray) : Except Int Fl :=
 if row.length ≠ 2 then .error 111 else if (readF F.kind (fieldAt row 1).data.toList).2 ≠ 0 then .error (readF F.kind (fieldAt row 1).data.toList).2
 else .ok { F with als := F.als ++ [(readF F.kind (fieldAt row 1).data.toList).1] }
def addR (w : List UInt8) : Except Int ByteArray := if mkS w = zeroS then .ok ⟨#[]⟩ else if fitE (mkS w) ≠ 0 then .error (fitE (mkS w)) else .ok (mkS w)
def nextR (F : Fl) (kind : Int) (rest : List UInt8) (cut : Bool) : Except Int (List Int) :=
 if cut = true then (if kind ≠ 2 then .error 118 else if (flagsR F (mkS rest)).2 ≠ 0 then .error (flagsR F (mkS rest)).2 else .ok (flagsR F (mkS rest)).1) else .ok []
def condOf (row : List ByteArray) : Except Int ByteArray :=
 if row.length = 5 then (if fitAll (fieldAt row 4) = false then .error 21 else match condR (fieldAt row 4).data.toList with
  | .error c => .error c
  | .ok ts => .ok (mkS (condShow ts)))
 else .ok ⟨#[46]⟩
def ruleR (F : Fl) (c : Cl) (line : Int) (row : List ByteArray) : Except Int Rl :=
 if row.length ≠ 4 ∧ row.length ≠ 5 then .error 111 else match pieceR true (fieldAt row 2) with
  | .error e => .error e
  | .ok strip => match wordR (fieldAt row 3).data.toList with
    | (w, rest, cut, e) => if e ≠ 0 then .error e else match addR w with
      | .error e => .error e
      | .ok add => match nextR F c.kind rest cut with
        | .error e => .error e
        | .ok next => match condOf row with
          | .error e => .error e
          | .ok cond => .ok ⟨c.kind, c.flag, c.cross, strip, add, cond, next, line⟩
def ruleIn (c : Cl) (F : Fl) (line : Int) (row : List ByteArray) : Except Int Fl := match ruleR F c line row with
 | .error e => .error e
 | .ok r => .ok { F with rls := F.rls ++ [r] }
def classR (end_ : Int) (S : Sx) (row : List ByteArray) : RX := match freshR S.fl (fieldAt row 1) with
 | .error e => .error (S.line, e)
 | .ok f => if fieldAt row 2 ≠ ⟨#[89]⟩ ∧ fieldAt row 2 ≠ ⟨#[78]⟩ then .error (S.line, 114)
   else if numErr (fieldAt row 3).data.toList 1024 ≠ 0 then .error (S.line, 13)
   else if 1024 < (S.fl.rls.length : Int) + numVal (fieldAt row 3).data.toList 1024 then .error (S.line, 117)
   else groupR end_ (fun r => decide (r.take 2 = [fieldAt row 0, fieldAt row 1])) (ruleIn ⟨f, if fieldAt row 0 = kSFX then 2 else 1, decide (fieldAt row 2 = ⟨#[89]⟩), S.fl.rls.length, numVal (fieldAt row 3).data.toList 1024⟩)
    (numVal (fieldAt row 3).data.toList 1024).toNat { S with fl := { S.fl with cls := S.fl.cls ++ [⟨f, if fieldAt row 0 = kSFX then 2 else 1, decide (fieldAt row 2 = ⟨#[89]⟩), S.fl.rls.length, numVal (fieldAt row 3).data.toList 1024⟩] } }
abbrev tSHORT : ByteArray := ⟨#[115, 104, 111, 114, 116]⟩
abbrev tLONG : ByteArray := ⟨#[108, 111, 110, 103]⟩
abbrev tNUM : ByteArray := ⟨#[110, 117, 109]⟩
def kindOf (s : ByteArray) : Int := if s = tSHORT then 1 else if s = tLONG then 2 else if s = tNUM then 3 else 0
def setSp (F : Fl) (i : Nat) (f : Int) : Fl := match i with
 | 0 => { F with s0 := f }
 | 1 => { F with s1 := f }
 | 2 => { F with s2 := f }
 | 3 => { F with s3 := f }
 | _ => { F with s4 := f }
def onFl (line : Int) (S : Sx) : Except Int Fl → RX
 | .error e => .error (line, e)
 | .ok F => .ok { S with fl := F }
def kindR (S : Sx) (s : ByteArray) : Except Int Fl := if S.heads.any (fun h => lateN (keyN h)) = true then .error 113 else if kindOf s = 0 then .error 114 else .ok { S.fl with kind := kindOf s }
def setR (F : Fl) (s : ByteArray) : Except Int Fl := if fitAll s = false then .error 21 else .ok { F with charset := s }
def tryR (F : Fl) (s : ByteArray) : Except Int Fl := if (lettersS s).2 ≠ 0 then .error (lettersS s).2 else .ok { F with tryT := (lettersS s).1 }
def specialR (F : Fl) (i : Nat) (s : ByteArray) : Except Int Fl := match freshR F s with
 | .error e => .error e
 | .ok f => .ok (setSp F i f)
def leastR (F : Fl) (s : ByteArray) : Except Int Fl := if numErr s.data.toList 64 ≠ 0 ∨ numVal s.data.toList 64 = 0 then .error 13 else .ok { F with least := numVal s.data.toList 64 }
def repsG (end_ : Int) (S : Sx) (s : ByteArray) : RX := if numErr s.data.toList 256 ≠ 0 then .error (S.line, 13) else groupR end_ (fun r => decide (r.take 1 = [kREP])) repR_ (numVal s.data.toList 256).toNat S
def aliasG (end_ : Int) (S : Sx) (s : ByteArray) : RX := if S.heads.contains kPFX = true ∨ S.heads.contains kSFX = true then .error (S.line, 113)
 else if numErr s.data.toList 1024 ≠ 0 then .error (S.line, 13) else groupR end_ (fun r => decide (r.take 1 = [kAF])) aliasR (numVal s.data.toList 1024).toNat S
def headR (end_ : Int) (S : Sx) (row : List ByteArray) (k : Nat) : RX :=
 if k = 0 then onFl S.line S (kindR S (fieldAt row 1))
 else if k = 1 then onFl S.line S (setR S.fl (fieldAt row 1))
 else if k = 2 then onFl S.line S (tryR S.fl (fieldAt row 1))
 else if k < 8 then onFl S.line S (specialR S.fl (k - 3) (fieldAt row 1))
 else if k = 8 then onFl S.line S (leastR S.fl (fieldAt row 1))
 else if k = 9 then repsG end_ S (fieldAt row 1)
 else if k = 10 then aliasG end_ S (fieldAt row 1)
 else classR end_ S row
def stepR (end_ : Int) (S : Sx) (l : Int) (row : List ByteArray) (rest : List Row) : RX :=
 if keyN (fieldAt row 0) = 13 then .error (l, 110)
 else if row.length ≠ widthN (keyN (fieldAt row 0)) then .error (l, 111)
 else if widthN (keyN (fieldAt row 0)) = 2 ∧ S.heads.contains (fieldAt row 0) = true then .error (l, 112)
 else match headR end_ { S with rows := rest, line := l } row (keyN (fieldAt row 0)) with
  | .error e => .error e
  | .ok S' => .ok { S' with heads := S'.heads ++ [fieldAt row 0] }
def readGo (end_ : Int) : Nat → Sx → RX
 | 0, S => .ok S
 | n + 1, S => match S.rows with
   | [] => .ok S
   | (l, row) :: rest => match stepR end_ S l row rest with
     | .error e => .error e
     | .ok S' => readGo end_ n S'
def goesB (F : Fl) (f : Int) : Bool := f == F.s0 || (match findC F f with | some c => c.kind == 2 | none => false)
def checkE (F : Fl) : Option Int := (F.rls.find? (fun r => !(r.next.all (goesB F)))).map (·.line)
def affR (l : List UInt8) : Except (Int × Int) Fl :=
 if 65536 < l.length then .error (0, 10) else match readGo ((linesOf l).length + 1) (rowsOf (eachOf l)).length ⟨fl0, rowsOf (eachOf l), [], 0⟩ with
  | .error e => .error e
  | .ok S => match checkE S.fl with
    | some line => .error (line, 118)
    | none => .ok S.fl
end Go.Proofs.YtkdajhmlhjkcdaaGreatDoor
namespace Go.Proofs.YtkdajhmlhjkcdaaGreatDoor
open Go.RowKit
structure Kept (E : List Nat) (w w' : World) : Prop where
 os : w'.os = w.os
 tape : w'.tape = w.tape
 output : w'.output = w.output
 size : w.heap.size ≤ w'.heap.size
 block : ∀ k, k < w.heap.size → k ∉ E → w'.heap[k]? = w.heap[k]?
theorem Kept.refl (E : List Nat) (w : World) : Kept E w w := ⟨rfl, rfl, rfl, Nat.le_refl _, fun _ _ _ => rfl⟩
theorem Kept.trans' {E F : List Nat} {a b c : World} (h : Kept E a b) (k : Kept F b c) (hF : ∀ x ∈ F, x ∈ E ∨ a.heap.size ≤ x) : Kept E a c :=
 ⟨k.os.trans h.os, k.tape.trans h.tape, k.output.trans h.output, Nat.le_trans h.size k.size, fun i hi he =>
  (k.block i (Nat.lt_of_lt_of_le hi h.size) (fun hm => by rcases hF i hm with h1 | h1; exact he h1; omega)).trans (h.block i hi he)⟩
theorem Kept.trans {E : List Nat} {a b c : World} (h : Kept E a b) (k : Kept E b c) : Kept E a c := h.trans' k (fun _ hx => .inl hx)
theorem Kept.mono {E F : List Nat} {a b : World} (h : Kept E a b) (hF : ∀ x ∈ E, x ∈ F) : Kept F a b := ⟨h.os, h.tape, h.output, h.size, fun i hi he => h.block i hi (fun hm => he (hF i hm))⟩
theorem Kept.of_below {E : List Nat} {w w' : World} (h : Below w.heap.size w w') : Kept E w w' := ⟨h.os, h.tape, h.output, h.size, fun k hk _ => h.block k hk⟩
theorem Kept.below {E : List Nat} {w w' : World} {B : Nat} (h : Kept E w w') (hB : B ≤ w.heap.size) (hE : ∀ x ∈ E, B ≤ x) : Below B w w' :=
 ⟨h.os, h.tape, h.output, h.size, fun k hk => h.block k (by omega) (fun hm => by have := hE k hm; omega)⟩
theorem Kept.grown {w w' : World} {r : Option Nat} {E : List Nat} (h : w.grownBy w' r) (hr : ∀ k, r = some k → k ∈ E) : Kept E w w' :=
 ⟨h.os, h.tape, h.output, h.size, fun k hk he => h.block k hk (fun e => he (hr k e.symm))⟩
theorem Kept.drew {E : List Nat} {w w' : World} (h : Kept E w w') : Kept E w w'.drew := ⟨h.os, h.tape, h.output, h.size, h.block⟩
theorem Kept.alloc {E : List Nat} {w w' : World} (h : Kept E w w') (o : Obj) : Kept E w (w'.alloc o) :=
 h.trans' (F := []) (Kept.of_below ((Below.refl _ _).alloc (Nat.le_refl _) _)) (fun _ hx => by cases hx)
theorem Kept.set {E : List Nat} {w w' : World} (h : Kept E w w') (b i : Nat) (v : Value) (hb : b ∈ E ∨ w.heap.size ≤ b) : Kept E w (w'.setCell ⟨b, i, none⟩ v) :=
 h.trans' (F := [b]) ⟨rfl, rfl, rfl, by simp [World.setCell], fun k _ he => heap_setCell_other w' ⟨b, i, none⟩ k v (fun e => he (by simp [e]))⟩ (fun x hx => by simp at hx; subst hx; exact hb)
theorem Kept.cell {E : List Nat} {w w' : World} (h : Kept E w w') {p : Addr} (hp : p.block < w.heap.size) (he : p.block ∉ E) : w'.cell? p = w.cell? p := World.cell?_of_block (h.block _ hp he)
theorem Kept.own {E : List Nat} {w w' : World} {B e size n : Nat} {v : Value} {xs : List Value} (h : Kept E w w') (ho : w.ownsRow B e size v n xs) (hne : ∀ g, v.ownBlock = some g → g ∉ E) : w'.ownsRow B e size v n xs := by
 refine ⟨ho.1, ?_⟩
 rcases ho.2 with hn | ⟨g, cap, cur, rfl, hb, hgg, rest⟩
 ·exact .inl hn
 refine .inr ⟨g, cap, cur, rfl, hb, ?_, rest⟩
 rw [h.block g (Array.getElem?_eq_some_iff.1 hgg).1 (hne g rfl)]
 exact hgg
theorem Kept.at {E : List Nat} {w w' : World} (h : Kept E w w') {k : Nat} {o : Obj} (hk : w.heap[k]? = some o) (he : k ∉ E) : w'.heap[k]? = some o := (h.block k (block_lt hk) he).trans hk
end Go.Proofs.YtkdajhmlhjkcdaaGreatDoor
