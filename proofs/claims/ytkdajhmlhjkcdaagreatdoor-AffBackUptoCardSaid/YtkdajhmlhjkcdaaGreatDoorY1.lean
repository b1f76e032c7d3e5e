/-
  Parts of the proof: Frame, Base2, FP1, FR11, Lines5, AL3, AL4, AL5, AL6, AL8, LinesD, FP2, FS1, FA1, FR14, FS2, AP5, AL15, AL6w, AL16, AL17, AL18, FLOpen, FGOpen.
-/
import Derived.Test.YtkdajhmlhjkcdaaGreatDoorRows
import Derived.WalkKit
import Derived.ProofKit
import Derived.OpenShut
import Derived.SizedLaws
import Derived.HandedShaped
import Derived.JoinedCond
import Derived.Test.YtkdajhmlhjkcdaaGreatDoorZ1
import Derived.Test.YtkdajhmlhjkcdaaGreatDoorZ2
import Derived.Test.YtkdajhmlhjkcdaaGreatDoorZ3
import Derived.Lib.Split
import Derived.Deep.RegionWith
import Derived.Test.YtkdajhmlhjkcdaaGreatDoorZ0x
import Derived.Lib.ItoaNum
import Derived.Lib.LaidTab
import Derived.Sort.Grow
import Derived.BigQuiet
import Derived.Test.YtkdajhmlhjkcdaaGreatDoorZ10
import Derived.Test.YtkdajhmlhjkcdaaGreatDoorZ9
import Derived.Test.YtkdajhmlhjkcdaaGreatDoorZ4
import Derived.Test.YtkdajhmlhjkcdaaGreatDoorZ8
import Derived.Test.YtkdajhmlhjkcdaaGreatDoorZ5
import Derived.Test.YtkdajhmlhjkcdaaGreatDoorZ7
import Derived.Test.YtkdajhmlhjkcdaaGreatDoorZ6
import Derived.WalkLawsBesides
import Derived.Lib.Join
import Derived.Lib.ItoaLen
import Derived.Deep.QuietTactic
import Derived.Shelf.Vars
import Derived.ChangeSlices
import Derived.Lib.AppendZeros
import Derived.Deep.Slices
set_option linter.unusedVariables false
set_option linter.unusedSimpArgs false
namespace Go.Proofs.YtkdajhmlhjkcdaaGreatDoor
open Go.ChangeShapes Go.WideShapes Go.ChangeAt Go.RowKit
open Go.ChangeMaps (open_string shut_string)
theorem size_list (s : ByteArray) : s.data.toList.length = s.size := by simp
end Go.Proofs.YtkdajhmlhjkcdaaGreatDoor
namespace Go.Proofs.YtkdajhmlhjkcdaaGreatDoor
open Go.RowKit
theorem wpList_push1_at {P : Program} {ops : Array Oper} {rest : List Oper} {o : Oper} {a : Act} {Q : Exit → Act → World → Prop} {w : World} (hgd : o.guard = none) (s x : Operand) (t : TypeId)
    (ho : o.op = .call { callee := .builtin .append, args := #[s, x], argTypes := #[t, t] })
    (base : Nat) (e : TypeId) (i : TypeInfo) (z : Value) (bytes : Nat) (ht : P.underlying t = some (.slice e)) (hi : P.info? e = some i) (hz : i.zero = some z)
    (hsize : i.size = 1) (hby : i.bytes = bytes) (hzs : z.cells.size = 1)
    (v : Value) (n : Nat) (xs : List Value) (hs : a.eval s = v) (hown : w.ownsRow base e 1 v n xs)
    (u : Value) (h1 : u.oneCell' = true) (b : Nat) (hx : a.eval x = .slice (some ⟨b, 0, none⟩) 1 1) (hb : b = w.heap.size)
    (h63 : n + 1 ≤ maxLen) (hbytes : (n + 1) * bytes ≤ 140737488355328) (hbase : base ≤ w.heap.size)
    (h : ∀ g cap w', w'.ownsRow base e 1 (.slice (some ⟨g, 0, none⟩) (n + 1) cap) (n + 1) (xs ++ [u]) → w.grownBy w' v.ownBlock →
      wpList P ops Q rest (a.put o.dst (.slice (some ⟨g, 0, none⟩) (n + 1) cap)) w') : wpList P ops Q (o :: rest) a (w.alloc (.cells #[u] e)) := by
  subst hb
  exact wpList_push1 hgd s x t ho base e i z bytes ht hi hz hsize hby hzs v n xs hs hown u h1 hx h63 hbytes hbase h
end Go.Proofs.YtkdajhmlhjkcdaaGreatDoor
namespace Go.Proofs.YtkdajhmlhjkcdaaGreatDoor
open Go.RowKit
theorem cgo_ne (l : List UInt8) : ∀ cur, cgo cur l ≠ [] := by
  induction l with
  | nil => intro cur; simp [cgo]
  | cons b l ih =>
    intro cur
    rw [cgo]
    split
    · simp
    exact ih _
end Go.Proofs.YtkdajhmlhjkcdaaGreatDoor
namespace Go.Proofs.YtkdajhmlhjkcdaaGreatDoor
open Go.RowKit
theorem readF_len (kind : Int) (l : List UInt8) : (readF kind l).1.length ≤ 64 := by
  unfold readF
  split
  · simp
  split
  · simp
  split
  · simp
  split
  · simp
  have := canon_le (numsF kind l); simp; omega
end Go.Proofs.YtkdajhmlhjkcdaaGreatDoor
namespace Go.Proofs.YtkdajhmlhjkcdaaGreatDoor
open Go.RowKit
def decS (n : Int) : ByteArray := mkS (Lib.itoa n)
theorem below_grow (w : World) (q : Nat) (os : Array Obj) : Below w.heap.size w (Go.Sort.grow (w.drewN q) os) :=
  ⟨rfl, rfl, rfl, by simp [Go.Sort.grow], fun i hi => by
    show ((w.drewN q).heap ++ os)[i]? = _
    rw [Array.getElem?_append_left (by show i < w.heap.size; omega)]
    rfl⟩
def PowTab (w : World) : Prop := Lib.TabIs Tryz.prog w "internal/strconv.uint64pow10" .u64 Lib.pow10Tab
set_option maxHeartbeats 400000 in
theorem Decimal_any (n : Int) (w : World) (h0 : -9223372036854775808 ≤ n) (h1 : n ≤ 9223372036854775807) (ht : PowTab w) :
    Calls Tryz.prog 60 #[.int .i64 n] w fun e w' => e = .returned (.string (decS n)) ∧ Below w.heap.size w w' := by
  have HT := Lib.hid ht
  clear ht
  go_enter Tryz.func60, Tryz.ntmps60
  go_wp2_with (go_at_call 95; refine (Tryz.strconv_Itoa n h0 h1 _ HT.out).mono ?_; rintro e w1 ⟨rfl, k, os, hw⟩; have hb1 : Below w.heap.size w w1 := (by rw [hw]; exact below_grow _ _ _); have HB := Lib.hid hb1; clear hw hb1)
  go_ret
  exact ⟨rfl, HB.out⟩
def digs (b : Nat) : List UInt8 := if b = 0 then [] else Lib.decDigits b
theorem digs_step (b : Nat) (h : 0 < b) : digs b = digs (b / 10) ++ [UInt8.ofNat (48 + b % 10)] := by
  unfold digs
  rw [if_neg (by omega), Lib.decDigits]
  by_cases h1 : b < 10
  · rw [dif_pos h1, if_pos (by omega)]
    have : b % 10 = b := Nat.mod_eq_of_lt h1
    rw [this]; rfl
  rw [dif_neg h1, if_neg (by omega)]
theorem byte_of (m : Nat) (h : m < 10) : ((UInt8.ofNat (48 + m)).toNat : Int) = 48 + m := by
  rw [UInt8.toNat_ofNat']; omega
theorem pow_bound (a b k : Nat) (hb : 0 < b) (h : b * 10 ^ k ≤ a) (ha : a ≤ 9223372036854775808) : k < 19 := by
  rcases Nat.lt_or_ge k 19 with h1 | h1
  · exact h1
  have h2 : 10 ^ 19 ≤ 10 ^ k := Nat.pow_le_pow_right (by omega) h1
  have h3 : 1 * 10 ^ k ≤ b * 10 ^ k := Nat.mul_le_mul_right _ hb
  have h4 : (10 : Nat) ^ 19 = 10000000000000000000 := by decide
  omega
theorem pow_step (a b k : Nat) (h : b * 10 ^ k ≤ a) : b / 10 * 10 ^ (k + 1) ≤ a := by
  refine Nat.le_trans ?_ h
  rw [Nat.pow_succ, Nat.mul_comm (10 ^ k) 10, ← Nat.mul_assoc]
  exact Nat.mul_le_mul_right _ (Nat.div_mul_le_self b 10)
theorem tmod_neg (b : Nat) : (-(b : Int)).tmod 10 = -((b : Int) % 10) := by rw [Int.neg_tmod, Int.tmod_eq_emod_of_nonneg (by omega)]
theorem tdiv_neg (b : Nat) : (-(b : Int)).tdiv 10 = -((b : Int) / 10) := by rw [Int.neg_tdiv, Int.tdiv_eq_ediv_of_nonneg (by omega)]
theorem own_byte {w : World} {B e n g cap : Nat} {l : List UInt8} (h : w.ownsRow B e 1 (.slice (some ⟨g, 0, none⟩) n cap) n (Lib.byteCells l)) (j : Nat) (hj : j < l.length) :
    w.cell? ⟨g, j, none⟩ = some (.int .u8 (l[j].toNat : Int)) := by
  have := h.cells (g := g) rfl j (.int .u8 (l[j].toNat : Int)) (by simp [Lib.byteCells, hj])
  rwa [row_addr] at this
theorem own_form {w : World} {B e n : Nat} {v : Value} {xs : List Value} (h : w.ownsRow B e 1 v n xs) (hn : 0 < n) : ∃ g cap, v = .slice (some ⟨g, 0, none⟩) n cap := by
  rcases h.2 with ⟨_, h0⟩ | ⟨g, cap, cur, hv, _⟩
  · omega
  exact ⟨g, cap, hv⟩
theorem digs_ne (b : Nat) (h : 0 < b) : (digs b).length ≠ 0 := by rw [digs_step b h]; simp
theorem digs_val (b : Nat) (h : 0 < b) : digs b = Lib.decDigits b := by rw [digs, if_neg (by omega)]
set_option maxHeartbeats 4000000 in
set_option maxRecDepth 100000 in
theorem Decimal01_pos (a : Nat) (ha : 0 < a) (hb : a ≤ 9223372036854775807) (w : World) :
    Calls Tryz.prog 63 #[.int .i64 (a : Int)] w fun e w' => e = .returned (.string (mkS ([] ++ Lib.decDigits a))) ∧ Below w.heap.size w w' := by
  obtain ⟨i0, hi, hz0, hz1, hz2⟩ := info_parts byte_info
  have hz : ((a : Int) == 0) = false := by rw [beq_eq_false_iff_ne]; omega
  go_enter Tryz.func63, Tryz.ntmps63
  go_wp2_with fail
  go_loopw [3, 4] (fun v m wr => ∃ (b k : Nat) (acc : List UInt8), m = .int .i64 (b : Int) ∧ b ≤ a ∧ b * 10 ^ k ≤ a ∧ acc.length = k ∧ k ≤ 19 ∧ Own w wr 5 1 v k (Lib.byteCells acc) ∧ digs b ++ acc.reverse = digs a) (fun _ m _ => (intOf m).natAbs)
  case atStart => exact ⟨a, 0, [], rfl, Nat.le_refl _, by omega, rfl, by omega, Own.empty w _ _, by simp⟩
  case round =>
  obtain ⟨b, k, acc, rfl, hba, hpow, hlen, hk, ho, hrem⟩ := hrel
  have HO := Lib.hid ho
  have HR := Lib.hid hrem
  have HP := Lib.hid hpow
  have HL := Lib.hid hlen
  clear ho hrem hpow hlen
  by_cases hb0 : 0 < b
  · have hbz : ((b : Int) != 0) = true := by rw [bne_iff_ne]; omega
    have hk19 := pow_bound a b k hb0 HP.out (by omega)
    have hmod : b % 10 < 10 := Nat.mod_lt _ (by omega)
    have HB := Lib.hid (byte_of (b % 10) hmod)
    have HS := Lib.hid (digs_step b hb0)
    have hb10 : (b : Int) % 10 < 10 := by omega
    all_goals
      go_wp2_with (at_builtin; refine wpList_push1 rfl _ _ 154 rfl w.heap.size 5 i0 (.int .u8 0) 1 Tryz.underlying154 hi hz0 hz1 hz2 rfl _ _ _ rfl HO.out.own _ rfl rfl (by unfold maxLen; omega) (by omega) HO.out.size ?_; intro gg cap w5 hown hg5; have HO' := Lib.hid (HO.out.push hown hg5); clear hown hg5)
      have HFin : Hid (Own w w5 5 1 (.slice (some ⟨gg, 0, none⟩) (k + 1) cap) (k + 1) (Lib.byteCells (acc ++ [UInt8.ofNat (48 + b % 10)]))) := by
        have h5 := HO'.out
        rw [← bytes_snoc, HB.out]
        have e : ∀ x : Int, x = 48 + ((b % 10 : Nat) : Int) → Own w w5 5 1 (.slice (some ⟨gg, 0, none⟩) (k + 1) cap) (k + 1) (Lib.byteCells acc ++ [Value.int .u8 x]) → Own w w5 5 1 (.slice (some ⟨gg, 0, none⟩) (k + 1) cap) (k + 1) (Lib.byteCells acc ++ [Value.int .u8 (48 + ((b % 10 : Nat) : Int))]) := by
          rintro x rfl h; exact h
        exact e _ (by push_cast; omega) h5
      clear HO'
      go_wp2_with fail
      go_roundw
      case rel => exact ⟨b / 10, k + 1, acc ++ [UInt8.ofNat (48 + b % 10)], by congr 1 <;> first | done | (push_cast; omega), by omega, pow_step a b k HP.out, by simp [HL.out], by omega, HFin.out, by rw [← HR.out, HS.out]; simp⟩
      case measure => simp [intOf]; omega
  have hbz : ((b : Int) != 0) = false := by rw [bne_eq_false_iff_eq]; omega
  have HB0 : Hid (b = 0) := Lib.hid (by omega)
  have HR2 : Hid (acc.reverse = Lib.decDigits a) := Lib.hid (by rw [← digs_val a ha, ← HR.out, HB0.out]; rfl)
  have hkp : 0 < k := by
    have h1 := HR.out
    have h2 := digs_ne a ha
    have h3 := HL.out
    rcases Nat.eq_zero_or_pos k with h | h
    · rw [h] at h3
      have h4 : acc = [] := List.eq_nil_of_length_eq_zero h3
      rw [h4, HB0.out] at h1
      rw [← h1] at h2
      exact absurd rfl h2
    exact h
  obtain ⟨gd, cd, hv⟩ := own_form HO.out.own hkp
  subst hv
  have HD : Hid (∀ j (h : j < acc.length), wr.cell? ⟨gd, j, none⟩ = some (.int .u8 (acc[j].toNat : Int))) := Lib.hid (own_byte HO.out.own)
  have hgd := (HO.out.own.lt gd rfl).2
  obtain ⟨wm, rfl⟩ : ∃ wm : World, wm = wr := ⟨_, rfl⟩
  have HE := Lib.hid (Own.empty wm 5 1)
  have HBW := Lib.hid HO.out.below
  clear HO HR hb0 HP hba
  go_wp2_with fail
  go_loopw [6, 7] (fun v i W2 => ∃ (j : Int) (n : Nat), -1 ≤ j ∧ j < k ∧ i = .int .i64 j ∧ (n : Int) = 0 + (k - 1 - j) ∧ Own wm W2 5 1 v n (Lib.byteCells (([] : List UInt8) ++ acc.reverse.take (k - 1 - j).toNat))) (fun _ i _ => (intOf i + 1).toNat)
  case atStart => exact ⟨k - 1, 0, by omega, by omega, rfl, by omega, by simpa [Lib.byteCells] using HE.out⟩
  case round =>
  obtain ⟨j, n, hj1, hj2, rfl, hn, ho⟩ := hrel
  have HO := Lib.hid ho
  clear ho
  by_cases hj0 : 0 ≤ j
  · obtain ⟨q, rfl⟩ := Int.eq_ofNat_of_zero_le hj0
    have hq : q < acc.length := by rw [HL.out]; omega
    have hcell := (HO.out.below.cell (p := ⟨gd, q, none⟩) hgd).trans (HD.out q hq)
    have HTk : Hid (acc.reverse.take (k - 1 - (q : Int)).toNat ++ [acc[q]] = acc.reverse.take (k - 1 - ((q : Int) - 1)).toNat) := Lib.hid (by
      have e1 : (k - 1 - (q : Int)).toNat = k - 1 - q := by omega
      have e2 : (k - 1 - ((q : Int) - 1)).toNat = (k - 1 - q) + 1 := by omega
      have hl : k - 1 - q < acc.reverse.length := by rw [List.length_reverse, HL.out]; omega
      rw [e1, e2, List.take_succ_eq_append_getElem hl]
      congr 2
      rw [List.getElem_reverse]
      congr 1
      have := HL.out; omega)
    have hnb : n ≤ 100 := by omega
    go_wp2_with (at_builtin; refine wpList_push1 rfl _ _ 154 rfl wm.heap.size 5 i0 (.int .u8 0) 1 Tryz.underlying154 hi hz0 hz1 hz2 rfl _ _ _ rfl HO.out.own _ rfl rfl (by unfold maxLen; omega) (by omega) HO.out.size ?_; intro gg cap w5 hown hg5; have HO' := Lib.hid (HO.out.push hown hg5); clear hown hg5)
    go_roundw
    case rel =>
      refine ⟨(q : Int) - 1, n + 1, by omega, by omega, rfl, by omega, ?_⟩
      have h5 := HO'.out
      rw [bytes_snoc, List.append_assoc, HTk.out] at h5
      exact h5
    case measure => simp [intOf] <;> omega
  obtain rfl : j = -1 := by omega
  have HT2 : Hid (([] : List UInt8) ++ acc.reverse.take (k - 1 - (-1 : Int)).toNat = ([] : List UInt8) ++ Lib.decDigits a) := Lib.hid (by
    have e2 : (k - 1 - (-1 : Int)).toNat = k := by omega
    rw [e2, ← HR2.out]
    congr 1
    exact List.take_of_length_le (by rw [List.length_reverse, HL.out]; omega))
  have hcv := run_string_of_own HO.out.own 154 9 Tryz.underlying154 Tryz.underlying5 Tryz.underlying9
  rw [HT2.out] at hcv
  go_wp2_with fail
  go_ret
  exact ⟨rfl, HBW.out.trans (HO.out.below.mono HBW.out.size)⟩
set_option maxHeartbeats 4000000 in
set_option maxRecDepth 100000 in
theorem Decimal01_neg (a : Nat) (ha : 0 < a) (hb : a ≤ 9223372036854775808) (w : World) :
    Calls Tryz.prog 63 #[.int .i64 (-(a : Int))] w fun e w' => e = .returned (.string (mkS ([45] ++ Lib.decDigits a))) ∧ Below w.heap.size w w' := by
  obtain ⟨i0, hi, hz0, hz1, hz2⟩ := info_parts byte_info
  have hz : ((-(a : Int)) == 0) = false := by rw [beq_eq_false_iff_ne]; omega
  go_enter Tryz.func63, Tryz.ntmps63
  go_wp2_with fail
  go_loopw [3, 4] (fun v m wr => ∃ (b k : Nat) (acc : List UInt8), m = .int .i64 (-(b : Int)) ∧ b ≤ a ∧ b * 10 ^ k ≤ a ∧ acc.length = k ∧ k ≤ 19 ∧ Own w wr 5 1 v k (Lib.byteCells acc) ∧ digs b ++ acc.reverse = digs a) (fun _ m _ => (intOf m).natAbs)
  case atStart => exact ⟨a, 0, [], rfl, Nat.le_refl _, by omega, rfl, by omega, Own.empty w _ _, by simp⟩
  case round =>
  obtain ⟨b, k, acc, rfl, hba, hpow, hlen, hk, ho, hrem⟩ := hrel
  have HO := Lib.hid ho
  have HR := Lib.hid hrem
  have HP := Lib.hid hpow
  have HL := Lib.hid hlen
  clear ho hrem hpow hlen
  by_cases hb0 : 0 < b
  · have hbz : ((-(b : Int)) != 0) = true := by rw [bne_iff_ne]; omega
    have hk19 := pow_bound a b k hb0 HP.out (by omega)
    have hmod : b % 10 < 10 := Nat.mod_lt _ (by omega)
    have HB := Lib.hid (byte_of (b % 10) hmod)
    have HS := Lib.hid (digs_step b hb0)
    have e1 := tmod_neg b
    have e2 := tdiv_neg b
    have hb10 : (b : Int) % 10 < 10 := by omega
    by_cases hm0 : 0 < (b : Int) % 10
    all_goals
      go_wp2_with (at_builtin; refine wpList_push1 rfl _ _ 154 rfl w.heap.size 5 i0 (.int .u8 0) 1 Tryz.underlying154 hi hz0 hz1 hz2 rfl _ _ _ rfl HO.out.own _ rfl rfl (by unfold maxLen; omega) (by omega) HO.out.size ?_; intro gg cap w5 hown hg5; have HO' := Lib.hid (HO.out.push hown hg5); clear hown hg5)
      have HFin : Hid (Own w w5 5 1 (.slice (some ⟨gg, 0, none⟩) (k + 1) cap) (k + 1) (Lib.byteCells (acc ++ [UInt8.ofNat (48 + b % 10)]))) := by
        have h5 := HO'.out
        rw [← bytes_snoc, HB.out]
        have e : ∀ x : Int, x = 48 + ((b % 10 : Nat) : Int) → Own w w5 5 1 (.slice (some ⟨gg, 0, none⟩) (k + 1) cap) (k + 1) (Lib.byteCells acc ++ [Value.int .u8 x]) → Own w w5 5 1 (.slice (some ⟨gg, 0, none⟩) (k + 1) cap) (k + 1) (Lib.byteCells acc ++ [Value.int .u8 (48 + ((b % 10 : Nat) : Int))]) := by
          rintro x rfl h; exact h
        exact e _ (by push_cast; omega) h5
      clear HO'
      go_wp2_with fail
      go_roundw
      case rel => exact ⟨b / 10, k + 1, acc ++ [UInt8.ofNat (48 + b % 10)], by congr 1 <;> first | done | (push_cast; omega), by omega, pow_step a b k HP.out, by simp [HL.out], by omega, HFin.out, by rw [← HR.out, HS.out]; simp⟩
      case measure => simp [intOf]; omega
  have hbz : ((-(b : Int)) != 0) = false := by rw [bne_eq_false_iff_eq]; omega
  have HB0 : Hid (b = 0) := Lib.hid (by omega)
  have HR2 : Hid (acc.reverse = Lib.decDigits a) := Lib.hid (by rw [← digs_val a ha, ← HR.out, HB0.out]; rfl)
  have hkp : 0 < k := by
    have h1 := HR.out
    have h2 := digs_ne a ha
    have h3 := HL.out
    rcases Nat.eq_zero_or_pos k with h | h
    · rw [h] at h3
      have h4 : acc = [] := List.eq_nil_of_length_eq_zero h3
      rw [h4, HB0.out] at h1
      rw [← h1] at h2
      exact absurd rfl h2
    exact h
  obtain ⟨gd, cd, hv⟩ := own_form HO.out.own hkp
  subst hv
  have HD : Hid (∀ j (h : j < acc.length), wr.cell? ⟨gd, j, none⟩ = some (.int .u8 (acc[j].toNat : Int))) := Lib.hid (own_byte HO.out.own)
  have hgd := (HO.out.own.lt gd rfl).2
  obtain ⟨wm, rfl⟩ : ∃ wm : World, wm = wr := ⟨_, rfl⟩
  have HE := Lib.hid (Own.empty wm 5 1)
  have HBW := Lib.hid HO.out.below
  clear HO HR hb0 HP hba
  go_wp2_with (at_builtin; refine wpList_push1_at rfl _ _ 154 rfl wm.heap.size 5 i0 (.int .u8 0) 1 Tryz.underlying154 hi hz0 hz1 hz2 rfl _ _ _ rfl HE.out.own _ rfl _ rfl (by simp) (by unfold maxLen; omega) (by omega) HE.out.size ?_; intro gg cap w5 hown hg5; have HE' := Lib.hid (HE.out.push hown hg5); clear hown hg5)
  go_loopw [6, 7] (fun v i W2 => ∃ (j : Int) (n : Nat), -1 ≤ j ∧ j < k ∧ i = .int .i64 j ∧ (n : Int) = 1 + (k - 1 - j) ∧ Own wm W2 5 1 v n (Lib.byteCells ([45] ++ acc.reverse.take (k - 1 - j).toNat))) (fun _ i _ => (intOf i + 1).toNat)
  case atStart => exact ⟨k - 1, 1, by omega, by omega, rfl, by omega, by simpa [Lib.byteCells] using HE'.out⟩
  case round =>
  obtain ⟨j, n, hj1, hj2, rfl, hn, ho⟩ := hrel
  have HO := Lib.hid ho
  clear ho
  by_cases hj0 : 0 ≤ j
  · obtain ⟨q, rfl⟩ := Int.eq_ofNat_of_zero_le hj0
    have hq : q < acc.length := by rw [HL.out]; omega
    have hcell := (HO.out.below.cell (p := ⟨gd, q, none⟩) hgd).trans (HD.out q hq)
    have HTk : Hid (acc.reverse.take (k - 1 - (q : Int)).toNat ++ [acc[q]] = acc.reverse.take (k - 1 - ((q : Int) - 1)).toNat) := Lib.hid (by
      have e1 : (k - 1 - (q : Int)).toNat = k - 1 - q := by omega
      have e2 : (k - 1 - ((q : Int) - 1)).toNat = (k - 1 - q) + 1 := by omega
      have hl : k - 1 - q < acc.reverse.length := by rw [List.length_reverse, HL.out]; omega
      rw [e1, e2, List.take_succ_eq_append_getElem hl]
      congr 2
      rw [List.getElem_reverse]
      congr 1
      have := HL.out; omega)
    have hnb : n ≤ 100 := by omega
    go_wp2_with (at_builtin; refine wpList_push1 rfl _ _ 154 rfl wm.heap.size 5 i0 (.int .u8 0) 1 Tryz.underlying154 hi hz0 hz1 hz2 rfl _ _ _ rfl HO.out.own _ rfl rfl (by unfold maxLen; omega) (by omega) HO.out.size ?_; intro gg cap w5 hown hg5; have HO' := Lib.hid (HO.out.push hown hg5); clear hown hg5)
    go_roundw
    case rel =>
      refine ⟨(q : Int) - 1, n + 1, by omega, by omega, rfl, by omega, ?_⟩
      have h5 := HO'.out
      rw [bytes_snoc, List.append_assoc, HTk.out] at h5
      exact h5
    case measure => simp [intOf] <;> omega
  obtain rfl : j = -1 := by omega
  have HT2 : Hid ([45] ++ acc.reverse.take (k - 1 - (-1 : Int)).toNat = [45] ++ Lib.decDigits a) := Lib.hid (by
    have e2 : (k - 1 - (-1 : Int)).toNat = k := by omega
    rw [e2, ← HR2.out]
    congr 1
    exact List.take_of_length_le (by rw [List.length_reverse, HL.out]; omega))
  have hcv := run_string_of_own HO.out.own 154 9 Tryz.underlying154 Tryz.underlying5 Tryz.underlying9
  rw [HT2.out] at hcv
  go_wp2_with fail
  go_ret
  exact ⟨rfl, HBW.out.trans (HO.out.below.mono HBW.out.size)⟩
end Go.Proofs.YtkdajhmlhjkcdaaGreatDoor
namespace Go.Proofs.YtkdajhmlhjkcdaaGreatDoor
open Go.RowKit Go.Maps
theorem group_inv {P : Fl → Prop} {end_ : Int} {ok : List ByteArray → Bool} {inn : Fl → Int → List ByteArray → Except Int Fl} (hi : ∀ F l r F', P F → inn F l r = .ok F' → P F') : ∀ (n : Nat) (S S' : Sx), P S.fl → groupR end_ ok inn n S = .ok S' → P S'.fl
  | 0, S, S', h0, h => by rw [groupR] at h; cases h; exact h0
  | n + 1, S, S', h0, h => by
    rw [groupR] at h
    split at h
    · cases h
    · split at h
      · split at h
        · cases h
        · rename_i hF
          exact group_inv hi n _ S' (hi _ _ _ _ h0 hF) h
      · cases h
def AffR (w : World) (F : Fl) (a : AV) : Prop := Rd w 2 a.reps F.reps.length (repCells F.reps) ∧ (∃ us : List Value, Rd w 1 a.als F.als.length us ∧ us.length = F.als.length ∧ ∀ (k : Nat) u b, us[k]? = some u → F.als[k]? = some b → FS w u b) ∧
  Rd w 5 a.cls F.cls.length (clsCells F.cls) ∧ ∃ rs : List (Rl × Value), rs.map (·.1) = F.rls ∧ Rd w 7 a.rls rs.length (rlsCells rs) ∧ ∀ r ∈ rs, FS w r.2 r.1.next
theorem AffN.rd {B : Nat} {w : World} {F : Fl} {a : AV} (h : AffN B w F a) : AffR w F a := by
  obtain ⟨us, h1, h2, h3⟩ := h.als
  obtain ⟨rs, h4, h5, h6⟩ := h.rls
  exact ⟨Rd.of_own h.reps, ⟨us, Rd.of_own h1, h2, fun k u b hu hb => (h3 k u b hu hb).fs⟩, Rd.of_own h.cls, rs, h4, Rd.of_own h5, fun r hr => (h6 r hr).fs⟩
end Go.Proofs.YtkdajhmlhjkcdaaGreatDoor
namespace Go.Proofs.YtkdajhmlhjkcdaaGreatDoor
open Go.RowKit Go.Maps
theorem Rd.at_ {w : World} {size n : Nat} {v : Value} {xs : List Value} (h : Rd w size v n xs) (hn : 0 < n) : ∃ g o cap, v = .slice (some ⟨g, o, none⟩) n cap ∧ ∀ j u, xs[j]? = some u → w.cell? ⟨g, o + j, none⟩ = some u := by
  obtain ⟨-, A, cap, rfl, -, h2⟩ := h
  obtain ⟨g, o, rfl, h3⟩ := h2.resolve_left (by omega)
  exact ⟨g, o, cap, rfl, h3⟩
end Go.Proofs.YtkdajhmlhjkcdaaGreatDoor
namespace Go.Proofs.YtkdajhmlhjkcdaaGreatDoor
open Go.RowKit Go.Maps
abbrev wakeT : ByteArray := ⟨#[83, 70, 88, 32, 65, 32, 89, 32, 49, 10, 83, 70, 88, 32, 65, 32, 121, 32, 105, 101, 115, 32, 91, 94, 97, 101, 105, 111, 117, 93, 121, 10]⟩
abbrev tIES : ByteArray := ⟨#[105, 101, 115]⟩
abbrev tCND : ByteArray := ⟨#[91, 94, 97, 101, 105, 111, 117, 93, 121]⟩
theorem wake_rows : rowsOf (eachOf wakeT.data.toList) = [(1, [kSFX, ⟨#[65]⟩, ⟨#[89]⟩, ⟨#[49]⟩]), (2, [kSFX, ⟨#[65]⟩, ⟨#[121]⟩, tIES, tCND])] := by kernel_rfl
theorem wake_lines : (linesOf wakeT.data.toList).length = 2 := by kernel_rfl
def wakeC : Cl := ⟨65, 2, true, 0, 1⟩
theorem wake_piece : pieceR true ⟨#[121]⟩ = .ok ⟨#[121]⟩ := by
  unfold pieceR
  rw [if_neg (by rintro ⟨-, h⟩; revert h; decide)]
  have hw : wordR (⟨#[121]⟩ : ByteArray).data.toList = ([121], [], false, 0) := by
    unfold wordR
    rw [wgo_more _ _ _ (by decide) (by decide), wgo_nil]
    rfl
  rw [hw]
  rfl
theorem wake_rule (F : Fl) : ∃ cond, ruleR F wakeC 2 [kSFX, ⟨#[65]⟩, ⟨#[121]⟩, tIES, tCND] = .ok ⟨2, 65, true, ⟨#[121]⟩, tIES, cond, [], 2⟩ := by
  unfold ruleR
  rw [if_neg (by simp)]
  have h2 : fieldAt [kSFX, ⟨#[65]⟩, ⟨#[121]⟩, tIES, tCND] 2 = ⟨#[121]⟩ := rfl
  have h3 : fieldAt [kSFX, ⟨#[65]⟩, ⟨#[121]⟩, tIES, tCND] 3 = tIES := rfl
  rw [h2, h3, wake_piece]
  have hw : wordR tIES.data.toList = ([105, 101, 115], [], false, 0) := by
    unfold wordR
    rw [wgo_more _ _ _ (by decide) (by decide), wgo_more _ _ _ (by decide) (by decide), wgo_more _ _ _ (by decide) (by decide), wgo_nil]
    rfl
  have ha : addR [105, 101, 115] = .ok tIES := by kernel_rfl
  obtain ⟨x, hx⟩ : ∃ x, condOf [kSFX, ⟨#[65]⟩, ⟨#[121]⟩, tIES, tCND] = .ok x := by
    have h : (match condOf [kSFX, ⟨#[65]⟩, ⟨#[121]⟩, tIES, tCND] with | .ok _ => true | .error _ => false) = true := by kernel_rfl
    cases hc : condOf [kSFX, ⟨#[65]⟩, ⟨#[121]⟩, tIES, tCND] with
    | error e => rw [hc] at h; cases h
    | ok x => exact ⟨x, rfl⟩
  refine ⟨x, ?_⟩
  dsimp only
  rw [hw]
  dsimp only
  rw [if_neg (by decide), ha]
  have hn : nextR F wakeC.kind [] false = .ok [] := rfl
  dsimp only
  rw [hn, hx]
  rfl
theorem wake_aff : ∃ r, affR wakeT.data.toList = .ok ⟨1, ⟨#[]⟩, ⟨#[]⟩, 0, 0, 0, 0, 0, 3, [], [], [wakeC], [r]⟩ ∧ r.add = tIES := by
  obtain ⟨cond, hc⟩ := wake_rule { fl0 with cls := [wakeC] }
  refine ⟨_, ?_, show (⟨2, 65, true, ⟨#[121]⟩, tIES, cond, [], 2⟩ : Rl).add = tIES from rfl⟩
  rw [affR_small _ (by decide), wake_rows, wake_lines]
  have hk : keyN (fieldAt [kSFX, ⟨#[65]⟩, ⟨#[89]⟩, ⟨#[49]⟩] 0) = 12 := by kernel_rfl
  have hfr : freshR fl0 ⟨#[65]⟩ = .ok 65 := by kernel_rfl
  have hne : numErr (⟨#[49]⟩ : ByteArray).data.toList 1024 = 0 := by kernel_rfl
  have hnv : numVal (⟨#[49]⟩ : ByteArray).data.toList 1024 = 1 := by kernel_rfl
  have hcl : classR 3 ⟨fl0, [(2, [kSFX, ⟨#[65]⟩, ⟨#[121]⟩, tIES, tCND])], [], 1⟩ [kSFX, ⟨#[65]⟩, ⟨#[89]⟩, ⟨#[49]⟩] = .ok ⟨{ { fl0 with cls := [wakeC] } with rls := [⟨2, 65, true, ⟨#[121]⟩, tIES, cond, [], 2⟩] }, [], [], 2⟩ := by
    unfold classR
    have h1 : fieldAt [kSFX, ⟨#[65]⟩, ⟨#[89]⟩, ⟨#[49]⟩] 1 = ⟨#[65]⟩ := rfl
    have h2 : fieldAt [kSFX, ⟨#[65]⟩, ⟨#[89]⟩, ⟨#[49]⟩] 2 = ⟨#[89]⟩ := rfl
    have h3 : fieldAt [kSFX, ⟨#[65]⟩, ⟨#[89]⟩, ⟨#[49]⟩] 3 = ⟨#[49]⟩ := rfl
    have h0 : fieldAt [kSFX, ⟨#[65]⟩, ⟨#[89]⟩, ⟨#[49]⟩] 0 = kSFX := rfl
    rw [h1, h2, h3, h0, hfr]
    dsimp only
    rw [if_neg (by simp), hne, hnv, if_neg (by decide), if_neg (by decide)]
    show groupR 3 _ (ruleIn wakeC) 1 ⟨{ fl0 with cls := [wakeC] }, [(2, [kSFX, ⟨#[65]⟩, ⟨#[121]⟩, tIES, tCND])], [], 1⟩ = _
    rw [groupR]
    dsimp only
    rw [if_pos (by decide)]
    unfold ruleIn
    rw [hc]
    rfl
  have hst : stepR 3 ⟨fl0, [(1, [kSFX, ⟨#[65]⟩, ⟨#[89]⟩, ⟨#[49]⟩]), (2, [kSFX, ⟨#[65]⟩, ⟨#[121]⟩, tIES, tCND])], [], 0⟩ 1 [kSFX, ⟨#[65]⟩, ⟨#[89]⟩, ⟨#[49]⟩] [(2, [kSFX, ⟨#[65]⟩, ⟨#[121]⟩, tIES, tCND])] = .ok ⟨{ { fl0 with cls := [wakeC] } with rls := [⟨2, 65, true, ⟨#[121]⟩, tIES, cond, [], 2⟩] }, [], [kSFX], 2⟩ := by
    unfold stepR
    rw [hk, if_neg (by decide), if_neg (by decide), if_neg (by decide)]
    have hh : headR 3 ⟨fl0, [(2, [kSFX, ⟨#[65]⟩, ⟨#[121]⟩, tIES, tCND])], [], 1⟩ [kSFX, ⟨#[65]⟩, ⟨#[89]⟩, ⟨#[49]⟩] 12 = _ := hcl
    rw [hh]
    rfl
  show affEnd (readGo 3 2 ⟨fl0, [(1, [kSFX, ⟨#[65]⟩, ⟨#[89]⟩, ⟨#[49]⟩]), (2, [kSFX, ⟨#[65]⟩, ⟨#[121]⟩, tIES, tCND])], [], 0⟩) = _
  rw [readGo]
  dsimp only
  rw [hst]
  rfl
end Go.Proofs.YtkdajhmlhjkcdaaGreatDoor
namespace Go.Proofs.YtkdajhmlhjkcdaaGreatDoor
open Go.RowKit Go.Maps
theorem one_of_map {rs : List (Rl × Value)} {r : Rl} (h : rs.map (·.1) = [r]) : ∃ u, rs = [(r, u)] := by
  match rs, h with
  | [x], h => exact ⟨x.2, by simp at h; rw [← h]⟩
set_option maxHeartbeats 4000000 in
set_option maxRecDepth 100000 in
theorem so_wakes (m0 : Int) (w : World) (h0 : 0 < w.heap.size) (hm : w.cell? ⟨0, 0, none⟩ = some (.int .i64 m0)) :
    Calls Tryz.prog 14 #[] w fun e w' => e = .returned (.bool true) ∧ Below w.heap.size w w' := by
  obtain ⟨r, hr, hra⟩ := wake_aff
  have HR := so_affRead wakeT m0 w h0 hm
  unfold ReadP at HR
  rw [hr] at HR
  dsimp only at HR
  have HRd := Lib.hid HR
  have HRa := Lib.hid hra
  clear HR hr hra hm h0
  go_enter Tryz.func14, Tryz.ntmps14
  go_upto_region 4 with (go_at_call 12; refine HRd.out.mono ?_; rintro e w1 ⟨hb1, fb, rfl, hf, hok, hfb⟩; have HB1 := Lib.hid hb1; have HF1 := Lib.hid hf; have HOk := Lib.hid hok; clear hb1 hf hok hfb)
  go_upto_region 5 with (go_at_call 16; refine (so_Affixes fb _ _ (HF1.out.keep ((Below.refl _ _).alloc (Nat.le_refl _) _)) HOk.out).mono ?_; rintro e w2 ⟨a, rfl, hn, hb2⟩; have HB2 : Hid (Below w.heap.size w w2) := Lib.hid (HB1.out.trans ((((Below.refl _ _).alloc (Nat.le_refl _) _).trans (hb2.mono (by simp))).mono HB1.out.size)); obtain ⟨vr, va, vc, vl⟩ := a; obtain ⟨⟨-, Ar, kr, rfl, -⟩, ⟨us, ⟨-, Aa, ka, rfl, -⟩, -⟩, hcl, rs, hm, hrl, -⟩ := hn.rd; obtain ⟨u, rfl⟩ := one_of_map hm; obtain ⟨gl, ol, kl, rfl, hc⟩ := hrl.at_ (by simp); have d4 : w2.cell? ⟨gl, ol + 4, none⟩ = some (.string r.add) := hc 4 _ rfl; rw [HRa.out] at d4; have hgl := World.block_lt_of_cell? _ _ d4; obtain ⟨-, Ac, kc, rfl, -⟩ := hcl; clear hn hm hrl hc hb2; unfold affV affA)
  go_wp2_with fail
  go_ret
  exact ⟨rfl, HB2.out.alloc HB2.out.size _⟩
end Go.Proofs.YtkdajhmlhjkcdaaGreatDoor
namespace Go.Proofs.YtkdajhmlhjkcdaaGreatDoor
open Go.RowKit Go.Maps
theorem FileAt.fileF {w : World} {fb : Nat} {F : Fl} (h : FileAt w fb F) (hok : FlOk F) : ∃ av us, FileF w fb F.kind av us F.als := by
  obtain ⟨i, v, n, h0, h1, -, -, ⟨us, h2, h3, h4⟩, -⟩ := h.mem
  exact ⟨v.als, us, by rw [Lib.cell_of_heap h1]; rfl, by rw [Lib.cell_of_heap h1]; rfl, h2, h4, fun a ha => ⟨(hok.sets a ha).1, canon_len (hok.sets a ha).1 (hok.sets a ha).2⟩⟩
theorem so_lFlags (fb : Nat) (F : Fl) (s : ByteArray) (m0 : Int) (w : World) (h : FileAt w fb F) (hok : FlOk F) (hs : s.size ≤ 1048576) (hm : w.cell? ⟨0, 0, none⟩ = some (.int .i64 m0)) :
    Calls Tryz.prog 21 #[.pointer (some ⟨fb, 0, none⟩), .string s] w fun e w' => ∃ v, e = .returned (.tuple #[v, .int .i64 (flagsR F s).2]) ∧ FN w.heap.size w' v (flagsR F s).1 ∧ Below w.heap.size w w' := by
  obtain ⟨av, us, hf⟩ := h.fileF hok
  have := so_fileFlags fb F.kind m0 av us F.als s w hf hok.als (by omega) hm
  rw [← flagsR_eq] at this
  exact this
theorem FlOk.flags_bd {F : Fl} (h : FlOk F) (s : ByteArray) : (∀ x ∈ (flagsR F s).1, 0 ≤ x ∧ x ≤ 65535) ∧ (flagsR F s).1.length ≤ 65536 := by
  have h1 := flagsR_bd F s (fun a ha => (h.sets a ha).2)
  exact ⟨h1, canon_len (flagsR_canon F s (fun a ha => (h.sets a ha).1)) h1⟩
end Go.Proofs.YtkdajhmlhjkcdaaGreatDoor
namespace Go.Proofs.YtkdajhmlhjkcdaaGreatDoor
open Go.RowKit
set_option maxHeartbeats 1000000 in
theorem Decimal01_any (n : Int) (w : World) (h0 : -9223372036854775808 ≤ n) (h1 : n ≤ 9223372036854775807) :
    Calls Tryz.prog 63 #[.int .i64 n] w fun e w' => e = .returned (.string (decS n)) ∧ Below w.heap.size w w' := by
  rcases (show n = 0 ∨ 0 < n ∨ n < 0 by omega) with h | h | h
  · subst h
    have e : decS 0 = ⟨#[48]⟩ := by
      unfold decS Lib.itoa
      rw [if_neg (by omega), show (0 : Int).toNat = 0 from rfl, Lib.decDigits_one (by omega)]; rfl
    rw [e]
    go_enter Tryz.func63, Tryz.ntmps63
    go_wp2_with fail
    go_ret
    exact ⟨rfl, Below.refl _ _⟩
  · obtain ⟨a, rfl⟩ := Int.eq_ofNat_of_zero_le (show 0 ≤ n by omega)
    have e : decS (a : Int) = mkS ([] ++ Lib.decDigits a) := by unfold decS Lib.itoa; rw [if_neg (by omega)]; simp
    rw [e]
    exact Decimal01_pos a (by omega) (by omega) w
  obtain ⟨a, ha⟩ := Int.eq_ofNat_of_zero_le (show 0 ≤ -n by omega)
  obtain rfl : n = -(a : Int) := by omega
  have e : decS (-(a : Int)) = mkS ([45] ++ Lib.decDigits a) := by unfold decS Lib.itoa; rw [if_pos (by omega)]; simp
  rw [e]
  exact Decimal01_neg a (by omega) (by omega) w
theorem dig_byte (m : Nat) (h : m < 10) : digB (UInt8.ofNat (48 + m)) = true ∧ (UInt8.ofNat (48 + m)).toNat - 48 = m := by
  have h1 : (UInt8.ofNat (48 + m)).toNat = 48 + m := by rw [UInt8.toNat_ofNat']; omega
  exact ⟨by simp only [digB, h1, decide_eq_true_eq]; omega, by omega⟩
theorem dec_val (u : Nat) : valOf (Lib.decDigits u) = u ∧ (Lib.decDigits u).all digB = true ∧ Lib.decDigits u ≠ [] ∧ (0 < u → (Lib.decDigits u).head? ≠ some 48) := by
  induction u using Nat.strongRecOn with
  | _ u ih =>
    rw [Lib.decDigits]
    by_cases h : u < 10
    · rw [dif_pos h]
      obtain ⟨h1, h2⟩ := dig_byte u h
      refine ⟨by simp only [valOf, List.foldl_cons, List.foldl_nil]; omega, by rw [List.all_cons, h1]; rfl, by simp, fun hu => ?_⟩
      simp only [List.head?_cons, ne_eq, Option.some.injEq]
      intro e
      have := congrArg UInt8.toNat e
      rw [UInt8.toNat_ofNat'] at this
      have h48 : (48 : UInt8).toNat = 48 := rfl
      omega
    rw [dif_neg h]
    obtain ⟨i1, i2, i3, i4⟩ := ih (u / 10) (by omega)
    obtain ⟨h1, h2⟩ := dig_byte (u % 10) (Nat.mod_lt _ (by omega))
    refine ⟨by rw [valOf_snoc, i1, h2]; omega, by rw [List.all_append, i2, List.all_cons, h1]; rfl, by simp, fun hu => ?_⟩
    rw [show ∀ (l m : List UInt8), l ≠ [] → (l ++ m).head? = l.head? from fun l m h => by cases l <;> simp_all] <;> try exact i3
    exact i4 (by omega)
theorem num_dec (u : Nat) : numOk (Lib.decDigits u) = true ∧ valOf (Lib.decDigits u) = u := by
  obtain ⟨h1, h2, h3, h4⟩ := dec_val u
  refine ⟨?_, h1⟩
  have e1 : (Lib.decDigits u).isEmpty = false := by cases h : Lib.decDigits u <;> simp_all
  have e2 : (decide (1 < (Lib.decDigits u).length) && (Lib.decDigits u).head? == some 48) = false := by
    rcases Nat.eq_zero_or_pos u with rfl | hu
    · rw [Lib.decDigits_one (by omega)]; rfl
    have := h4 hu
    simp [this]
  rw [numOk, e1, e2, h2]; rfl
end Go.Proofs.YtkdajhmlhjkcdaaGreatDoor
namespace Go.Proofs.YtkdajhmlhjkcdaaGreatDoor
open Go.RowKit
def textF (kind x : Int) : List UInt8 :=
  if kind = 1 then [UInt8.ofNat (x.toNat % 256)] else if kind = 2 then [UInt8.ofNat (x.toNat / 256), UInt8.ofNat (x.toNat % 256)] else Lib.decDigits x.toNat
def goodF (kind x : Int) : Bool := decide (numF kind (textF kind x) = x ∧ x ≠ 0)
def sepF (kind : Int) : List UInt8 := if kind = 3 then [44] else []
def joinF (kind : Int) (cs : List Int) : List UInt8 := Lib.join (cs.map (textF kind)) (sepF kind)
def showF (kind : Int) (cs : List Int) : List UInt8 × Int :=
  if kindOk kind = false then ([], 30)
  else if cs.all (goodF kind) = false then ([], 31)
  else if 64 < cs.length then ([], 32)
  else (joinF kind cs, 0)
theorem textF_1 (x : Int) : textF 1 x = [UInt8.ofNat (x.toNat % 256)] := rfl
theorem textF_2 (x : Int) : textF 2 x = [UInt8.ofNat (x.toNat / 256), UInt8.ofNat (x.toNat % 256)] := rfl
theorem textF_3 (x : Int) : textF 3 x = Lib.decDigits x.toNat := rfl
theorem of_nat (n : Nat) (h : n < 256) : (UInt8.ofNat n).toNat = n := by rw [UInt8.toNat_ofNat']; omega
theorem num_3 (x : Int) (h0 : 0 ≤ x) (h1 : x ≤ 65535) : numF 3 (textF 3 x) = x := by
  obtain ⟨h2, h3⟩ := num_dec x.toNat
  rw [textF_3, numF_3, numVal, if_pos ⟨h2, by rw [h3]; omega⟩, h3]
  omega
theorem good_num (kind : Int) (hk : kind = 1 ∨ kind = 2 ∨ kind = 3) (l : List UInt8) (h : numF kind l ≠ 0) : goodF kind (numF kind l) = true := by
  unfold goodF
  rw [decide_eq_true_eq]
  refine ⟨?_, h⟩
  obtain ⟨b0, b1⟩ := numF_bd kind l
  rcases hk with rfl | rfl | rfl
  · obtain ⟨a, rfl⟩ : ∃ a, l = [a] := by
      match l with
      | [a] => exact ⟨a, rfl⟩
      | [] => exact absurd (numF1_no [] (by simp)) h
      | a :: b :: r => exact absurd (numF1_no (a :: b :: r) (by simp)) h
    rw [numF_1] at h ⊢
    have hs : signB a = true := by
      cases hq : signB a
      · rw [hq] at h; simp at h
      rfl
    rw [if_pos hs, textF_1]
    have := a.toNat_lt
    rw [show ((a.toNat : Int)).toNat % 256 = a.toNat by omega, UInt8.ofNat_toNat, numF_1, if_pos hs]
  · obtain ⟨a, b, rfl⟩ : ∃ a b, l = [a, b] := by
      match l with
      | [a, b] => exact ⟨a, b, rfl⟩
      | [] => exact absurd (numF2_no [] (by simp)) h
      | [a] => exact absurd (numF2_no [a] (by simp)) h
      | a :: b :: c :: r => exact absurd (numF2_no (a :: b :: c :: r) (by simp)) h
    rw [numF_2] at h ⊢
    have hs : signB a = true ∧ signB b = true := by
      cases hq : signB a <;> cases hq2 : signB b <;> simp [hq, hq2] at h ⊢
    rw [if_pos hs, textF_2]
    have := a.toNat_lt
    have := b.toNat_lt
    rw [show ((a.toNat : Int) * 256 + b.toNat).toNat / 256 = a.toNat by omega, show ((a.toNat : Int) * 256 + b.toNat).toNat % 256 = b.toNat by omega, UInt8.ofNat_toNat, UInt8.ofNat_toNat, numF_2, if_pos hs]
  exact num_3 _ b0 b1
theorem cgo_none (l : List UInt8) : ∀ cur, (∀ b ∈ l, b.toNat ≠ 44) → cgo cur l = [cur ++ l] := by
  induction l with
  | nil => intro cur _; simp [cgo]
  | cons b l ih =>
    intro cur h
    rw [cgo, if_neg (h b (by simp)), ih _ (fun x hx => h x (by simp [hx]))]
    simp
theorem cgo_piece1 (l r : List UInt8) : ∀ cur, (∀ b ∈ l, b.toNat ≠ 44) → cgo cur (l ++ 44 :: r) = (cur ++ l) :: cgo [] r := by
  induction l with
  | nil => intro cur _; simp [cgo]
  | cons b l ih =>
    intro cur h
    rw [List.cons_append, cgo, if_neg (h b (by simp)), ih _ (fun x hx => h x (by simp [hx]))]
    simp
theorem cgo_join (ls : List (List UInt8)) : ∀ l, (∀ p ∈ l :: ls, ∀ b ∈ p, b.toNat ≠ 44) → cgo [] (Lib.join (l :: ls) [44]) = l :: ls := by
  induction ls with
  | nil => intro l h; rw [Lib.join_one, cgo_none _ _ (h l (by simp))]; rfl
  | cons m ls ih =>
    intro l h
    have e : Lib.join (l :: m :: ls) [44] = l ++ 44 :: Lib.join (m :: ls) [44] := by
      rw [Lib.join_cons, Lib.join_cons]
      simp [Lib.joinTail]
    rw [e, cgo_piece1 _ _ _ (h l (by simp)), ih m (fun p hp => h p (List.mem_cons_of_mem _ hp))]
    rfl
theorem chop_join (k : Nat) (hk : 0 < k) (ls : List (List UInt8)) : ∀ n, ls.flatten.length ≤ n → (∀ p ∈ ls, p.length = k) → chop k n ls.flatten = ls := by
  induction ls with
  | nil => intro n _ _; exact chop_nil k n
  | cons l ls ih =>
    intro n hn h
    have hl := h l (by simp)
    have hne : (l :: ls).flatten ≠ [] := by
      intro e
      have := congrArg List.length e
      rw [List.flatten_cons, List.length_append] at this
      simp only [List.length_nil] at this
      omega
    rw [chop_step k n _ hne hn]
    rw [List.flatten_cons]
    rw [List.flatten_cons, List.length_append] at hn
    rw [List.take_append_of_le_length (by omega), List.take_of_length_le (by omega), List.drop_append_of_le_length (by omega), List.drop_of_length_le (by omega), List.nil_append, ih _ (by omega) (fun p hp => h p (by simp [hp]))]
theorem joinTail_nil (ls : List (List UInt8)) : Lib.joinTail [] ls = ls.flatten := by simp [Lib.joinTail]
theorem join_flat (ls : List (List UInt8)) : Lib.join ls [] = ls.flatten := by
  cases ls with
  | nil => rfl
  | cons l ls => rw [Lib.join_cons, joinTail_nil]; rfl
theorem digits_no_comma (u : Nat) : ∀ b ∈ Lib.decDigits u, b.toNat ≠ 44 := by
  intro b hb h
  have h1 := (dec_val u).2.1
  have h2 := List.all_eq_true.1 h1 b hb
  unfold digB at h2
  rw [decide_eq_true_eq] at h2
  omega
theorem pieces_join (kind : Int) (hk : kind = 1 ∨ kind = 2 ∨ kind = 3) (cs : List Int) (hne : cs ≠ []) : piecesOf kind (joinF kind cs) = cs.map (textF kind) := by
  unfold joinF
  rcases hk with rfl | rfl | rfl
  · rw [show sepF 1 = [] from rfl, join_flat]
    exact chop_join 1 (by decide) _ _ (Nat.le_refl _) (fun p hp => by obtain ⟨x, -, rfl⟩ := List.mem_map.1 hp; rfl)
  · rw [show sepF 2 = [] from rfl, join_flat]
    exact chop_join 2 (by decide) _ _ (Nat.le_refl _) (fun p hp => by obtain ⟨x, -, rfl⟩ := List.mem_map.1 hp; rfl)
  rw [show sepF 3 = [44] from rfl]
  cases cs with
  | nil => exact absurd rfl hne
  | cons c cs =>
    rw [List.map_cons]
    exact cgo_join _ _ (fun p hp b hb => by
      rw [← List.map_cons (f := textF 3)] at hp
      obtain ⟨x, -, rfl⟩ := List.mem_map.1 hp
      exact digits_no_comma _ b hb)
theorem text_ne (kind x : Int) : textF kind x ≠ [] := by
  unfold textF
  split
  · simp
  split
  · simp
  exact (dec_val x.toNat).2.2.1
theorem joinF_ne (kind : Int) (cs : List Int) (hne : cs ≠ []) : joinF kind cs ≠ [] := by
  unfold joinF
  cases cs with
  | nil => exact absurd rfl hne
  | cons c cs =>
    rw [List.map_cons, Lib.join_cons]
    simp [text_ne]
theorem nums_join (kind : Int) (hk : kind = 1 ∨ kind = 2 ∨ kind = 3) (cs : List Int) (hne : cs ≠ []) (hg : cs.all (goodF kind) = true) : numsF kind (joinF kind cs) = cs := by
  unfold numsF
  rw [pieces_join kind hk cs hne, List.map_map]
  conv => rhs; rw [← List.map_id cs]
  refine List.map_congr_left (fun x hx => ?_)
  have := List.all_eq_true.1 hg x hx
  unfold goodF at this
  rw [decide_eq_true_eq] at this
  exact this.1
theorem kindOk_of {kind : Int} (hk : kind = 1 ∨ kind = 2 ∨ kind = 3) : kindOk kind = true := by rcases hk with rfl | rfl | rfl <;> rfl
theorem read_join (kind : Int) (hk : kind = 1 ∨ kind = 2 ∨ kind = 3) (cs : List Int) (hne : cs ≠ []) (hg : cs.all (goodF kind) = true) (hl : cs.length ≤ 64) : readF kind (joinF kind cs) = (canon cs, 0) := by
  unfold readF
  rw [kindOk_of hk, nums_join kind hk cs hne hg, if_neg (by simp), if_neg (joinF_ne kind cs hne), if_neg, if_neg (by omega)]
  intro h
  have h0 := List.all_eq_true.1 hg 0 ((contains_iff _ _).1 h)
  unfold goodF at h0
  simp at h0
theorem readF_good (kind : Int) (l : List UInt8) (h : (readF kind l).2 = 0) :
    (kind = 1 ∨ kind = 2 ∨ kind = 3) ∧ (readF kind l).1 ≠ [] ∧ (readF kind l).1.all (goodF kind) = true ∧ canon (readF kind l).1 = (readF kind l).1 := by
  rcases kind_cases kind with ⟨hk, hk3⟩ | ⟨hk, -⟩
  · refine ⟨hk3, ?_⟩
    unfold readF at h ⊢
    rw [if_neg (by rw [hk]; simp)] at h ⊢
    by_cases h1 : l = []
    · rw [if_pos h1] at h; simp at h
    rw [if_neg h1] at h ⊢
    by_cases h2 : (numsF kind l).contains 0 = true
    · rw [if_pos h2] at h; simp at h
    rw [if_neg h2] at h ⊢
    by_cases h3 : 64 < (numsF kind l).length
    · rw [if_pos h3] at h; simp at h
    rw [if_neg h3]
    refine ⟨?_, ?_, canon_idem _⟩
    · intro e
      have hp : numsF kind l ≠ [] := by
        unfold numsF
        intro e2
        have e3 := List.map_eq_nil_iff.1 e2
        unfold piecesOf at e3
        split at e3
        · exact cgo_ne _ _ e3
        rw [chop_step kind.toNat l.length l h1 (Nat.le_refl _)] at e3
        simp at e3
      obtain ⟨x, r, hx⟩ := List.exists_cons_of_ne_nil hp
      have : x ∈ canon (numsF kind l) := (mem_canon _ _).2 (by rw [hx]; simp)
      rw [show canon (numsF kind l) = [] from e] at this
      simp at this
    rw [List.all_eq_true]
    intro x hx
    have hx2 := (mem_canon _ _).1 hx
    have h0 : x ≠ 0 := fun e => h2 ((contains_iff _ _).2 (e ▸ hx2))
    obtain ⟨p, -, rfl⟩ := List.mem_map.1 hx2
    exact good_num kind hk3 p h0
  unfold readF at h
  rw [if_pos hk] at h
  simp at h
end Go.Proofs.YtkdajhmlhjkcdaaGreatDoor
namespace Go.Proofs.YtkdajhmlhjkcdaaGreatDoor
open Go.RowKit
theorem PowTab.below {W W' : World} (h : PowTab W) (hb : Below W.heap.size W W') : PowTab W' := by
  have hg : Tryz.prog.globalNamed "internal/strconv.uint64pow10" = some 1 := by kernel_rfl
  have hc := h.cell hg 0 (by decide)
  exact var?_below hb hg (World.block_lt_of_cell? W _ hc) h
def spellS (kind x : Int) : ByteArray := if numF kind (textF kind x) = x then mkS (textF kind x) else ⟨#[]⟩
theorem spell_yes {kind x : Int} (h : numF kind (textF kind x) = x) : mkS (textF kind x) = spellS kind x := by unfold spellS; rw [if_pos h]
theorem spell_no {kind x : Int} (h : ¬ numF kind (textF kind x) = x) : (⟨#[]⟩ : ByteArray) = spellS kind x := by unfold spellS; rw [if_neg h]
theorem cells_1 (x : Int) (h0 : 0 ≤ x) : [Value.int .u8 (x % 256)] = Lib.byteCells (textF 1 x) := by
  simp only [textF_1, Lib.byteCells, List.map_cons, List.map_nil]
  rw [of_nat _ (by omega), show ((x.toNat % 256 : Nat) : Int) = x % 256 by omega]
theorem cells_2 (x : Int) (h0 : 0 ≤ x) (h1 : x ≤ 65535) : [Value.int .u8 (x / 256), Value.int .u8 (x % 256)] = Lib.byteCells (textF 2 x) := by
  simp only [textF_2, Lib.byteCells, List.map_cons, List.map_nil]
  rw [of_nat _ (by omega), of_nat _ (by omega), show ((x.toNat % 256 : Nat) : Int) = x % 256 by omega, show ((x.toNat / 256 : Nat) : Int) = x / 256 by omega]
theorem laid_text (w : World) (cs : Array Value) (n : Nat) (l : List UInt8) (hn : n ≤ 2) (hs : cs.size = n) (hc : cs.toList = Lib.byteCells l) :
    (convert 154 9 (.slice (some ⟨w.heap.size, 0, none⟩) n n)).run Tryz.prog (w.alloc (.cells cs 5)) = .ok (.string (mkS l)) (w.alloc (.cells cs 5)) := by
  have h := own_laid w 5 1 n cs (by omega) (by unfold maxLen; omega)
  rw [hc] at h
  exact run_string_of_own h 154 9 Tryz.underlying154 Tryz.underlying5 Tryz.underlying9
set_option maxHeartbeats 1000000 in
set_option maxRecDepth 100000 in
theorem so_spell (kind x : Int) (w : World) (hk : kind = 1 ∨ kind = 2 ∨ kind = 3) (h0 : 0 ≤ x) (h1 : x ≤ 65535) (ht : PowTab w) :
    Calls Tryz.prog 93 #[.int .i64 kind, .int .u16 x] w fun e w' => e = .returned (.string (spellS kind x)) ∧ Below w.heap.size w w' := by
  obtain ⟨n, hn⟩ : ∃ n, numF kind (textF kind x) = n := ⟨_, rfl⟩
  have HN := Lib.hid hn
  have hT := Lib.hid ht
  have ha : Below w.heap.size w w := Below.refl _ _
  have HR := Lib.hid (show (n = x ∧ mkS (textF kind x) = spellS kind x) ∨ (¬ n = x ∧ (⟨#[]⟩ : ByteArray) = spellS kind x) by
    by_cases h : n = x
    · exact .inl ⟨h, spell_yes (hn.trans h)⟩
    exact .inr ⟨h, spell_no (fun e => h (hn.symm.trans e))⟩)
  obtain ⟨r, hr⟩ : ∃ r, spellS kind x = r := ⟨_, rfl⟩
  rw [hr] at HR ⊢
  clear hn ht hr
  rcases hk with rfl | rfl | rfl
  · have hcv := laid_text w #[.int .u8 (x % 256)] 1 (textF 1 x) (by omega) rfl (cells_1 x h0)
    have HA := Lib.hid (ha.alloc (Nat.le_refl _) (.cells #[.int .u8 (x % 256)] 5))
    have HZ := Lib.hid (show (mkS (textF 1 x)).size ≤ maxLen by rw [mkS_size]; show 1 ≤ maxLen; decide)
    obtain ⟨s, hs⟩ : ∃ s, mkS (textF 1 x) = s := ⟨_, rfl⟩
    have HD := Lib.hid (show numF 1 s.data.toList = n by rw [← hs]; exact HN.out)
    rw [hs] at hcv HR HZ
    clear hs ha
    rcases HR.out with ⟨hx, rfl⟩ | ⟨hx, rfl⟩
    · have hne : (n != x) = false := by simpa using hx
      clear hx HR
      go_enter Tryz.func93, Tryz.ntmps93
      go_wp2_with (go_at_call 87; refine (so_number 1 s _ (.inl rfl) HZ.out).mono ?_; rw [HD.out]; rintro e w1 ⟨rfl, m, rfl⟩)
      go_ret
      exact ⟨rfl, below_drewN HA.out _⟩
    have hne : (n != x) = true := by simpa using hx
    clear hx HR
    go_enter Tryz.func93, Tryz.ntmps93
    go_wp2_with (go_at_call 87; refine (so_number 1 s _ (.inl rfl) HZ.out).mono ?_; rw [HD.out]; rintro e w1 ⟨rfl, m, rfl⟩)
    go_ret
    exact ⟨rfl, below_drewN HA.out _⟩
  · have hcv := laid_text w #[.int .u8 (x / 256), .int .u8 (x % 256)] 2 (textF 2 x) (by omega) rfl (cells_2 x h0 h1)
    have HA := Lib.hid (ha.alloc (Nat.le_refl _) (.cells #[.int .u8 (x / 256), .int .u8 (x % 256)] 5))
    have HZ := Lib.hid (show (mkS (textF 2 x)).size ≤ maxLen by rw [mkS_size]; show 2 ≤ maxLen; decide)
    obtain ⟨s, hs⟩ : ∃ s, mkS (textF 2 x) = s := ⟨_, rfl⟩
    have HD := Lib.hid (show numF 2 s.data.toList = n by rw [← hs]; exact HN.out)
    rw [hs] at hcv HR HZ
    clear hs ha
    rcases HR.out with ⟨hx, rfl⟩ | ⟨hx, rfl⟩
    · have hne : (n != x) = false := by simpa using hx
      clear hx HR
      go_enter Tryz.func93, Tryz.ntmps93
      go_wp2_with (go_at_call 87; refine (so_number 2 s _ (.inr (.inl rfl)) HZ.out).mono ?_; rw [HD.out]; rintro e w1 ⟨rfl, m, rfl⟩)
      go_ret
      exact ⟨rfl, below_drewN HA.out _⟩
    have hne : (n != x) = true := by simpa using hx
    clear hx HR
    go_enter Tryz.func93, Tryz.ntmps93
    go_wp2_with (go_at_call 87; refine (so_number 2 s _ (.inr (.inl rfl)) HZ.out).mono ?_; rw [HD.out]; rintro e w1 ⟨rfl, m, rfl⟩)
    go_ret
    exact ⟨rfl, below_drewN HA.out _⟩
  have HS := Lib.hid (show decS x = mkS (textF 3 x) by unfold decS Lib.itoa; rw [if_neg (by omega), textF_3])
  have HZ := Lib.hid (show (mkS (textF 3 x)).size ≤ maxLen by
    rw [mkS_size, textF_3, Lib.decDigits_length]
    have := Lib.nDigits_le20 x.toNat (by omega)
    unfold maxLen; omega)
  obtain ⟨s, hs⟩ : ∃ s, mkS (textF 3 x) = s := ⟨_, rfl⟩
  have HD := Lib.hid (show numF 3 s.data.toList = n by rw [← hs]; exact HN.out)
  rw [hs] at HR HZ HS
  clear hs ha
  have D := Lib.hid (Decimal_any x w (by omega) (by omega) hT.out)
  rcases HR.out with ⟨hx, rfl⟩ | ⟨hx, rfl⟩
  · have hne : (n != x) = false := by simpa using hx
    clear hx HR
    go_enter Tryz.func93, Tryz.ntmps93
    go_wp2_with (first
      | (go_at_call 60; refine D.out.mono ?_; rw [HS.out]; rintro e w1 ⟨rfl, b1⟩; have B1 := Lib.hid b1; clear b1)
      | (go_at_call 87; refine (so_number 3 s _ (.inr (.inr rfl)) HZ.out).mono ?_; rw [HD.out]; rintro e w1 ⟨rfl, m, rfl⟩))
    go_ret
    exact ⟨rfl, below_drewN B1.out _⟩
  have hne : (n != x) = true := by simpa using hx
  clear hx HR
  go_enter Tryz.func93, Tryz.ntmps93
  go_wp2_with (first
    | (go_at_call 60; refine D.out.mono ?_; rw [HS.out]; rintro e w1 ⟨rfl, b1⟩; have B1 := Lib.hid b1; clear b1)
    | (go_at_call 87; refine (so_number 3 s _ (.inr (.inr rfl)) HZ.out).mono ?_; rw [HD.out]; rintro e w1 ⟨rfl, m, rfl⟩))
  go_ret
  exact ⟨rfl, below_drewN B1.out _⟩
end Go.Proofs.YtkdajhmlhjkcdaaGreatDoor
namespace Go.Proofs.YtkdajhmlhjkcdaaGreatDoor
open Go.RowKit
theorem take_snoc_eq {xs ys : List Int} {k : Nat} (h1 : k < xs.length) (h2 : k < ys.length) (h : xs.take k = ys.take k) (e : xs.getD k 0 = ys.getD k 0) : xs.take (k + 1) = ys.take (k + 1) := by
  rw [List.take_add_one, List.take_add_one, h, List.getElem?_eq_getElem h1, List.getElem?_eq_getElem h2]
  simp only [List.getD, List.getElem?_eq_getElem h1, List.getElem?_eq_getElem h2, Option.getD_some] at e
  rw [e]
set_option maxHeartbeats 2000000 in
set_option maxRecDepth 100000 in
theorem so_Equal (v u : Value) (xs ys : List Int) (w : World) (h : FS w v xs) (hu : FS w u ys) (hbig : xs.length ≤ 9223372036854775807) (hbig2 : ys.length ≤ 9223372036854775807) :
    Calls Tryz.prog 64 #[v, u] w fun e w' => e = .returned (.bool (decide (xs = ys))) ∧ ∃ n, w' = w.drewN n := by
  obtain ⟨p, c, rfl, hcap, hs⟩ := h
  obtain ⟨p2, c2, rfl, hcap2, hs2⟩ := hu
  have hA := Lib.hid hs
  have hB := Lib.hid hs2
  clear hs hs2
  by_cases hn : xs.length = ys.length
  · have HN := Lib.hid hn
    rw [← hn]
    clear hn
    go_enter Tryz.func64, Tryz.ntmps64
    go_wp2_with fail
    go_loopw [5, 13] (fun _ i wr => ∃ k m : Nat, k ≤ xs.length ∧ i = .int .i64 k ∧ wr = w.drewN m ∧ Hid (xs.take k = ys.take k)) (fun _ i _ => xs.length - (intOf i).toNat)
    case atStart => exact ⟨0, 0, Nat.zero_le _, rfl, rfl, rfl⟩
    case round =>
    obtain ⟨k, m, hk, rfl, rfl, HR⟩ := hrel
    by_cases hlt : k < xs.length
    · have hlt2 : k < ys.length := by have := HN.out; omega
      obtain ⟨b, off, rfl, hc⟩ := hA.out.resolve_left (by omega)
      obtain ⟨b2, off2, rfl, hc2⟩ := hB.out.resolve_left (by omega)
      have c1 := hc k hlt
      have c2' := hc2 k hlt2
      clear hc hc2
      generalize hx : xs.getD k 0 = x at c1
      generalize hy : ys.getD k 0 = y at c2'
      have HX := Lib.hid hx
      have HY := Lib.hid hy
      clear hx hy
      cases hq : (x == y)
      · have hfin := Lib.hid (show decide (xs = ys) = false by
          rw [decide_eq_false_iff_not]; rintro rfl
          rw [HX.out] at HY
          rw [HY.out] at hq; simp at hq)
        go_wp2_with fail
        go_quiet (fail)
        go_wp2_with fail
        go_ret
        exact ⟨by rw [hfin.out]; rfl, _, by rw [World.drewN_drewN]⟩
      have he := Lib.hid (take_snoc_eq hlt hlt2 HR.out (by rw [HX.out, HY.out]; simpa using hq))
      go_wp2_with fail
      go_quiet (fail)
      go_wp2_with fail
      go_roundw
      case rel => exact ⟨k + 1, _, by omega, by go_num, rfl, he.out⟩
      case measure => simp [intOf]; omega
    have hke : k = xs.length := by omega
    subst hke
    have hfin := Lib.hid (show decide (xs = ys) = true by
      have h1 := HR.out
      have h2 := HN.out
      rw [List.take_length, h2, List.take_length] at h1
      rw [h1]; simp)
    go_wp2_with fail
    go_ret
    exact ⟨by rw [hfin.out]; rfl, _, rfl⟩
  have hfin := Lib.hid (show decide (xs = ys) = false by
    rw [decide_eq_false_iff_not]; rintro rfl; exact hn rfl)
  have hne : ((xs.length : Int) == (ys.length : Int)) = false := by
    rw [beq_eq_false_iff_ne]; omega
  go_enter Tryz.func64, Tryz.ntmps64
  go_wp2_with fail
  go_ret
  exact ⟨by rw [hfin.out]; rfl, 0, rfl⟩
theorem below_draws {B : Nat} {a w : World} (h : Below B a w) (n : Nat) : Below B a (w.drewN n) := ⟨h.os, h.tape, h.output, h.size, h.block⟩
set_option maxHeartbeats 1000000 in
theorem so_SetEqual (v u : Value) (xs ys : List Int) (w : World) (h : FS w v xs) (hu : FS w u ys) (hbig : xs.length * 2 ≤ 281474976710656) (hbig2 : ys.length * 2 ≤ 281474976710656) :
    Calls Tryz.prog 32 #[v, u] w fun e w' => e = .returned (.bool (decide (canon xs = canon ys))) ∧ Below w.heap.size w w' := by
  have hF := Lib.hid h
  have hU := Lib.hid hu
  clear h hu
  generalize hr : decide (canon xs = canon ys) = r
  have HR := Lib.hid hr
  clear hr
  have l1 := Lib.hid (Nat.le_trans (canon_le xs) (show xs.length ≤ 9223372036854775807 by omega))
  have l2 := Lib.hid (Nat.le_trans (canon_le ys) (show ys.length ≤ 9223372036854775807 by omega))
  go_enter Tryz.func32, Tryz.ntmps32
  go_wp2_with (go_at_call_of 54 v; refine (so_Of _ xs _ hF.out hbig).mono ?_; rintro e w1 ⟨v1, rfl, h1, b1⟩)
  have H1 := Lib.hid h1.fs
  have B1 := Lib.hid b1
  have hs1 := b1.size
  clear h1 b1
  go_wp2_with (go_at_call_of 54 u; refine (so_Of _ ys _ (hU.out.keep B1.out) hbig2).mono ?_; rintro e w2 ⟨v2, rfl, h2, b2⟩)
  have H2 := Lib.hid h2.fs
  have K1 := Lib.hid (H1.out.keep b2)
  have B2 := Lib.hid (B1.out.trans (b2.mono hs1))
  clear h2 b2
  go_wp2_with (go_at_call 64; refine (so_Equal _ _ _ _ _ K1.out H2.out l1.out l2.out).mono ?_; rw [HR.out]; rintro e w3 ⟨rfl, hw⟩; have B3 := Lib.hid (show Below w.heap.size w w3 by obtain ⟨n, rfl⟩ := hw; exact below_draws B2.out n); clear hw)
  go_wp2
  go_ret
  exact ⟨rfl, B3.out⟩
set_option maxHeartbeats 1000000 in
theorem so_Count (v : Value) (xs : List Int) (w : World) (h : FS w v xs) (hbig : xs.length * 2 ≤ 281474976710656) :
    Calls Tryz.prog 33 #[v] w fun e w' => e = .returned (.int .i64 ((canon xs).length : Nat)) ∧ Below w.heap.size w w' := by
  have hF := Lib.hid h
  clear h
  go_enter Tryz.func33, Tryz.ntmps33
  go_wp2_with (go_at_call 54; refine (so_Of _ xs _ hF.out hbig).mono ?_; rintro e w1 ⟨v1, rfl, ⟨p1, c1, rfl, -⟩, b1⟩; have B1 := Lib.hid b1; clear b1)
  go_ret
  exact ⟨rfl, B1.out⟩
end Go.Proofs.YtkdajhmlhjkcdaaGreatDoor
namespace Go.Proofs.YtkdajhmlhjkcdaaGreatDoor
open Go.RowKit
theorem canon_bd {zs : List Int} (h : ∀ x ∈ zs, 0 ≤ x ∧ x ≤ 65535) : ∀ x ∈ canon zs, 0 ≤ x ∧ x ≤ 65535 := fun x hx => h x ((mem_canon _ _).1 hx)
end Go.Proofs.YtkdajhmlhjkcdaaGreatDoor
namespace Go.Proofs.YtkdajhmlhjkcdaaGreatDoor
open Go.RowKit
theorem text_len (kind x : Int) (h0 : 0 ≤ x) (h1 : x ≤ 65535) : (textF kind x).length ≤ 20 := by
  unfold textF
  split
  · simp
  split
  · simp
  rw [Lib.decDigits_length]
  exact Lib.nDigits_le20 x.toNat (by omega)
theorem lens_text (kind : Int) : ∀ cs : List Int, (∀ x ∈ cs, 0 ≤ x ∧ x ≤ 65535) → Lib.lens (cs.map (textF kind)) ≤ 20 * cs.length
  | [], _ => by simp [Lib.lens]
  | c :: cs, h => by
    have ih := lens_text kind cs (fun x hx => h x (List.mem_cons_of_mem _ hx))
    have h1 := text_len kind c (h c (by simp)).1 (h c (by simp)).2
    simp only [Lib.lens, List.map_cons, List.sum_cons, List.length_cons] at ih ⊢
    omega
theorem joinF_len (kind : Int) (cs : List Int) (h : ∀ x ∈ cs, 0 ≤ x ∧ x ≤ 65535) : (joinF kind cs).length ≤ 21 * cs.length := by
  unfold joinF
  cases cs with
  | nil => simp [Lib.join_nil]
  | cons c cs =>
    have h1 := lens_text kind (c :: cs) h
    rw [List.map_cons] at h1 ⊢
    rw [Lib.join_length, List.length_map]
    have h2 : (sepF kind).length ≤ 1 := by unfold sepF; split <;> simp
    have h3 := Nat.mul_le_mul_right cs.length h2
    simp only [List.length_cons] at h1 ⊢
    omega
theorem so_Join (v : Value) (xs : List ByteArray) (sep : ByteArray) (w : World) (h : Rd w 1 v xs.length (strV xs)) (hn : xs.length ≤ 140737488355328) (hl : (Lib.join (xs.map (·.data.toList)) sep.data.toList).length ≤ 140737488355328) :
    Calls Tryz.prog 94 #[v, .string sep] w fun e w' => e = .returned (.string (mkS (Lib.join (xs.map (·.data.toList)) sep.data.toList))) ∧ Below w.heap.size w w' := by
  obtain ⟨_, A, cap, rfl, hc, h2⟩ := h
  rcases h2 with h2 | ⟨g, o, rfl, h3⟩
  · have hx : xs = [] := List.eq_nil_of_length_eq_zero h2
    subst hx
    exact (Tryz.strings_Join_none A cap sep w).mono (fun e w' ⟨he, hw⟩ => ⟨he, by rw [hw]; exact Below.refl _ _⟩)
  rcases Nat.eq_zero_or_pos xs.length with h0 | h0
  · have hx : xs = [] := List.eq_nil_of_length_eq_zero h0
    subst hx
    exact (Tryz.strings_Join_none (some ⟨g, o, none⟩) cap sep w).mono (fun e w' ⟨he, hw⟩ => ⟨he, by rw [hw]; exact Below.refl _ _⟩)
  exact Tryz.strings_Join g o cap xs sep w (fun j x hj => h3 j (.string x) (by simp [strV, hj]))
    (World.block_lt_of_cell? w _ (h3 0 (.string xs[0]) (strV_get xs 0 h0))) hn hc hl
def textsF (kind : Int) (cs : List Int) : List ByteArray := cs.map fun x => mkS (textF kind x)
theorem textsF_len (kind : Int) (cs : List Int) : (textsF kind cs).length = cs.length := by simp [textsF]
theorem join_texts (kind : Int) (cs : List Int) (sep : ByteArray) (h : sep.data.toList = sepF kind) : Lib.join ((textsF kind cs).map (·.data.toList)) sep.data.toList = joinF kind cs := by
  unfold textsF joinF
  rw [h, List.map_map]
  rfl
theorem texts_snoc (kind : Int) (cs : List Int) (k : Nat) (h : k < cs.length) : strV (textsF kind (cs.take (k + 1))) = strV (textsF kind (cs.take k)) ++ [Value.string (mkS (textF kind cs[k]))] := by
  rw [List.take_add_one, List.getElem?_eq_getElem h]
  simp only [textsF, strV, List.map_append]
  rfl
theorem show_31 (kind : Int) (cs : List Int) (hk : kindOk kind = true) (k : Nat) (hk2 : k < cs.length) (h : goodF kind cs[k] = false) : showF kind cs = ([], 31) := by
  unfold showF
  rw [if_neg (by rw [hk]; decide), if_pos]
  cases hq : cs.all (goodF kind)
  · rfl
  rw [List.all_eq_true.1 hq _ (List.getElem_mem hk2)] at h
  simp at h
theorem show_ok (kind : Int) (cs : List Int) (hk : kindOk kind = true) (h : ∀ j (hj : j < cs.length), goodF kind cs[j] = true) : showF kind cs = if 64 < cs.length then ([], 32) else (joinF kind cs, 0) := by
  unfold showF
  rw [if_neg (by rw [hk]; decide), if_neg]
  rw [Bool.not_eq_false, List.all_eq_true]
  intro x hx
  obtain ⟨k, hk, rfl⟩ := List.getElem_of_mem hx
  exact h k hk
theorem show_30 (kind : Int) (cs : List Int) (hk : kindOk kind = false) : showF kind cs = ([], 30) := by
  unfold showF; rw [if_pos hk]
theorem good_cases (kind x : Int) : (spellS kind x = ⟨#[]⟩ ∧ goodF kind x = false) ∨ (spellS kind x = mkS (textF kind x) ∧ x = 0 ∧ goodF kind x = false) ∨ (spellS kind x = mkS (textF kind x) ∧ x ≠ 0 ∧ goodF kind x = true) := by
  unfold spellS goodF
  by_cases h : numF kind (textF kind x) = x
  · rw [if_pos h]
    by_cases h0 : x = 0
    · exact .inr (.inl ⟨rfl, h0, by rw [decide_eq_false_iff_not]; exact fun e => e.2 h0⟩)
    exact .inr (.inr ⟨rfl, h0, by rw [decide_eq_true_eq]; exact ⟨h, h0⟩⟩)
  rw [if_neg h]
  exact .inl ⟨rfl, by rw [decide_eq_false_iff_not]; exact fun e => h e.1⟩
theorem string_info : (Tryz.prog.info? 9).map (fun i => (i.zero, i.size, i.bytes)) = some (some (.string ByteArray.empty), 1, 16) := by kernel_rfl
set_option maxHeartbeats 4000000 in
set_option maxRecDepth 100000 in
theorem so_Show (kind : Int) (v : Value) (zs : List Int) (w : World) (h : FS w v zs) (hbd : ∀ x ∈ zs, 0 ≤ x ∧ x ≤ 65535) (hbig : zs.length ≤ 4194304) (ht : PowTab w) :
    Calls Tryz.prog 57 #[.int .i64 kind, v] w fun e w' => e = .returned (.tuple #[.string (mkS (showF kind (canon zs)).1), .int .i64 (showF kind (canon zs)).2]) ∧ Below w.heap.size w w' := by
  obtain ⟨i0, hi, hz0, hz1, hz2⟩ := info_parts string_info
  have hF := Lib.hid h
  have hT := Lib.hid ht
  have hbd' := canon_bd hbd
  have hcl := canon_le zs
  clear h ht hbd
  rcases kind_cases kind with ⟨hko, hk⟩ | ⟨hko, hk⟩
  · have HK := Lib.hid hko
    have HKK := Lib.hid hk
    clear hko hk
    obtain ⟨cs, hcs⟩ : ∃ cs, canon zs = cs := ⟨_, rfl⟩
    have HCS := Lib.hid hcs
    rw [hcs] at hbd' hcl ⊢
    have HB := Lib.hid hbd'
    clear hcs hbd'
    obtain ⟨r, hr⟩ : ∃ r, showF kind cs = r := ⟨_, rfl⟩
    have HR := Lib.hid hr
    rw [hr]
    clear hr
    go_enter Tryz.func57, Tryz.ntmps57
    go_wp2_with (first
      | (go_at_call 85; refine (so_known _ _).mono ?_; rw [HK.out]; rintro e w1 ⟨rfl, rfl⟩)
      | (go_at_call 54; refine (so_Of _ zs _ hF.out (by omega)).mono ?_; rw [HCS.out]; rintro e w1 ⟨v1, rfl, h1, b1⟩; obtain ⟨p1, c1, rfl, _, hs1⟩ := h1.fs; have H1 := Lib.hid hs1; have B1 := Lib.hid b1; clear h1 b1 hs1))
    have hsz1 := B1.out.size
    go_loopw [6, 8, 9, 16] (fun o _ _ i wr => ∃ k : Nat, k ≤ cs.length ∧ i = .int .i64 k ∧ Hid (∀ j (hj : j < cs.length), j < k → goodF kind cs[j] = true) ∧ Hid (Own w1 wr 9 1 o k (strV (textsF kind (cs.take k))))) (fun _ _ _ i _ => cs.length - (intOf i).toNat)
    case atStart => exact ⟨0, Nat.zero_le _, rfl, (fun j _ hj => absurd hj (Nat.not_lt_zero _)), Own.nil_ _ _ _⟩
    case round =>
    obtain ⟨k, hkk, rfl, HN, HO⟩ := hrel
    have hsz := HO.out.size
    by_cases hlt : k < cs.length
    · obtain ⟨b, o, rfl, hc⟩ := H1.out.resolve_left (by omega)
      have c0 := hc k hlt
      have hcell := (HO.out.below.cell (World.block_lt_of_cell? w1 _ c0)).trans c0
      have ecs : cs.getD k 0 = cs[k] := by simp [List.getD, hlt]
      rw [ecs] at hcell
      obtain ⟨b0, b1⟩ := HB.out cs[k] (List.getElem_mem hlt)
      have HP := Lib.hid (show PowTab wr from PowTab.below hT.out (B1.out.trans (HO.out.below.mono hsz1)))
      have HS := Lib.hid (texts_snoc kind cs k hlt)
      have H31 := Lib.hid (show_31 kind cs HK.out k hlt)
      have HG := Lib.hid (good_cases kind cs[k])
      have HNX := Lib.hid (show goodF kind cs[k] = true → ∀ j (hj : j < cs.length), j < k + 1 → goodF kind cs[j] = true from fun hg j hj hjk => by
        by_cases e : j = k
        · subst e; exact hg
        exact HN.out j hj (by omega))
      have HTN := Lib.hid (text_ne kind cs[k])
      clear hc c0 ecs HN
      generalize cs[k] = x at *
      have HSP := Lib.hid (so_spell kind x wr HKK.out b0 b1 HP.out)
      rcases HG.out with ⟨hq, hg⟩ | ⟨hq, hx0, hg⟩ | ⟨hq, hx0, hg⟩
      · have HQ := Lib.hid hq
        have hfin := Lib.hid (HR.out.symm.trans (H31.out hg))
        clear hq hg HG
        go_wp2_with (go_at_call 93; refine HSP.out.mono ?_; rw [HQ.out]; rintro e w2 ⟨rfl, b2⟩; have B2 := Lib.hid b2; clear b2)
        go_ret2
        exact ⟨by rw [hfin.out]; rfl, (B1.out.trans (HO.out.below.mono hsz1)).trans (B2.out.mono (Nat.le_trans hsz1 hsz))⟩
      · have HQ := Lib.hid hq
        have hfin := Lib.hid (HR.out.symm.trans (H31.out hg))
        subst hx0
        have hne := notEmpty (mkS (textF kind 0)) (by rw [mkS_size]; exact List.length_pos_iff.2 HTN.out)
        clear hq hg HG
        generalize mkS (textF kind 0) = s at *
        go_wp2_with (go_at_call 93; refine HSP.out.mono ?_; rw [HQ.out]; rintro e w2 ⟨rfl, b2⟩; have B2 := Lib.hid b2; clear b2)
        go_ret2
        exact ⟨by rw [hfin.out]; rfl, (B1.out.trans (HO.out.below.mono hsz1)).trans (B2.out.mono (Nat.le_trans hsz1 hsz))⟩
      have HQ := Lib.hid hq
      have HNX2 := Lib.hid (HNX.out hg)
      have hx1 : (x == 0) = false := by simpa using hx0
      have hne := notEmpty (mkS (textF kind x)) (by rw [mkS_size]; exact List.length_pos_iff.2 HTN.out)
      clear hq hg HG hx0 HNX
      generalize mkS (textF kind x) = s at *
      go_wp2_with (first
        | (go_at_call 93; refine HSP.out.mono ?_; rw [HQ.out]; rintro e w2 ⟨rfl, b2⟩; have HO2 := Lib.hid (HO.out.call b2); clear b2)
        | (at_builtin; refine wpList_push1 rfl _ _ 65 rfl w1.heap.size 9 i0 (.string ByteArray.empty) 16 Tryz.underlying65 hi hz0 hz1 hz2 rfl _ k _ rfl HO2.out.own _ rfl rfl (by unfold maxLen; omega) (by omega) HO2.out.size ?_; intro gg cap2 w5 hown hg5; have HO' := Lib.hid (HO2.out.push hown hg5); clear hown hg5))
      go_roundw
      case rel => exact ⟨k + 1, by omega, by go_num, HNX2, Lib.hid (by rw [HS.out]; exact HO'.out)⟩
      case measure => simp [intOf]; omega
    have hke : k = cs.length := by omega
    subst hke
    rw [List.take_length] at HO
    have HRD := Lib.hid (Rd.of_own HO.out.own)
    obtain ⟨_, A, cap, rfl, _, _⟩ := HRD.out
    have HSH := Lib.hid (HR.out.symm.trans (show_ok kind cs HK.out (fun j hj => HN.out j hj hj)))
    by_cases h64 : 64 < cs.length
    · have h64' : (64 : Int) < (cs.length : Int) := by omega
      have hfin := Lib.hid (show r = ([], 32) by rw [HSH.out, if_pos h64])
      go_wp2
      go_ret2
      exact ⟨by rw [hfin.out]; rfl, B1.out.trans (HO.out.below.mono hsz1)⟩
    have h64' : ¬ (64 : Int) < (cs.length : Int) := by omega
    have hfin := Lib.hid (show r = (joinF kind cs, 0) by rw [HSH.out, if_neg h64])
    have hjl := joinF_len kind cs HB.out
    have HL := Lib.hid (textsF_len kind cs)
    by_cases hk3 : kind = 3
    · subst hk3
      have HJ := Lib.hid (join_texts 3 cs ⟨#[44]⟩ rfl)
      go_wp2_with (go_at_call 94; refine (so_Join _ (textsF 3 cs) ⟨#[44]⟩ _ (by rw [HL.out]; exact HRD.out) (by rw [HL.out]; omega) (by rw [HJ.out]; omega)).mono ?_; rw [HJ.out]; rintro e w3 ⟨rfl, b3⟩; have B3 := Lib.hid b3; clear b3)
      go_ret2
      exact ⟨by rw [hfin.out]; rfl, (B1.out.trans (HO.out.below.mono hsz1)).trans (B3.out.mono (Nat.le_trans hsz1 hsz))⟩
    have hkb : (kind == 3) = false := by simpa using hk3
    have HJ := Lib.hid (join_texts kind cs ⟨#[]⟩ (by unfold sepF; rw [if_neg hk3]))
    go_wp2_with (go_at_call 94; refine (so_Join _ (textsF kind cs) ⟨#[]⟩ _ (by rw [HL.out]; exact HRD.out) (by rw [HL.out]; omega) (by rw [HJ.out]; omega)).mono ?_; rw [HJ.out]; rintro e w3 ⟨rfl, b3⟩; have B3 := Lib.hid b3; clear b3)
    go_ret2
    exact ⟨by rw [hfin.out]; rfl, (B1.out.trans (HO.out.below.mono hsz1)).trans (B3.out.mono (Nat.le_trans hsz1 hsz))⟩
  have HK := Lib.hid hko
  have hR := Lib.hid (show_30 kind (canon zs) hko)
  clear hko hk
  go_enter Tryz.func57, Tryz.ntmps57
  go_wp2_with (go_at_call 85; refine (so_known _ _).mono ?_; rw [HK.out]; rintro e w1 ⟨rfl, rfl⟩)
  go_ret2
  exact ⟨by rw [hR.out]; rfl, Below.refl _ _⟩
end Go.Proofs.YtkdajhmlhjkcdaaGreatDoor
namespace Go.Proofs.YtkdajhmlhjkcdaaGreatDoor
open Go.RowKit
def writeA (kind : Int) (al : List (List Int)) (zs : List Int) : ByteArray × Int :=
  if al.length = 0 then (mkS (showF kind (canon zs)).1, (showF kind (canon zs)).2) else match al.findIdx? (fun a => decide (canon a = canon zs)) with
    | none => (⟨#[]⟩, 31)
    | some k => (decS ((k : Int) + 1), 0)
theorem writeA_nil (kind : Int) (al : List (List Int)) (zs : List Int) (h : al.length = 0) : writeA kind al zs = (mkS (showF kind (canon zs)).1, (showF kind (canon zs)).2) := by rw [writeA, if_pos h]
theorem writeA_hit (kind : Int) (al : List (List Int)) (zs : List Int) (k : Nat) (hk : k < al.length) (he : canon al[k] = canon zs) (hne : ∀ j (hj : j < al.length), j < k → canon al[j] ≠ canon zs) : writeA kind al zs = (decS ((k : Int) + 1), 0) := by
  have : al.findIdx? (fun a => decide (canon a = canon zs)) = some k := by
    rw [List.findIdx?_eq_some_iff_getElem]
    exact ⟨hk, by rw [decide_eq_true_eq]; exact he, fun j hj => by rw [decide_eq_true_eq]; exact hne j (by omega) hj⟩
  rw [writeA, if_neg (by omega), this]
theorem writeA_miss (kind : Int) (al : List (List Int)) (zs : List Int) (h : al.length ≠ 0) (hne : ∀ j (hj : j < al.length), canon al[j] ≠ canon zs) : writeA kind al zs = (⟨#[]⟩, 31) := by
  have : al.findIdx? (fun a => decide (canon a = canon zs)) = none := by
    rw [List.findIdx?_eq_none_iff]
    intro x hx
    obtain ⟨j, hj, rfl⟩ := List.getElem_of_mem hx
    rw [decide_eq_false_iff_not]
    exact hne j hj
  rw [writeA, if_neg h, this]
theorem decS_pos (k : Nat) : (decS ((k : Int) + 1)).data.toList = Lib.decDigits (k + 1) := by
  unfold decS Lib.itoa
  rw [if_neg (by omega), mkS_data, show ((k : Int) + 1).toNat = k + 1 by omega]
theorem flagsR_dec (F : Fl) (k : Nat) (hk : k < F.als.length) : flagsR F (decS ((k : Int) + 1)) = (F.als[k], 0) := by
  obtain ⟨h1, h2⟩ := num_dec (k + 1)
  obtain ⟨h3, h4⟩ := num_yes (Lib.decDigits (k + 1)) F.als.length ⟨h1, by rw [h2]; omega⟩
  unfold flagsR
  rw [decS_pos, h3, h4, h2, if_neg (by omega), if_neg (by omega), show (((k + 1 : Nat) : Int) - 1).toNat = k by omega]
  simp [List.getD, hk]
theorem showF_all {kind : Int} {cs : List Int} (h : (showF kind cs).2 = 0) : (kind = 1 ∨ kind = 2 ∨ kind = 3) ∧ cs.all (goodF kind) = true ∧ cs.length ≤ 64 ∧ showF kind cs = (joinF kind cs, 0) := by
  rcases kind_cases kind with ⟨hk, hk3⟩ | ⟨hk, -⟩
  · unfold showF at h ⊢
    rw [if_neg (by rw [hk]; decide)] at h ⊢
    by_cases h1 : cs.all (goodF kind) = false
    · rw [if_pos h1] at h; simp at h
    rw [if_neg h1] at h ⊢
    by_cases h2 : 64 < cs.length
    · rw [if_pos h2] at h; simp at h
    rw [if_neg h2]
    exact ⟨hk3, by simpa using h1, by omega, rfl⟩
  rw [show_30 kind cs hk] at h; simp at h
theorem showF_good {kind : Int} {cs : List Int} (hk : kind = 1 ∨ kind = 2 ∨ kind = 3) (hg : cs.all (goodF kind) = true) (hl : cs.length ≤ 64) : showF kind cs = (joinF kind cs, 0) := by
  unfold showF
  rw [if_neg (by rw [kindOk_of hk]; decide), if_neg (by rw [hg]; decide), if_neg (by omega)]
theorem canon_ne {zs : List Int} (h : zs ≠ []) : canon zs ≠ [] := by
  obtain ⟨x, r, rfl⟩ := List.exists_cons_of_ne_nil h
  intro e
  have : x ∈ canon (x :: r) := (mem_canon _ _).2 (by simp)
  rw [e] at this
  simp at this
theorem write_back (F : Fl) (zs : List Int) (hne : zs ≠ []) (h : (writeA F.kind F.als zs).2 = 0) : (flagsR F (writeA F.kind F.als zs).1).2 = 0 ∧ canon (flagsR F (writeA F.kind F.als zs).1).1 = canon zs := by
  by_cases h0 : F.als.length = 0
  · rw [writeA_nil _ _ _ h0] at h ⊢
    dsimp only at h ⊢
    obtain ⟨hk, hg, hl, hs⟩ := showF_all h
    have hr := read_join F.kind hk (canon zs) (canon_ne hne) hg hl
    unfold flagsR
    rw [if_pos h0, hs, mkS_data, hr]
    exact ⟨rfl, by rw [canon_idem, canon_idem]⟩
  by_cases hx : ∃ k, ∃ hk : k < F.als.length, canon F.als[k] = canon zs
  · obtain ⟨k, ⟨hk, he⟩, hmin⟩ : ∃ k, (∃ hk : k < F.als.length, canon F.als[k] = canon zs) ∧ ∀ j, j < k → ¬ ∃ hj : j < F.als.length, canon F.als[j] = canon zs := by
      obtain ⟨k, hk⟩ := hx
      induction k using Nat.strongRecOn with
      | _ k ih =>
        by_cases hq : ∃ j, j < k ∧ ∃ hj : j < F.als.length, canon F.als[j] = canon zs
        · obtain ⟨j, hj, hq⟩ := hq
          exact ih j hj hq
        exact ⟨k, hk, fun j hj hc => hq ⟨j, hj, hc⟩⟩
    rw [writeA_hit F.kind F.als zs k hk he (fun j hj hlt e => hmin j hlt ⟨hj, e⟩)]
    dsimp only
    rw [flagsR_dec F k hk]
    exact ⟨rfl, he⟩
  rw [writeA_miss F.kind F.als zs h0 (fun j hj e => hx ⟨j, hj, e⟩)] at h
  simp at h
theorem read_write (F : Fl) (s : ByteArray) (hn : ∀ a ∈ F.als, a ≠ []) (h : (flagsR F s).2 = 0) : (flagsR F s).1 ≠ [] ∧ (writeA F.kind F.als (flagsR F s).1).2 = 0 := by
  by_cases h0 : F.als.length = 0
  · have e : flagsR F s = readF F.kind s.data.toList := by rw [flagsR, if_pos h0]
    rw [e] at h ⊢
    obtain ⟨hk, hne, hg, hc⟩ := readF_good F.kind s.data.toList h
    refine ⟨hne, ?_⟩
    rw [writeA_nil _ _ _ h0, hc, showF_good hk hg (readF_len _ _)]
  by_cases h1 : numErr s.data.toList F.als.length ≠ 0 ∨ numVal s.data.toList F.als.length = 0
  · have e : flagsR F s = ([], 13) := by rw [flagsR, if_neg h0, if_pos h1]
    rw [e] at h
    simp at h
  obtain ⟨b0, b1⟩ := numVal_bd s.data.toList F.als.length (by omega)
  have hlt : (numVal s.data.toList F.als.length - 1).toNat < F.als.length := by omega
  have e : flagsR F s = (F.als[(numVal s.data.toList F.als.length - 1).toNat], 0) := by
    rw [flagsR, if_neg h0, if_neg h1, List.getD, List.getElem?_eq_getElem hlt]
    rfl
  rw [e]
  generalize (numVal s.data.toList F.als.length - 1).toNat = k at hlt
  refine ⟨hn _ (List.getElem_mem hlt), ?_⟩
  dsimp only
  cases hw : F.als.findIdx? (fun a => decide (canon a = canon F.als[k])) with
  | none =>
    rw [List.findIdx?_eq_none_iff] at hw
    have := hw F.als[k] (List.getElem_mem hlt)
    simp at this
  | some j =>
    rw [writeA, if_neg h0, hw]
theorem writeA_len (kind : Int) (al : List (List Int)) (zs : List Int) (hb : ∀ x ∈ zs, 0 ≤ x ∧ x ≤ 65535) (hl : al.length ≤ 65536) (h : (writeA kind al zs).2 = 0) : (writeA kind al zs).1.size ≤ 4096 := by
  by_cases h0 : al.length = 0
  · rw [writeA_nil _ _ _ h0] at h ⊢
    dsimp only at h ⊢
    obtain ⟨hk, hg, h64, hs⟩ := showF_all h
    rw [hs, mkS_size]
    have := joinF_len kind (canon zs) (canon_bd hb)
    dsimp only
    omega
  rw [writeA, if_neg h0] at h ⊢
  split at h
  · simp at h
  rename_i k hk
  have hk2 := (List.findIdx?_eq_some_iff_getElem.1 hk).1
  dsimp only
  rw [show (decS ((k : Int) + 1)).size = (decS ((k : Int) + 1)).data.toList.length by simp, decS_pos, Lib.decDigits_length]
  have := Lib.nDigits_le20 (k + 1) (by omega)
  omega
def AlOk (F : Fl) : Prop := ∀ a ∈ F.als, a ≠ []
theorem ruleIn_al {c : Cl} (F : Fl) (l : Int) (r : List ByteArray) (F' : Fl) (h0 : AlOk F) (h : ruleIn c F l r = .ok F') : AlOk F' := by
  unfold ruleIn at h
  split at h
  · cases h
  cases h; exact h0
theorem rep_al (F : Fl) (l : Int) (r : List ByteArray) (F' : Fl) (h0 : AlOk F) (h : repR_ F l r = .ok F') : AlOk F' := by
  unfold repR_ at h
  split at h
  · cases h
  split at h
  · cases h
  split at h
  · cases h
  cases h; exact h0
theorem alias_al (F : Fl) (l : Int) (r : List ByteArray) (F' : Fl) (h0 : AlOk F) (h : aliasR F l r = .ok F') : AlOk F' := by
  unfold aliasR at h
  split at h
  · cases h
  split at h
  · cases h
  rename_i he
  cases h
  intro a ha
  rcases List.mem_append.1 ha with ha | ha
  · exact h0 a ha
  simp only [List.mem_singleton] at ha
  subst ha
  exact (readF_good _ _ (by omega)).2.1
theorem head_al {end_ : Int} {S S' : Sx} {row : List ByteArray} {k : Nat} (h0 : AlOk S.fl) (h : headR end_ S row k = .ok S') : AlOk S'.fl := by
  unfold headR at h
  split at h
  · obtain ⟨F, hF, rfl⟩ := onFl_ok h
    unfold kindR at hF
    split at hF
    · cases hF
    split at hF
    · cases hF
    cases hF; exact h0
  split at h
  · obtain ⟨F, hF, rfl⟩ := onFl_ok h
    unfold setR at hF
    split at hF
    · cases hF
    cases hF; exact h0
  split at h
  · obtain ⟨F, hF, rfl⟩ := onFl_ok h
    unfold tryR at hF
    split at hF
    · cases hF
    cases hF; exact h0
  split at h
  · obtain ⟨F, hF, rfl⟩ := onFl_ok h
    unfold specialR at hF
    split at hF
    · cases hF
    cases hF
    show AlOk (setSp _ _ _)
    unfold AlOk setSp
    split <;> exact h0
  split at h
  · obtain ⟨F, hF, rfl⟩ := onFl_ok h
    unfold leastR at hF
    split at hF
    · cases hF
    cases hF; exact h0
  split at h
  · unfold repsG at h
    split at h
    · cases h
    exact group_inv rep_al _ _ _ h0 h
  split at h
  · unfold aliasG at h
    split at h
    · cases h
    split at h
    · cases h
    exact group_inv alias_al _ _ _ h0 h
  unfold classR at h
  split at h
  · cases h
  split at h
  · cases h
  split at h
  · cases h
  split at h
  · cases h
  exact group_inv (P := AlOk) (fun F l r F' h1 h2 => ruleIn_al F l r F' h1 h2) _ _ _ (by exact h0) h
theorem read_al {end_ : Int} : ∀ (n : Nat) (S S' : Sx), AlOk S.fl → readGo end_ n S = .ok S' → AlOk S'.fl
  | 0, S, S', h0, h => by rw [readGo] at h; cases h; exact h0
  | n + 1, S, S', h0, h => by
    rw [readGo] at h
    split at h
    · cases h; exact h0
    · split at h
      · cases h
      · rename_i hs
        refine read_al n _ S' ?_ h
        unfold stepR at hs
        split at hs
        · cases hs
        split at hs
        · cases hs
        split at hs
        · cases hs
        split at hs
        · cases hs
        · rename_i S3 hh
          cases hs
          have h2 : AlOk S3.fl := by
            refine head_al ?_ hh
            exact h0
          exact h2
theorem affR_al {l : List UInt8} {F : Fl} (h : affR l = .ok F) : AlOk F := by
  unfold affR at h
  split at h
  · cases h
  split at h
  · cases h
  rename_i hr
  split at h
  · cases h
  cases h
  exact read_al _ _ _ (by intro r hr; cases hr) hr
end Go.Proofs.YtkdajhmlhjkcdaaGreatDoor
namespace Go.Proofs.YtkdajhmlhjkcdaaGreatDoor
open Go.RowKit Go.Maps
set_option maxHeartbeats 1000000 in
theorem so_wclos (u v : Value) (b : Nat) (a zs : List Int) (w : World) (hu : FS w u a) (hc : w.cell? ⟨b, 0, none⟩ = some v) (hv : FS w v zs) (h1 : a.length ≤ 65536) (h2 : zs.length ≤ 4194304) :
    Calls Tryz.prog 59 #[u, .pointer (some ⟨b, 0, none⟩)] w fun e w' => e = .returned (.bool (decide (canon a = canon zs))) ∧ Below w.heap.size w w' := by
  have HE := Lib.hid (so_SetEqual u v a zs w hu hv (by omega) (by omega))
  obtain ⟨p, c, rfl, -, -⟩ := hu
  obtain ⟨p2, c2, rfl, -, -⟩ := hv
  generalize decide (canon a = canon zs) = r at *
  go_enter Tryz.func59, Tryz.ntmps59
  go_wp2_with (go_at_call 32; refine HE.out.mono ?_; rintro e w2 ⟨rfl, hb⟩; have HB := Lib.hid hb; clear hb)
  go_ret
  exact ⟨rfl, HB.out⟩
def idxA (al : List (List Int)) (zs : List Int) : Int := match al.findIdx? (fun a => decide (canon a = canon zs)) with | some k => k | none => -1
theorem idxA_hit (al : List (List Int)) (zs : List Int) (k : Nat) (hk : k < al.length) (he : canon al[k] = canon zs) (hne : ∀ j (hj : j < al.length), j < k → canon al[j] ≠ canon zs) : idxA al zs = k := by
  have : al.findIdx? (fun a => decide (canon a = canon zs)) = some k := by
    rw [List.findIdx?_eq_some_iff_getElem]
    exact ⟨hk, by rw [decide_eq_true_eq]; exact he, fun j hj => by rw [decide_eq_true_eq]; exact hne j (by omega) hj⟩
  unfold idxA; rw [this]
theorem idxA_miss (al : List (List Int)) (zs : List Int) (hne : ∀ j (hj : j < al.length), canon al[j] ≠ canon zs) : idxA al zs = -1 := by
  have : al.findIdx? (fun a => decide (canon a = canon zs)) = none := by
    rw [List.findIdx?_eq_none_iff]
    intro x hx
    obtain ⟨j, hj, rfl⟩ := List.getElem_of_mem hx
    rw [decide_eq_false_iff_not]
    exact hne j hj
  unfold idxA; rw [this]
theorem writeA_idx (kind : Int) (al : List (List Int)) (zs : List Int) (h0 : al.length ≠ 0) : (idxA al zs = -1 ∧ writeA kind al zs = (⟨#[]⟩, 31)) ∨ ∃ k : Nat, k < al.length ∧ idxA al zs = k ∧ writeA kind al zs = (decS ((k : Int) + 1), 0) := by
  unfold idxA writeA
  rw [if_neg h0]
  cases h : al.findIdx? (fun a => decide (canon a = canon zs)) with
  | none => exact .inl ⟨rfl, rfl⟩
  | some k => exact .inr ⟨k, (List.findIdx?_eq_some_iff_getElem.1 h).1, rfl, rfl⟩
set_option maxHeartbeats 2000000 in
set_option maxRecDepth 100000 in
theorem so_IndexFuncA (av v : Value) (b : Nat) (us : List Value) (al : List (List Int)) (zs : List Int) (w : World) (hr : Rd w 1 av al.length us) (hn : al.length ≤ 65536) (hs : ∀ (k : Nat) u a, us[k]? = some u → al[k]? = some a → FS w u a) (hl : ∀ a ∈ al, a.length ≤ 65536)
    (hc : w.cell? ⟨b, 0, none⟩ = some v) (hv : FS w v zs) (h2 : zs.length ≤ 4194304) :
    Calls Tryz.prog 58 #[av, .func (.func 59) #[] #[.pointer (some ⟨b, 0, none⟩)]] w fun e w' => e = .returned (.int .i64 (idxA al zs)) ∧ Below w.heap.size w w' := by
  obtain ⟨h1, A, cp, rfl, hcap, hcells⟩ := hr
  have HC := Lib.hid hcells
  have HS := Lib.hid hs
  have HLn := Lib.hid hl
  have HV := Lib.hid hv
  have HCb := Lib.hid hc
  have hul : us.length = al.length := by omega
  have HU := Lib.hid hul
  clear hcells hs hl hv hc h1 hul
  go_enter Tryz.func58, Tryz.ntmps58
  go_wp2_with fail
  go_loopw [5, 8] (fun _ i wr => ∃ k : Nat, k ≤ al.length ∧ i = .int .i64 k ∧ Hid (Below w.heap.size w wr) ∧ Hid (∀ j (hj : j < al.length), j < k → canon al[j] ≠ canon zs)) (fun _ i _ => al.length - (intOf i).toNat)
  case atStart => exact ⟨0, Nat.zero_le _, rfl, Lib.hid (Below.refl _ _), Lib.hid (fun j _ hj => absurd hj (Nat.not_lt_zero _))⟩
  case round =>
  obtain ⟨k, hk, rfl, HB, HN⟩ := hrel
  by_cases hlt : k < al.length
  · obtain ⟨g, off, rfl, hc⟩ := HC.out.resolve_left (by omega)
    have hku : k < us.length := by have := HU.out; omega
    have hfs := HS.out k us[k] al[k] (List.getElem?_eq_getElem hku) (List.getElem?_eq_getElem hlt)
    have c1 := hc k us[k] (List.getElem?_eq_getElem hku)
    have d1 := (HB.out.cell (World.block_lt_of_cell? _ _ c1)).trans c1
    have hal := HLn.out al[k] (List.getElem_mem hlt)
    have HX := Lib.hid (so_wclos us[k] v b al[k] zs wr (hfs.keep HB.out) ((HB.out.cell (World.block_lt_of_cell? _ _ HCb.out)).trans HCb.out) (HV.out.keep HB.out) hal h2)
    have HHit : Hid (decide (canon al[k] = canon zs) = true → idxA al zs = k) := Lib.hid (fun he => idxA_hit al zs k hlt (of_decide_eq_true he) HN.out)
    have HNx : Hid (decide (canon al[k] = canon zs) = false → ∀ j (hj : j < al.length), j < k + 1 → canon al[j] ≠ canon zs) := Lib.hid (fun he j hj hjk => by
      by_cases e : j = k
      · subst e; exact of_decide_eq_false he
      exact HN.out j hj (by omega))
    generalize hr : decide (canon al[k] = canon zs) = r at *
    obtain ⟨p, c, hu, -, -⟩ := hfs
    rw [hu] at d1 HX
    clear hc c1 hu hr hal
    cases r
    · have HNy := Lib.hid (HNx.out rfl)
      clear HNx HHit
      go_wp2_with (go_at_call 59; refine HX.out.mono ?_; rintro e w2 ⟨rfl, hb⟩; have HB2 := Lib.hid (HB.out.trans (hb.mono HB.out.size)); clear hb)
      go_roundw
      case rel => exact ⟨k + 1, by omega, by go_num, HB2, HNy⟩
      case measure => simp [intOf]; omega
    have HI := Lib.hid (HHit.out rfl)
    clear HNx HHit
    go_wp2_with (go_at_call 59; refine HX.out.mono ?_; rintro e w2 ⟨rfl, hb⟩; have HB2 := Lib.hid (HB.out.trans (hb.mono HB.out.size)); clear hb)
    go_ret
    exact ⟨by rw [HI.out]; rfl, HB2.out⟩
  obtain rfl : k = al.length := by omega
  have HI := Lib.hid (idxA_miss al zs (fun j hj => HN.out j hj hj))
  go_wp2_with fail
  go_ret
  exact ⟨by rw [HI.out]; rfl, HB.out⟩
def WrP (r : ByteArray × Int) (w : World) (e : Ending) (w' : World) : Prop := e = .returned (.tuple #[.string r.1, .int .i64 r.2]) ∧ Below w.heap.size w w'
set_option maxHeartbeats 4000000 in
set_option maxRecDepth 100000 in
theorem so_fileWrite (fb : Nat) (kind : Int) (av v : Value) (us : List Value) (al : List (List Int)) (zs : List Int) (w : World) (h : FileF w fb kind av us al) (hn : al.length ≤ 65536) (hv : FS w v zs) (hbd : ∀ x ∈ zs, 0 ≤ x ∧ x ≤ 65535) (h2 : zs.length ≤ 4194304) (ht : PowTab w) :
    Calls Tryz.prog 30 #[.pointer (some ⟨fb, 0, none⟩), v] w (WrP (writeA kind al zs) w) := by
  have HK0 := Lib.hid h.kind
  have HA0 := Lib.hid h.als
  obtain ⟨h1, A, cp, rfl, hcap, hcells⟩ := h.row
  obtain ⟨p, c, rfl, hcap2, hcells2⟩ := hv
  have HV : Hid (FS w (.slice p zs.length c) zs) := Lib.hid ⟨p, c, rfl, hcap2, hcells2⟩
  have HR : Hid (Rd w 1 (.slice A al.length cp) al.length us) := Lib.hid ⟨h1, A, cp, rfl, hcap, hcells⟩
  have HS := Lib.hid h.sets
  have HCn := Lib.hid h.canons
  have HT := Lib.hid ht
  have HD := Lib.hid hbd
  have hfb := World.block_lt_of_cell? _ _ h.kind
  obtain ⟨wb, hwb⟩ : ∃ W, w.alloc (.cells #[.slice p zs.length c] 44) = W := ⟨_, rfl⟩
  have HB0 : Hid (Below w.heap.size w wb) := Lib.hid (by rw [← hwb]; exact (Below.refl _ _).alloc (Nat.le_refl _) _)
  have HC0 : Hid (wb.cell? ⟨w.heap.size, 0, none⟩ = some (.slice p zs.length c)) := Lib.hid (by rw [← hwb, Lib.cell_of_heap (heap_alloc_new w _)]; rfl)
  clear hcells h h1 hcells2 ht hbd
  by_cases h0 : al.length = 0
  · have e0 : ((al.length : Int) == 0) = true := by rw [h0]; rfl
    have hX := writeA_nil kind al zs h0
    have HQ : Hid (∀ W, Below w.heap.size w W → Calls Tryz.prog 57 #[.int .i64 kind, .slice p zs.length c] W (WrP (writeA kind al zs) W)) := Lib.hid (fun W hW => by
      rw [hX]
      exact so_Show kind _ zs W (HV.out.keep hW) HD.out (by omega) (HT.out.below hW))
    unfold WrP at HQ ⊢
    obtain ⟨r, hr⟩ : ∃ r, writeA kind al zs = r := ⟨_, rfl⟩
    rw [hr] at HQ ⊢
    have HSt : Hid (∀ W, Below w.heap.size w W → W.cell? ⟨fb, 0, none⟩ = some (.int .i64 kind)) := Lib.hid (fun W hW => (hW.cell hfb).trans HK0.out)
    have HSu : Hid (∀ W, Below wb.heap.size wb W → W.cell? ⟨w.heap.size, 0, none⟩ = some (.slice p zs.length c)) := Lib.hid (fun W hW => (hW.cell (World.block_lt_of_cell? _ _ HC0.out)).trans HC0.out)
    have c10 : wb.cell? ⟨fb, 10, none⟩ = some (.slice A al.length cp) := (HB0.out.cell (World.block_lt_of_cell? _ _ HA0.out)).trans HA0.out
    clear hr hX h0 HC0
    go_enter Tryz.func30, Tryz.ntmps30
    go_upto_region 1 with fail
    clear hwb
    go_upto_region 4 with fail
    refine wp_region_held_drew (S := fun W => W.cell? ⟨fb, 0, none⟩ = some (.int .i64 kind) ∧ W.cell? ⟨w.heap.size, 0, none⟩ = some (.slice p zs.length c)) (by kernel_rfl) ?_ (fun hHeld => ?_)
    · exact ⟨HSt.out _ (HB0.out.trans (drew_below.mono HB0.out.size)), HSu.out _ drew_below⟩
    refine tkH 0 (some 16) ?_ ?_ hHeld ?_; rotate_left; focus (intro w hSw; (try dsimp only at hSw); go_simp; try with_reducible rfl); try simp only [put_norm]
    refine tkH 1 (some 17) ?_ ?_ hHeld ?_; rotate_left; focus (intro w hSw; (try dsimp only at hSw); go_simp; try with_reducible rfl); try simp only [put_norm]
    refine tkH 2 (some 18) ?_ ?_ hHeld ?_; rotate_left; focus (intro w hSw; (try dsimp only at hSw); go_simp; try with_reducible rfl); try simp only [put_norm]
    refine tkH 3 (some 19) ?_ ?_ hHeld ?_; rotate_left; focus (intro w hSw; (try dsimp only at hSw); go_simp; try with_reducible rfl); try simp only [put_norm]
    refine tkH 4 (some 20) ?_ ?_ hHeld ?_; rotate_left; focus (intro w hSw; (try dsimp only at hSw); go_simp; try with_reducible rfl); try simp only [put_norm]
    refine tkH 5 (some 21) ?_ ?_ hHeld ?_; rotate_left; focus (intro w hSw; (try dsimp only at hSw); go_simp; try with_reducible rfl); try simp only [put_norm]
    refine rdy1 6 (fun K hK => ?_)
    go_simp
    refine (HQ.out _ (HB0.out.trans (drew_below.mono HB0.out.size))).mono ?_
    rintro e w8 ⟨rfl, hb8⟩
    have HB8 := Lib.hid ((drew_below (w := wb)).trans hb8)
    clear hb8
    refine hK.out _ _ ?_ (fun hHeld => ?_)
    · exact ⟨HSt.out _ (HB0.out.trans (HB8.out.mono HB0.out.size)), HSu.out _ HB8.out⟩
    clear hK K
    refine tkH 7 (some 23) ?_ ?_ hHeld ?_; rotate_left; focus (intro w hSw; (try dsimp only at hSw); go_simp; try with_reducible rfl); try simp only [put_norm]
    refine tkH 8 (some 24) ?_ ?_ hHeld ?_; rotate_left; focus (intro w hSw; (try dsimp only at hSw); go_simp; try with_reducible rfl); try simp only [put_norm]
    refine tkH 9 (some 4) ?_ ?_ hHeld ?_; rotate_left; focus (intro w hSw; (try dsimp only at hSw); go_simp; try with_reducible rfl); try simp only [put_norm]
    refine tkH 10 (some 5) ?_ ?_ hHeld ?_; rotate_left; focus (intro w hSw; (try dsimp only at hSw); go_simp; try with_reducible rfl); try simp only [put_norm]
    refine wpAnyH_done (by kernel_rfl) ?_ _
    go_wp2_with fail
    go_ret2
    exact ⟨rfl, HB0.out.trans (HB8.out.mono HB0.out.size)⟩
  have e0 : ((al.length : Int) == 0) = false := by rw [beq_eq_false_iff_ne]; omega
  have c10 : wb.cell? ⟨fb, 10, none⟩ = some (.slice A al.length cp) := (HB0.out.cell (World.block_lt_of_cell? _ _ HA0.out)).trans HA0.out
  have HI := Lib.hid (so_IndexFuncA _ (.slice p zs.length c) w.heap.size us al zs wb (HR.out.keep HB0.out) hn (fun k u a hu ha => (HS.out k u a hu ha).keep HB0.out) (fun a ha => (HCn.out a ha).2) HC0.out (HV.out.keep HB0.out) h2)
  have hcs := writeA_idx kind al zs h0
  have HP : Hid (∀ W, Below wb.heap.size wb W → PowTab W) := Lib.hid (fun W hW => HT.out.below (HB0.out.trans (hW.mono HB0.out.size)))
  unfold WrP
  rcases hcs with ⟨hi, hw⟩ | ⟨k, hk, hi, hw⟩
  · rw [hi] at HI
    rw [hw]
    clear hw hi h0 HC0
    go_enter Tryz.func30, Tryz.ntmps30
    go_upto_region 1 with fail
    clear hwb
    go_wp2_with (go_at_call 58; refine HI.out.mono ?_; rintro e w2 ⟨rfl, hb⟩; have HB := Lib.hid (HB0.out.trans (hb.mono HB0.out.size)); clear hb)
    go_ret2
    exact ⟨rfl, HB.out⟩
  rw [hi] at HI
  rw [hw]
  have HDc : Hid (∀ W, Below wb.heap.size wb W → Calls Tryz.prog 60 #[.int .i64 ((k : Int) + 1)] W fun e w' => e = .returned (.string (decS ((k : Int) + 1))) ∧ Below W.heap.size W w') := Lib.hid (fun W hW => Decimal_any ((k : Int) + 1) W (by omega) (by omega) (HP.out W hW))
  have hk0 : ¬ ((k : Int) < 0) := by omega
  have hw1 : IntKind.i64.wrap ((k : Int) + 1) = (k : Int) + 1 := by rw [IntKind.wrap_i64]; omega
  clear hw hi h0 HC0
  generalize decS ((k : Int) + 1) = t at *
  go_enter Tryz.func30, Tryz.ntmps30
  go_upto_region 1 with fail
  clear hwb
  go_wp2_with (first
    | (go_at_call 58; refine HI.out.mono ?_; rintro e w2 ⟨rfl, hb⟩; have HB1 := Lib.hid hb; clear hb)
    | (go_at_call 60; refine (HDc.out _ HB1.out).mono ?_; rintro e w3 ⟨rfl, hb⟩; have HB := Lib.hid (HB0.out.trans ((HB1.out.trans (hb.mono HB1.out.size)).mono HB0.out.size)); clear hb))
  go_ret2
  exact ⟨rfl, HB.out⟩
theorem so_lWrite (fb : Nat) (F : Fl) (v : Value) (zs : List Int) (w : World) (h : FileAt w fb F) (hok : FlOk F) (hv : FS w v zs) (hbd : ∀ x ∈ zs, 0 ≤ x ∧ x ≤ 65535) (h2 : zs.length ≤ 4194304) (ht : PowTab w) :
    Calls Tryz.prog 30 #[.pointer (some ⟨fb, 0, none⟩), v] w (WrP (writeA F.kind F.als zs) w) := by
  obtain ⟨av, us, hf⟩ := h.fileF hok
  exact so_fileWrite fb F.kind av v us F.als zs w hf hok.als hv hbd h2 ht
end Go.Proofs.YtkdajhmlhjkcdaaGreatDoor
namespace Go.Proofs.YtkdajhmlhjkcdaaGreatDoor
open Go.RowKit
theorem so_lwakes (m0 : Int) (w : World) (h0 : 0 < w.heap.size) (hm : w.cell? ⟨0, 0, none⟩ = some (.int .i64 m0)) :
    Calls Tryz.prog 14 #[] w fun e w' => e = .returned (.bool true) ∧ Below w.heap.size w w' := so_wakes m0 w h0 hm
end Go.Proofs.YtkdajhmlhjkcdaaGreatDoor
namespace Go.Proofs.YtkdajhmlhjkcdaaGreatDoor
open Go.RowKit Go.Maps
theorem append_flags (p : Option Addr) (c : Nat) (zs : List Int) (w : World) (h : FS w (.slice p zs.length c) zs) (hbig : zs.length ≤ 4194304) (W : World) (hW : Below w.heap.size w W) :
    ∃ p' c' W', (Builtin.append_ #[44, 44] 44 #[.slice none 0 0, .slice p zs.length c]).run Tryz.prog W = .ok (.slice p' zs.length c') W' ∧ FS W' (.slice p' zs.length c') zs ∧ Below W.heap.size W W' := by
  obtain ⟨i0, hi, hz0, hz1, hz2⟩ := info_parts flag_info
  obtain ⟨p1, c1, hv, hcap, hs⟩ := h.keep hW
  cases hv
  have hr := run_append_src (P := Tryz.prog) W W.heap.size 44 44 34 i0 (.int .u16 0) 1 2 Tryz.underlying44 hi hz0 hz1 hz2 rfl (by decide) (.slice none 0 0) 0 [] (World.ownsRow_nil _ _ _ _)
    p zs.length c (zs.map (Value.int .u16)) (by simp) (FS.news hs _ (Below.refl _ W)) (by intro u hu; obtain ⟨x, _, rfl⟩ := List.mem_map.1 hu; rfl) (by unfold maxLen; omega) (by omega) (Nat.le_refl _)
  obtain ⟨v', w1, hrun, hown, hg, -⟩ := hr
  have hf := (FN.of_own (e := 34) (zs := zs) (by simpa using hown)).fs
  obtain ⟨p', c', rfl, -⟩ := id hf
  exact ⟨p', c', w1, hrun, hf, (Below.refl _ W).grown hg (Nat.le_refl _) (by intro k hk; simp [Value.ownBlock] at hk)⟩
end Go.Proofs.YtkdajhmlhjkcdaaGreatDoor
namespace Go.Proofs.YtkdajhmlhjkcdaaGreatDoor
open Go.RowKit Go.Maps
theorem flagsR_none (F : Fl) (s : ByteArray) (h : (flagsR F s).2 ≠ 0) : (flagsR F s).1 = [] := by
  unfold flagsR readF at *
  repeat' split at h
  all_goals first | rfl | exact absurd rfl h | skip
  all_goals simp_all
structure BackF (w : World) (fb : Nat) (F : Fl) (m0 : Int) : Prop where
  file : FileAt w fb F
  mem : w.cell? ⟨0, 0, none⟩ = some (.int .i64 m0)
  pow : PowTab w
theorem BackF.keep {w w' : World} {fb : Nat} {F : Fl} {m0 : Int} (h : BackF w fb F m0) (hb : Below w.heap.size w w') : BackF w' fb F m0 :=
  ⟨h.file.keep hb, (hb.cell (World.block_lt_of_cell? _ _ h.mem)).trans h.mem, h.pow.below hb⟩
theorem BackF.flags {w : World} {fb : Nat} {F : Fl} {m0 : Int} (h : BackF w fb F m0) (hok : FlOk F) (s : ByteArray) (hs : s.size ≤ 1048576) :
    Calls Tryz.prog 21 #[.pointer (some ⟨fb, 0, none⟩), .string s] w fun e w' => ∃ p c, e = .returned (.tuple #[.slice p (flagsR F s).1.length c, .int .i64 (flagsR F s).2]) ∧ FS w' (.slice p (flagsR F s).1.length c) (flagsR F s).1 ∧ Below w.heap.size w w' :=
  (so_lFlags fb F s m0 w h.file hok hs h.mem).mono (by
    rintro e w' ⟨v, rfl, hv, hb⟩
    have hf := hv.fs
    obtain ⟨p, c, rfl, -⟩ := id hf
    exact ⟨p, c, rfl, hf, hb⟩)
structure BackL (fb : Nat) (F : Fl) (m0 : Int) (s : ByteArray) (bs : List Int) (bc : Int) : Prop where
  flags : ∀ W, BackF W fb F m0 → Calls Tryz.prog 21 #[.pointer (some ⟨fb, 0, none⟩), .string s] W fun e w' => ∃ p c, e = .returned (.tuple #[.slice p bs.length c, .int .i64 bc]) ∧ FS w' (.slice p bs.length c) bs ∧ Below W.heap.size W w'
  bd : ∀ x ∈ bs, 0 ≤ x ∧ x ≤ 65535
  len : bs.length ≤ 65536
theorem BackL.of (fb : Nat) (F : Fl) (m0 : Int) (s : ByteArray) (hok : FlOk F) (hs : s.size ≤ 1048576) : BackL fb F m0 s (flagsR F s).1 (flagsR F s).2 :=
  ⟨fun _ h => h.flags hok s hs, (hok.flags_bd s).1, (hok.flags_bd s).2⟩
theorem so_write (fb : Nat) (F : Fl) (m0 : Int) (hok : FlOk F) (zs : List Int) (hbd : ∀ x ∈ zs, 0 ≤ x ∧ x ≤ 65535) (hl : zs.length ≤ 4194304) (u : ByteArray) (ec : Int) (hr : writeA F.kind F.als zs = (u, ec)) (W : World) (p : Option Addr) (c : Nat) (h : BackF W fb F m0) (hv : FS W (.slice p zs.length c) zs) :
    Calls Tryz.prog 30 #[.pointer (some ⟨fb, 0, none⟩), .slice p zs.length c] W fun e w' => e = .returned (.tuple #[.string u, .int .i64 ec]) ∧ Below W.heap.size W w' := by
  have := so_lWrite fb F _ zs W h.file hok hv hbd hl h.pow
  unfold WrP at this
  rw [hr] at this
  exact this
theorem so_eqSame (xs ys : List Int) (hc : canon xs = canon ys) (h1 : xs.length ≤ 4194304) (h2 : ys.length ≤ 4194304) (W : World) (p : Option Addr) (c : Nat) (p' : Option Addr) (c' : Nat) (h : FS W (.slice p xs.length c) xs) (h' : FS W (.slice p' ys.length c') ys) :
    Calls Tryz.prog 32 #[.slice p xs.length c, .slice p' ys.length c'] W fun e w' => e = .returned (.bool true) ∧ Below W.heap.size W w' :=
  (so_SetEqual _ _ xs ys W h h' (by omega) (by omega)).mono (by
    rintro e w' ⟨rfl, hb⟩
    exact ⟨by rw [hc]; simp, hb⟩)
theorem so_countPos (xs : List Int) (hne : xs ≠ []) (h1 : xs.length ≤ 4194304) (W : World) (p : Option Addr) (c : Nat) (h : FS W (.slice p xs.length c) xs) :
    Calls Tryz.prog 33 #[.slice p xs.length c] W fun e w' => (∃ n : Nat, 0 < n ∧ e = .returned (.int .i64 n)) ∧ Below W.heap.size W w' :=
  (so_Count _ xs W h (by omega)).mono (by
    rintro e w' ⟨rfl, hb⟩
    exact ⟨⟨_, List.length_pos_iff.2 (canon_ne hne), rfl⟩, hb⟩)
set_option maxHeartbeats 8000000 in
set_option maxRecDepth 100000 in
theorem affBack_walk (t s : ByteArray) (v : Value) (zs : List Int) (m0 : Int) (w : World) (h0 : 0 < w.heap.size) (hm : w.cell? ⟨0, 0, none⟩ = some (.int .i64 m0)) (hs : s.size ≤ 1048576) (hf : FS w v zs) (hbd : ∀ x ∈ zs, 0 ≤ x ∧ x ≤ 65535) (hbig : zs.length ≤ 4194304) (ht : PowTab w) :
    Calls Tryz.prog 11 #[.string t, .string s, v] w fun e w' => e = .returned (.bool true) ∧ Below w.heap.size w w' := by
  have HW := Lib.hid (so_lwakes m0 w h0 hm)
  have HR : Hid (∀ W, Below w.heap.size w W → Calls Tryz.prog 12 #[.string t] W (ReadP t.data.toList W)) := Lib.hid (fun W hW => so_affRead t m0 W (Nat.lt_of_lt_of_le h0 hW.size) ((hW.cell (World.block_lt_of_cell? _ _ hm)).trans hm))
  unfold ReadP at HR
  have HM : Hid (∀ W, Below w.heap.size w W → W.cell? ⟨0, 0, none⟩ = some (.int .i64 m0) ∧ PowTab W) := Lib.hid (fun W hW => ⟨(hW.cell (World.block_lt_of_cell? _ _ hm)).trans hm, ht.below hW⟩)
  have HF := Lib.hid hf
  have HD := Lib.hid hbd
  obtain ⟨p0, c0, rfl, -, -⟩ := hf
  have HA := Lib.hid (append_flags p0 c0 zs w HF.out hbig)
  have HBig := Lib.hid hbig
  have HSz := Lib.hid hs
  clear h0 hm hbd ht hbig hs
  cases hr : affR t.data.toList with
  | error p2 =>
    obtain ⟨l, ec⟩ := p2
    rw [hr] at HR
    unfold fltV at HR
    dsimp only at HR
    clear hr
    go_enter Tryz.func11, Tryz.ntmps11
    go_wp2_with (first
      | (go_at_call 14; refine HW.out.mono ?_; rintro e w1 ⟨rfl, hb1⟩; have HB1 := Lib.hid hb1; clear hb1)
      | (go_at_call 12; refine (HR.out _ HB1.out).mono ?_; rintro e w2 ⟨hb2, rfl⟩; have HB2 := Lib.hid (HB1.out.trans (hb2.mono HB1.out.size)); clear hb2))
    go_ret
    exact ⟨rfl, HB2.out.alloc HB2.out.size _⟩
  | ok F =>
    have hal := affR_al hr
    rw [hr] at HR
    dsimp only at HR
    clear hr
    go_enter Tryz.func11, Tryz.ntmps11
    go_wp2_with (go_at_call 14; refine HW.out.mono ?_; rintro e w1 ⟨rfl, hb1⟩; have HB1 := Lib.hid hb1; clear hb1)
    refine (HR.out _ HB1.out).mono ?_
    rintro e w2 ⟨hb2, fb, rfl, hfa, hok, -⟩
    have HB2 := Lib.hid (HB1.out.trans (hb2.mono HB1.out.size))
    have HFa := Lib.hid hfa
    have HOk := Lib.hid hok
    have hb3 : Below w2.heap.size w2 (w2.alloc (.cells #[.int .i64 0, .int .i64 0, .int .i64 0] 25)) := (Below.refl _ _).alloc (Nat.le_refl _) _
    have HB3 := Lib.hid (HB2.out.trans (hb3.mono HB2.out.size))
    have HG3 : Hid (BackF (w2.alloc (.cells #[.int .i64 0, .int .i64 0, .int .i64 0] 25)) fb F m0) := Lib.hid ⟨HFa.out.keep hb3, (HM.out _ HB3.out).1, (HM.out _ HB3.out).2⟩
    obtain ⟨p4, c4, w4, hrun, hfs4, hb4⟩ := HA.out _ HB3.out
    have HRn := Lib.hid hrun
    have HS4 := Lib.hid hfs4
    have HG4 := Lib.hid (HG3.out.keep hb4)
    have HB4 := Lib.hid (HB3.out.trans (hb4.mono HB3.out.size))
    -- the plain law's own names
    have hwb := write_back F zs
    have hwl := writeA_len F.kind F.als zs HD.out HOk.out.als
    obtain ⟨⟨u, ec⟩, hwr⟩ : ∃ r, writeA F.kind F.als zs = r := ⟨_, rfl⟩
    have HWr := Lib.hid (so_write fb F m0 hok zs HD.out HBig.out u ec hwr)
    rw [hwr] at hwb hwl
    have hBu := fun h => BackL.of fb F m0 u hok h
    have hBs := BackL.of fb F m0 s hok HSz.out
    have hno := flagsR_none F s
    have hrw := read_write F s hal
    have hbd2 := hok.flags_bd s
    obtain ⟨⟨bs, bc⟩, hbs⟩ : ∃ r, flagsR F s = r := ⟨_, rfl⟩
    rw [hbs] at hBs hno hrw hbd2
    dsimp only at hrw hbd2
    obtain ⟨⟨xs, ac⟩, has⟩ : ∃ r, flagsR F u = r := ⟨_, rfl⟩
    rw [has] at hBu hwb
    have hwb2 := write_back F bs
    have hwl2 := writeA_len F.kind F.als bs hbd2.1 HOk.out.als
    obtain ⟨⟨u2, ec2⟩, hwr2⟩ : ∃ r, writeA F.kind F.als bs = r := ⟨_, rfl⟩
    have HWr2 := Lib.hid (so_write fb F m0 hok bs hbd2.1 (Nat.le_trans hbd2.2 (by decide)) u2 ec2 hwr2)
    rw [hwr2] at hwb2 hwl2 hrw
    have hBu2 := fun h => BackL.of fb F m0 u2 hok h
    obtain ⟨⟨ds, dc⟩, hds⟩ : ∃ r, flagsR F u2 = r := ⟨_, rfl⟩
    rw [hds] at hBu2 hwb2
    dsimp only at hwb hwl hno hrw hwb2 hwl2 hBs hBu hBu2
    have HBs := Lib.hid hBs
    have HBu := Lib.hid hBu
    have HBu2 := Lib.hid hBu2
    have HNo := Lib.hid hno
    have HRW := Lib.hid hrw
    have HWb := Lib.hid hwb
    have HWl := Lib.hid hwl
    have HWb2 := Lib.hid hwb2
    have HWl2 := Lib.hid hwl2
    clear hb2 hfa hok hb3 hrun hfs4 hb4 hwb hwl hwr hBs hBu hBu2 hno hrw hwb2 hwl2 hwr2 hds has hbs hbd2 hal
    go_wp2_with (at_builtin; refine Lib.wpList_append_run _ rfl _ _ _ _ rfl _ _ rfl rfl _ _ HRn.out ?_)
    refine (HWr.out w4 p4 c4 HG4.out HS4.out).mono ?_
    rintro e w5 ⟨rfl, hb5⟩
    have HB5 := Lib.hid (HB4.out.trans (hb5.mono HB4.out.size))
    have HG5 := Lib.hid (HG4.out.keep hb5)
    clear hb5
    have hcase : (ec ≠ 0 ∨ ec = 0 ∧ zs = []) ∨ ec = 0 ∧ zs ≠ [] := by
      by_cases h1 : ec = 0
      · by_cases h2 : zs = []
        · exact .inl (.inr ⟨h1, h2⟩)
        exact .inr ⟨h1, h2⟩
      exact .inl (.inl h1)
    rcases hcase with (hec | ⟨rfl, rfl⟩) | ⟨rfl, hne⟩
    focus
      have hec2 : (ec == 0) = false := by rw [beq_eq_false_iff_ne]; exact hec
      have HB6 := HB5
      have HG6 := HG5
      go_wp2_with fail
    rotate_left
    focus
      have HB6 := HB5
      have HG6 := HG5
      go_wp2_with fail
    rotate_left
    focus
      obtain ⟨y0, yc⟩ := HWb.out hne (by trivial)
      subst y0
      have hul := HWl.out (by trivial)
      have hBu := HBu.out (by omega)
      have hzl : 0 < zs.length := List.length_pos_iff.2 hne
      have HFl := Lib.hid (hBu.flags w5 HG5.out)
      have HEq : Hid (∀ W p c, Below w.heap.size w W → FS W (.slice p xs.length c) xs → Calls Tryz.prog 32 #[.slice p xs.length c, .slice p0 zs.length c0] W fun e w' => e = .returned (.bool true) ∧ Below W.heap.size W w') := Lib.hid (fun W p c hW hv => so_eqSame xs zs yc (Nat.le_trans hBu.len (by decide)) HBig.out W p c p0 c0 hv (HF.out.keep hW))
      clear hne yc hul hBu
      go_wp2_with fail
      refine HFl.out.mono ?_
      rintro e wx ⟨px, cx, rfl, hfx, hbx⟩
      have HBx := Lib.hid (HB5.out.trans (hbx.mono HB5.out.size))
      have HGx := Lib.hid (HG5.out.keep hbx)
      have HEx := Lib.hid (HEq.out wx px cx HBx.out hfx)
      clear hbx hfx HFl
      go_wp2_with (go_at_call 32; refine HEx.out.mono ?_; rintro e wy ⟨rfl, hby⟩; have HB6 := Lib.hid (HBx.out.trans (hby.mono HBx.out.size)); have HG6 := Lib.hid (HGx.out.keep hby); clear hby)
    rotate_left
    all_goals
      refine (HBs.out.flags _ HG6.out).mono ?_
      rintro e w7 ⟨p7, c7, rfl, hf7, hb7⟩
      have HB7 := Lib.hid (HB6.out.trans (hb7.mono HB6.out.size))
      have HG7 := Lib.hid (HG6.out.keep hb7)
      have HS7 := Lib.hid hf7
      clear hb7 hf7
      by_cases hbc : bc = 0
      · subst hbc
        obtain ⟨hn7, e7⟩ := HRW.out (by trivial)
        subst e7
        obtain ⟨d0, dcn⟩ := HWb2.out hn7 (by trivial)
        subst d0
        have hul2 := HWl2.out (by trivial)
        have hB2 := HBu2.out (by omega)
        have HFl2 := Lib.hid hB2.flags
        have HE2 : Hid (∀ W p c p' c', FS W (.slice p ds.length c) ds → FS W (.slice p' bs.length c') bs → Calls Tryz.prog 32 #[.slice p ds.length c, .slice p' bs.length c'] W fun e w' => e = .returned (.bool true) ∧ Below W.heap.size W w') := Lib.hid (fun W p c p' c' h h' => so_eqSame ds bs dcn (Nat.le_trans hB2.len (by decide)) (Nat.le_trans HBs.out.len (by decide)) W p c p' c' h h')
        have HCt : Hid (∀ W p c, FS W (.slice p bs.length c) bs → Calls Tryz.prog 33 #[.slice p bs.length c] W fun e w' => (∃ n : Nat, 0 < n ∧ e = .returned (.int .i64 n)) ∧ Below W.heap.size W w') := Lib.hid (fun W p c h => so_countPos bs hn7 (Nat.le_trans HBs.out.len (by decide)) W p c h)
        clear hn7 dcn hul2 hB2
        go_wp2_with fail
        refine (HWr2.out w7 p7 c7 HG7.out HS7.out).mono ?_
        rintro e w8 ⟨rfl, hb8⟩
        have HB8 := Lib.hid (HB7.out.trans (hb8.mono HB7.out.size))
        have HG8 := Lib.hid (HG7.out.keep hb8)
        have HS8 := Lib.hid (HS7.out.keep hb8)
        clear hb8
        go_wp2_with fail
        refine (HFl2.out w8 HG8.out).mono ?_
        rintro e w9 ⟨p9, c9, rfl, hf9, hb9⟩
        have HB9 := Lib.hid (HB8.out.trans (hb9.mono HB8.out.size))
        have HS9 := Lib.hid (HS8.out.keep hb9)
        have HE9 := Lib.hid (HE2.out w9 p9 c9 p7 c7 hf9 HS9.out)
        clear hb9 hf9
        go_wp2_with (first
          | (go_at_call 32; refine HE9.out.mono ?_; rintro e w10 ⟨rfl, hb10⟩; have HB10 := Lib.hid (HB9.out.trans (hb10.mono HB9.out.size)); have HC10 := Lib.hid (HCt.out w10 p7 c7 (HS9.out.keep hb10)); clear hb10)
          | (go_at_call 33; refine HC10.out.mono ?_; rintro e w11 ⟨⟨n, hn, rfl⟩, hb11⟩; have hn' : (0 : Int) < (n : Int) := (by omega); have HB11 := Lib.hid (HB10.out.trans (hb11.mono HB10.out.size)); clear hb11))
        go_ret
        exact ⟨by simp [hn], HB11.out⟩
      have hbe : (bc == 0) = false := by rw [beq_eq_false_iff_ne]; exact hbc
      have e7 := HNo.out hbc
      subst e7
      go_wp2_with fail
      go_ret
      exact ⟨by simp, HB7.out⟩
theorem affBack_sh (t s : ByteArray) (v : Value) (zs : List Int) (W : World) (h : W.ShapedOpen Tryz.prog) (hs : s.size ≤ 1048576) (hf : FS W v zs) (hbd : ∀ x ∈ zs, 0 ≤ x ∧ x ≤ 65535) (hbig : zs.length ≤ 4194304) (ht : PowTab W) :
    Calls Tryz.prog 11 #[.string t, .string s, v] W fun e w' => e = .returned (.bool true) ∧ Below W.heap.size W w' := by
  obtain ⟨m, hm⟩ := maxLen_of W h
  exact affBack_walk t s v zs m W (Nat.lt_of_le_of_lt (Nat.zero_le _) (World.block_lt_of_cell? _ _ hm)) hm hs hf hbd hbig ht
end Go.Proofs.YtkdajhmlhjkcdaaGreatDoor
namespace Go.Proofs.YtkdajhmlhjkcdaaGreatDoor
open Go.RowKit
theorem lvars_tab {W : World} {name : String} {k : IntKind} {zs : List Int} {rest : List (String × DataW Unit)} {g : Nat} {t e : TypeId} {n : Nat} {ps : List MemPlace}
    (hg : Tryz.prog.globalNamed name = some g) (hty : (Tryz.prog.globals[g]?).map (·.type) = some t) (ht : Tryz.prog.underlying t = some (.array n e)) (he : Tryz.prog.underlying e = some (.int k)) (hce : Tryz.prog.cellsOf e = 1) (hct : Tryz.prog.cellsOf t = n)
    (h : DataW.LaidVars Tryz.prog W ((name, Lib.tabData k zs) :: rest) ps) : Lib.TabIs Tryz.prog W name k zs := by
  obtain ⟨g', t', cs, fuel, p, q, hg', ht', hvar, hd, _, _⟩ := h
  obtain rfl := Option.some.inj (hg.symm.trans hg')
  obtain rfl := Option.some.inj (hty.symm.trans ht')
  unfold Lib.TabIs
  rw [hvar, ← Lib.cells_of_tab ht he hce hct hd]
theorem lvars_tail {W : World} {x : String × DataW Unit} {rest : List (String × DataW Unit)} {ps : List MemPlace} (h : DataW.LaidVars Tryz.prog W (x :: rest) ps) : ∃ qs, DataW.LaidVars Tryz.prog W rest qs := by
  obtain ⟨g', t', cs, fuel, p, q, _, _, _, _, h2, _⟩ := h
  exact ⟨q, h2⟩
theorem powTab_affBack {W : World} (h : laidMetH Tryz.prog Rows.affBackUptoRow.laid W) : PowTab W := by
  have h1 : laidMet Tryz.prog Rows.affBackUptoRow.laid W := h
  obtain ⟨ps, h2, _⟩ := h1
  obtain ⟨qs, h3⟩ := lvars_tail h2
  obtain ⟨rs, h4⟩ := lvars_tail h3
  exact lvars_tab (g := 1) (by kernel_rfl) (by kernel_rfl) Tryz.underlying271 Tryz.underlying222 (by kernel_rfl) (by kernel_rfl) h4
end Go.Proofs.YtkdajhmlhjkcdaaGreatDoor
namespace Go.Proofs.YtkdajhmlhjkcdaaGreatDoor
open Go.ChangeShapes Go.WideShapes Go.ChangeAt Go.RowKit
theorem addr_plain {w : World} {a : Addr} {v : Value} (h : w.cell? a = some v) : a = ⟨a.block, a.off, none⟩ := by
  obtain ⟨b, o, sp⟩ := a
  cases sp with
  | none => rfl
  | some s =>
    simp [World.cell?] at h
    split at h <;> simp at h
theorem addr_add (g o j : Nat) : (⟨g, o, none⟩ : Addr).add j = ⟨g, o + j, none⟩ := by unfold Addr.add; split <;> simp_all
theorem cells_flag : Tryz.prog.cellsOf 34 = 1 := by kernel_rfl
end Go.Proofs.YtkdajhmlhjkcdaaGreatDoor
namespace Go.Proofs.YtkdajhmlhjkcdaaGreatDoor
open Go.ChangeShapes Go.WideShapes Go.ChangeAt Go.RowKit Go.Deep
theorem bulk_lits {H : Type} (k : IntKind) (zs : List Int) : Rows.uptoBulkAll (lits (H := H) k zs) = zs.length := by
  induction zs with
  | nil => simp [lits, Rows.uptoBulkAll]
  | cons s ss ih =>
    have e : lits (H := H) k (s :: ss) = .lit (.int k s) :: lits k ss := rfl
    rw [e]
    simp only [Rows.uptoBulkAll, Rows.uptoBulk, ih, List.length_cons]; omega
set_option maxRecDepth 100000 in
/-- A slice of flags that lies in one cell. -/
theorem open_flags_cs {H : Type} {enc : TypeId × Value → H} {W : World} {v : Value} {x : DataW H × List MemPlace} {fuel : Nat}
    (hf : DataW.trod enc Tryz.prog W 0 (fun _ => true) true fuel 44 [v] = some x) :
    ∃ zs : List Int, FS W v zs ∧ zs.length + 1 ≤ Rows.uptoBulk x.1 ∧ ∀ x ∈ zs, 0 ≤ x ∧ x ≤ 65535 := by
  rcases open_ints Tryz.underlying44 Tryz.underlying34 cells_flag hf with ⟨hcs, hx⟩ | ⟨a, len, cap, zs, hcs, _, hl, hm, hz, hx, hcell, hws⟩
  · obtain rfl : v = .slice none 0 0 := by simpa using hcs
    exact ⟨[], ⟨none, 0, rfl, Nat.le_refl _, .inl rfl⟩, by rw [hx]; simp [Rows.uptoBulk], by simp⟩
  obtain rfl : v = .slice (some a) len cap := by simpa using hcs
  simp only [if_true] at hz
  have hlen : (zs.take len).length = len := by rw [List.length_take]; omega
  refine ⟨zs.take len, ⟨some a, cap, by rw [hlen], by omega, ?_⟩, ?_, fun x hx => ?_⟩
  · rcases Nat.eq_zero_or_pos len with h0 | h0
    · exact .inl (by omega)
    right
    have c0 := hcell 0 (by omega)
    have e0 : a.add 0 = a := by simp [Addr.add]
    rw [e0] at c0
    have ha := addr_plain c0
    refine ⟨a.block, a.off, by rw [← ha], fun j hj => ?_⟩
    have hjl : j < len := by omega
    have cj := hcell j (by omega)
    rw [ha, addr_add] at cj
    rw [cj]
    simp [List.getD, hjl]
  · rw [hx]
    simp only [Rows.uptoBulk, bulk_lits]
    omega
  have := hws x (List.mem_of_mem_take hx)
  simp [Lit.wf, IntKind.min, IntKind.max, IntKind.signed, IntKind.bits] at this
  omega
set_option maxRecDepth 100000 in
/-- Flags among the arguments, bounded by their bulk. -/
theorem open_flagsU_ {H : Type} {enc : TypeId × Value → H} {W : World} {base : Nat} {v : Value} {d : DataW H} {p : List MemPlace} (hval : Value.okWide Tryz.prog W .any base 44 v)
    (h : DataW.Trod enc Tryz.prog W 0 (fun _ => true) true 44 v d p) : ∃ zs : List Int, FS W v zs ∧ zs.length + 1 ≤ Rows.uptoBulk d ∧ ∀ x ∈ zs, 0 ≤ x ∧ x ≤ 65535 := by
  obtain ⟨a0, len, cap, rfl⟩ := okWide_slice Tryz.underlying44 hval
  obtain ⟨fuel, hf⟩ := h
  exact open_flags_cs hf
end Go.Proofs.YtkdajhmlhjkcdaaGreatDoor
