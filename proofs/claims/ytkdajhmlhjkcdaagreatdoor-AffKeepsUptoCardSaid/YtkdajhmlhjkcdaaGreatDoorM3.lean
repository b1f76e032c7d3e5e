/-
 Parts of the proof: Lines1, Lines2, FP1, Lines3, FR8, FR9, FR10, FR1, FL2, FL3, FL4, FL7, FL9, FA0, FR3, FR4, FR11.
-/
import Derived.Test.YtkdajhmlhjkcdaaGreatDoorRows
import Derived.Test.YtkdajhmlhjkcdaaGreatDoorM2
import Derived.Lib.Split
import Derived.Laws.BitsLemmas
import Derived.Lib.EndianBits
import Derived.BigQuiet
import Derived.Deep.QuietTactic
import Derived.Deep.RegionWith
import Derived.Test.YtkdajhmlhjkcdaaGreatDoorM0
import Derived.Lib.SlicesCompact
import Derived.Lib.Walk
import Derived.Deep.LoopGhost
set_option linter.unusedVariables false
set_option linter.unusedSimpArgs false
namespace Go.Proofs.YtkdajhmlhjkcdaaGreatDoor
open Go.RowKit
def mkS (l : List UInt8) : ByteArray := ⟨l.toArray⟩
theorem mkS_size (l : List UInt8) : (mkS l).size = l.length := by show l.toArray.size = _; simp
theorem mkS_data (l : List UInt8) : (mkS l).data.toList = l := rfl
theorem extract_mkS (s : ByteArray) (a b : Nat) : s.extract a b = mkS ((s.data.toList.drop a).take (b - a)) := Lib.extract_eq s a b
def gapB (b : UInt8) : Bool := b.toNat == 32 || b.toNat == 9
theorem gapB_eq (b : UInt8) : gapB b = (((b.toNat : Int) == 32) || ((b.toNat : Int) == 9)) := by
 unfold gapB; rw [Bool.eq_iff_iff]; simp; omega
set_option maxHeartbeats 400000 in
theorem gap_any (b : UInt8) (w : World) :
  Calls Tryz.prog 100 #[.int .u8 b.toNat] w fun e w' => e = .returned (.bool (gapB b)) ∧ w = w' := by
 have H := Lib.hid (gapB_eq b)
 go_enter Tryz.func100, Tryz.ntmps100
 go_wp2
 all_goals go_ret
 all_goals exact ⟨ret_bool (by rw [H.out]; try simp [*]), rfl⟩
def fgo : List UInt8 → Option (List UInt8) → List (List UInt8)
 | [], none => []
 | [], some c => [c]
 | b :: l, none => if gapB b then fgo l none else fgo l (some [b])
 | b :: l, some c => if gapB b then c :: fgo l none else fgo l (some (c ++ [b]))
def fieldsOf (l : List UInt8) : List (List UInt8) := fgo l none
def fieldsS (s : ByteArray) : List ByteArray := (fieldsOf s.data.toList).map mkS
theorem fgo_len : ∀ (l : List UInt8) (c : Option (List UInt8)), (fgo l c).length ≤ l.length + (if c.isSome then 1 else 0)
 | [], none => by simp [fgo]
 | [], some c => by simp [fgo]
 | b :: l, none => by
   have h1 := fgo_len l none
   have h2 := fgo_len l (some [b])
   simp only [fgo]
   split <;> simp at h1 h2 ⊢ <;> omega
 | b :: l, some c => by
   have h1 := fgo_len l none
   have h2 := fgo_len l (some (c ++ [b]))
   simp only [fgo]
   split <;> simp at h1 h2 ⊢ <;> omega
theorem fields_len (s : ByteArray) : (fieldsS s).length ≤ s.size := by
 have := fgo_len s.data.toList none
 simp [fieldsS, fieldsOf] at this ⊢
 exact this
theorem piece_snoc (s : ByteArray) (f k : Nat) (hf : f ≤ k) (hk : k < s.size) : (s.data.toList.drop f).take (k + 1 - f) = (s.data.toList.drop f).take (k - f) ++ [s[k]] := by
 have e : k + 1 - f = (k - f) + 1 := by omega
 have hl := len_toList s
 rw [e, List.take_succ_eq_append_getElem (by simp; omega)]
 congr 2
 simp only [List.getElem_drop]
 have : f + (k - f) = k := by omega
 simp only [this]; rfl
theorem str_info : (Tryz.prog.info? 9).map (fun i => (i.zero, i.size, i.bytes)) = some (some (.string ByteArray.empty), 1, 16) := by kernel_rfl
def FromIs (k : Nat) (s : ByteArray) (v : Value) (c : Option (List UInt8)) : Prop :=
 (v = .int .i64 (-1) ∧ c = none) ∨ ∃ f : Nat, f < k ∧ v = .int .i64 f ∧ c = some ((s.data.toList.drop f).take (k - f))
set_option maxHeartbeats 2000000 in
set_option maxRecDepth 100000 in
theorem Fields_any (s : ByteArray) (w : World) (hs : s.size ≤ 16777216) :
  Calls Tryz.prog 66 #[.string s] w fun e w' => ∃ v, e = .returned v ∧ Own w w' 9 1 v (fieldsS s).length (strV (fieldsS s)) := by
 obtain ⟨i0, hi, hz0, hz1, hz2⟩ := info_parts str_info
 go_enter Tryz.func66, Tryz.ntmps66
 go_wp2_with fail
 go_loopw [3, 4, 8] (fun v fr i wr => ∃ (k : Nat) (acc : List (List UInt8)) (c : Option (List UInt8)), k ≤ s.size ∧ i = .int .i64 k ∧ FromIs k s fr c ∧ acc.length ≤ k ∧
  Own w wr 9 1 v acc.length (strV (acc.map mkS)) ∧ acc ++ fgo (s.data.toList.drop k) c = fieldsOf s.data.toList) (fun _ _ i _ => s.size - (intOf i).toNat)
 case atStart => exact ⟨0, [], none, Nat.zero_le _, rfl, .inl ⟨rfl, rfl⟩, Nat.le_refl _, Own.nil_ w _ _, rfl⟩
 case round =>
 obtain ⟨k, acc, c, hk, rfl, hfr, hal, ho, hrem⟩ := hrel
 have HO := Lib.hid ho
 have HR := Lib.hid hrem
 clear ho hrem
 by_cases hlt : k < s.size
 ·have HD := Lib.hid (drop_cons s k hlt)
  rcases hfr with ⟨rfl, rfl⟩ | ⟨f, hf, rfl, rfl⟩
  ·cases hg : gapB s[k]
   ·have HG := Lib.hid hg
    go_wp2_with (go_at_call 100; refine (gap_any _ _).mono ?_; rintro e w1 ⟨rfl, rfl⟩)
    go_roundw
    case rel =>
     refine ⟨k + 1, acc, some [s[k]], by omega, by go_num, .inr ⟨k, by omega, rfl, ?_⟩, by omega, HO.out, ?_⟩
     ·have := piece_snoc s k k (Nat.le_refl _) hlt
      rw [this]; simp
     rw [← HR.out, HD.out, fgo, HG.out]; rfl
    case measure => simp [intOf]; omega
   have HG := Lib.hid hg
   go_wp2_with (go_at_call 100; refine (gap_any _ _).mono ?_; rintro e w1 ⟨rfl, rfl⟩)
   go_roundw
   case rel => exact ⟨k + 1, acc, none, by omega, by go_num, .inl ⟨rfl, rfl⟩, by omega, HO.out, by rw [← HR.out, HD.out, fgo, HG.out]; rfl⟩
   case measure => simp [intOf]; omega
  cases hg : gapB s[k]
  ·have HG := Lib.hid hg
   have HP := Lib.hid (piece_snoc s f k (by omega) hlt)
   go_wp2_with (go_at_call 100; refine (gap_any _ _).mono ?_; rintro e w1 ⟨rfl, rfl⟩)
   go_roundw
   case rel => exact ⟨k + 1, acc, _, by omega, by go_num, .inr ⟨f, by omega, rfl, rfl⟩, by omega, HO.out, by rw [← HR.out, HD.out, fgo, HG.out, HP.out]; rfl⟩
   case measure => simp [intOf]; omega
  have HG := Lib.hid hg
  go_wp2_with (first
   | (go_at_call 100; refine (gap_any _ _).mono ?_; rintro e w1 ⟨rfl, rfl⟩)
   | (at_builtin; refine wpList_push1 rfl _ _ 65 rfl w.heap.size 9 i0 (.string ByteArray.empty) 16 Tryz.underlying65 hi hz0 hz1 hz2 rfl _ acc.length _ rfl HO.out.own _ rfl rfl (by unfold maxLen; omega) (by omega) HO.out.size ?_; intro gg cap w5 hown hg5; have HO' := Lib.hid (HO.out.push hown hg5); clear hown hg5))
  go_roundw
  case rel =>
   refine ⟨k + 1, acc ++ [(s.data.toList.drop f).take (k - f)], none, by omega, by go_num, .inl ⟨rfl, rfl⟩, by simp; omega, ?_, by rw [← HR.out, HD.out, fgo, HG.out]; simp⟩
   have := HO'.out
   rw [extract_mkS, strV_snoc] at this
   simpa using this
  case measure => simp [intOf]; omega
 obtain rfl : k = s.size := by omega
 have HE := Lib.hid (drop_all s)
 rcases hfr with ⟨rfl, rfl⟩ | ⟨f, hf, rfl, rfl⟩
 ·go_wp2_with fail
  go_ret
  refine ⟨_, rfl, ?_⟩
  have e : fieldsS s = acc.map mkS := by rw [fieldsS, ← HR.out, HE.out]; simp [fgo]
  rw [e, List.length_map]; exact HO.out
 go_wp2_with (at_builtin; refine wpList_push1 rfl _ _ 65 rfl w.heap.size 9 i0 (.string ByteArray.empty) 16 Tryz.underlying65 hi hz0 hz1 hz2 rfl _ acc.length _ rfl HO.out.own _ rfl rfl (by unfold maxLen; omega) (by omega) HO.out.size ?_; intro gg cap w5 hown hg5; have HO' := Lib.hid (HO.out.push hown hg5); clear hown hg5)
 go_ret
 refine ⟨_, rfl, ?_⟩
 have e : fieldsS s = acc.map mkS ++ [mkS ((s.data.toList.drop f).take (s.size - f))] := by rw [fieldsS, ← HR.out, HE.out]; simp [fgo]
 have := HO'.out
 rw [extract_mkS, strV_snoc, ← e] at this
 have hl : (fieldsS s).length = acc.length + 1 := by rw [e]; simp
 rw [hl]; exact this
theorem fgo_skip (l : List UInt8) (b : UInt8) (h : gapB b = true) : fgo (b :: l) none = fgo l none := by rw [fgo, h]; rfl
theorem fgo_more (l : List UInt8) (b : UInt8) (c : List UInt8) (h : gapB b = false) : fgo (b :: l) (some c) = fgo l (some (c ++ [b])) := by rw [fgo, h]; rfl
theorem fgo_first (l : List UInt8) (b : UInt8) (h : gapB b = false) : fgo (b :: l) none = fgo l (some [b]) := by rw [fgo, h]; rfl
theorem fgo_end (l : List UInt8) (c : List UInt8) (h : l = [] ∨ ∃ b m, l = b :: m ∧ gapB b = true) : fgo l (some c) = c :: fgo l none := by
 rcases h with rfl | ⟨b, m, rfl, hb⟩
 ·rfl
 rw [fgo, hb, fgo, hb]; rfl
theorem isgap (b : UInt8) (h : gapB b = true) : (((b.toNat : Int) == 32) = true) ∨ ((((b.toNat : Int) == 32) = false) ∧ (((b.toNat : Int) == 9) = true)) := by
 rw [gapB_eq] at h
 cases h1 : ((b.toNat : Int) == 32) <;> simp_all
theorem nogap (b : UInt8) (h : gapB b = false) : (((b.toNat : Int) == 32) = false) ∧ (((b.toNat : Int) == 9) = false) ∧ (((b.toNat : Int) != 32) = true) ∧ (((b.toNat : Int) != 9) = true) := by
 rw [gapB_eq] at h
 cases h1 : ((b.toNat : Int) == 32) <;> cases h2 : ((b.toNat : Int) == 9) <;> simp_all
theorem isgap' (b : UInt8) (h : gapB b = true) : (((b.toNat : Int) != 32) = false) ∨ ((((b.toNat : Int) != 32) = true) ∧ (((b.toNat : Int) != 9) = false)) := by
 rcases isgap b h with h | ⟨h1, h2⟩
 ·left; simp at h; simp [h]
 right; simp at h1 h2; simp [h2]
set_option maxHeartbeats 2000000 in
set_option maxRecDepth 100000 in
theorem Fields01_any (s : ByteArray) (w : World) (hs : s.size ≤ 16777216) :
  Calls Tryz.prog 76 #[.string s] w fun e w' => ∃ v, e = .returned v ∧ Own w w' 9 1 v (fieldsS s).length (strV (fieldsS s)) := by
 obtain ⟨i0, hi, hz0, hz1, hz2⟩ := info_parts str_info
 go_enter Tryz.func76, Tryz.ntmps76
 go_wp2_with fail
 go_loopw [3, 4] (fun v i wr => ∃ (k : Nat) (acc : List (List UInt8)), k ≤ s.size ∧ i = .int .i64 k ∧ acc.length ≤ k ∧
  Own w wr 9 1 v acc.length (strV (acc.map mkS)) ∧ acc ++ fgo (s.data.toList.drop k) none = fieldsOf s.data.toList) (fun _ i _ => s.size - (intOf i).toNat)
 case atStart => exact ⟨0, [], Nat.zero_le _, rfl, Nat.le_refl _, Own.nil_ w _ _, rfl⟩
 case round =>
 obtain ⟨k, acc, hk, rfl, hal, ho, hrem⟩ := hrel
 have HO := Lib.hid ho
 have HR := Lib.hid hrem
 clear ho hrem
 by_cases hlt : k < s.size
 ·have HD := Lib.hid (drop_cons s k hlt)
  cases hg : gapB s[k]
  ·obtain ⟨n1, n2, n3, n4⟩ := nogap _ hg
   have HG := Lib.hid hg
   clear hg
   go_wp2_with fail
   obtain ⟨wo, rfl⟩ : ∃ wo : World, wo = wr := ⟨_, rfl⟩
   go_loop [5] (fun j => ∃ m : Nat, k ≤ m ∧ m ≤ s.size ∧ j = .int .i64 m ∧ (m = k ∨ (k < m ∧ fgo (s.data.toList.drop k) none = fgo (s.data.toList.drop m) (some ((s.data.toList.drop k).take (m - k)))))) (fun j => s.size - (intOf j).toNat)
   case atStart => exact ⟨k, Nat.le_refl _, hk, rfl, .inl rfl⟩
   case round =>
   obtain ⟨m, hkm, hm, rfl, hpre⟩ := hrel
   have HPre := Lib.hid hpre
   clear hpre
   by_cases hlm : m < s.size
   ·have HDm := Lib.hid (drop_cons s m hlm)
    have HP := Lib.hid (piece_snoc s k m hkm hlm)
    cases hgm : gapB s[m]
    ·obtain ⟨m1, m2, m3, m4⟩ := nogap _ hgm
     have HGm := Lib.hid hgm
     clear hgm
     go_wp2_with fail
     go_round
     case rel =>
      refine ⟨m + 1, by omega, by omega, by go_num, .inr ⟨by omega, ?_⟩⟩
      rcases HPre.out with rfl | ⟨_, h⟩
      ·rw [HDm.out, fgo_first _ _ HGm.out, ← HDm.out, HP.out]; simp
      rw [h, HDm.out, fgo_more _ _ _ HGm.out, HP.out]
     case measure => simp [intOf]; omega
    have hkm' : k < m := by
     rcases Nat.lt_or_ge k m with h | h
     ·exact h
     obtain rfl : k = m := by omega
     have := HG.out; rw [hgm] at this; cases this
    have HGm := Lib.hid hgm
    have hfin : acc ++ ((s.data.toList.drop k).take (m - k)) :: fgo (s.data.toList.drop m) none = fieldsOf s.data.toList := by
     rcases HPre.out with rfl | ⟨_, h⟩
     ·omega
     rw [← HR.out, h, fgo_end _ _ (.inr ⟨_, _, HDm.out, hgm⟩)]
    have HF := Lib.hid hfin
    have hcase := isgap' _ hgm
    clear hfin hgm
    rcases hcase with q1 | ⟨q1, q2⟩
    all_goals
     go_wp2_with (at_builtin; refine wpList_push1 rfl _ _ 65 rfl w.heap.size 9 i0 (.string ByteArray.empty) 16 Tryz.underlying65 hi hz0 hz1 hz2 rfl _ acc.length _ rfl HO.out.own _ rfl rfl (by unfold maxLen; omega) (by omega) HO.out.size ?_; intro gg cap w5 hown hg5; have HO' := Lib.hid (HO.out.push hown hg5); clear hown hg5)
     go_roundw
     case rel =>
      refine ⟨m, acc ++ [(s.data.toList.drop k).take (m - k)], hm, rfl, by simp; omega, ?_, by rw [← HF.out]; simp⟩
      have := HO'.out
      rw [extract_mkS, strV_snoc] at this
      simpa using this
     case measure => simp [intOf]; omega
   obtain rfl : m = s.size := by omega
   have hfin : acc ++ ((s.data.toList.drop k).take (s.size - k)) :: fgo (s.data.toList.drop s.size) none = fieldsOf s.data.toList := by
    rcases HPre.out with h | ⟨_, h⟩
    ·omega
    rw [← HR.out, h, fgo_end _ _ (.inl (drop_all s))]
   have HF := Lib.hid hfin
   clear hfin
   go_wp2_with (at_builtin; refine wpList_push1 rfl _ _ 65 rfl w.heap.size 9 i0 (.string ByteArray.empty) 16 Tryz.underlying65 hi hz0 hz1 hz2 rfl _ acc.length _ rfl HO.out.own _ rfl rfl (by unfold maxLen; omega) (by omega) HO.out.size ?_; intro gg cap w5 hown hg5; have HO' := Lib.hid (HO.out.push hown hg5); clear hown hg5)
   go_roundw
   case rel =>
    refine ⟨s.size, acc ++ [(s.data.toList.drop k).take (s.size - k)], Nat.le_refl _, rfl, by simp; omega, ?_, by rw [← HF.out]; simp⟩
    have := HO'.out
    rw [extract_mkS, strV_snoc] at this
    simpa using this
   case measure => simp [intOf]; omega
  have hcase := isgap _ hg
  have HG := Lib.hid hg
  clear hg
  rcases hcase with q1 | ⟨q1, q2⟩
  all_goals
   go_wp2_with fail
   go_roundw
   case rel => exact ⟨k + 1, acc, by omega, by go_num, by omega, HO.out, by rw [← HR.out, HD.out, fgo_skip _ _ HG.out]⟩
   case measure => simp [intOf]; omega
 obtain rfl : k = s.size := by omega
 have HE := Lib.hid (drop_all s)
 go_wp2_with fail
 go_ret
 refine ⟨_, rfl, ?_⟩
 have e : fieldsS s = acc.map mkS := by rw [fieldsS, ← HR.out, HE.out]; simp [fgo]
 rw [e, List.length_map]; exact HO.out
end Go.Proofs.YtkdajhmlhjkcdaaGreatDoor
namespace Go.Proofs.YtkdajhmlhjkcdaaGreatDoor
open Go.RowKit
def digB (b : UInt8) : Bool := decide (48 ≤ b.toNat ∧ b.toNat ≤ 57)
def valOf (l : List UInt8) : Nat := l.foldl (fun n b => 10 * n + (b.toNat - 48)) 0
theorem valOf_snoc (l : List UInt8) (b : UInt8) : valOf (l ++ [b]) = 10 * valOf l + (b.toNat - 48) := by simp [valOf, List.foldl_append]
theorem val_from (l : List UInt8) : ∀ n, n ≤ l.foldl (fun n b => 10 * n + (b.toNat - 48)) n := by
 induction l with
 | nil => intro n; exact Nat.le_refl _
 | cons b l ih => intro n; exact Nat.le_trans (show n ≤ 10 * n + (b.toNat - 48) by omega) (ih _)
theorem val_take (l : List UInt8) (k : Nat) : valOf (l.take k) ≤ valOf l := by
 conv => rhs; rw [← List.take_append_drop k l]
 unfold valOf
 rw [List.foldl_append]
 exact val_from _ _
def numOk (l : List UInt8) : Bool := !l.isEmpty && !(decide (1 < l.length) && l.head? == some 48) && l.all digB
def numVal (l : List UInt8) (most : Int) : Int := if numOk l = true ∧ (valOf l : Int) ≤ most then valOf l else 0
def numErr (l : List UInt8) (most : Int) : Int := if numOk l = true ∧ (valOf l : Int) ≤ most then 0 else 13
theorem num_no (l : List UInt8) (most : Int) (h : ¬ (numOk l = true ∧ (valOf l : Int) ≤ most)) : numVal l most = 0 ∧ numErr l most = 13 := by simp only [numVal, numErr, if_neg h, and_self]
theorem num_yes (l : List UInt8) (most : Int) (h : numOk l = true ∧ (valOf l : Int) ≤ most) : numVal l most = valOf l ∧ numErr l most = 0 := by simp only [numVal, numErr, if_pos h, and_self]
def NumRet (l : List UInt8) (most : Int) (e : Ending) : Prop := e = .returned (.tuple #[.int .i64 (numVal l most), .int .i64 (numErr l most)])
theorem numRet_no (l : List UInt8) (most : Int) (h : ¬ (numOk l = true ∧ (valOf l : Int) ≤ most)) : NumRet l most (.returned (.tuple #[.int .i64 0, .int .i64 13])) := by
 obtain ⟨h1, h2⟩ := num_no l most h
 rw [NumRet, h1, h2]
theorem numRet_yes (l : List UInt8) (most : Int) (h : numOk l = true ∧ (valOf l : Int) ≤ most) : NumRet l most (.returned (.tuple #[.int .i64 (valOf l), .int .i64 0])) := by
 obtain ⟨h1, h2⟩ := num_yes l most h
 rw [NumRet, h1, h2]
theorem digB_iff (b : UInt8) : digB b = true ↔ 48 ≤ (b.toNat : Int) ∧ (b.toNat : Int) ≤ 57 := by simp [digB]; omega
set_option maxHeartbeats 2000000 in
set_option maxRecDepth 100000 in
theorem Number_any (s : ByteArray) (most : Int) (w : World) (hs : s.size ≤ maxLen) (h1 : -9223372036854775808 ≤ most) (h2 : most ≤ 9223372036854775807) :
  Calls Tryz.prog 53 #[.string s, .int .i64 most] w fun e w' => NumRet s.data.toList most e ∧ w = w' := by
 have hl := len_toList s
 unfold maxLen at hs
 by_cases h0 : s.size = 0
 ·have he := isEmpty1 s h0
  have hR := Lib.hid (numRet_no s.data.toList most (by rw [isEmpty0 s h0]; simp [numOk]))
  clear hl h0
  go_enter Tryz.func53, Tryz.ntmps53
  go_wp2_with fail
  go_ret2
  exact ⟨hR.out, rfl⟩
 have hp : 0 < s.size := by omega
 have he := notEmpty s hp
 have HE : Hid (s.data.toList.isEmpty = false) := by
  have := he; rw [Lib.toList_data] at this; exact this
 have HH := Lib.hid (head_at s hp)
 by_cases hz : 1 < s.size ∧ s[0].toNat = 48
 ·obtain ⟨hz1, hz2⟩ := hz
  have hz3 : ((s[0].toNat : Int) == 48) = true := by rw [hz2]; rfl
  have hR := Lib.hid (numRet_no s.data.toList most (by
   have e : s[0] = 48 := UInt8.toNat_inj.1 hz2
   simp [numOk, HH.out, e, hl, hz1]))
  clear hz2 hl h0
  go_enter Tryz.func53, Tryz.ntmps53
  go_wp2_with fail
  go_ret2
  exact ⟨hR.out, rfl⟩
 have hok : numOk s.data.toList = s.data.toList.all digB := by
  have : (decide (1 < s.data.toList.length) && s.data.toList.head? == some 48) = false := by
   rw [HH.out, hl]
   by_cases h : 1 < s.size
   ·have : s[0].toNat ≠ 48 := fun e => hz ⟨h, e⟩
    have : s[0] ≠ 48 := fun e => this (by rw [e]; rfl)
    simp [this]
   simp [h]
  rw [numOk, HE.out, this]; simp
 have HOK := Lib.hid hok
 have hz' : (1 < s.size ∧ ((s[0].toNat : Int) == 48) = false) ∨ ¬ 1 < s.size := by
  by_cases h : 1 < s.size
  ·left; exact ⟨h, by rw [beq_eq_false_iff_ne]; intro e; exact hz ⟨h, by omega⟩⟩
  exact .inr h
 clear hz hok h0
 have HL := Lib.hid hl
 clear hl
 rcases hz' with ⟨hz1, hz2⟩ | hz1
 all_goals
  go_enter Tryz.func53, Tryz.ntmps53
  go_wp2_with fail
  go_loop [6, 23] (fun n i => ∃ k v : Nat, k ≤ s.size ∧ i = .int .i64 k ∧ n = .int .i64 v ∧ v = valOf (s.data.toList.take k) ∧ (s.data.toList.take k).all digB = true ∧ (k = 0 ∨ (v : Int) ≤ most)) (fun _ i => s.size - (intOf i).toNat)
  case atStart => exact ⟨0, 0, Nat.zero_le _, rfl, rfl, rfl, rfl, .inl rfl⟩
  case round =>
  obtain ⟨k, v, hk, rfl, rfl, hv, ha, hm⟩ := hrel
  have HV := Lib.hid hv
  have HA := Lib.hid ha
  have HM := Lib.hid hm
  clear hv ha hm
  by_cases hlt : k < s.size
  ·have hb := s[k].toNat_lt
   have HT := Lib.hid (take_snoc s k hlt)
   have HMem : Hid (s[k] ∈ s.data.toList) := Lib.hid (by rw [← Array.mem_def]; exact Array.getElem_mem _)
   by_cases hd : 48 ≤ (s[k].toNat : Int) ∧ (s[k].toNat : Int) ≤ 57
   ·obtain ⟨hd1, hd2⟩ := hd
    have HVal : Hid (valOf (s.data.toList.take (k + 1)) = 10 * v + (s[k].toNat - 48)) := Lib.hid (by rw [HT.out, valOf_snoc, ← HV.out])
    have HGe : Hid (10 * v + (s[k].toNat - 48) ≤ valOf s.data.toList) := Lib.hid (by rw [← HVal.out]; exact val_take _ _)
    have HAll : Hid ((s.data.toList.take (k + 1)).all digB = true) := Lib.hid (by
     rw [HT.out, List.all_append, HA.out]; simp [digB_iff]; omega)
    by_cases hq : most < 10 * (v : Int) + ((s[k].toNat : Int) - 48)
    ·have hR := Lib.hid (numRet_no s.data.toList most (by rintro ⟨_, h⟩; have := HGe.out; omega))
     by_cases hx : most < (s[k].toNat : Int) - 48
     all_goals
      go_wp2_with fail
      go_ret2
      exact ⟨hR.out, rfl⟩
    have hx : ¬ most < (s[k].toNat : Int) - 48 := by omega
    go_wp2_with fail
    go_round
    case rel => exact ⟨k + 1, 10 * v + (s[k].toNat - 48), by omega, by go_num, by congr 1; omega, by rw [HVal.out], HAll.out, .inr (by omega)⟩
    case measure => simp [intOf]; omega
   have hR := Lib.hid (numRet_no s.data.toList most (by
    rintro ⟨h, _⟩
    rw [HOK.out, List.all_eq_true] at h
    exact hd ((digB_iff _).1 (h _ HMem.out))))
   rcases (show (s[k].toNat : Int) < 48 ∨ 57 < (s[k].toNat : Int) by omega) with hx | hx
   all_goals
    clear hd
    go_wp2_with fail
    go_ret2
    exact ⟨hR.out, rfl⟩
  obtain rfl : k = s.size := by omega
  have HT := Lib.hid (show s.data.toList.take s.size = s.data.toList from List.take_of_length_le (by simp))
  have hR := Lib.hid (numRet_yes s.data.toList most (by
   have h3 := HA.out; have h4 := HV.out; have h5 := HM.out
   rw [HT.out] at h3 h4
   exact ⟨by rw [HOK.out, h3], by rw [← h4]; omega⟩))
  go_wp2_with fail
  go_ret2
  refine ⟨?_, rfl⟩
  have h4 := HV.out
  rw [HT.out] at h4
  rw [h4]; exact hR.out
end Go.Proofs.YtkdajhmlhjkcdaaGreatDoor
namespace Go.Proofs.YtkdajhmlhjkcdaaGreatDoor
open Go.RowKit
def cgo (cur : List UInt8) : List UInt8 → List (List UInt8)
 | [] => [cur]
 | b :: l => if b.toNat = 44 then cur :: cgo [] l else cgo (cur ++ [b]) l
theorem index_comma_cons (b : UInt8) (l : List UInt8) : Lib.index (b :: l) [44] = if b.toNat = 44 then 0 else if Lib.index l [44] = -1 then -1 else Lib.index l [44] + 1 := by
 have e : (44 : UInt8) == b ↔ b.toNat = 44 := by
  rw [beq_iff_eq]
  constructor
  ·rintro rfl; rfl
  intro h; exact (UInt8.toNat_inj.1 (h.trans (by rfl))).symm
 by_cases h : b.toNat = 44
 ·have h2 := e.2 h
  rw [if_pos h, Lib.index, if_pos (by simpa [List.isPrefixOf] using h2)]
 have h2 : ¬ ((44 : UInt8) == b) = true := fun hh => h (e.1 hh)
 rw [if_neg h, Lib.index, if_neg (by simpa [List.isPrefixOf] using h2)]
 simp only [beq_iff_eq]
theorem cgo_index (l : List UInt8) : ∀ cur, (Lib.index l [44] = -1 ∧ cgo cur l = [cur ++ l]) ∨ ∃ i : Nat, Lib.index l [44] = i ∧ i < l.length ∧ cgo cur l = (cur ++ l.take i) :: cgo [] (l.drop (i + 1)) := by
 induction l with
 | nil => intro cur; exact .inl ⟨rfl, by simp [cgo]⟩
 | cons b l ih =>
  intro cur
  rw [index_comma_cons]
  by_cases h : b.toNat = 44
  ·rw [if_pos h]
   exact .inr ⟨0, rfl, by simp, by simp [cgo, h]⟩
  rw [if_neg h]
  rcases ih (cur ++ [b]) with ⟨h1, h2⟩ | ⟨i, h1, h2, h3⟩
  ·exact .inl ⟨by rw [if_pos h1], by rw [cgo, if_neg h, h2]; simp⟩
  refine .inr ⟨i + 1, by rw [h1, if_neg (by omega)]; omega, by simpa using h2, ?_⟩
  rw [cgo, if_neg h, h3]; simp
theorem splitK_comma : ∀ (n : Nat) (l : List UInt8), l.length ≤ n → Lib.splitK [44] 0 (Lib.count l [44]) l = cgo [] l
 | n, l, hn => by
   rcases cgo_index l [] with ⟨h1, h2⟩ | ⟨i, h1, h2, h3⟩
   ·rw [Lib.count_miss h1, h2]; rfl
   ·cases n with
    | zero => omega
    | succ n =>
     rw [Lib.count_hit (by simp) h1, Nat.add_comm 1, Lib.splitK, if_neg (by rw [h1]; simp), h1, h3]
     have := splitK_comma n (l.drop (i + 1)) (by simp; omega)
     simp only [List.length_cons, List.length_nil, Int.toNat_natCast, Nat.add_zero, Nat.zero_add, List.nil_append]
     rw [this]
theorem split_comma (s : ByteArray) : (Lib.splitB ⟨#[44]⟩ 0 (Lib.countB s ⟨#[44]⟩) s).map (·.data.toList) = cgo [] s.data.toList := by
 rw [Lib.splitB_data]
 exact splitK_comma _ _ (Nat.le_refl _)
theorem cgo_len (l : List UInt8) : ∀ cur, (cgo cur l).length ≤ l.length + 1 := by
 induction l with
 | nil => intro cur; simp [cgo]
 | cons b l ih =>
  intro cur
  rw [cgo]
  split
  ·have := ih []; simp; omega
  have := ih (cur ++ [b]); simp; omega
def chop (k : Nat) : Nat → List UInt8 → List (List UInt8)
 | 0, _ => []
 | n + 1, l => if l = [] then [] else l.take k :: chop k n (l.drop k)
theorem chop_step (k n : Nat) (l : List UInt8) (h : l ≠ []) (hn : l.length ≤ n) : chop k n l = l.take k :: chop k (n - 1) (l.drop k) := by
 cases n with
 | zero => exact absurd (List.eq_nil_of_length_eq_zero (by omega)) h
 | succ n => rw [chop, if_neg h]; rfl
theorem chop_nil (k n : Nat) : chop k n [] = [] := by cases n <;> simp [chop]
theorem chop_fuel (k : Nat) (hk : 0 < k) : ∀ (n m : Nat) (l : List UInt8), l.length ≤ n → l.length ≤ m → chop k n l = chop k m l
 | 0, m, l, h1, _ => by
   have : l = [] := List.eq_nil_of_length_eq_zero (by omega)
   subst this; rw [chop_nil, chop_nil]
 | n + 1, m, l, h1, h2 => by
   by_cases h : l = []
   ·subst h; rw [chop_nil, chop_nil]
   ·have hp := List.length_pos_iff.2 h
    cases m with
    | zero => omega
    | succ m =>
     rw [chop, chop, if_neg h, if_neg h, chop_fuel k hk n m _ (by simp; omega) (by simp; omega)]
theorem chop_len (k : Nat) : ∀ (n : Nat) (l : List UInt8), (chop k n l).length ≤ n
 | 0, _ => by simp [chop]
 | n + 1, l => by
   rw [chop]
   split
   ·simp
   ·have := chop_len k n (l.drop k); simp; omega
def piecesOf (kind : Int) (l : List UInt8) : List (List UInt8) := if kind = 3 then cgo [] l else chop kind.toNat l.length l
theorem piecesOf_len (kind : Int) (l : List UInt8) : (piecesOf kind l).length ≤ l.length + 1 := by
 unfold piecesOf
 split
 ·exact cgo_len _ _
 have := chop_len kind.toNat l.length l; omega
def signB (b : UInt8) : Bool := decide (32 < b.toNat ∧ b.toNat < 127 ∧ b.toNat ≠ 47 ∧ b.toNat ≠ 44 ∧ b.toNat ≠ 35)
def numF (kind : Int) (l : List UInt8) : Int :=
 if kind = 1 then (match l with | [a] => if signB a = true then a.toNat else 0 | _ => 0)
 else if kind = 2 then (match l with | [a, b] => if signB a = true ∧ signB b = true then a.toNat * 256 + b.toNat else 0 | _ => 0)
 else numVal l 65535
theorem numVal_bd (l : List UInt8) (m : Int) (hm : 0 ≤ m) : 0 ≤ numVal l m ∧ numVal l m ≤ m := by
 unfold numVal
 split
 ·rename_i h; exact ⟨by omega, h.2⟩
 omega
theorem numF_bd (kind : Int) (l : List UInt8) : 0 ≤ numF kind l ∧ numF kind l ≤ 65535 := by
 unfold numF
 split
 ·split
  ·rename_i a
   have := a.toNat_lt
   split <;> omega
  omega
 split
 ·split
  ·rename_i a b
   have := a.toNat_lt
   have := b.toNat_lt
   split <;> omega
  omega
 exact numVal_bd _ _ (by omega)
end Go.Proofs.YtkdajhmlhjkcdaaGreatDoor
namespace Go.Proofs.YtkdajhmlhjkcdaaGreatDoor
open Go.RowKit
set_option maxHeartbeats 4000000 in
set_option maxRecDepth 100000 in
theorem Number01_any (s : ByteArray) (most : Int) (w : World) (hs : s.size ≤ maxLen) (h1 : -9223372036854775808 ≤ most) (h2 : most ≤ 9223372036854775807) :
  Calls Tryz.prog 56 #[.string s, .int .i64 most] w fun e w' => NumRet s.data.toList most e ∧ w = w' := by
 have hl := len_toList s
 unfold maxLen at hs
 by_cases h0 : s.size = 0
 ·have hR := Lib.hid (numRet_no s.data.toList most (by rw [isEmpty0 s h0]; simp [numOk]))
  have hz : ((s.size : Int) == 0) = true := by rw [h0]; rfl
  clear hl h0
  go_enter Tryz.func56, Tryz.ntmps56
  go_wp2_with fail
  go_ret2
  exact ⟨hR.out, rfl⟩
 have hp : 0 < s.size := by omega
 have he := notEmpty s hp
 have hz0 : ((s.size : Int) == 0) = false := by rw [beq_eq_false_iff_ne]; omega
 have HE : Hid (s.data.toList.isEmpty = false) := by
  have := he; rw [Lib.toList_data] at this; exact this
 clear he
 have HH := Lib.hid (head_at s hp)
 by_cases hz : 1 < s.size ∧ s[0].toNat = 48
 ·obtain ⟨hz1, hz2⟩ := hz
  have hz3 : ((s[0].toNat : Int) == 48) = true := by rw [hz2]; rfl
  have hR := Lib.hid (numRet_no s.data.toList most (by
   have e : s[0] = 48 := UInt8.toNat_inj.1 hz2
   simp [numOk, HH.out, e, hl, hz1]))
  clear hz2 hl h0
  go_enter Tryz.func56, Tryz.ntmps56
  go_wp2_with fail
  go_ret2
  exact ⟨hR.out, rfl⟩
 have hok : numOk s.data.toList = s.data.toList.all digB := by
  have : (decide (1 < s.data.toList.length) && s.data.toList.head? == some 48) = false := by
   rw [HH.out, hl]
   by_cases h : 1 < s.size
   ·have : s[0].toNat ≠ 48 := fun e => hz ⟨h, e⟩
    have : s[0] ≠ 48 := fun e => this (by rw [e]; rfl)
    simp [this]
   simp [h]
  rw [numOk, HE.out, this]; simp
 have HOK := Lib.hid hok
 have hz' : (1 < s.size ∧ ((s[0].toNat : Int) == 48) = false) ∨ ¬ 1 < s.size := by
  by_cases h : 1 < s.size
  ·left; exact ⟨h, by rw [beq_eq_false_iff_ne]; intro e; exact hz ⟨h, by omega⟩⟩
  exact .inr h
 clear hz hok h0
 have HL := Lib.hid hl
 clear hl
 rcases hz' with ⟨hz1, hz2⟩ | hz1
 all_goals
  go_enter Tryz.func56, Tryz.ntmps56
  go_wp2_with fail
  go_loop [7] (fun i => ∃ k : Nat, k ≤ s.size ∧ i = .int .i64 k ∧ (s.data.toList.take k).all digB = true) (fun i => s.size - (intOf i).toNat)
  case atStart => exact ⟨0, Nat.zero_le _, rfl, rfl⟩
  case round =>
  obtain ⟨k, hk, rfl, ha⟩ := hrel
  have HA := Lib.hid ha
  clear ha
  by_cases hlt : k < s.size
  ·have hb := s[k].toNat_lt
   have HT := Lib.hid (take_snoc s k hlt)
   have HMem : Hid (s[k] ∈ s.data.toList) := Lib.hid (by rw [← Array.mem_def]; exact Array.getElem_mem _)
   by_cases hd : 48 ≤ (s[k].toNat : Int) ∧ (s[k].toNat : Int) ≤ 57
   ·obtain ⟨hd1, hd2⟩ := hd
    have HAll : Hid ((s.data.toList.take (k + 1)).all digB = true) := Lib.hid (by
     rw [HT.out, List.all_append, HA.out]; simp [digB_iff]; omega)
    go_wp2_with fail
    go_round
    case rel => exact ⟨k + 1, by omega, by go_num, HAll.out⟩
    case measure => simp [intOf]; omega
   have hR := Lib.hid (numRet_no s.data.toList most (by
    rintro ⟨h, _⟩
    rw [HOK.out, List.all_eq_true] at h
    exact hd ((digB_iff _).1 (h _ HMem.out))))
   rcases (show (s[k].toNat : Int) < 48 ∨ 57 < (s[k].toNat : Int) by omega) with hx | hx
   all_goals
    clear hd
    go_wp2_with fail
    go_ret2
    exact ⟨hR.out, rfl⟩
  obtain rfl : k = s.size := by omega
  have HAL : Hid (s.data.toList.all digB = true) := Lib.hid (by
   have h3 := HA.out
   rwa [show s.data.toList.take s.size = s.data.toList from List.take_of_length_le (by simp)] at h3)
  clear HA hk
  go_wp2_with fail
  go_loop [6, 8] (fun n i => ∃ k v : Nat, k ≤ s.size ∧ i = .int .i64 k ∧ n = .int .i64 v ∧ v = valOf (s.data.toList.take k) ∧ (v : Int) ≤ 9223372036854775807) (fun _ i => s.size - (intOf i).toNat)
  case atStart => exact ⟨0, 0, Nat.zero_le _, rfl, rfl, rfl, by omega⟩
  case round =>
  obtain ⟨k, v, hk, rfl, rfl, hv, hm⟩ := hrel
  have HV := Lib.hid hv
  clear hv
  by_cases hlt2 : k < s.size
  ·have hb := s[k].toNat_lt
   have HT := Lib.hid (take_snoc s k hlt2)
   have HMem : Hid (s[k] ∈ s.data.toList) := Lib.hid (by rw [← Array.mem_def]; exact Array.getElem_mem _)
   obtain ⟨hd1, hd2⟩ := (digB_iff s[k]).1 (List.all_eq_true.1 HAL.out _ HMem.out)
   have HVal : Hid (valOf (s.data.toList.take (k + 1)) = 10 * v + (s[k].toNat - 48)) := Lib.hid (by rw [HT.out, valOf_snoc, ← HV.out])
   have HGe : Hid (10 * v + (s[k].toNat - 48) ≤ valOf s.data.toList) := Lib.hid (by rw [← HVal.out]; exact val_take _ _)
   by_cases hq1 : 922337203685477580 < (v : Int)
   ·have hR := Lib.hid (numRet_no s.data.toList most (by rintro ⟨_, h⟩; have := HGe.out; omega))
    go_wp2_with fail
    go_ret2
    exact ⟨hR.out, rfl⟩
   by_cases hq2 : (v : Int) = 922337203685477580
   ·have hq2' : ((v : Int) == 922337203685477580) = true := by rw [hq2]; rfl
    by_cases hq3 : 7 < (s[k].toNat : Int) - 48
    ·have hR := Lib.hid (numRet_no s.data.toList most (by rintro ⟨_, h⟩; have := HGe.out; omega))
     clear hq2
     go_wp2_with fail
     go_ret2
     exact ⟨hR.out, rfl⟩
    have hup : 10 * (v : Int) + ((s[k].toNat : Int) - 48) ≤ 9223372036854775807 := by omega
    clear hq2
    go_wp2_with fail
    go_round
    case rel => exact ⟨k + 1, 10 * v + (s[k].toNat - 48), by omega, by go_num, by congr 1; omega, by rw [HVal.out], by omega⟩
    case measure => simp [intOf]; omega
   have hq2' : ((v : Int) == 922337203685477580) = false := by rw [beq_eq_false_iff_ne]; exact hq2
   have hup : 10 * (v : Int) + ((s[k].toNat : Int) - 48) ≤ 9223372036854775807 := by omega
   clear hq2
   go_wp2_with fail
   go_round
   case rel => exact ⟨k + 1, 10 * v + (s[k].toNat - 48), by omega, by go_num, by congr 1; omega, by rw [HVal.out], by omega⟩
   case measure => simp [intOf]; omega
  obtain rfl : k = s.size := by omega
  have HT := Lib.hid (show s.data.toList.take s.size = s.data.toList from List.take_of_length_le (by simp))
  have HV2 : Hid (v = valOf s.data.toList) := Lib.hid (by have h4 := HV.out; rwa [HT.out] at h4)
  by_cases hmost : most < (v : Int)
  ·have hR := Lib.hid (numRet_no s.data.toList most (by rintro ⟨_, h⟩; have := HV2.out; omega))
   go_wp2_with fail
   go_ret2
   exact ⟨hR.out, rfl⟩
  have hR := Lib.hid (numRet_yes s.data.toList most (by
   have := HV2.out
   exact ⟨by rw [HOK.out, HAL.out], by omega⟩))
  go_wp2_with fail
  go_ret2
  refine ⟨?_, rfl⟩
  rw [HV2.out]; exact hR.out
end Go.Proofs.YtkdajhmlhjkcdaaGreatDoor
namespace Go.Proofs.YtkdajhmlhjkcdaaGreatDoor
open Go.RowKit
theorem signB_eq (b : UInt8) : signB b = (decide (32 < (b.toNat : Int)) && (decide ((b.toNat : Int) < 127) && (!((b.toNat : Int) == 47) && (!((b.toNat : Int) == 44) && !((b.toNat : Int) == 35))))) := by
 unfold signB; rw [Bool.eq_iff_iff]; simp; omega
theorem sign_cases (b : UInt8) : ∃ x : Int, x = b.toNat ∧ ((¬ 32 < x ∧ ¬ 33 ≤ x ∧ signB b = false) ∨ (32 < x ∧ 33 ≤ x ∧ ¬ x < 127 ∧ ¬ x ≤ 126 ∧ signB b = false) ∨ (32 < x ∧ 33 ≤ x ∧ x < 127 ∧ x ≤ 126 ∧ (x != 47) = false ∧ signB b = false) ∨ (32 < x ∧ 33 ≤ x ∧ x < 127 ∧ x ≤ 126 ∧ (x != 47) = true ∧ (x != 44) = false ∧ signB b = false) ∨
  (32 < x ∧ 33 ≤ x ∧ x < 127 ∧ x ≤ 126 ∧ (x != 47) = true ∧ (x != 44) = true ∧ (x != 35) = false ∧ signB b = false) ∨ (32 < x ∧ 33 ≤ x ∧ x < 127 ∧ x ≤ 126 ∧ (x != 47) = true ∧ (x != 44) = true ∧ (x != 35) = true ∧ signB b = true)) := by
 refine ⟨_, rfl, ?_⟩
 rw [signB_eq]
 generalize (b.toNat : Int) = x
 by_cases h1 : 32 < x
 ·by_cases h2 : x < 127
  ·by_cases h3 : x = 47
   ·simp [h3]
   by_cases h4 : x = 44
   ·simp [h4]
   by_cases h5 : x = 35
   ·simp [h5]
   simp [h1, h2, h3, h4, h5]; omega
  simp [h1, h2]; omega
 simp [h1]; omega
set_option maxHeartbeats 1000000 in
set_option maxRecDepth 100000 in
theorem so_sign (b : UInt8) (w : World) :
  Calls Tryz.prog 114 #[.int .u8 b.toNat] w fun e w' => e = .returned (.bool (signB b)) ∧ w = w' := by
 obtain ⟨x, hx, h⟩ := sign_cases b
 rw [← hx]
 clear hx
 rcases h with ⟨h1, -, hR⟩ | ⟨h1, -, h2, -, hR⟩ | ⟨h1, -, h2, -, h3, hR⟩ | ⟨h1, -, h2, -, h3, h4, hR⟩ | ⟨h1, -, h2, -, h3, h4, h5, hR⟩ | ⟨h1, -, h2, -, h3, h4, h5, hR⟩
 all_goals
  rw [hR]
  clear hR
  go_enter Tryz.func114, Tryz.ntmps114
  go_wp2
  go_ret
  exact ⟨rfl, rfl⟩
set_option maxHeartbeats 1000000 in
set_option maxRecDepth 100000 in
theorem so_rsign (b : UInt8) (w : World) :
  Calls Tryz.prog 117 #[.int .u8 b.toNat] w fun e w' => e = .returned (.bool (signB b)) ∧ w = w' := by
 obtain ⟨x, hx, h⟩ := sign_cases b
 rw [← hx]
 clear hx
 rcases h with ⟨-, h1, hR⟩ | ⟨-, h1, -, h2, hR⟩ | ⟨-, h1, -, h2, h3, hR⟩ | ⟨-, h1, -, h2, h3, h4, hR⟩ | ⟨-, h1, -, h2, h3, h4, h5, hR⟩ | ⟨-, h1, -, h2, h3, h4, h5, hR⟩
 all_goals
  rw [hR]
  clear hR
  go_enter Tryz.func117, Tryz.ntmps117
  go_wp2
  go_ret
  exact ⟨rfl, rfl⟩
theorem data1 (s : ByteArray) (h : s.size = 1) : s.data.toList = [s[0]] := by
 have := drop_cons s 0 (by omega)
 have h1 := drop_all s
 rw [h] at h1
 rw [List.drop_zero] at this
 rw [this, h1]
theorem data2 (s : ByteArray) (h : s.size = 2) : s.data.toList = [s[0], s[1]] := by
 have := drop_cons s 0 (by omega)
 have h0 := drop_cons s 1 (by omega)
 have h1 := drop_all s
 rw [h] at h1
 rw [List.drop_zero] at this
 rw [this, h0, h1]
theorem numF1_no (l : List UInt8) (h : l.length ≠ 1) : numF 1 l = 0 := by
 unfold numF
 rw [if_pos rfl]
 split
 ·simp at h
 rfl
theorem numF2_no (l : List UInt8) (h : l.length ≠ 2) : numF 2 l = 0 := by
 unfold numF
 rw [if_neg (by decide), if_pos rfl]
 split
 ·simp at h
 rfl
theorem numF_1 (a : UInt8) : numF 1 [a] = if signB a = true then (a.toNat : Int) else 0 := rfl
theorem numF_2 (a b : UInt8) : numF 2 [a, b] = if signB a = true ∧ signB b = true then (a.toNat : Int) * 256 + b.toNat else 0 := rfl
theorem numF_3 (l : List UInt8) : numF 3 l = numVal l 65535 := rfl
theorem shl8 (a : UInt8) : (a.toNat : Int) * 256 % 65536 = (a.toNat : Int) * 256 := by have := a.toNat_lt; omega
theorem join16 (a b : UInt8) : bits .or .u16 ((a.toNat : Int) * 256) (b.toNat : Int) = (a.toNat : Int) * 256 + b.toNat := by
 have h1 := a.toNat_lt
 have h2 := b.toNat_lt
 exact bits_join .u16 16 (by decide) wraps_u16 8 _ _ (by omega) (by omega) (by omega) (by omega) (by omega) (by omega)
set_option maxHeartbeats 2000000 in
set_option maxRecDepth 100000 in
theorem so_number (kind : Int) (s : ByteArray) (w : World) (hk : kind = 1 ∨ kind = 2 ∨ kind = 3) (hs : s.size ≤ maxLen) :
  Calls Tryz.prog 87 #[.int .i64 kind, .string s] w fun e w' => e = .returned (.int .u16 (numF kind s.data.toList)) ∧ ∃ n, w' = w.drewN n := by
 have hs' := hs
 unfold maxLen at hs'
 rcases hk with rfl | rfl | rfl
 ·by_cases h1 : s.size = 1
  ·have hlt : 0 < s.size := by omega
   have hR := Lib.hid (show numF 1 s.data.toList = if signB (s[0]'hlt) = true then ((s[0]'hlt).toNat : Int) else 0 by rw [data1 s h1, numF_1])
   have hlen : ((s.size : Int) == 1) = true := by rw [h1]; rfl
   have hb := s[0].toNat_lt
   clear h1
   cases hq : signB s[0]
   ·have HQ := Lib.hid hq
    clear hq
    go_enter Tryz.func87, Tryz.ntmps87
    go_wp2_with (go_at_call 114; refine (so_sign _ _).mono ?_; rw [HQ.out]; rintro e w1 ⟨rfl, rfl⟩)
    go_ret
    exact ⟨by rw [hR.out, HQ.out]; rfl, 0, rfl⟩
   have HQ := Lib.hid hq
   clear hq
   go_enter Tryz.func87, Tryz.ntmps87
   go_wp2_with (go_at_call 114; refine (so_sign _ _).mono ?_; rw [HQ.out]; rintro e w1 ⟨rfl, rfl⟩)
   go_ret
   exact ⟨by rw [hR.out, HQ.out]; rfl, 0, rfl⟩
  have hR := Lib.hid (numF1_no s.data.toList (by simpa using h1))
  have hlen : ((s.size : Int) == 1) = false := by rw [beq_eq_false_iff_ne]; omega
  go_enter Tryz.func87, Tryz.ntmps87
  go_wp2_with fail
  go_ret
  exact ⟨by rw [hR.out]; rfl, 0, rfl⟩
 ·by_cases h1 : s.size = 2
  ·have hlt : 0 < s.size := by omega
   have hlt1 : 1 < s.size := by omega
   have hR := Lib.hid (show numF 2 s.data.toList = if signB (s[0]'hlt) = true ∧ signB (s[1]'hlt1) = true then ((s[0]'hlt).toNat : Int) * (256 : Int) + ((s[1]'hlt1).toNat : Int) else 0 by rw [data2 s h1, numF_2])
   have hlen : ((s.size : Int) == 2) = true := by rw [h1]; rfl
   have ha := s[0].toNat_lt
   have hb := s[1].toNat_lt
   have hsh := shl8 s[0]
   have hjo := join16 s[0] s[1]
   clear h1
   cases hq : signB s[0]
   ·have HQ := Lib.hid hq
    clear hq
    go_enter Tryz.func87, Tryz.ntmps87
    go_wp2_with (go_at_call 114; refine (so_sign _ _).mono ?_; rw [HQ.out]; rintro e w1 ⟨rfl, rfl⟩)
    go_ret
    exact ⟨by rw [hR.out, HQ.out]; rfl, 0, rfl⟩
   have HQ := Lib.hid hq
   clear hq
   cases hq2 : signB s[1]
   ·have HQ2 := Lib.hid hq2
    clear hq2
    go_enter Tryz.func87, Tryz.ntmps87
    go_wp2_with (go_at_call 114; refine (so_sign _ _).mono ?_; (first | rw [HQ.out] | rw [HQ2.out]); rintro e w1 ⟨rfl, rfl⟩)
    go_ret
    exact ⟨by rw [hR.out, HQ.out, HQ2.out]; rfl, 0, rfl⟩
   have HQ2 := Lib.hid hq2
   clear hq2
   go_enter Tryz.func87, Tryz.ntmps87
   go_wp2_with (go_at_call 114; refine (so_sign _ _).mono ?_; (first | rw [HQ.out] | rw [HQ2.out]); rintro e w1 ⟨rfl, rfl⟩)
   go_quiet (fail)
   go_wp2_with fail
   go_ret
   exact ⟨by rw [hR.out, HQ.out, HQ2.out]; rfl, _, rfl⟩
  have hR := Lib.hid (numF2_no s.data.toList (by simpa using h1))
  have hlen : ((s.size : Int) == 2) = false := by rw [beq_eq_false_iff_ne]; omega
  go_enter Tryz.func87, Tryz.ntmps87
  go_wp2_with fail
  go_ret
  exact ⟨by rw [hR.out]; rfl, 0, rfl⟩
 obtain ⟨b0, b1⟩ := numVal_bd s.data.toList 65535 (by omega)
 have hR := Lib.hid (numF_3 s.data.toList)
 have hw : numVal s.data.toList 65535 % 65536 = numVal s.data.toList 65535 := by omega
 obtain ⟨x, hx⟩ : ∃ x, numVal s.data.toList 65535 = x := ⟨_, rfl⟩
 rw [hx] at b0 b1 hw
 have HX := Lib.hid hx
 obtain ⟨y, hy⟩ : ∃ y, numErr s.data.toList 65535 = y := ⟨_, rfl⟩
 have HY := Lib.hid hy
 clear hx hy
 go_enter Tryz.func87, Tryz.ntmps87
 go_wp2_with (go_at_call 53; refine (Number_any s 65535 _ hs (by decide) (by decide)).mono ?_; rintro e w1 ⟨hn, rfl⟩; rw [NumRet, HX.out, HY.out] at hn; subst hn)
 go_ret
 exact ⟨by rw [hR.out, HX.out]; rfl, 0, rfl⟩
end Go.Proofs.YtkdajhmlhjkcdaaGreatDoor
namespace Go.Proofs.YtkdajhmlhjkcdaaGreatDoor
open Go.RowKit
theorem numErr_cases (l : List UInt8) (m : Int) : numErr l m = 0 ∨ (numErr l m = 13 ∧ numVal l m = 0) := by
 unfold numErr numVal
 split
 ·exact .inl rfl
 exact .inr ⟨rfl, rfl⟩
set_option maxHeartbeats 2000000 in
set_option maxRecDepth 100000 in
theorem so_Value (kind : Int) (s : ByteArray) (w : World) (hk : kind = 1 ∨ kind = 2 ∨ kind = 3) (hs : s.size ≤ maxLen) :
  Calls Tryz.prog 91 #[.int .i64 kind, .string s] w fun e w' => e = .returned (.int .i64 (numF kind s.data.toList)) ∧ ∃ n, w' = w.drewN n := by
 have hs' := hs
 unfold maxLen at hs'
 rcases hk with rfl | rfl | rfl
 ·by_cases h1 : s.size = 1
  ·have hlt : 0 < s.size := by omega
   have hR := Lib.hid (show numF 1 s.data.toList = if signB (s[0]'hlt) = true then ((s[0]'hlt).toNat : Int) else 0 by rw [data1 s h1, numF_1])
   have hlen : ((s.size : Int) == 1) = true := by rw [h1]; rfl
   have hlen2 : ((s.size : Int) != 1) = false := by rw [h1]; rfl
   have hb := s[0].toNat_lt
   clear h1
   cases hq : signB s[0]
   all_goals
    have HQ := Lib.hid hq
    clear hq
    go_enter Tryz.func91, Tryz.ntmps91
    go_wp2_with (go_at_call 117; refine (so_rsign _ _).mono ?_; rw [HQ.out]; rintro e w1 ⟨rfl, rfl⟩)
    go_ret
    exact ⟨by rw [hR.out, HQ.out]; rfl, 0, rfl⟩
  have hR := Lib.hid (numF1_no s.data.toList (by simpa using h1))
  have hlen : ((s.size : Int) == 1) = false := by rw [beq_eq_false_iff_ne]; omega
  have hlen2 : ((s.size : Int) != 1) = true := by rw [bne_iff_ne]; omega
  go_enter Tryz.func91, Tryz.ntmps91
  go_wp2_with fail
  go_ret
  exact ⟨by rw [hR.out]; rfl, 0, rfl⟩
 ·by_cases h1 : s.size = 2
  ·have hlt : 0 < s.size := by omega
   have hlt1 : 1 < s.size := by omega
   have hR := Lib.hid (show numF 2 s.data.toList = if signB (s[0]'hlt) = true ∧ signB (s[1]'hlt1) = true then ((s[0]'hlt).toNat : Int) * (256 : Int) + ((s[1]'hlt1).toNat : Int) else 0 by rw [data2 s h1, numF_2])
   have hlen : ((s.size : Int) == 2) = true := by rw [h1]; rfl
   have hlen2 : ((s.size : Int) != 2) = false := by rw [h1]; rfl
   have ha := s[0].toNat_lt
   have hb := s[1].toNat_lt
   clear h1
   cases hq : signB s[0]
   all_goals
    have HQ := Lib.hid hq
    clear hq
    cases hq2 : signB s[1]
    all_goals
     have HQ2 := Lib.hid hq2
     clear hq2
     go_enter Tryz.func91, Tryz.ntmps91
     go_wp2_with (go_at_call 117; refine (so_rsign _ _).mono ?_; (first | rw [HQ.out] | rw [HQ2.out]); rintro e w1 ⟨rfl, rfl⟩)
     try go_quiet (fail)
     try go_wp2_with fail
     go_ret
     first
      | exact ⟨by rw [hR.out, HQ.out, HQ2.out]; rfl, 0, rfl⟩
      | exact ⟨by rw [hR.out, HQ.out, HQ2.out]; simp; omega, _, rfl⟩
  have hR := Lib.hid (numF2_no s.data.toList (by simpa using h1))
  have hlen : ((s.size : Int) == 2) = false := by rw [beq_eq_false_iff_ne]; omega
  have hlen2 : ((s.size : Int) != 2) = true := by rw [bne_iff_ne]; omega
  go_enter Tryz.func91, Tryz.ntmps91
  go_wp2_with fail
  go_ret
  exact ⟨by rw [hR.out]; rfl, 0, rfl⟩
 have hR := Lib.hid (numF_3 s.data.toList)
 have hc := numErr_cases s.data.toList 65535
 obtain ⟨x, hx⟩ : ∃ x, numVal s.data.toList 65535 = x := ⟨_, rfl⟩
 have HX := Lib.hid hx
 obtain ⟨y, hy⟩ : ∃ y, numErr s.data.toList 65535 = y := ⟨_, rfl⟩
 have HY := Lib.hid hy
 rw [hx, hy] at hc
 clear hx hy
 rcases hc with rfl | ⟨rfl, rfl⟩
 all_goals
  go_enter Tryz.func91, Tryz.ntmps91
  go_wp2_with (go_at_call 56; refine (Number01_any s 65535 _ hs (by decide) (by decide)).mono ?_; rintro e w1 ⟨hn, rfl⟩; rw [NumRet, HX.out, HY.out] at hn; subst hn)
  go_ret
  exact ⟨by rw [hR.out, HX.out]; rfl, 0, rfl⟩
def kindOk (kind : Int) : Bool := decide (1 ≤ kind ∧ kind ≤ 3)
theorem kind_cases (kind : Int) : (kindOk kind = true ∧ (kind = 1 ∨ kind = 2 ∨ kind = 3)) ∨ (kindOk kind = false ∧ (kind < 1 ∨ 3 < kind)) := by
 unfold kindOk
 by_cases h : 1 ≤ kind ∧ kind ≤ 3
 ·exact .inl ⟨decide_eq_true h, by omega⟩
 exact .inr ⟨decide_eq_false h, by omega⟩
set_option maxHeartbeats 400000 in
theorem so_known (kind : Int) (w : World) :
  Calls Tryz.prog 85 #[.int .i64 kind] w fun e w' => e = .returned (.bool (kindOk kind)) ∧ w = w' := by
 rcases kind_cases kind with ⟨h, hk⟩ | ⟨h, hk⟩
 ·rw [h]
  rcases hk with rfl | rfl | rfl
  all_goals
   go_enter Tryz.func85, Tryz.ntmps85
   go_wp2
   go_ret
   exact ⟨rfl, rfl⟩
 rw [h]
 rcases hk with hk | hk
 ·have h1 : ¬ 1 ≤ kind := by omega
  go_enter Tryz.func85, Tryz.ntmps85
  go_wp2
  go_ret
  exact ⟨rfl, rfl⟩
 have h1 : 1 ≤ kind := by omega
 have h2 : ¬ kind ≤ 3 := by omega
 go_enter Tryz.func85, Tryz.ntmps85
 go_wp2
 go_ret
 exact ⟨rfl, rfl⟩
def oneF (kind : Int) (l : List UInt8) : Int × Int := if kindOk kind = true then (if numF kind l = 0 then (0, 31) else (numF kind l, 0)) else (0, 30)
theorem oneF_bd (kind : Int) (l : List UInt8) : 0 ≤ (oneF kind l).1 ∧ (oneF kind l).1 ≤ 65535 := by
 have := numF_bd kind l
 unfold oneF
 split
 ·split
  ·simp
  exact this
 simp
set_option maxHeartbeats 1000000 in
set_option maxRecDepth 100000 in
theorem so_One (kind : Int) (s : ByteArray) (w : World) (hs : s.size ≤ maxLen) :
  Calls Tryz.prog 128 #[.int .i64 kind, .string s] w fun e w' => e = .returned (.tuple #[.int .u16 (oneF kind s.data.toList).1, .int .i64 (oneF kind s.data.toList).2]) ∧ ∃ n, w' = w.drewN n := by
 rcases kind_cases kind with ⟨h, hk⟩ | ⟨h, hk⟩
 ·have HK := Lib.hid h
  have HKK := Lib.hid hk
  clear h hk
  obtain ⟨b0, b1⟩ := numF_bd kind s.data.toList
  by_cases h0 : numF kind s.data.toList = 0
  ·have hR := Lib.hid (show oneF kind s.data.toList = (0, 31) by rw [oneF, if_pos HK.out, if_pos h0])
   have H0 := Lib.hid h0
   clear h0 b0 b1
   go_enter Tryz.func128, Tryz.ntmps128
   go_wp2_with (first
    | (go_at_call 85; refine (so_known _ _).mono ?_; rw [HK.out]; rintro e w1 ⟨rfl, rfl⟩)
    | (go_at_call 87; refine (so_number kind s _ HKK.out hs).mono ?_; rw [H0.out]; rintro e w1 ⟨rfl, n, rfl⟩))
   go_ret2
   exact ⟨by rw [hR.out]; rfl, _, rfl⟩
  have hR := Lib.hid (show oneF kind s.data.toList = (numF kind s.data.toList, 0) by rw [oneF, if_pos HK.out, if_neg h0])
  obtain ⟨x, hx⟩ : ∃ x, numF kind s.data.toList = x := ⟨_, rfl⟩
  rw [hx] at h0 b0 b1
  have HX := Lib.hid hx
  have hne : (x == 0) = false := by rw [beq_eq_false_iff_ne]; exact h0
  clear hx h0
  go_enter Tryz.func128, Tryz.ntmps128
  go_wp2_with (first
   | (go_at_call 85; refine (so_known _ _).mono ?_; rw [HK.out]; rintro e w1 ⟨rfl, rfl⟩)
   | (go_at_call 87; refine (so_number kind s _ HKK.out hs).mono ?_; rw [HX.out]; rintro e w1 ⟨rfl, n, rfl⟩))
  go_ret2
  exact ⟨by rw [hR.out, HX.out]; rfl, _, rfl⟩
 have HK := Lib.hid h
 have hR := Lib.hid (show oneF kind s.data.toList = (0, 30) by rw [oneF, if_neg (by rw [h]; decide)])
 clear h hk
 go_enter Tryz.func128, Tryz.ntmps128
 go_wp2_with (go_at_call 85; refine (so_known _ _).mono ?_; rw [HK.out]; rintro e w1 ⟨rfl, rfl⟩)
 go_ret2
 exact ⟨by rw [hR.out]; rfl, 0, rfl⟩
set_option maxHeartbeats 1000000 in
set_option maxRecDepth 100000 in
theorem so_rOne (kind : Int) (s : ByteArray) (w : World) (hs : s.size ≤ maxLen) :
  Calls Tryz.prog 110 #[.int .i64 kind, .string s] w fun e w' => e = .returned (.tuple #[.int .i64 (oneF kind s.data.toList).1, .int .i64 (oneF kind s.data.toList).2]) ∧ ∃ n, w' = w.drewN n := by
 rcases kind_cases kind with ⟨h, hk⟩ | ⟨h, hk⟩
 ·have HK := Lib.hid h
  have HKK := Lib.hid hk
  have k1 : ¬ kind < 1 := by omega
  have k2 : ¬ 3 < kind := by omega
  clear h hk
  obtain ⟨b0, b1⟩ := numF_bd kind s.data.toList
  by_cases h0 : numF kind s.data.toList = 0
  ·have hR := Lib.hid (show oneF kind s.data.toList = (0, 31) by rw [oneF, if_pos HK.out, if_pos h0])
   have H0 := Lib.hid h0
   clear h0 b0 b1
   go_enter Tryz.func110, Tryz.ntmps110
   go_wp2_with (go_at_call 91; refine (so_Value kind s _ HKK.out hs).mono ?_; rw [H0.out]; rintro e w1 ⟨rfl, n, rfl⟩)
   go_ret2
   exact ⟨by rw [hR.out]; rfl, _, rfl⟩
  have hR := Lib.hid (show oneF kind s.data.toList = (numF kind s.data.toList, 0) by rw [oneF, if_pos HK.out, if_neg h0])
  obtain ⟨x, hx⟩ : ∃ x, numF kind s.data.toList = x := ⟨_, rfl⟩
  rw [hx] at h0 b0 b1
  have HX := Lib.hid hx
  have hne : (x == 0) = false := by rw [beq_eq_false_iff_ne]; exact h0
  clear hx h0
  go_enter Tryz.func110, Tryz.ntmps110
  go_wp2_with (go_at_call 91; refine (so_Value kind s _ HKK.out hs).mono ?_; rw [HX.out]; rintro e w1 ⟨rfl, n, rfl⟩)
  go_ret2
  exact ⟨by rw [hR.out, HX.out]; rfl, _, rfl⟩
 have hR := Lib.hid (show oneF kind s.data.toList = (0, 30) by rw [oneF, if_neg (by rw [h]; decide)])
 rcases hk with hk | hk
 ·go_enter Tryz.func110, Tryz.ntmps110
  go_wp2_with fail
  go_ret2
  exact ⟨by rw [hR.out]; rfl, 0, rfl⟩
 have k1 : ¬ kind < 1 := by omega
 go_enter Tryz.func110, Tryz.ntmps110
 go_wp2_with fail
 go_ret2
 exact ⟨by rw [hR.out]; rfl, 0, rfl⟩
end Go.Proofs.YtkdajhmlhjkcdaaGreatDoor
namespace Go.Proofs.YtkdajhmlhjkcdaaGreatDoor
open Go.RowKit
def chopF (k : Nat) (l : List UInt8) : List (List UInt8) := chop k l.length l
theorem chopF_nil (k : Nat) : chopF k [] = [] := rfl
theorem chopF_step (k : Nat) (l : List UInt8) (hk : 0 < k) (h : l ≠ []) : chopF k l = l.take k :: chopF k (l.drop k) := by
 have hp := List.length_pos_iff.2 h
 unfold chopF
 rw [chop_step k l.length l h (Nat.le_refl _), chop_fuel k hk (l.length - 1) (l.drop k).length _ (by simp; omega) (Nat.le_refl _)]
theorem chopF_len (k : Nat) (l : List UInt8) : (chopF k l).length ≤ l.length := chop_len _ _ _
theorem chopF_at (c : Nat) (hc : 0 < c) (s : ByteArray) (k : Nat) (hk : k < s.size) (e : Nat) (he : e = min (k + c) s.size) :
  chopF c (s.data.toList.drop k) = (s.extract k e).data.toList :: chopF c (s.data.toList.drop (k + c)) := by
 have hne : s.data.toList.drop k ≠ [] := by
  intro h
  have h1 := congrArg List.length h
  simp at h1
  omega
 rw [chopF_step c _ hc hne, List.drop_drop, extract_mkS, mkS_data]
 congr 1
 rw [he]
 by_cases h : k + c ≤ s.size
 ·rw [Nat.min_eq_left h]; congr 1; omega
 rw [Nat.min_eq_right (by omega), List.take_of_length_le (by simp; omega), List.take_of_length_le (by simp)]
theorem drop_end (s : ByteArray) (k : Nat) (h : ¬ k < s.size) : s.data.toList.drop k = [] := List.drop_of_length_le (by simp; omega)
def piecesS (kind : Int) (s : ByteArray) : List ByteArray := (piecesOf kind s.data.toList).map mkS
theorem piecesS_len (kind : Int) (s : ByteArray) : (piecesS kind s).length = (piecesOf kind s.data.toList).length := by unfold piecesS; simp
theorem map_mkS (ss : List ByteArray) (ls : List (List UInt8)) (h : ss.map (·.data.toList) = ls) : ss = ls.map mkS := by
 subst h
 rw [List.map_map]
 exact (List.map_id ss).symm
theorem piecesOf_12 (c : Nat) (hc : c = 1 ∨ c = 2) (l : List UInt8) : piecesOf (c : Int) l = chopF c l := by
 rcases hc with rfl | rfl <;> rfl
set_option maxHeartbeats 4000000 in
set_option maxRecDepth 100000 in
theorem so_pieces (kind : Int) (s : ByteArray) (m : Int) (w : World) (hk : kind = 1 ∨ kind = 2 ∨ kind = 3) (hs : s.size ≤ 4194304) (hm : w.cell? ⟨0, 0, none⟩ = some (.int .i64 m)) :
  Calls Tryz.prog 86 #[.int .i64 kind, .string s] w fun e w' => ∃ v', e = .returned v' ∧ Rd w' 1 v' (piecesS kind s).length (strV (piecesS kind s)) ∧ Below w.heap.size w w' := by
 obtain ⟨i0, hi, hz0, hz1, hz2⟩ := info_parts str_info
 have hk' : kind = 3 ∨ ∃ c : Nat, (c = 1 ∨ c = 2) ∧ kind = (c : Int) := by
  rcases hk with rfl | rfl | rfl
  ·exact .inr ⟨1, .inl rfl, rfl⟩
  ·exact .inr ⟨2, .inr rfl, rfl⟩
  exact .inl rfl
 clear hk
 rcases hk' with rfl | ⟨c, hc, rfl⟩
 ·have hR := Lib.hid (show (Lib.splitB ⟨#[44]⟩ 0 (Lib.countB s ⟨#[44]⟩) s) = piecesS 3 s from map_mkS _ _ (split_comma s))
  have hl := Lib.hid (Lib.splitB_all ⟨#[44]⟩ (by decide) 0 _ s rfl)
  go_enter Tryz.func86, Tryz.ntmps86
  go_wp2_with (go_at_call 113; refine (Tryz.strings_Split s ⟨#[44]⟩ m _ (by omega) hm (by decide)).mono ?_; rintro e w1 ⟨rfl, rfl⟩)
  go_ret
  have h2 := hl.out
  rw [hR.out] at h2
  refine ⟨_, rfl, ?_, (Below.refl _ _).alloc (Nat.le_refl _) _⟩
  rw [← h2, hR.out]
  exact Rd.of_own (own_laid w 9 1 (piecesS 3 s).length ((piecesS 3 s).map Value.string).toArray (by simp) (by
   rw [piecesS_len]
   have := piecesOf_len 3 s.data.toList
   rw [len_toList] at this
   unfold maxLen; omega))
 have hT := Lib.hid (show piecesS c s = (chopF c s.data.toList).map mkS by unfold piecesS; rw [piecesOf_12 c hc])
 have hcl := chopF_len c s.data.toList
 rw [len_toList] at hcl
 have hcp : 0 < c ∧ c ≤ 2 ∧ ((c : Int) == 3) = false := by rcases hc with rfl | rfl <;> decide
 obtain ⟨hc0, hc2, hc3⟩ := hcp
 clear hc
 generalize hN : (chopF c s.data.toList).length = N at *
 have HN := Lib.hid hN
 clear hN
 go_enter Tryz.func86, Tryz.ntmps86
 go_wp2
 go_loopw [5, 6] (fun o i wr => ∃ (k : Nat) (acc : List ByteArray), k ≤ s.size + 2 ∧ acc.length ≤ N ∧ i = .int .i64 k ∧ Hid (acc.map (·.data.toList) ++ chopF c (s.data.toList.drop k) = chopF c s.data.toList) ∧ Hid (Own w wr 9 1 o acc.length (strV acc))) (fun _ i _ => s.size + 2 - (intOf i).toNat)
 case atStart => exact ⟨0, [], by omega, Nat.zero_le _, rfl, by show _ = _; simp, Own.nil_ _ _ _⟩
 case round =>
 obtain ⟨k, acc, hkk, hal, rfl, HA, HO⟩ := hrel
 have hsz := HO.out.size
 by_cases hlt : k < s.size
 ·have hst : ∀ e, e = min (k + c) s.size → acc.length + 1 ≤ N ∧ (acc ++ [s.extract k e]).map (·.data.toList) ++ chopF c (s.data.toList.drop (k + c)) = chopF c s.data.toList := by
   intro e he
   have h1 := chopF_at c hc0 s k hlt e he
   have h2 := HA.out
   rw [h1] at h2
   refine ⟨?_, by rw [← h2]; simp⟩
   rw [← HN.out, ← h2]; simp
  by_cases hkc : k + c ≤ s.size
  ·obtain ⟨s1, s2⟩ := hst (k + c) (Nat.min_eq_left hkc).symm
   have S2 := Lib.hid s2
   clear hst s2
   have hmin : min ((k : Int) + c) (s.size : Int) = (k : Int) + c := by omega
   go_wp2_with (at_builtin; refine wpList_push1 rfl _ _ 65 rfl w.heap.size 9 i0 (.string ByteArray.empty) 16 Tryz.underlying65 hi hz0 hz1 hz2 rfl _ acc.length _ rfl HO.out.own _ rfl rfl (by unfold maxLen; omega) (by omega) hsz ?_; intro gg cap w5 hown hg5; have HO' := Lib.hid (HO.out.push hown hg5); clear hown hg5)
   go_roundw
   case rel => exact ⟨k + c, acc ++ [s.extract k (k + c)], by omega, by simpa using s1, by go_num, S2.out, Lib.hid (by simpa [strV] using HO'.out)⟩
   case measure => simp [intOf]; omega
  obtain ⟨s1, s2⟩ := hst s.size (Nat.min_eq_right (by omega)).symm
  have S2 := Lib.hid s2
  clear hst s2
  have hmin : min ((k : Int) + c) (s.size : Int) = (s.size : Int) := by omega
  go_wp2_with (at_builtin; refine wpList_push1 rfl _ _ 65 rfl w.heap.size 9 i0 (.string ByteArray.empty) 16 Tryz.underlying65 hi hz0 hz1 hz2 rfl _ acc.length _ rfl HO.out.own _ rfl rfl (by unfold maxLen; omega) (by omega) hsz ?_; intro gg cap w5 hown hg5; have HO' := Lib.hid (HO.out.push hown hg5); clear hown hg5)
  go_roundw
  case rel => exact ⟨k + c, acc ++ [s.extract k s.size], by omega, by simpa using s1, by go_num, S2.out, Lib.hid (by simpa [strV] using HO'.out)⟩
  case measure => simp [intOf]; omega
 have hfin := Lib.hid (show acc = piecesS c s by
  have h2 := HA.out
  rw [drop_end s k hlt, chopF_nil, List.append_nil] at h2
  rw [hT.out]; exact map_mkS _ _ h2)
 go_wp2
 go_ret
 refine ⟨_, rfl, ?_, HO.out.below⟩
 rw [← hfin.out]
 exact Rd.of_own HO.out.own
theorem ext_snoc (s : ByteArray) (f k : Nat) (hf : f ≤ k) (hk : k < s.size) : (s.extract f (k + 1)).data.toList = (s.extract f k).data.toList ++ [s[k]] := by
 rw [extract_mkS, extract_mkS, mkS_data, mkS_data, show k + 1 - f = (k - f) + 1 by omega, List.take_succ_eq_append_getElem (by simp; omega)]
 congr 2
 rw [List.getElem_drop]
 have e : f + (k - f) = k := by omega
 simp only [e]
 rfl
theorem ext_nil (s : ByteArray) (k : Nat) : (s.extract k k).data.toList = [] := by rw [extract_mkS, mkS_data]; simp
def CutAt (s : ByteArray) (k f : Nat) (acc : List ByteArray) : Prop :=
 (k ≤ s.size ∧ f ≤ k ∧ acc.map (·.data.toList) ++ cgo (s.extract f k).data.toList (s.data.toList.drop k) = cgo [] s.data.toList) ∨ (k = s.size + 1 ∧ acc.map (·.data.toList) = cgo [] s.data.toList)
theorem CutAt.start (s : ByteArray) : CutAt s 0 0 [] := .inl ⟨Nat.zero_le _, Nat.le_refl _, by rw [ext_nil]; simp⟩
theorem CutAt.end_ {s : ByteArray} {f : Nat} {acc : List ByteArray} (h : CutAt s s.size f acc) : CutAt s (s.size + 1) (s.size + 1) (acc ++ [s.extract f s.size]) := by
 rcases h with ⟨_, _, h⟩ | ⟨h, _⟩
 ·rw [drop_end s s.size (by omega), cgo] at h
  exact .inr ⟨rfl, by rw [← h]; simp⟩
 omega
theorem CutAt.hit {s : ByteArray} {k f : Nat} {acc : List ByteArray} (h : CutAt s k f acc) (hk : k < s.size) (h44 : s[k].toNat = 44) : CutAt s (k + 1) (k + 1) (acc ++ [s.extract f k]) := by
 rcases h with ⟨_, _, h⟩ | ⟨h, _⟩
 ·rw [drop_cons s k hk, cgo, if_pos h44] at h
  exact .inl ⟨by omega, Nat.le_refl _, by rw [← h, ext_nil]; simp⟩
 omega
theorem CutAt.pass {s : ByteArray} {k f : Nat} {acc : List ByteArray} (h : CutAt s k f acc) (hk : k < s.size) (h44 : s[k].toNat ≠ 44) : CutAt s (k + 1) f acc := by
 rcases h with ⟨_, hf, h⟩ | ⟨h, _⟩
 ·rw [drop_cons s k hk, cgo, if_neg h44] at h
  exact .inl ⟨by omega, by omega, by rw [← h, ext_snoc s f k hf hk]⟩
 omega
theorem CutAt.le {s : ByteArray} {k f : Nat} {acc : List ByteArray} (h : CutAt s k f acc) (hk : k ≤ s.size) : f ≤ k := by
 rcases h with ⟨_, hf, _⟩ | ⟨h, _⟩ <;> omega
theorem CutAt.done {s : ByteArray} {k f : Nat} {acc : List ByteArray} (h : CutAt s k f acc) (hk : ¬ k ≤ s.size) : acc.map (·.data.toList) = cgo [] s.data.toList := by
 rcases h with ⟨h, _⟩ | ⟨_, h⟩
 ·omega
 exact h
theorem CutAt.len {s : ByteArray} {k f : Nat} {acc : List ByteArray} (h : CutAt s k f acc) : acc.length ≤ s.size + 1 := by
 have hl := cgo_len s.data.toList []
 rw [len_toList] at hl
 rcases h with ⟨_, _, h⟩ | ⟨_, h⟩
 ·have := congrArg List.length h
  rw [List.length_append, List.length_map] at this
  omega
 have := congrArg List.length h
 rw [List.length_map] at this
 omega
set_option maxHeartbeats 4000000 in
set_option maxRecDepth 100000 in
theorem so_parts (kind : Int) (s : ByteArray) (w : World) (hk : kind = 1 ∨ kind = 2 ∨ kind = 3) (hs : s.size ≤ 4194304) :
  Calls Tryz.prog 90 #[.int .i64 kind, .string s] w fun e w' => ∃ v', e = .returned v' ∧ Rd w' 1 v' (piecesS kind s).length (strV (piecesS kind s)) ∧ Below w.heap.size w w' := by
 obtain ⟨i0, hi, hz0, hz1, hz2⟩ := info_parts str_info
 have hk' : kind = 3 ∨ ∃ c : Nat, (c = 1 ∨ c = 2) ∧ kind = (c : Int) := by
  rcases hk with rfl | rfl | rfl
  ·exact .inr ⟨1, .inl rfl, rfl⟩
  ·exact .inr ⟨2, .inr rfl, rfl⟩
  exact .inl rfl
 clear hk
 rcases hk' with rfl | ⟨c, hc, rfl⟩
 ·have hT := Lib.hid (show piecesS 3 s = (cgo [] s.data.toList).map mkS from rfl)
  go_enter Tryz.func90, Tryz.ntmps90
  go_wp2
  go_loopw [5, 6, 7] (fun o fr i wr => ∃ (k f : Nat) (acc : List ByteArray), k ≤ s.size + 1 ∧ acc.length ≤ s.size + 1 ∧ fr = .int .i64 f ∧ i = .int .i64 k ∧ Hid (CutAt s k f acc) ∧ Hid (Own w wr 9 1 o acc.length (strV acc))) (fun _ _ i _ => s.size + 1 - (intOf i).toNat)
  case atStart => exact ⟨0, 0, [], Nat.zero_le _, Nat.zero_le _, rfl, rfl, CutAt.start s, Own.nil_ _ _ _⟩
  case round =>
  obtain ⟨k, f, acc, hkk, hal, rfl, rfl, HA, HO⟩ := hrel
  have hsz := HO.out.size
  by_cases hle : k ≤ s.size
  ·have hfk := HA.out.le hle
   have hle' : (k : Int) ≤ (s.size : Int) := by omega
   by_cases hlt : k < s.size
   ·have hne : ((k : Int) == (s.size : Int)) = false := by rw [beq_eq_false_iff_ne]; omega
    by_cases h44 : s[k].toNat = 44
    ·have S2 := Lib.hid (HA.out.hit hlt h44)
     have hlen := S2.out.len
     have hq : ((s[k].toNat : Int) == 44) = true := by rw [h44]; rfl
     clear h44
     go_wp2_with (at_builtin; refine wpList_push1 rfl _ _ 65 rfl w.heap.size 9 i0 (.string ByteArray.empty) 16 Tryz.underlying65 hi hz0 hz1 hz2 rfl _ acc.length _ rfl HO.out.own _ rfl rfl (by unfold maxLen; omega) (by omega) hsz ?_; intro gg cap w5 hown hg5; have HO' := Lib.hid (HO.out.push hown hg5); clear hown hg5)
     go_roundw
     case rel => exact ⟨k + 1, k + 1, acc ++ [s.extract f k], by omega, hlen, by go_num, by go_num, S2.out, Lib.hid (by simpa [strV] using HO'.out)⟩
     case measure => simp [intOf]; omega
    have S2 := Lib.hid (HA.out.pass hlt h44)
    have hq : ((s[k].toNat : Int) == 44) = false := by rw [beq_eq_false_iff_ne]; omega
    clear h44
    go_wp2
    go_roundw
    case rel => exact ⟨k + 1, f, acc, by omega, hal, rfl, by go_num, S2.out, HO.out⟩
    case measure => simp [intOf]; omega
   obtain rfl : k = s.size := by omega
   have S2 := Lib.hid (HA.out.end_)
   have hlen := S2.out.len
   go_wp2_with (at_builtin; refine wpList_push1 rfl _ _ 65 rfl w.heap.size 9 i0 (.string ByteArray.empty) 16 Tryz.underlying65 hi hz0 hz1 hz2 rfl _ acc.length _ rfl HO.out.own _ rfl rfl (by unfold maxLen; omega) (by omega) hsz ?_; intro gg cap w5 hown hg5; have HO' := Lib.hid (HO.out.push hown hg5); clear hown hg5)
   go_roundw
   case rel => exact ⟨s.size + 1, s.size + 1, acc ++ [s.extract f s.size], by omega, hlen, by go_num, by go_num, S2.out, Lib.hid (by simpa [strV] using HO'.out)⟩
   case measure => simp [intOf]
  have hfin := Lib.hid (show acc = piecesS 3 s by rw [hT.out]; exact map_mkS _ _ (HA.out.done hle))
  have hle' : ¬ (k : Int) ≤ (s.size : Int) := by omega
  go_wp2
  go_ret
  refine ⟨_, rfl, ?_, HO.out.below⟩
  rw [← hfin.out]
  exact Rd.of_own HO.out.own
 have hT := Lib.hid (show piecesS c s = (chopF c s.data.toList).map mkS by unfold piecesS; rw [piecesOf_12 c hc])
 have hcl := chopF_len c s.data.toList
 rw [len_toList] at hcl
 have hcp : 0 < c ∧ c ≤ 2 ∧ ((c : Int) == 3) = false := by rcases hc with rfl | rfl <;> decide
 obtain ⟨hc0, hc2, hc3⟩ := hcp
 clear hc
 generalize hN : (chopF c s.data.toList).length = N at *
 have HN := Lib.hid hN
 clear hN
 go_enter Tryz.func90, Tryz.ntmps90
 go_wp2
 go_loopw [5, 8, 9] (fun o i _ wr => ∃ (k : Nat) (acc : List ByteArray), k ≤ s.size + 2 ∧ acc.length ≤ N ∧ i = .int .i64 k ∧ Hid (acc.map (·.data.toList) ++ chopF c (s.data.toList.drop k) = chopF c s.data.toList) ∧ Hid (Own w wr 9 1 o acc.length (strV acc))) (fun _ i _ _ => s.size + 2 - (intOf i).toNat)
 case atStart => exact ⟨0, [], by omega, Nat.zero_le _, rfl, by show _ = _; simp, Own.nil_ _ _ _⟩
 case round =>
 obtain ⟨k, acc, hkk, hal, rfl, HA, HO⟩ := hrel
 have hsz := HO.out.size
 by_cases hlt : k < s.size
 ·have hst : ∀ e, e = min (k + c) s.size → acc.length + 1 ≤ N ∧ (acc ++ [s.extract k e]).map (·.data.toList) ++ chopF c (s.data.toList.drop (k + c)) = chopF c s.data.toList := by
   intro e he
   have h1 := chopF_at c hc0 s k hlt e he
   have h2 := HA.out
   rw [h1] at h2
   refine ⟨?_, by rw [← h2]; simp⟩
   rw [← HN.out, ← h2]; simp
  by_cases hkc : k + c ≤ s.size
  ·obtain ⟨s1, s2⟩ := hst (k + c) (Nat.min_eq_left hkc).symm
   have S2 := Lib.hid s2
   clear hst s2
   have hnb : ¬ (s.size : Int) < (k : Int) + c := by omega
   go_wp2_with (at_builtin; refine wpList_push1 rfl _ _ 65 rfl w.heap.size 9 i0 (.string ByteArray.empty) 16 Tryz.underlying65 hi hz0 hz1 hz2 rfl _ acc.length _ rfl HO.out.own _ rfl rfl (by unfold maxLen; omega) (by omega) hsz ?_; intro gg cap w5 hown hg5; have HO' := Lib.hid (HO.out.push hown hg5); clear hown hg5)
   go_roundw
   case rel => exact ⟨k + c, acc ++ [s.extract k (k + c)], by omega, by simpa using s1, by go_num, S2.out, Lib.hid (by simpa [strV] using HO'.out)⟩
   case measure => simp [intOf]; omega
  obtain ⟨s1, s2⟩ := hst s.size (Nat.min_eq_right (by omega)).symm
  have S2 := Lib.hid s2
  clear hst s2
  have hnb : (s.size : Int) < (k : Int) + c := by omega
  go_wp2_with (at_builtin; refine wpList_push1 rfl _ _ 65 rfl w.heap.size 9 i0 (.string ByteArray.empty) 16 Tryz.underlying65 hi hz0 hz1 hz2 rfl _ acc.length _ rfl HO.out.own _ rfl rfl (by unfold maxLen; omega) (by omega) hsz ?_; intro gg cap w5 hown hg5; have HO' := Lib.hid (HO.out.push hown hg5); clear hown hg5)
  go_roundw
  case rel => exact ⟨k + c, acc ++ [s.extract k s.size], by omega, by simpa using s1, by go_num, S2.out, Lib.hid (by simpa [strV] using HO'.out)⟩
  case measure => simp [intOf]; omega
 have hfin := Lib.hid (show acc = piecesS c s by
  have h2 := HA.out
  rw [drop_end s k hlt, chopF_nil, List.append_nil] at h2
  rw [hT.out]; exact map_mkS _ _ h2)
 go_wp2
 go_ret
 refine ⟨_, rfl, ?_, HO.out.below⟩
 rw [← hfin.out]
 exact Rd.of_own HO.out.own
end Go.Proofs.YtkdajhmlhjkcdaaGreatDoor
namespace Go.Proofs.YtkdajhmlhjkcdaaGreatDoor
open Go.RowKit
def IS (w : World) (v : Value) (zs : List Int) : Prop :=
 ∃ (p : Option Addr) (c : Nat), v = .slice p zs.length c ∧ zs.length ≤ c ∧ (zs.length = 0 ∨ ∃ b off, p = some ⟨b, off, none⟩ ∧ ∀ j, j < zs.length → w.cell? ⟨b, off + j, none⟩ = some (.int .i64 (zs.getD j 0)))
theorem IS.keep {w w' : World} {v : Value} {zs : List Int} (h : IS w v zs) (hb : Below w.heap.size w w') : IS w' v zs := by
 obtain ⟨p, c, hv, hc, h⟩ := h
 refine ⟨p, c, hv, hc, h.imp id ?_⟩
 rintro ⟨b, off, hp, h2⟩
 refine ⟨b, off, hp, fun j hj => ?_⟩
 have h3 := h2 j hj
 exact (hb.cell (World.block_lt_of_cell? w _ h3)).trans h3
theorem IS.of_own {B e : Nat} {w : World} {v : Value} {zs : List Int} (h : w.ownsRow B e 1 v zs.length (zs.map (Value.int .i64))) : IS w v zs := by
 rcases h.2 with ⟨rfl, h0⟩ | ⟨g, cap, cur, rfl, hB, hg, hn, hm, hs, ht⟩
 ·exact ⟨none, 0, by rw [h0], by omega, .inl h0⟩
 refine ⟨_, cap, rfl, hn, .inr ⟨g, 0, rfl, fun j hj => ?_⟩⟩
 rw [Nat.mul_one] at ht
 have h1 : (cur.toList.take zs.length)[j]? = (zs.map (Value.int .i64))[j]? := by rw [ht]
 rw [List.getElem?_take_of_lt hj] at h1
 simp only [World.cell?, hg, Nat.zero_add]
 simp only [Option.isSome_none, Bool.false_eq_true, if_false]
 rw [← Array.getElem?_toList, h1]
 simp [hj, List.getD]
theorem int_info : (Tryz.prog.info? 3).map (fun i => (i.zero, i.size, i.bytes)) = some (some (.int .i64 0), 1, 8) := by kernel_rfl
end Go.Proofs.YtkdajhmlhjkcdaaGreatDoor
namespace Go.Proofs.YtkdajhmlhjkcdaaGreatDoor
open Go.RowKit
set_option maxHeartbeats 2000000 in
set_option maxRecDepth 100000 in
theorem so_CloneF (v : Value) (zs : List Int) (w : World) (h : FS w v zs) (hbig : zs.length * 2 ≤ 281474976710656) :
  Calls Tryz.prog 50 #[v] w fun e w' => ∃ v', e = .returned v' ∧ FN w.heap.size w' v' zs ∧ Below w.heap.size w w' := by
 obtain ⟨p, c, rfl, hcap, hs⟩ := h
 obtain ⟨i0, hi, hz0, hz1, hz2⟩ := info_parts flag_info
 have qn : ∀ (w : World) (a : Option Addr) (n c n' c' : Nat), (binOp .eql 44 (.slice a n c) (.slice none n' c')).run Tryz.prog w = .ok (.bool a.isNone) w := fun w a n c n' c' => Lib.run_eql_slice_nil w _ _ a n c n' c' Tryz.underlying44
 have hS := Lib.hid hs
 clear hs
 cases p with
 | none =>
  have h0 : zs = [] := List.eq_nil_of_length_eq_zero (hS.out.resolve_right (by rintro ⟨b, off, hp, _⟩; cases hp))
  clear hS
  subst h0
  go_enter Tryz.func50, Tryz.ntmps50
  go_wp2
  go_ret
  exact ⟨_, rfl, FN.nil _ _ _ _, Below.refl _ _⟩
 | some ad =>
  have hr := run_append_new (P := Tryz.prog) (w.alloc (.cells #[] 34)) w.heap.size 44 44 34 i0 (.int .u16 0) 2 Tryz.underlying44 hi hz0 hz1 hz2 rfl w.heap.size (World.ownsRow_made w #[] 0 (Nat.le_refl _) (Nat.zero_le _) rfl) (by simp)
   (some ad) zs.length c (zs.map (Value.int .u16)) (by simp) (FS.news hS.out _ ((Below.refl _ w).alloc (Nat.le_refl _) _)) (by unfold maxLen; omega) hbig
  obtain ⟨v', w1, hrun, hown, hg⟩ := hr
  have HR := Lib.hid hrun
  have HO := Lib.hid hown
  have HG := Lib.hid hg
  clear hrun hown hg hS
  go_enter Tryz.func50, Tryz.ntmps50
  go_wp2_with (at_builtin; refine Lib.wpList_append_run _ rfl _ _ _ _ rfl _ _ rfl rfl _ _ HR.out ?_)
  go_ret
  refine ⟨v', rfl, FN.of_own (e := 34) HO.out, ?_⟩
  exact ((Below.refl _ w).alloc (Nat.le_refl _) _).trans (HG.out.mono (by simp))
end Go.Proofs.YtkdajhmlhjkcdaaGreatDoor
namespace Go.Proofs.YtkdajhmlhjkcdaaGreatDoor
open Go.RowKit
def CW (w : World) (b off n : Nat) (dk : Array Int) : World := Sort.putRow (Value.int .u16) (Sort.ahead w n) b off dk
theorem CW.store {w : World} {b off n : Nat} {dk : Array Int} (m i : Nat) (hi : i < dk.size) (x : Int) : ((CW w b off n dk).drewN m).setCell ⟨b, off + i, none⟩ (.int .u16 x) = CW w b off (n + m) (dk.setIfInBounds i x) := by
 unfold CW
 rw [putRow_drewN]
 exact Sort.putRow_set (Value.int .u16) (Sort.ahead w (n + m)) b off dk i x hi
theorem CW.more {w wr : World} {b off n : Nat} {dk : Array Int} (h : wr = CW w b off n dk) (m : Nat) : wr.drewN m = CW w b off (n + m) dk := by
 subst h
 exact putRow_drewN _ _ _ _ _ _ _
theorem CW.set {w wr : World} {b off n : Nat} {dk : Array Int} (h : wr = CW w b off n dk) (m i : Nat) (hi : i < dk.size) (x : Int) : (wr.drewN m).setCell ⟨b, off + i, none⟩ (.int .u16 x) = CW w b off (n + m) (dk.setIfInBounds i x) := by
 subst h
 exact CW.store m i hi x
theorem CW.set' {w wr : World} {b off n : Nat} {dk : Array Int} (h : wr = CW w b off n dk) (m i : Nat) (hi : i < dk.size) (x : Int) : (wr.setCell ⟨b, off + i, none⟩ (.int .u16 x)).drewN m = CW w b off (n + m) (dk.setIfInBounds i x) := CW.set h m i hi x
theorem CW.start {w : World} {b off : Nat} {d : Array Int} (n : Nat) (h : Sort.Holds (Value.int .u16) w b off d) : w.drewN n = CW w b off n d := (Sort.putRow_self _ _ _ _ _ (Sort.holds_ahead _ w n b off d h)).symm
theorem CW.holds {w : World} {b off : Nat} {d dk : Array Int} (n : Nat) (h : Sort.Holds (Value.int .u16) w b off d) (hs : dk.size = d.size) : Sort.Holds (Value.int .u16) (CW w b off n dk) b off dk := Sort.holds_putRow _ _ _ _ d dk (Sort.holds_ahead _ w n b off d h) hs
set_option maxHeartbeats 4000000 in
set_option maxRecDepth 1000000 in
theorem so_Compact_arr (b off c : Nat) (d : Array Int) (w : World) (hH : Sort.Holds (Value.int .u16) w b off d) (hsz : d.size ≤ 4611686018427387904) (hcap : d.size ≤ c) :
  Calls Tryz.prog 89 #[.slice (some ⟨b, off, none⟩) d.size c] w fun e w' =>
   ∃ (n : Nat) (dk : Array Int), e = .returned (.slice (some ⟨b, off, none⟩) (Lib.compactUpTo d d.size).length c) ∧ w' = CW w b off n dk ∧ dk.size = d.size ∧ ∀ j, j < (Lib.compactUpTo d d.size).length → (Lib.compactUpTo d d.size)[j]? = some dk[j]! := by
 have HH := Lib.hid hH
 have hall : ∀ n, (∀ j, j < d.size → Lib.keeps d j = true) → (Lib.compactUpTo d d.size).length = d.size ∧ w.drewN n = CW w b off n d ∧ ∀ j, j < (Lib.compactUpTo d d.size).length → (Lib.compactUpTo d d.size)[j]? = some d[j]! := by
  intro n hk
  have e : Lib.compactUpTo d d.size = d.toList := by rw [Lib.compactUpTo_all d _ hk, Lib.range_map_get]
  rw [e]
  exact ⟨by simp, CW.start n hH, fun j hj => by simp at hj; simp [hj, getElem!_pos]⟩
 have HA := Lib.hid hall
 clear hall hH
 by_cases h2 : d.size < 2
 ·go_enter Tryz.func89, Tryz.ntmps89
  go_wp2
  go_ret
  obtain ⟨e1, e2, e3⟩ := HA.out 0 (fun j hj => Lib.keeps_lt_one d j (by omega))
  exact ⟨0, d, by rw [e1]; rfl, e2, rfl, e3⟩
 go_enter Tryz.func89, Tryz.ntmps89
 go_wp2
 go_loopw [3] (fun i wr => ∃ k n : Nat, 1 ≤ k ∧ k ≤ d.size ∧ i = .int .i64 k ∧ wr = w.drewN n ∧ Hid (∀ j, j < k → Lib.keeps d j = true)) (fun i _ => d.size - (intOf i).toNat)
 case atStart => exact ⟨1, 0, Nat.le_refl _, by omega, rfl, rfl, Lib.keeps_lt_one d⟩
 case round =>
 obtain ⟨k, n, hk1, hk, rfl, rfl, HK⟩ := hrel
 by_cases hlt : k < d.size
 ·obtain ⟨c1, -⟩ := HH.out k hlt
  obtain ⟨c0, -⟩ := HH.out (k - 1) (by omega)
  generalize hx : d[k]! = x at c1
  generalize hy : d[k - 1]! = y at c0
  have HX := Lib.hid hx
  have HY := Lib.hid hy
  clear hx hy
  cases hq : (x == y)
  ·have hkp := Lib.hid (Lib.keeps_pos (d := d) (m := k) (by rw [HX.out, HY.out]; simpa using hq))
   go_wp2_with fail
   go_quiet (fail)
   go_wp2
   go_roundw
   case rel => exact ⟨k + 1, _, by omega, by omega, by go_num, rfl, fun j hj => (by
    by_cases e : j = k
    ·subst e; exact hkp.out
    exact HK.out j (by omega))⟩
   case measure => simp [intOf]; omega
  have hkn := Lib.hid (Lib.keeps_neg (d := d) (m := k) (by omega) (by rw [HX.out, HY.out]; simpa using hq))
  go_wp2_with fail
  go_quiet (fail)
  go_wp2
  clear c0 c1
  go_loopw [3, 5] (fun i i2 wr => ∃ (kk k2 n2 : Nat) (dk : Array Int), i = .int .i64 kk ∧ i2 = .int .i64 k2 ∧ 1 ≤ k2 ∧ k + k2 ≤ d.size ∧ Hid (wr = CW w b off n2 dk) ∧ Hid (Lib.CompInv d (k + k2) kk dk)) (fun _ i2 _ => d.size - (k + (intOf i2).toNat))
  case atStart => exact ⟨k, 1, _, d, rfl, rfl, Nat.le_refl _, by omega, CW.start _ HH.out, Lib.CompInv.start HK.out hkn.out⟩
  case round =>
  obtain ⟨kk, k2, n2, dk, rfl, rfl, h1, hle, HW, HI⟩ := hrel
  have hkk := HI.out.lt
  have hds := HI.out.size
  have hHk : Sort.Holds (Value.int .u16) wr b off dk := by rw [HW.out]; exact CW.holds _ HH.out hds
  have HHk := Lib.hid hHk
  clear hHk
  by_cases hlt2 : k + k2 < d.size
  ·obtain ⟨cm, -⟩ := HHk.out (k + k2) (by omega)
   obtain ⟨cp, -⟩ := HHk.out (k + k2 - 1) (by omega)
   obtain ⟨ck, fk⟩ := HHk.out kk (by omega)
   rw [HI.out.high (k + k2) (by omega), show off + (k + k2) = off + k + k2 by omega] at cm
   rw [HI.out.high (k + k2 - 1) (by omega), show off + (k + k2 - 1) = off + k + (k2 - 1) by omega] at cp
   generalize hu : d[k + k2]! = u at cm
   generalize hv : d[k + k2 - 1]! = v at cp
   generalize dk[kk]! = old at ck
   have HU := Lib.hid hu
   have HV := Lib.hid hv
   clear hu hv
   cases hq2 : (u == v)
   ·have hkp := Lib.hid (Lib.keeps_pos (d := d) (m := k + k2) (by rw [HU.out, HV.out]; simpa using hq2))
    go_wp2_with fail
    go_quiet (fail)
    go_wp2
    go_roundw
    case rel => exact ⟨kk + 1, k2 + 1, _, dk.setIfInBounds kk u, by go_num, by go_num, by omega, by omega, CW.set' HW.out _ kk (by omega) u, by have := HI.out.keep hlt2 hkp.out; rwa [HU.out] at this⟩
    case measure => simp [intOf]; omega
   have hkn2 := Lib.hid (Lib.keeps_neg (d := d) (m := k + k2) (by omega) (by rw [HU.out, HV.out]; simpa using hq2))
   go_wp2_with fail
   go_quiet (fail)
   go_wp2
   go_roundw
   case rel => exact ⟨kk, k2 + 1, _, dk, rfl, by go_num, by omega, by omega, CW.more HW.out _, HI.out.skip hkn2.out⟩
   case measure => simp [intOf]; omega
  have hend : k + k2 = d.size := by omega
  have hcl : ∀ ty, (Builtin.clear_ #[44] ty #[.slice (some ⟨b, off + kk, none⟩) (d.size - kk) (c - kk)]).run Tryz.prog wr = .ok (.tuple #[]) (wr.setCells b (off + kk) (List.replicate (d.size - kk) (.int .u16 0))) :=
   fun ty => Lib.run_clear_slice wr _ _ ty _ Tryz.underlying44 Tryz.zeroValue34 rfl rfl b (off + kk) _ _ (by omega) (fun j hj => by rw [show off + kk + j = off + (kk + j) by omega, (HHk.out (kk + j) (by omega)).1]; rfl) (fun j hj => by rw [show off + kk + j = off + (kk + j) by omega]; exact (HHk.out (kk + j) (by omega)).2)
  go_wp2
  go_ret
  have hI := HI.out
  rw [hend] at hI
  refine ⟨n2, (Lib.compactUpTo d d.size ++ List.replicate (d.size - kk) 0).toArray, by rw [hI.len]; rfl, ?_, by have := hI.len; simp; omega, fun j hj => ?_⟩
  ·rw [← hI.done 0, HW.out]
   have := Lib.putRow_setCells (Value.int .u16) (Sort.ahead w n2) b off (List.replicate (d.size - kk) (0 : Int)) dk kk (by simp; omega)
   rw [List.map_replicate] at this
   exact this
  simp [hj, List.getElem?_append_left hj]
 have hke : k = d.size := by omega
 subst hke
 go_wp2
 go_ret
 obtain ⟨e1, e2, e3⟩ := HA.out n HK.out
 exact ⟨n, d, by rw [e1]; rfl, e2, rfl, e3⟩
end Go.Proofs.YtkdajhmlhjkcdaaGreatDoor
namespace Go.Proofs.YtkdajhmlhjkcdaaGreatDoor
open Go.RowKit
theorem below_CW {w : World} {B b off n : Nat} {dk : Array Int} (hB : B ≤ b) (hb : b < w.heap.size) : Below B w (CW w b off n dk) := by
 have h := below_row (Value.int .u16) w B n b off dk #[] hB hb
 rwa [Sort.grow_empty] at h
set_option maxHeartbeats 1000000 in
theorem so_Compact (B : Nat) (v : Value) (zs : List Int) (w : World) (h : FN B w v zs) (hsz : zs.length ≤ 4611686018427387904) :
  Calls Tryz.prog 89 #[v] w fun e w' => ∃ v', e = .returned v' ∧ FN B w' v' (Lib.compact zs) ∧ Below B w w' := by
 obtain ⟨p, c, rfl, hc, h⟩ := h
 have he : ∀ (q : Option Addr), zs.length = 0 → Calls Tryz.prog 89 #[.slice q zs.length c] w fun e w' => ∃ v', e = .returned v' ∧ FN B w' v' (Lib.compact zs) ∧ Below B w w' := by
  intro q h0
  have : zs = [] := List.eq_nil_of_length_eq_zero h0
  subst this
  clear h
  go_enter Tryz.func89, Tryz.ntmps89
  go_wp2
  go_ret
  exact ⟨_, rfl, FN.nil _ _ _ _, Below.refl _ _⟩
 rcases h with h | ⟨b, off, rfl, hb, hH⟩
 ·exact he p h
 by_cases h0 : zs.length = 0
 ·exact he _ h0
 have hblk : b < w.heap.size := World.block_lt_of_cell? w _ (hH 0 (by simp; omega)).1
 have hC := so_Compact_arr b off c zs.toArray w hH (by simpa using hsz) (by simpa using hc)
 rw [List.size_toArray] at hC
 refine hC.mono ?_
 rintro e w' ⟨n, dk, rfl, rfl, hs, hlow⟩
 have hle : (Lib.compactUpTo zs.toArray zs.length).length ≤ zs.length := by
  unfold Lib.compactUpTo
  rw [List.length_map]
  exact Nat.le_trans (List.length_filter_le _ _) (by simp)
 have hHd := CW.holds n hH hs
 have hs' : dk.size = zs.length := by simpa using hs
 refine ⟨_, rfl, ⟨_, c, rfl, by have : (Lib.compact zs).length ≤ zs.length := hle; omega, .inr ⟨b, off, rfl, hb, fun j hj => ?_⟩⟩, below_CW hb hblk⟩
 have hj' : j < (Lib.compactUpTo zs.toArray zs.length).length := by simpa [Lib.compact] using hj
 obtain ⟨h1, h2⟩ := hHd j (by omega)
 refine ⟨?_, h2⟩
 rw [h1]
 have h3 := hlow j hj'
 have h4 : (Lib.compact zs).toArray[j]! = dk[j]! := by
  have : (Lib.compact zs)[j]? = some dk[j]! := h3
  obtain ⟨h5, h6⟩ := List.getElem?_eq_some_iff.1 this
  rw [getElem!_pos (Lib.compact zs).toArray j (by simpa using h5)]
  simpa using h6
 rw [h4]
def canon (zs : List Int) : List Int := Lib.compact (zs.mergeSort fun x y => decide (x ≤ y))
set_option maxHeartbeats 1000000 in
theorem so_Of (v : Value) (zs : List Int) (w : World) (h : FS w v zs) (hbig : zs.length * 2 ≤ 281474976710656) :
  Calls Tryz.prog 54 #[v] w fun e w' => ∃ v', e = .returned v' ∧ FN w.heap.size w' v' (canon zs) ∧ Below w.heap.size w w' := by
 have hF := Lib.hid h
 obtain ⟨p, c, rfl, hcap, -⟩ := h
 go_enter Tryz.func54, Tryz.ntmps54
 go_wp2_with (go_at_call 50; refine (so_CloneF _ zs _ hF.out hbig).mono ?_; rintro e w1 ⟨v1, rfl, h1, b1⟩)
 have H1 := Lib.hid h1
 have B1 := Lib.hid b1
 have hs1 := b1.size
 clear h1 b1
 go_wp2_with (go_at_call 88; refine (so_Sort_FN w.heap.size _ zs _ H1.out hs1 (by omega)).mono ?_; rintro e w2 ⟨rfl, h2, b2⟩)
 have H2 := Lib.hid h2
 have B2 := Lib.hid b2
 clear h2 b2
 go_wp2_with (go_at_call 89; refine (so_Compact w.heap.size _ _ _ H2.out (by simp; omega)).mono ?_; rintro e w3 ⟨v3, rfl, h3, b3⟩)
 have H3 := Lib.hid h3
 have B3 := Lib.hid b3
 clear h3 b3
 go_wp2
 go_ret
 exact ⟨v3, rfl, H3.out, B1.out.trans (B2.out.trans B3.out)⟩
end Go.Proofs.YtkdajhmlhjkcdaaGreatDoor
namespace Go.Proofs.YtkdajhmlhjkcdaaGreatDoor
open Go.RowKit
theorem compact_le (zs : List Int) : (Lib.compact zs).length ≤ zs.length := by
 unfold Lib.compact Lib.compactUpTo
 rw [List.length_map]
 exact Nat.le_trans (List.length_filter_le _ _) (by simp)
theorem canon_le (zs : List Int) : (canon zs).length ≤ zs.length := by
 have := compact_le (zs.mergeSort fun x y => decide (x ≤ y))
 unfold canon
 simpa using this
end Go.Proofs.YtkdajhmlhjkcdaaGreatDoor
namespace Go.Proofs.YtkdajhmlhjkcdaaGreatDoor
theorem mem_compactUpTo (d : Array Int) : ∀ (m : Nat) (x : Int), x ∈ Lib.compactUpTo d m ↔ ∃ j, j < m ∧ d[j]! = x
 | 0, x => by simp [Lib.compactUpTo]
 | m + 1, x => by
   rw [Lib.compactUpTo_succ, List.mem_append, mem_compactUpTo d m x]
   constructor
   ·rintro (⟨j, hj, e⟩ | h)
    ·exact ⟨j, by omega, e⟩
    ·cases hk : Lib.keeps d m
     ·rw [hk] at h; simp at h
     ·rw [hk] at h; simp at h; exact ⟨m, by omega, h.symm⟩
   ·rintro ⟨j, hj, e⟩
    by_cases hjm : j = m
    ·subst hjm
     cases hk : Lib.keeps d j
     ·left
      have : ¬ (j = 0 ∨ d[j]! ≠ d[j - 1]!) := by simpa [Lib.keeps] using hk
      exact ⟨j - 1, by omega, by
       have h2 : d[j]! = d[j - 1]! := by
        by_cases h3 : d[j]! = d[j - 1]!
        ·exact h3
        ·exact absurd (.inr h3) this
       rw [← h2]; exact e⟩
     ·right; simp [e]
    ·exact .inl ⟨j, by omega, e⟩
theorem mem_compact (zs : List Int) (x : Int) : x ∈ Lib.compact zs ↔ x ∈ zs := by
 unfold Lib.compact
 rw [mem_compactUpTo]
 constructor
 ·rintro ⟨j, hj, rfl⟩
  rw [getElem!_pos zs.toArray j (by simpa using hj)]
  simp
 intro h
 obtain ⟨j, hj, rfl⟩ := List.getElem_of_mem h
 exact ⟨j, hj, by rw [getElem!_pos zs.toArray j (by simpa using hj)]; simp⟩
theorem mem_canon (zs : List Int) (x : Int) : x ∈ canon zs ↔ x ∈ zs := by
 unfold canon
 rw [mem_compact, List.mem_mergeSort]
theorem contains_iff (zs : List Int) (x : Int) : zs.contains x = true ↔ x ∈ zs := by simp
end Go.Proofs.YtkdajhmlhjkcdaaGreatDoor
namespace Go.Proofs.YtkdajhmlhjkcdaaGreatDoor
theorem sorted_get {zs : List Int} (hs : zs.Pairwise (· ≤ ·)) {i j : Nat} (hij : i ≤ j) (hj : j < zs.length) : zs.toArray[i]! ≤ zs.toArray[j]! := by
 rw [getElem!_pos zs.toArray i (by simp; omega), getElem!_pos zs.toArray j (by simpa using hj)]
 simp only [List.getElem_toArray]
 rcases Nat.lt_or_ge i j with h | h
 ·exact List.pairwise_iff_getElem.1 hs i j (by omega) hj h
 obtain rfl : i = j := by omega
 exact Int.le_refl _
theorem compact_sorted (zs : List Int) (hs : zs.Pairwise (· ≤ ·)) : ∀ m, m ≤ zs.length → (Lib.compactUpTo zs.toArray m).Pairwise (· < ·)
 | 0, _ => by simp [Lib.compactUpTo]
 | m + 1, hm => by
   rw [Lib.compactUpTo_succ, List.pairwise_append]
   refine ⟨compact_sorted zs hs m (by omega), ?_, ?_⟩
   ·split <;> simp
   ·intro x hx y hy
    cases hk : Lib.keeps zs.toArray m
    ·rw [hk] at hy; simp at hy
    ·rw [hk] at hy
     obtain rfl : y = zs.toArray[m]! := by simpa using hy
     obtain ⟨j, hj, rfl⟩ := (mem_compactUpTo _ _ _).1 hx
     have hk2 : m = 0 ∨ zs.toArray[m]! ≠ zs.toArray[m - 1]! := by simpa [Lib.keeps] using hk
     have h1 := sorted_get hs (show j ≤ m - 1 by omega) (by omega)
     have h2 := sorted_get hs (show m - 1 ≤ m by omega) (by omega)
     rcases hk2 with h | h <;> omega
theorem canon_sorted (zs : List Int) : (canon zs).Pairwise (· < ·) := by
 refine compact_sorted _ ?_ _ (Nat.le_refl _)
 have := List.pairwise_mergeSort (le := fun x y : Int => decide (x ≤ y)) (by intro a b c; simp; omega) (by intro a b; simp; omega) zs
 exact this.imp (by intro a b h; simpa using h)
theorem sorted_ext : ∀ (a b : List Int), a.Pairwise (· < ·) → b.Pairwise (· < ·) → (∀ x, x ∈ a ↔ x ∈ b) → a = b
 | [], [], _, _, _ => rfl
 | [], y :: b, _, _, h => absurd ((h y).2 (by simp)) (by simp)
 | x :: a, [], _, _, h => absurd ((h x).1 (by simp)) (by simp)
 | x :: a, y :: b, ha, hb, h => by
   rw [List.pairwise_cons] at ha hb
   have e : x = y := by
    have h1 := (h x).1 (by simp)
    have h2 := (h y).2 (by simp)
    rw [List.mem_cons] at h1 h2
    rcases h1 with h1 | h1
    ·exact h1
    ·rcases h2 with h2 | h2
     ·exact h2.symm
     ·have := hb.1 x h1; have := ha.1 y h2; omega
   subst e
   rw [sorted_ext a b ha.2 hb.2 (fun z => by
    have hz := h z
    rw [List.mem_cons, List.mem_cons] at hz
    constructor
    ·intro hm
     rcases hz.1 (.inr hm) with rfl | h2
     ·exact absurd (ha.1 z hm) (by omega)
     ·exact h2
    ·intro hm
     rcases hz.2 (.inr hm) with rfl | h2
     ·exact absurd (hb.1 z hm) (by omega)
     ·exact h2)]
theorem canon_ext {a b : List Int} (h : ∀ x, x ∈ a ↔ x ∈ b) : canon a = canon b :=
 sorted_ext _ _ (canon_sorted a) (canon_sorted b) (fun x => by rw [mem_canon, mem_canon]; exact h x)
theorem canon_idem (a : List Int) : canon (canon a) = canon a := canon_ext (fun x => mem_canon a x)
theorem canon_nil : canon [] = [] := by simp [canon, Lib.compact, Lib.compactUpTo]
end Go.Proofs.YtkdajhmlhjkcdaaGreatDoor
namespace Go.Proofs.YtkdajhmlhjkcdaaGreatDoor
def bestStep (last nx x : Int) : Int := if x > last ∧ (nx < 0 ∨ x < nx) then x else nx
def best (last : Int) (l : List Int) : Int := l.foldl (bestStep last) (-1)
theorem best_snoc (last : Int) (l : List Int) (x : Int) : best last (l ++ [x]) = bestStep last (best last l) x := by
 unfold best; rw [List.foldl_append]; rfl
theorem best_spec (last : Int) (hl : -1 ≤ last) (l : List Int) (h0 : ∀ x ∈ l, 0 ≤ x) : ∀ k, k ≤ l.length →
  (best last (l.take k) = -1 ∧ ∀ x ∈ l.take k, x ≤ last) ∨ (best last (l.take k) ∈ l ∧ last < best last (l.take k) ∧ ∀ x ∈ l.take k, last < x → best last (l.take k) ≤ x)
 | 0, _ => .inl ⟨by simp [best], by simp⟩
 | k + 1, hk => by
   have ih := best_spec last hl l h0 k (by omega)
   have hx := h0 l[k] (List.getElem_mem (by omega))
   have hm : l[k] ∈ l := List.getElem_mem (by omega)
   have e : l.take (k + 1) = l.take k ++ [l[k]] := by rw [List.take_add_one, List.getElem?_eq_getElem (by omega)]; rfl
   rw [e, best_snoc]
   generalize l[k] = y at *
   generalize best last (l.take k) = b at *
   unfold bestStep
   rcases ih with ⟨rfl, ih⟩ | ⟨i1, i2, i3⟩
   ·by_cases h : y > last
    ·rw [if_pos ⟨h, .inl (by omega)⟩]
     refine .inr ⟨hm, h, fun x hx' hlx => ?_⟩
     rcases List.mem_append.1 hx' with h' | h'
     ·have := ih x h'; omega
     ·obtain rfl : x = y := by simpa using h'
      exact Int.le_refl _
    ·rw [if_neg (by omega)]
     refine .inl ⟨rfl, fun x hx' => ?_⟩
     rcases List.mem_append.1 hx' with h' | h'
     ·exact ih x h'
     ·obtain rfl : x = y := by simpa using h'
      omega
   ·by_cases h : y > last ∧ (b < 0 ∨ y < b)
    ·rw [if_pos h]
     refine .inr ⟨hm, h.1, fun x hx' hlx => ?_⟩
     rcases List.mem_append.1 hx' with h' | h'
     ·have := i3 x h' hlx; omega
     ·obtain rfl : x = y := by simpa using h'
      exact Int.le_refl _
    ·rw [if_neg h]
     refine .inr ⟨i1, i2, fun x hx' hlx => ?_⟩
     rcases List.mem_append.1 hx' with h' | h'
     ·exact i3 x h' hlx
     ·obtain rfl : x = y := by simpa using h'
      omega
theorem canon_lt (zs : List Int) {i j : Nat} (hi : i < (canon zs).length) (hj : j < (canon zs).length) (h : i < j) : (canon zs)[i] < (canon zs)[j] :=
 List.pairwise_iff_getElem.1 (canon_sorted zs) i j hi hj h
def lastOf (zs : List Int) (m : Nat) : Int := if m = 0 then -1 else (canon zs).getD (m - 1) 0
theorem lastOf_lt (zs : List Int) (h0 : ∀ x ∈ zs, 0 ≤ x) (m j : Nat) (hj : j < (canon zs).length) : lastOf zs m < (canon zs)[j] ∨ j < m := by
 unfold lastOf
 have hp := h0 _ ((mem_canon _ _).1 (List.getElem_mem hj))
 by_cases hm : m = 0
 ·rw [if_pos hm]; left; omega
 rw [if_neg hm]
 by_cases hjm : j < m
 ·exact .inr hjm
 left
 have h1 : m - 1 < (canon zs).length := by omega
 have e : (canon zs).getD (m - 1) 0 = (canon zs)[m - 1] := by simp [List.getD, h1]
 rw [e]
 exact canon_lt zs h1 hj (by omega)
theorem best_canon (zs : List Int) (h0 : ∀ x ∈ zs, 0 ≤ x) (m : Nat) (hm : m ≤ (canon zs).length) : best (lastOf zs m) zs = if m < (canon zs).length then (canon zs).getD m 0 else -1 := by
 have hl : -1 ≤ lastOf zs m := by
  unfold lastOf
  split
  ·omega
  have h1 : m - 1 < (canon zs).length := by omega
  have e : (canon zs).getD (m - 1) 0 = (canon zs)[m - 1] := by simp [List.getD, h1]
  rw [e]
  have := h0 _ ((mem_canon _ _).1 (List.getElem_mem h1))
  omega
 have hge : ∀ j, j < m → ∀ hj : j < (canon zs).length, (canon zs)[j] ≤ lastOf zs m := by
  intro j hjm hj
  unfold lastOf
  rw [if_neg (by omega)]
  have h1 : m - 1 < (canon zs).length := by omega
  have e : (canon zs).getD (m - 1) 0 = (canon zs)[m - 1] := by simp [List.getD, h1]
  rw [e]
  by_cases hjj : j = m - 1
  ·subst hjj; exact Int.le_refl _
  exact Int.le_of_lt (canon_lt zs hj h1 (by omega))
 have hs := best_spec (lastOf zs m) hl zs h0 zs.length (Nat.le_refl _)
 rw [List.take_length] at hs
 by_cases hmm : m < (canon zs).length
 ·rw [if_pos hmm]
  have e : (canon zs).getD m 0 = (canon zs)[m] := by simp [List.getD, hmm]
  rw [e]
  have hin := (mem_canon _ _).1 (List.getElem_mem hmm)
  have hgt := (lastOf_lt zs h0 m m hmm).resolve_right (by omega)
  rcases hs with ⟨_, h2⟩ | ⟨h1, h2, h3⟩
  ·have := h2 _ hin; omega
  have hle := h3 _ hin hgt
  obtain ⟨j, hj, hjb⟩ := List.getElem_of_mem ((mem_canon zs _).2 h1)
  rcases Nat.lt_trichotomy j m with h | h | h
  ·have := hge j h hj; omega
  ·subst h; exact hjb.symm
  have := canon_lt zs hmm hj h; omega
 rw [if_neg hmm]
 rcases hs with ⟨h1, _⟩ | ⟨h1, h2, _⟩
 ·exact h1
 obtain ⟨j, hj, hjb⟩ := List.getElem_of_mem ((mem_canon zs _).2 h1)
 have := hge j (by omega) hj
 omega
end Go.Proofs.YtkdajhmlhjkcdaaGreatDoor
namespace Go.Proofs.YtkdajhmlhjkcdaaGreatDoor
open Go.RowKit
theorem best_next (last : Int) (zs : List Int) (k : Nat) (h : k < zs.length) : best last (zs.take (k + 1)) = bestStep last (best last (zs.take k)) (zs.getD k 0) := by
 have e : zs.take (k + 1) = zs.take k ++ [zs[k]] := by rw [List.take_add_one, List.getElem?_eq_getElem h]; rfl
 rw [e, best_snoc]
 simp [List.getD, h]
set_option maxHeartbeats 4000000 in
set_option maxRecDepth 100000 in
theorem so_rOfO (v : Value) (zs : List Int) (w : World) (h : IS w v zs) (h0 : ∀ x ∈ zs, 0 ≤ x ∧ x ≤ 4611686018427387904) (hbig : zs.length * 8 ≤ 140737488355328) :
  Calls Tryz.prog 92 #[v] w fun e w' => ∃ v', e = .returned v' ∧ w'.ownsRow w.heap.size 3 1 v' (canon zs).length ((canon zs).map (Value.int .i64)) ∧ Below w.heap.size w w' := by
 obtain ⟨i0, hi, hz0, hz1, hz2⟩ := info_parts int_info
 obtain ⟨p, c, rfl, hcap, hs⟩ := h
 have hS := Lib.hid hs
 have hD := Lib.hid h0
 have hcl := canon_le zs
 have HBC := Lib.hid (best_canon zs (fun x hx => (h0 x hx).1))
 clear hs h0
 generalize hN : (canon zs).length = N at *
 have HN := Lib.hid hN
 clear hN
 go_enter Tryz.func92, Tryz.ntmps92
 go_wp2
 go_loopg [3, 4, 5, 6] N (fun g s3 s4 _ _ wr => ∃ m : Nat, m ≤ N ∧ N - m ≤ g ∧ s4 = .int .i64 (lastOf zs m) ∧ Hid (wr.ownsRow w.heap.size 3 1 s3 m (((canon zs).take m).map (Value.int .i64))) ∧ Hid (Below w.heap.size w wr))
 case atStart => exact ⟨0, Nat.zero_le _, by omega, rfl, World.ownsRow_nil _ _ _ _, Below.refl _ _⟩
 case round =>
 obtain ⟨m, hm, hg, rfl, HO, HB⟩ := hrel
 have hsz := HB.out.size
 go_wp2
 go_loopw [5, 6] (fun nx i W => ∃ k : Nat, k ≤ zs.length ∧ i = .int .i64 k ∧ W = wr ∧ nx = .int .i64 (best (lastOf zs m) (zs.take k))) (fun _ i _ => zs.length - (intOf i).toNat)
 case atStart => exact ⟨0, Nat.zero_le _, rfl, rfl, rfl⟩
 case round =>
 obtain ⟨k, hk, rfl, hW, rfl⟩ := hrel
 subst hW
 by_cases hlt : k < zs.length
 ·obtain ⟨b, off, rfl, hc⟩ := hS.out.resolve_left (by omega)
  have c0 := hc k hlt
  have hcell := (HB.out.cell (World.block_lt_of_cell? w _ c0)).trans c0
  have HNX := Lib.hid (best_next (lastOf zs m) zs k hlt)
  clear hc c0
  generalize zs.getD k 0 = x at *
  generalize best (lastOf zs m) (zs.take k) = nx at *
  generalize lastOf zs m = l at *
  by_cases h1 : l < x
  ·by_cases h2 : nx < 0
   ·go_wp2
    go_roundw
    case rel => exact ⟨k + 1, by omega, by go_num, (by trivial), by rw [HNX.out, bestStep, if_pos ⟨h1, .inl h2⟩]⟩
    case measure => simp [intOf]; omega
   by_cases h3 : x < nx
   ·go_wp2
    go_roundw
    case rel => exact ⟨k + 1, by omega, by go_num, (by trivial), by rw [HNX.out, bestStep, if_pos ⟨h1, .inr h3⟩]⟩
    case measure => simp [intOf]; omega
   go_wp2
   go_roundw
   case rel => exact ⟨k + 1, by omega, by go_num, (by trivial), by rw [HNX.out, bestStep, if_neg (by omega)]⟩
   case measure => simp [intOf]; omega
  go_wp2
  go_roundw
  case rel => exact ⟨k + 1, by omega, by go_num, (by trivial), by rw [HNX.out, bestStep, if_neg (by omega)]⟩
  case measure => simp [intOf]; omega
 have hke : k = zs.length := by omega
 subst hke
 rw [List.take_length]
 have hb := HBC.out m hm
 by_cases hmN : m < N
 ·have hlc : m < (canon zs).length := by rw [HN.out]; exact hmN
  rw [if_pos hmN] at hb
  have hcm : (canon zs).getD m 0 = (canon zs)[m] := by simp [List.getD, hlc]
  have hpos := (hD.out _ ((mem_canon _ _).1 (List.getElem_mem hlc))).1
  have hle := (hD.out _ ((mem_canon _ _).1 (List.getElem_mem hlc))).2
  rw [hcm] at hb
  have HM := Lib.hid (show ((canon zs).take (m + 1)).map (Value.int .i64) = ((canon zs).take m).map (Value.int .i64) ++ [Value.int .i64 (canon zs)[m]] by rw [List.take_add_one, List.getElem?_eq_getElem hlc, List.map_append]; rfl)
  have HL := Lib.hid (show lastOf zs (m + 1) = (canon zs)[m] by unfold lastOf; rw [if_neg (by omega), Nat.add_sub_cancel, hcm])
  rw [hb]
  clear hb hcm
  generalize (canon zs)[m] = y at *
  have hneg : ¬ y < 0 := by omega
  go_wp2_with (at_builtin; refine wpList_push1 rfl _ _ 60 rfl w.heap.size 3 i0 (.int .i64 0) 8 Tryz.underlying60 hi hz0 hz1 hz2 rfl _ m _ rfl HO.out _ rfl rfl ?c3 ?c4 hsz ?_)
  case c3 => unfold maxLen; omega
  case c4 => omega
  intro gg cap w2 hown hg2
  have HO2 := Lib.hid hown
  have HB2 := Lib.hid (below_push HB.out HO.out hg2 (Nat.le_refl _) hsz)
  clear hown hg2
  go_wp2
  go_roundg (N - (m + 1))
  case measure => omega
  case rel => exact ⟨m + 1, by omega, Nat.le_refl _, by rw [HL.out], (by show World.ownsRow _ _ _ _ _ _ _; rw [HM.out, List.map_take]; exact HO2.out), HB2.out⟩
 have hmN' : m = N := by omega
 subst hmN'
 rw [if_neg hmN] at hb
 rw [hb]
 go_wp2
 go_ret
 exact ⟨_, rfl, (by have := HO.out; rw [← HN.out, List.take_length] at this; rw [HN.out] at this; exact this), HB.out⟩
theorem so_rOf (v : Value) (zs : List Int) (w : World) (h : IS w v zs) (h0 : ∀ x ∈ zs, 0 ≤ x ∧ x ≤ 4611686018427387904) (hbig : zs.length * 8 ≤ 140737488355328) :
  Calls Tryz.prog 92 #[v] w fun e w' => ∃ v', e = .returned v' ∧ IS w' v' (canon zs) ∧ Below w.heap.size w w' :=
 (so_rOfO v zs w h h0 hbig).mono fun _ _ ⟨v', he, ho, hb⟩ => ⟨v', he, IS.of_own (e := 3) ho, hb⟩
end Go.Proofs.YtkdajhmlhjkcdaaGreatDoor
namespace Go.Proofs.YtkdajhmlhjkcdaaGreatDoor
open Go.RowKit
def numsF (kind : Int) (l : List UInt8) : List Int := (piecesOf kind l).map (numF kind)
def readF (kind : Int) (l : List UInt8) : List Int × Int :=
 if kindOk kind = false then ([], 30)
 else if l = [] then ([], 31)
 else if (numsF kind l).contains 0 = true then ([], 31)
 else if 64 < (numsF kind l).length then ([], 32)
 else (canon (numsF kind l), 0)
theorem numsOf (kind : Int) (s : ByteArray) : (piecesS kind s).map (fun p => numF kind p.data.toList) = numsF kind s.data.toList := by
 unfold piecesS numsF
 rw [List.map_map]
 rfl
theorem cgo_piece (l : List UInt8) : ∀ cur, ∀ p ∈ cgo cur l, p.length ≤ cur.length + l.length := by
 induction l with
 | nil => intro cur p hp; simp [cgo] at hp; subst hp; simp
 | cons b l ih =>
  intro cur p hp
  rw [cgo] at hp
  split at hp
  ·rcases List.mem_cons.1 hp with rfl | hp
   ·simp
   have := ih [] p hp; simp at this ⊢; omega
  have := ih _ p hp; simp at this ⊢; omega
theorem chop_piece (k : Nat) : ∀ (n : Nat) (l : List UInt8), ∀ p ∈ chop k n l, p.length ≤ l.length
 | 0, l, p, hp => by simp [chop] at hp
 | n + 1, l, p, hp => by
   rw [chop] at hp
   split at hp
   ·simp at hp
   ·rcases List.mem_cons.1 hp with rfl | hp
    ·simp; omega
    ·have := chop_piece k n _ p hp; simp at this; omega
theorem piece_size (kind : Int) (s : ByteArray) (p : ByteArray) (hp : p ∈ piecesS kind s) : p.size ≤ s.size := by
 unfold piecesS piecesOf at hp
 obtain ⟨q, hq, rfl⟩ := List.mem_map.1 hp
 rw [mkS_size, ← len_toList s]
 split at hq
 ·have := cgo_piece _ _ q hq; simpa using this
 exact chop_piece _ _ _ q hq
theorem numsF_bd (kind : Int) (l : List UInt8) : ∀ x ∈ numsF kind l, 0 ≤ x ∧ x ≤ 65535 := by
 intro x hx
 obtain ⟨p, _, rfl⟩ := List.mem_map.1 hx
 exact numF_bd kind p
theorem readF_bd (kind : Int) (l : List UInt8) : ∀ x ∈ (readF kind l).1, 0 ≤ x ∧ x ≤ 65535 := by
 intro x hx
 unfold readF at hx
 split at hx
 ·simp at hx
 split at hx
 ·simp at hx
 split at hx
 ·simp at hx
 split at hx
 ·simp at hx
 exact numsF_bd kind l x ((mem_canon _ _).1 hx)
theorem no_zero (zs : List Int) (h : ∀ j, j < zs.length → zs.getD j 0 ≠ 0) : zs.contains 0 = false := by
 cases hq : zs.contains 0
 ·rfl
 obtain ⟨j, hj, hjx⟩ := List.getElem_of_mem ((contains_iff _ _).1 hq)
 exact absurd (by simp [List.getD, hj, hjx]) (h j hj)
theorem a_zero (zs : List Int) (k : Nat) (hk : k < zs.length) (h : zs.getD k 0 = 0) : zs.contains 0 = true := by
 have e : zs.getD k 0 = zs[k] := by simp [List.getD, hk]
 rw [contains_iff, ← h, e]
 exact List.getElem_mem hk
theorem take_snoc_u16 (zs : List Int) (k : Nat) (h : k < zs.length) : (zs.take (k + 1)).map (Value.int .u16) = (zs.take k).map (Value.int .u16) ++ [Value.int .u16 (zs.getD k 0)] := by
 rw [List.take_add_one, List.getElem?_eq_getElem h, List.map_append]
 simp [List.getD, h]
set_option maxHeartbeats 4000000 in
set_option maxRecDepth 100000 in
theorem so_Read (kind : Int) (s : ByteArray) (m : Int) (w : World) (hs : s.size ≤ 4194304) (hm : w.cell? ⟨0, 0, none⟩ = some (.int .i64 m)) :
  Calls Tryz.prog 52 #[.int .i64 kind, .string s] w fun e w' => ∃ v', e = .returned (.tuple #[v', .int .i64 (readF kind s.data.toList).2]) ∧ FN w.heap.size w' v' (readF kind s.data.toList).1 ∧ Below w.heap.size w w' := by
 obtain ⟨i0, hi, hz0, hz1, hz2⟩ := info_parts flag_info
 rcases kind_cases kind with ⟨h, hk⟩ | ⟨h, hk⟩
 ·have HK := Lib.hid h
  have HKK := Lib.hid hk
  clear h hk
  by_cases h0 : s.size = 0
  ·have hR := Lib.hid (show readF kind s.data.toList = ([], 31) by rw [readF, if_neg (by rw [HK.out]; decide), if_pos (isEmpty0 s h0)])
   have he := isEmpty1 s h0
   go_enter Tryz.func52, Tryz.ntmps52
   go_wp2_with (go_at_call 85; refine (so_known _ _).mono ?_; rw [HK.out]; rintro e w1 ⟨rfl, rfl⟩)
   go_ret2
   exact ⟨_, by rw [hR.out]; rfl, by rw [hR.out]; exact FN.nil _ _ _ _, Below.refl _ _⟩
  have he := notEmpty s (by omega)
  have HE := Lib.hid (show ¬ s.data.toList = [] by intro e; have := len_toList s; rw [e] at this; simp at this; omega)
  have HR := Lib.hid (show readF kind s.data.toList = if (numsF kind s.data.toList).contains 0 = true then ([], 31) else if 64 < (numsF kind s.data.toList).length then ([], 32) else (canon (numsF kind s.data.toList), 0) by rw [readF, if_neg (by rw [HK.out]; decide), if_neg HE.out])
  have hNS := numsOf kind s
  have hPS := fun p hp => piece_size kind s p hp
  have hln := piecesOf_len kind s.data.toList
  rw [len_toList] at hln
  have hnl : (numsF kind s.data.toList).length = (piecesS kind s).length := by rw [← hNS]; simp
  rw [← piecesS_len] at hln
  generalize hzs : numsF kind s.data.toList = zs at *
  have HZS := Lib.hid hzs
  clear hzs
  obtain ⟨ss, hss⟩ : ∃ ss, piecesS kind s = ss := ⟨_, rfl⟩
  have HSS := Lib.hid hss
  rw [hss] at hNS hPS hln hnl
  have HNS := Lib.hid hNS
  have HPS := Lib.hid hPS
  clear hNS hPS hss h0
  generalize hr : readF kind s.data.toList = r at *
  have HRr := Lib.hid hr
  clear hr
  go_enter Tryz.func52, Tryz.ntmps52
  go_wp2_with (first
   | (go_at_call 85; refine (so_known _ _).mono ?_; rw [HK.out]; rintro e w1 ⟨rfl, rfl⟩)
   | (go_at_call 86; refine (so_pieces kind s m _ HKK.out hs hm).mono ?_; rw [HSS.out]; rintro e w1 ⟨v1, rfl, ⟨hl1, A, cap, rfl, hcap, hcells⟩, b1⟩; have HC := Lib.hid hcells; have B1 := Lib.hid b1; clear hl1 hcells b1))
  have hs1 := B1.out.size
  go_loopw [6, 8, 9, 19] (fun o _ _ i wr => ∃ k : Nat, k ≤ ss.length ∧ i = .int .i64 k ∧ Hid (∀ j, j < k → zs.getD j 0 ≠ 0) ∧ Hid (Own w1 wr 34 1 o k ((zs.take k).map (Value.int .u16)))) (fun _ _ _ i _ => ss.length - (intOf i).toNat)
  case atStart => exact ⟨0, Nat.zero_le _, rfl, (fun j hj => absurd hj (Nat.not_lt_zero _)), Own.nil_ _ _ _⟩
  case round =>
  obtain ⟨k, hkk, rfl, HN, HO⟩ := hrel
  have hsz := HO.out.size
  by_cases hlt : k < ss.length
  ·obtain ⟨g, o, rfl, hc⟩ := HC.out.resolve_left (by omega)
   have c0 := hc k (.string ss[k]) (strV_get ss k hlt)
   have hcell := (HO.out.below.cell (World.block_lt_of_cell? w1 _ c0)).trans c0
   have hps := HPS.out ss[k] (List.getElem_mem hlt)
   have hkz : k < zs.length := by omega
   have hz : zs.getD k 0 = numF kind ss[k].data.toList := by
    have := HNS.out
    simp only [← this, List.getD, List.getElem?_map, List.getElem?_eq_getElem hlt]
    rfl
   have HM := Lib.hid (take_snoc_u16 zs k hkz)
   have hpm : ss[k].size ≤ maxLen := by unfold maxLen; omega
   have hbd := numF_bd kind ss[k].data.toList
   clear hc c0 hps
   generalize ss[k] = p at *
   by_cases hq : numF kind p.data.toList = 0
   ·have hfin := Lib.hid (show r = ([], 31) by rw [HR.out, if_pos (a_zero zs k hkz (by rw [hz, hq]))])
    have HQ := Lib.hid hq
    clear hq hz hbd
    go_wp2_with (go_at_call 87; refine (so_number kind p _ HKK.out hpm).mono ?_; rw [HQ.out]; rintro e w2 ⟨rfl, n, rfl⟩)
    go_ret2
    exact ⟨_, by rw [hfin.out]; rfl, by rw [hfin.out]; exact FN.nil _ _ _ _, B1.out.trans (below_drewN (HO.out.below.mono hs1) n)⟩
   obtain ⟨x, hx⟩ : ∃ x, numF kind p.data.toList = x := ⟨_, rfl⟩
   have HX := Lib.hid hx
   rw [hx] at hq hz hbd
   obtain ⟨b0, b1⟩ := hbd
   have hne : (x == 0) = false := by rw [beq_eq_false_iff_ne]; exact hq
   have HZ := Lib.hid hz
   clear hx hq hz
   go_wp2_with (first
    | (go_at_call 87; refine (so_number kind p _ HKK.out hpm).mono ?_; rw [HX.out]; rintro e w2 ⟨rfl, n, hw2⟩; have HO2 := Lib.hid (show Own w1 w2 _ _ _ _ _ by rw [hw2]; exact HO.out.drewN n); clear hw2)
    | (at_builtin; refine wpList_push1 rfl _ _ 44 rfl w1.heap.size 34 i0 (.int .u16 0) 2 Tryz.underlying44 hi hz0 hz1 hz2 rfl _ k _ rfl HO2.out.own _ rfl rfl (by unfold maxLen; omega) (by omega) HO2.out.size ?_; intro gg cap2 w5 hown hg5; have HO' := Lib.hid (HO2.out.push hown hg5); clear hown hg5))
   go_roundw
   case rel =>
    refine ⟨k + 1, by omega, by go_num, (fun j hj => ?_), Lib.hid (by rw [HM.out, HZ.out]; exact HO'.out)⟩
    by_cases e : j = k
    ·subst e; rw [HZ.out]; intro e; rw [e] at hne; simp at hne
    exact HN.out j (by omega)
   case measure => simp [intOf]; omega
  have hke : k = ss.length := by omega
  subst hke
  have hno := no_zero zs (fun j hj => HN.out j (by omega))
  rw [← hnl, List.take_length] at HO
  have HO' := Lib.hid (FN.of_own (e := 34) HO.out.own)
  rw [← hnl] at hlt hln ⊢
  have hv := HO'.out
  obtain ⟨p9, c9, rfl, -⟩ := hv
  have HNL := Lib.hid hnl
  clear hnl
  by_cases h64 : 64 < zs.length
  ·have hfin := Lib.hid (show r = ([], 32) by rw [HR.out, if_neg (by rw [hno]; decide), if_pos h64])
   go_wp2
   go_ret2
   exact ⟨_, by rw [hfin.out]; rfl, by rw [hfin.out]; exact FN.nil _ _ _ _, B1.out.trans (HO.out.below.mono hs1)⟩
  have hfin := Lib.hid (show r = (canon zs, 0) by rw [HR.out, if_neg (by rw [hno]; decide), if_neg h64])
  have h64' : ¬ (64 : Int) < (zs.length : Int) := by omega
  go_wp2_with (go_at_call 54; refine (so_Of _ zs _ HO'.out.fs (by omega)).mono ?_; rintro e w2 ⟨v2, rfl, h2, b2⟩; have H2 := Lib.hid h2; have B2 := Lib.hid b2; clear h2 b2)
  go_ret2
  exact ⟨_, by rw [hfin.out]; rfl, by rw [hfin.out]; exact H2.out.mono (Nat.le_trans hs1 hsz), (B1.out.trans (HO.out.below.mono hs1)).trans (B2.out.mono (Nat.le_trans hs1 hsz))⟩
 have HK := Lib.hid h
 have hR := Lib.hid (show readF kind s.data.toList = ([], 30) by rw [readF, if_pos h])
 clear h hk
 go_enter Tryz.func52, Tryz.ntmps52
 go_wp2_with (go_at_call 85; refine (so_known _ _).mono ?_; rw [HK.out]; rintro e w1 ⟨rfl, rfl⟩)
 go_ret2
 exact ⟨_, by rw [hR.out]; rfl, by rw [hR.out]; exact FN.nil _ _ _ _, Below.refl _ _⟩
end Go.Proofs.YtkdajhmlhjkcdaaGreatDoor
