/-
  Number: what the program and the reference make of the digits.
-/
import Derived.Test.YtbhfkhfnljddhaaDoorRows
import Derived.Test.YtbhfkhfnljddhaaDoorLines1
namespace Go.Proofs.YtbhfkhfnljddhaaDoor
open Go.RowKit

def digB (b : UInt8) : Bool := decide (48 ≤ b.toNat ∧ b.toNat ≤ 57)
/-- The number that the digits write. -/
def valOf (l : List UInt8) : Nat := l.foldl (fun n b => 10 * n + (b.toNat - 48)) 0
theorem valOf_snoc (l : List UInt8) (b : UInt8) : valOf (l ++ [b]) = 10 * valOf l + (b.toNat - 48) := by simp [valOf, List.foldl_append]
theorem val_from (l : List UInt8) : ∀ n, n ≤ l.foldl (fun n b => 10 * n + (b.toNat - 48)) n := by
  induction l with
  | nil => intro n; exact Nat.le_refl _
  | cons b l ih => intro n; exact Nat.le_trans (show n ≤ 10 * n + (b.toNat - 48) by omega) (ih _)
theorem val_take (l : List UInt8) (k : Nat) : valOf (l.take k) ≤ valOf l := by
  conv => rhs; rw [← List.take_append_drop k l]
  unfold valOf
  rw [List.foldl_append]
  exact val_from _ _
/-- May these digits stand so? -/
def numOk (l : List UInt8) : Bool := !l.isEmpty && !(decide (1 < l.length) && l.head? == some 48) && l.all digB
def numVal (l : List UInt8) (most : Int) : Int := if numOk l = true ∧ (valOf l : Int) ≤ most then valOf l else 0
def numErr (l : List UInt8) (most : Int) : Int := if numOk l = true ∧ (valOf l : Int) ≤ most then 0 else 13
theorem num_no (l : List UInt8) (most : Int) (h : ¬ (numOk l = true ∧ (valOf l : Int) ≤ most)) : numVal l most = 0 ∧ numErr l most = 13 := by simp only [numVal, numErr, if_neg h, and_self]
theorem num_yes (l : List UInt8) (most : Int) (h : numOk l = true ∧ (valOf l : Int) ≤ most) : numVal l most = valOf l ∧ numErr l most = 0 := by simp only [numVal, numErr, if_pos h, and_self]

def NumRet (l : List UInt8) (most : Int) (e : Ending) : Prop := e = .returned (.tuple #[.int .i64 (numVal l most), .int .i64 (numErr l most)])
theorem numRet_no (l : List UInt8) (most : Int) (h : ¬ (numOk l = true ∧ (valOf l : Int) ≤ most)) : NumRet l most (.returned (.tuple #[.int .i64 0, .int .i64 13])) := by
  obtain ⟨h1, h2⟩ := num_no l most h
  rw [NumRet, h1, h2]
theorem numRet_yes (l : List UInt8) (most : Int) (h : numOk l = true ∧ (valOf l : Int) ≤ most) : NumRet l most (.returned (.tuple #[.int .i64 (valOf l), .int .i64 0])) := by
  obtain ⟨h1, h2⟩ := num_yes l most h
  rw [NumRet, h1, h2]
theorem digB_iff (b : UInt8) : digB b = true ↔ 48 ≤ (b.toNat : Int) ∧ (b.toNat : Int) ≤ 57 := by simp [digB]; omega

set_option maxHeartbeats 2000000 in
set_option maxRecDepth 100000 in
theorem Number_any (s : ByteArray) (most : Int) (w : World) (hs : s.size ≤ maxLen) (h1 : -9223372036854775808 ≤ most) (h2 : most ≤ 9223372036854775807) :
    Calls Tryd.prog 19 #[.string s, .int .i64 most] w fun e w' => NumRet s.data.toList most e ∧ w = w' := by
  have hl := len_toList s
  unfold maxLen at hs
  by_cases h0 : s.size = 0
  · have he := isEmpty1 s h0
    have hR := Lib.hid (numRet_no s.data.toList most (by rw [isEmpty0 s h0]; simp [numOk]))
    clear hl h0
    go_enter Tryd.func19, Tryd.ntmps19
    go_wp2_with fail
    go_ret2
    exact ⟨hR.out, rfl⟩
  · have hp : 0 < s.size := by omega
    have he := notEmpty s hp
    have HE : Hid (s.data.toList.isEmpty = false) := by
      have := he; rw [Lib.toList_data] at this; exact this
    have HH := Lib.hid (head_at s hp)
    by_cases hz : 1 < s.size ∧ s[0].toNat = 48
    · obtain ⟨hz1, hz2⟩ := hz
      have hz3 : ((s[0].toNat : Int) == 48) = true := by rw [hz2]; rfl
      have hR := Lib.hid (numRet_no s.data.toList most (by
        have e : s[0] = 48 := UInt8.toNat_inj.1 hz2
        simp [numOk, HH.out, e, hl, hz1]))
      clear hz2 hl h0
      go_enter Tryd.func19, Tryd.ntmps19
      go_wp2_with fail
      go_ret2
      exact ⟨hR.out, rfl⟩
    · have hok : numOk s.data.toList = s.data.toList.all digB := by
        have : (decide (1 < s.data.toList.length) && s.data.toList.head? == some 48) = false := by
          rw [HH.out, hl]
          by_cases h : 1 < s.size
          · have : s[0].toNat ≠ 48 := fun e => hz ⟨h, e⟩
            have : s[0] ≠ 48 := fun e => this (by rw [e]; rfl)
            simp [this]
          · simp [h]
        rw [numOk, HE.out, this]; simp
      have HOK := Lib.hid hok
      have hz' : (1 < s.size ∧ ((s[0].toNat : Int) == 48) = false) ∨ ¬ 1 < s.size := by
        by_cases h : 1 < s.size
        · left; exact ⟨h, by rw [beq_eq_false_iff_ne]; intro e; exact hz ⟨h, by omega⟩⟩
        · exact .inr h
      clear hz hok h0
      have HL := Lib.hid hl
      clear hl
      rcases hz' with ⟨hz1, hz2⟩ | hz1
      all_goals
        go_enter Tryd.func19, Tryd.ntmps19
        go_wp2_with fail
        go_loop [6, 23] (fun n i => ∃ k v : Nat, k ≤ s.size ∧ i = .int .i64 k ∧ n = .int .i64 v ∧ v = valOf (s.data.toList.take k) ∧ (s.data.toList.take k).all digB = true ∧ (k = 0 ∨ (v : Int) ≤ most)) (fun _ i => s.size - (intOf i).toNat)
        case atStart => exact ⟨0, 0, Nat.zero_le _, rfl, rfl, rfl, rfl, .inl rfl⟩
        case round =>
          obtain ⟨k, v, hk, rfl, rfl, hv, ha, hm⟩ := hrel
          have HV := Lib.hid hv
          have HA := Lib.hid ha
          have HM := Lib.hid hm
          clear hv ha hm
          by_cases hlt : k < s.size
          · have hb := s[k].toNat_lt
            have HT := Lib.hid (take_snoc s k hlt)
            have HMem : Hid (s[k] ∈ s.data.toList) := Lib.hid (by rw [← Array.mem_def]; exact Array.getElem_mem _)
            by_cases hd : 48 ≤ (s[k].toNat : Int) ∧ (s[k].toNat : Int) ≤ 57
            · obtain ⟨hd1, hd2⟩ := hd
              have HVal : Hid (valOf (s.data.toList.take (k + 1)) = 10 * v + (s[k].toNat - 48)) := Lib.hid (by rw [HT.out, valOf_snoc, ← HV.out])
              have HGe : Hid (10 * v + (s[k].toNat - 48) ≤ valOf s.data.toList) := Lib.hid (by rw [← HVal.out]; exact val_take _ _)
              have HAll : Hid ((s.data.toList.take (k + 1)).all digB = true) := Lib.hid (by
                rw [HT.out, List.all_append, HA.out]; simp [digB_iff]; omega)
              by_cases hq : most < 10 * (v : Int) + ((s[k].toNat : Int) - 48)
              · have hR := Lib.hid (numRet_no s.data.toList most (by rintro ⟨_, h⟩; have := HGe.out; omega))
                by_cases hx : most < (s[k].toNat : Int) - 48
                all_goals
                  go_wp2_with fail
                  go_ret2
                  exact ⟨hR.out, rfl⟩
              · have hx : ¬ most < (s[k].toNat : Int) - 48 := by omega
                go_wp2_with fail
                go_round
                case rel => exact ⟨k + 1, 10 * v + (s[k].toNat - 48), by omega, by go_num, by congr 1; omega, by rw [HVal.out], HAll.out, .inr (by omega)⟩
                case measure => simp [intOf]; omega
            · have hR := Lib.hid (numRet_no s.data.toList most (by
                rintro ⟨h, _⟩
                rw [HOK.out, List.all_eq_true] at h
                exact hd ((digB_iff _).1 (h _ HMem.out))))
              rcases (show (s[k].toNat : Int) < 48 ∨ 57 < (s[k].toNat : Int) by omega) with hx | hx
              all_goals
                clear hd
                go_wp2_with fail
                go_ret2
                exact ⟨hR.out, rfl⟩
          · obtain rfl : k = s.size := by omega
            have HT := Lib.hid (show s.data.toList.take s.size = s.data.toList from List.take_of_length_le (by simp))
            have hR := Lib.hid (numRet_yes s.data.toList most (by
              have h3 := HA.out; have h4 := HV.out; have h5 := HM.out
              rw [HT.out] at h3 h4
              exact ⟨by rw [HOK.out, h3], by rw [← h4]; omega⟩))
            go_wp2_with fail
            go_ret2
            refine ⟨?_, rfl⟩
            have h4 := HV.out
            rw [HT.out] at h4
            rw [h4]; exact hR.out
end Go.Proofs.YtbhfkhfnljddhaaDoor
