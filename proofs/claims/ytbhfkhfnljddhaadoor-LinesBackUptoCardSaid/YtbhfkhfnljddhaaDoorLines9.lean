/-
  Fields with blanks and tabs about them.
-/
import Derived.Test.YtbhfkhfnljddhaaDoorRows
import Derived.Test.YtbhfkhfnljddhaaDoorLines8
import Derived.Test.YtbhfkhfnljddhaaDoorOpen
namespace Go.Proofs.YtbhfkhfnljddhaaDoor
open Go.RowKit

/-- The blanks that a byte of the gaps asks for. -/
def gapCh (b : UInt8) : UInt8 := if b.toNat % 2 = 0 then 9 else 32
def gapOf (l : List UInt8) (i : Nat) : List UInt8 := ((l.map gapCh).drop i).take 3
theorem gapCh_gap (b : UInt8) : gapB (gapCh b) = true := by unfold gapCh; split <;> rfl
theorem gapOf_gap (l : List UInt8) (i : Nat) : ∀ b ∈ gapOf l i, gapB b = true := by
  intro b hb
  obtain ⟨c, _, rfl⟩ := List.mem_map.1 (List.mem_of_mem_drop (List.mem_of_mem_take hb))
  exact gapCh_gap c
theorem gapOf_len (l : List UInt8) (i : Nat) : (gapOf l i).length ≤ 3 := by simp [gapOf]; omega
theorem mkS_append (a b : List UInt8) : mkS a ++ mkS b = mkS (a ++ b) := by simp [mkS, ByteArray.ext_iff]
theorem take3_snoc (l : List UInt8) (i k : Nat) (h : k < l.length) (hik : i ≤ k) : (l.drop i).take (k + 1 - i) = (l.drop i).take (k - i) ++ [l[k]] := by
  have e : k + 1 - i = (k - i) + 1 := by omega
  rw [e, List.take_succ_eq_append_getElem (by simp; omega)]
  congr 2
  simp only [List.getElem_drop]
  congr 1; omega

set_option maxHeartbeats 2000000 in
set_option maxRecDepth 100000 in
theorem gapLaw_any (v : Value) (l : List UInt8) (i : Nat) (w : World) (hr : Rd w 1 v l.length (Lib.byteCells l)) (hl : l.length ≤ 1048576) (hi : i ≤ 1048576) :
    Calls Tryd.prog 23 #[v, .int .i64 i] w fun e w' => e = .returned (.string (mkS (gapOf l i))) ∧ w = w' := by
  obtain ⟨_, A, cap, rfl, _, ha⟩ := hr
  have HC : Hid (∀ k (h : k < l.length), ∃ g o, A = some ⟨g, o, none⟩ ∧ w.cell? ⟨g, o + k, none⟩ = some (.int .u8 (l[k].toNat : Int))) := Lib.hid fun k h => by
    obtain ⟨g, o, hA, hc⟩ := ha.resolve_left (by omega)
    exact ⟨g, o, hA, hc k _ (by simp [Lib.byteCells, h])⟩
  by_cases hne : i < l.length
  · obtain ⟨g, o, rfl, _⟩ := HC.out i hne
    have HC2 : Hid (∀ k (h : k < l.length), w.cell? ⟨g, o + k, none⟩ = some (.int .u8 (l[k].toNat : Int))) := Lib.hid fun k h => by
      obtain ⟨g', o', hA, hc⟩ := HC.out k h
      injection hA with hA; injection hA with h1 h2
      subst h1 h2; exact hc
    clear HC ha
    go_enter Tryd.func23, Tryd.ntmps23
    go_wp2_with fail
    go_loop [5, 6] (fun s j => ∃ k : Nat, i ≤ k ∧ k ≤ l.length ∧ k ≤ i + 3 ∧ j = .int .i64 k ∧ s = .string (mkS (((l.map gapCh).drop i).take (k - i)))) (fun _ j => l.length - (intOf j).toNat)
    case atStart => exact ⟨i, Nat.le_refl _, by omega, by omega, rfl, by rw [Nat.sub_self]; rfl⟩
    case round =>
      obtain ⟨k, hik, hkl, hk3, rfl, rfl⟩ := hrel
      by_cases hlt : k < l.length
      · by_cases hl3 : k < i + 3
        · have hc := HC2.out k hlt
          have hb := l[k].toNat_lt
          have HS := Lib.hid (take3_snoc (l.map gapCh) i k (by simpa using hlt) hik)
          have hsz : (mkS (((l.map gapCh).drop i).take (k - i))).size ≤ 3 := by rw [mkS_size, List.length_take]; omega
          by_cases hp : l[k].toNat % 2 = 0
          · have hq : ((l[k].toNat : Int) % 2 == 0) = true := by rw [beq_iff_eq]; omega
            have HG : Hid (mkS (((l.map gapCh).drop i).take (k - i)) ++ ⟨#[9]⟩ = mkS (((l.map gapCh).drop i).take (k + 1 - i))) := Lib.hid (by
              have e : (⟨#[9]⟩ : ByteArray) = mkS [9] := rfl
              rw [e, mkS_append, HS.out]
              simp [gapCh, hp])
            clear hp
            go_wp2_with fail
            go_round
            case rel => exact ⟨k + 1, by omega, by omega, by omega, by go_num, by rw [← HG.out]⟩
            case measure => simp [intOf]; omega
          · have hq : ((l[k].toNat : Int) % 2 == 0) = false := by rw [beq_eq_false_iff_ne]; omega
            have HG : Hid (mkS (((l.map gapCh).drop i).take (k - i)) ++ ⟨#[32]⟩ = mkS (((l.map gapCh).drop i).take (k + 1 - i))) := Lib.hid (by
              have e : (⟨#[32]⟩ : ByteArray) = mkS [32] := rfl
              rw [e, mkS_append, HS.out]
              simp [gapCh, hp])
            clear hp
            go_wp2_with fail
            go_round
            case rel => exact ⟨k + 1, by omega, by omega, by omega, by go_num, by rw [← HG.out]⟩
            case measure => simp [intOf]; omega
        · have HG : Hid (mkS (((l.map gapCh).drop i).take (k - i)) = mkS (gapOf l i)) := Lib.hid (by rw [gapOf, show k - i = 3 by omega])
          go_wp2_with fail
          go_ret
          exact ⟨ret_str HG.out, rfl⟩
      · have HG : Hid (mkS (((l.map gapCh).drop i).take (k - i)) = mkS (gapOf l i)) := Lib.hid (by
          rw [gapOf, List.take_of_length_le (show ((l.map gapCh).drop i).length ≤ k - i by simp; omega), List.take_of_length_le (show ((l.map gapCh).drop i).length ≤ 3 by simp; omega)])
        go_wp2_with fail
        go_ret
        exact ⟨ret_str HG.out, rfl⟩
  · have HG : Hid (mkS (gapOf l i) = ⟨#[]⟩) := Lib.hid (by rw [gapOf, List.drop_of_length_le (by simp; omega)]; rfl)
    clear HC ha
    go_enter Tryd.func23, Tryd.ntmps23
    go_wp2_with fail
    go_loop [5, 6] (fun s j => j = .int .i64 i ∧ s = .string ⟨#[]⟩) (fun _ j => 1)
    case atStart => exact ⟨rfl, rfl⟩
    case round =>
      obtain ⟨rfl, rfl⟩ := hrel
      go_wp2_with fail
      go_ret
      exact ⟨ret_str HG.out.symm, rfl⟩
end Go.Proofs.YtbhfkhfnljddhaaDoor
