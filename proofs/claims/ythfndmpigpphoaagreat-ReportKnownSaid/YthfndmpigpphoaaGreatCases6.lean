/-
  The reference's forms of a word; lists of texts compared.
-/
import Derived.Test.YthfndmpigpphoaaGreatRows
import Derived.Test.YthfndmpigpphoaaGreatKA
import Derived.Test.YthfndmpigpphoaaGreatCases5
import Derived.Deep.QuietTactic
import Derived.BigQuiet
namespace Go.Proofs.YthfndmpigpphoaaGreat
open Go.RowKit

/-- The reference's forms of a word (the tests in the walk's own spelling). -/
def formsRef (s : ByteArray) : List ByteArray :=
  let out1 := if kindRef s.data.toList = 3 ∧ (headOf s.data.toList == s.toList) = false then [s, headS s] else [s]
  if (kindRef s.data.toList = 3 ∨ kindRef s.data.toList = 2) ∧ (s.data.toList.map lowB == s.toList) = false ∧ (kindRef s.data.toList = 2 ∨ (s.data.toList.map lowB == headOf s.data.toList) = false)
  then out1 ++ [lowS s] else out1

theorem ret_strs {w W : World} {v : Value} {g cap n : Nat} {xs : List Value} {ss : List ByteArray} (h : Own w W 9 1 (.slice (some ⟨g, 0, none⟩) n cap) n xs) (hn : n = ss.length) (hx : xs = strV ss) (hv : v = .slice (some ⟨g, 0, none⟩) n cap) :
    RetStrs w.heap.size ss (.returned v) W ∧ Below w.heap.size w W := by
  subst hn hx hv
  exact ⟨⟨g, cap, rfl, h.own⟩, h.below⟩

set_option maxHeartbeats 2000000 in
theorem Forms22_any (s : ByteArray) (w : World) (hs : s.size ≤ 140737488355328) :
    Calls Tryz.prog 40 #[.string s] w fun e w' => RetStrs w.heap.size (formsRef s) e w' ∧ Below w.heap.size w w' := by
  have hm : s.size ≤ maxLen := by unfold maxLen; omega
  obtain ⟨i0, hi, hz0, hz1, hz2⟩ := info_parts str_info
  have HO := Lib.hid (Own.laid w 9 1 1 #[.string s] rfl (by unfold maxLen; omega))
  cases k3 : (kindRef s.data.toList == 3) <;> cases k2 : (kindRef s.data.toList == 2)
  case true.true => simp at k3 k2; omega
  case' false.true => cases q2 : (s.data.toList.map lowB == s.toList)
  case' true.false => cases q1 : (headOf s.data.toList == s.toList) <;> cases q2 : (s.data.toList.map lowB == s.toList) <;> cases q3 : (s.data.toList.map lowB == headOf s.data.toList)
  all_goals
    have HM := Lib.hid (show ∀ ss, formsRef s = ss → formsRef s = ss from fun _ h => h)
    go_enter Tryz.func40, Tryz.ntmps40
    go_wp2_with (first
      | (go_at_call 65; refine (of22_any _ _ hm).mono ?_; rintro e w' ⟨rfl, rfl⟩)
      | (go_at_call 67; refine (Headed22_any _ _ hs).mono ?_; rintro e w1 ⟨rfl, hb1⟩; have HO' := Lib.hid (HO.out.call hb1); clear hb1 HO; have HO := HO'; clear HO')
      | (go_at_call 66; refine (Lower22_any _ _ hs).mono ?_; rintro e w2 ⟨rfl, hb2⟩; have HO' := Lib.hid (HO.out.call hb2); clear hb2 HO; have HO := HO'; clear HO')
      | (at_builtin; refine wpList_push1 rfl _ _ 22 rfl w.heap.size 9 i0 (.string ByteArray.empty) 16 Tryz.underlying22 hi hz0 hz1 hz2 rfl _ _ _ rfl HO.out.own _ rfl rfl (by unfold maxLen; omega) (by omega) HO.out.size ?_; intro g cap w5 hown hg; have HO' := Lib.hid (HO.out.push hown hg); clear hown hg HO; have HO := HO'; clear HO'))
    go_ret
    have k3' := k3
    have k2' := k2
    simp only [beq_iff_eq, beq_eq_false_iff_ne, ne_eq] at k3' k2'
    refine ret_strs HO.out ?_ ?_ rfl
    all_goals simp [formsRef, strV, headS, lowS, *]
end Go.Proofs.YthfndmpigpphoaaGreat
