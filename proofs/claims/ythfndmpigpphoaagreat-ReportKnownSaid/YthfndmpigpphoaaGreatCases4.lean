/-
  Words with a capital at their head.
-/
import Derived.Test.YthfndmpigpphoaaGreatRows
import Derived.Test.YthfndmpigpphoaaGreatKA
import Derived.Test.YthfndmpigpphoaaGreatCases3
import Derived.Deep.RegionWith
namespace Go.Proofs.YthfndmpigpphoaaGreat
open Go.RowKit

/-- Small letters but for a capital at the head. -/
def headOf : List UInt8 → List UInt8
  | [] => []
  | b :: l => upB b :: l.map lowB
theorem ext_le (s : ByteArray) (a b n : Nat) (hs : s.size ≤ n) : (s.extract a b).size ≤ n := by rw [ByteArray.size_extract]; omega
theorem head_split (s : ByteArray) (hp : 0 < s.size) :
    (⟨(List.take 1 (List.map upB s.data.toList)).toArray⟩ : ByteArray) ++ ⟨(List.take (s.size - 1) (List.map lowB s.data.toList).tail).toArray⟩ = ⟨(headOf s.data.toList).toArray⟩ := by
  have h := drop_cons s 0 hp
  rw [List.drop_zero] at h
  have hl : s.data.toList.length = s.size := len_toList s
  generalize s.data.toList = l at *
  cases l with
  | nil => cases h
  | cons a l =>
    have e : List.take (s.size - 1) (List.map lowB (a :: l)).tail = l.map lowB := List.take_of_length_le (by simp at hl ⊢; omega)
    rw [e]
    simp [headOf, ByteArray.ext_iff]
set_option maxHeartbeats 1000000 in
theorem Headed_any (s : ByteArray) (w : World) (hs : s.size ≤ 140737488355328) :
    Calls Tryz.prog 60 #[.string s] w fun e w' => e = .returned (.string ⟨(headOf s.data.toList).toArray⟩) ∧ Below w.heap.size w w' := by
  by_cases hp : 0 < s.size
  · have he := notEmpty s hp
    have HS := Lib.hid (head_split s hp)
    go_enter Tryz.func60, Tryz.ntmps60
    go_wp2_with fail
    go_region_with (first
      | (go_at_call 81; refine (Upper_any _ _ (ext_le s _ _ _ hs)).mono ?_; rintro e w1 ⟨rfl, hb1⟩; have HB1 := Lib.hid hb1; have hz1 := hb1.size; clear hb1)
      | (go_at_call 61; refine (Lower_any _ _ (ext_le s _ _ _ hs)).mono ?_; rintro e w2 ⟨rfl, hb2⟩; have HB2 := Lib.hid hb2; clear hb2))
    all_goals go_wp2
    all_goals go_ret
    all_goals exact ⟨ret_str HS.out, (below_of_drew (show Below w.heap.size w.drew w1 from HB1.out)).trans (HB2.out.mono hz1)⟩
  · have hp : s.size = 0 := by omega
    have he := isEmpty1 s hp
    go_enter Tryz.func60, Tryz.ntmps60
    go_wp2_with fail
    go_ret
    exact ⟨ret_str (by rw [isEmpty0 s hp]; rfl), Below.refl _ _⟩

set_option maxHeartbeats 1000000 in
theorem Headed22_any (s : ByteArray) (w : World) (hs : s.size ≤ 140737488355328) :
    Calls Tryz.prog 67 #[.string s] w fun e w' => e = .returned (.string ⟨(headOf s.data.toList).toArray⟩) ∧ Below w.heap.size w w' := by
  by_cases hp : 0 < s.size
  · have HS := Lib.hid (head_split s hp)
    have h0 : ((s.size : Int) == 0) = false := by rw [beq_eq_false_iff_ne]; omega
    go_enter Tryz.func67, Tryz.ntmps67
    go_wp2_with (first
      | (go_at_call 92; refine (Upper22_any _ _ (ext_le s _ _ _ hs)).mono ?_; rintro e w1 ⟨rfl, hb1⟩; have HB1 := Lib.hid hb1; have hz1 := hb1.size; clear hb1)
      | (go_at_call 66; refine (Lower22_any _ _ (ext_le s _ _ _ hs)).mono ?_; rintro e w2 ⟨rfl, hb2⟩; have HB2 := Lib.hid hb2; clear hb2))
    go_ret
    exact ⟨ret_str HS.out, HB1.out.trans (HB2.out.mono hz1)⟩
  · have hp : s.size = 0 := by omega
    have h0 : ((s.size : Int) == 0) = true := by rw [hp]; rfl
    go_enter Tryz.func67, Tryz.ntmps67
    go_wp2_with fail
    go_ret
    exact ⟨ret_str (by rw [isEmpty0 s hp]; rfl), Below.refl _ _⟩
end Go.Proofs.YthfndmpigpphoaaGreat
