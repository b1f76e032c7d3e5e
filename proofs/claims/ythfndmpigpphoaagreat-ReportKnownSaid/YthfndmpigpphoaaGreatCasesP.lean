/-
  Words in other cases, plain: what the checker's texts want of these where the laws of chapter 22 are not at hand.
-/
import Derived.Test.YthfndmpigpphoaaGreatRows
import Derived.Test.YthfndmpigpphoaaGreatCases6
namespace Go.Proofs.YthfndmpigpphoaaGreat
open Go.RowKit

theorem allSort1 (l : List UInt8) : allSort 1 l = decide (cnt capB l = 0) := by
  induction l with
  | nil => rfl
  | cons a l ih =>
    have h1 := sort_cap a
    have h2 := sort_small a
    have h3 := not_both a
    simp only [allSort, List.all_cons, cnt, List.countP_cons] at ih ⊢
    rw [ih]
    unfold sortOf
    cases q1 : smallB a <;> cases q2 : capB a <;> simp_all
theorem allSort2 (l : List UInt8) : allSort 2 l = decide (cnt smallB l = 0) := by
  induction l with
  | nil => rfl
  | cons a l ih =>
    have h3 := not_both a
    simp only [allSort, List.all_cons, cnt, List.countP_cons] at ih ⊢
    rw [ih]
    unfold sortOf
    cases q1 : smallB a <;> cases q2 : capB a <;> simp_all
theorem kinds_aux (c d : Nat) (p q : Bool) (h : ¬ (p = true ∧ q = true)) :
    ((if (d + if p = true then 1 else 0) + (c + if q = true then 1 else 0) = 0 then 0
      else if (c + if q = true then 1 else 0) = 0 then 1
      else if (c + if q = true then 1 else 0) = 1 ∧ q = true then 2
      else if (d + if p = true then 1 else 0) = 0 then 3 else 4) : Int) =
    if (decide ((c + if q = true then 1 else 0) = 0) && decide ((d + if p = true then 1 else 0) = 0)) = true then 0
    else if decide ((c + if q = true then 1 else 0) = 0) = true then 1
    else if (some (if p = true then (1 : Int) else if q = true then 2 else 0) == some 2 && decide (c = 0)) = true then 2
    else if decide ((d + if p = true then 1 else 0) = 0) = true then 3 else 4 := by
  cases p <;> cases q <;> simp at h ⊢
  all_goals (repeat' split) <;> first | rfl | omega
theorem kinds_eq (l : List UInt8) : kindOf l = kindRef l := by
  unfold kindOf kindRef
  rw [allSort1, allSort2]
  cases l with
  | nil => rfl
  | cons a l =>
    have h3 := not_both a
    rw [List.tail_cons, allSort1]
    simp only [cnt, List.countP_cons, List.head?_cons, Option.map_some, Option.some.injEq, sortOf]
    exact kinds_aux _ _ _ _ h3

theorem contains1 (a b : ByteArray) : Lib.containsS [a] b = decide (b = a) := by
  rw [Bool.eq_iff_iff, Lib.containsS_iff]; simp
theorem contains2 (a c b : ByteArray) : Lib.containsS [a, c] b = decide (b = a ∨ b = c) := by
  rw [Bool.eq_iff_iff, Lib.containsS_iff]; simp
theorem forms_eq (s : ByteArray) : formsOf s = formsRef s := by
  have e1 := beq_mks (headOf s.data.toList) s
  have e2 := beq_mks (s.data.toList.map lowB) s
  have e3 := beq_mk (s.data.toList.map lowB) (headOf s.data.toList)
  unfold formsOf formsRef
  rw [e1, e2, e3, kinds_eq]
  change (if kindRef s.data.toList = 3 then addS (addS [s] (headS s)) (lowS s) else if kindRef s.data.toList = 2 then addS [s] (lowS s) else [s]) =
    if (kindRef s.data.toList = 3 ∨ kindRef s.data.toList = 2) ∧ decide (lowS s = s) = false ∧ (kindRef s.data.toList = 2 ∨ decide (lowS s = headS s) = false)
    then (if kindRef s.data.toList = 3 ∧ decide (headS s = s) = false then [s, headS s] else [s]) ++ [lowS s] else (if kindRef s.data.toList = 3 ∧ decide (headS s = s) = false then [s, headS s] else [s])
  generalize kindRef s.data.toList = k
  generalize headS s = h
  generalize lowS s = l
  by_cases k3 : k = 3
  · subst k3
    by_cases h1 : h = s
    · subst h1
      simp [addS, contains1]
    · simp [addS, contains1, contains2, h1]
      by_cases h2 : l = s
      · simp [h2]
      · simp [h2]
  · by_cases k2 : k = 2
    · subst k2
      simp [addS, contains1]
    · simp [k3, k2]
theorem formsOf_len (s : ByteArray) : (formsOf s).length ≤ 3 := by
  unfold formsOf
  have a1 := addS_len [s] (headS s)
  have a2 := addS_len (addS [s] (headS s)) (lowS s)
  have a3 := addS_len [s] (lowS s)
  simp at a1 a3
  (repeat' split) <;> simp <;> omega

theorem lowS_size (s : ByteArray) : (lowS s).size = s.size := by
  show ((s.data.toList.map lowB).toArray).size = s.size
  rw [List.size_toArray, List.length_map, len_toList]
theorem upS_size (s : ByteArray) : (upS s).size = s.size := by
  show ((s.data.toList.map upB).toArray).size = s.size
  rw [List.size_toArray, List.length_map, len_toList]
theorem headS_size (s : ByteArray) : (headS s).size = s.size := by
  rw [← len_toList s]
  unfold headS
  cases s.data.toList with
  | nil => rfl
  | cons b l => simp [headOf, ByteArray.size]
end Go.Proofs.YthfndmpigpphoaaGreat
