/-
  The letters' statement walked; the forms by the program are the forms by the reference; the forms' statement walked.
-/
import Derived.Test.YtdleoankkcemfaaRows
import Derived.Test.YtdleoankkcemfaaCases8
namespace Go.Proofs.Ytdleoankkcemfaa
open Go.RowKit

set_option maxHeartbeats 2000000 in
theorem casesLetters_walk (s : ByteArray) (w : World) (hs : s.size ≤ 140737488355328) :
    Calls Try.prog 4 #[.string s] w fun e w' => e = .returned (.bool true) ∧ Below w.heap.size w w' := by
  have HB := Lib.hid (Below.refl w.heap.size w)
  go_enter Try.func4, Try.ntmps4
  go_wp2_with (first
    | (go_at_call 12; refine (wakes22_any _).mono ?_; rintro e w1 ⟨rfl, hb1⟩; have HB' := Lib.hid (HB.out.trans (hb1.mono HB.out.size)); clear hb1 HB; have HB := HB'; clear HB')
    | (go_at_call 15; refine (Lower_any _ _ hs).mono ?_; rintro e w1 ⟨rfl, hb1⟩; have HB' := Lib.hid (HB.out.trans (hb1.mono HB.out.size)); clear hb1 HB; have HB := HB'; clear HB')
    | (go_at_call 16; refine (Lower22_any _ _ hs).mono ?_; rintro e w1 ⟨rfl, hb1⟩; have HB' := Lib.hid (HB.out.trans (hb1.mono HB.out.size)); clear hb1 HB; have HB := HB'; clear HB')
    | (go_at_call 17; refine (Upper_any _ _ hs).mono ?_; rintro e w1 ⟨rfl, hb1⟩; have HB' := Lib.hid (HB.out.trans (hb1.mono HB.out.size)); clear hb1 HB; have HB := HB'; clear HB')
    | (go_at_call 18; refine (Upper22_any _ _ hs).mono ?_; rintro e w1 ⟨rfl, hb1⟩; have HB' := Lib.hid (HB.out.trans (hb1.mono HB.out.size)); clear hb1 HB; have HB := HB'; clear HB')
    | (go_at_call 19; refine (Headed_any _ _ hs).mono ?_; rintro e w1 ⟨rfl, hb1⟩; have HB' := Lib.hid (HB.out.trans (hb1.mono HB.out.size)); clear hb1 HB; have HB := HB'; clear HB')
    | (go_at_call 20; refine (Headed22_any _ _ hs).mono ?_; rintro e w1 ⟨rfl, hb1⟩; have HB' := Lib.hid (HB.out.trans (hb1.mono HB.out.size)); clear hb1 HB; have HB := HB'; clear HB'))
  go_ret
  exact ⟨ret_bool (by simp), HB.out⟩

theorem contains1 (a b : ByteArray) : Lib.containsS [a] b = decide (b = a) := by
  rw [Bool.eq_iff_iff, Lib.containsS_iff]; simp
theorem contains2 (a c b : ByteArray) : Lib.containsS [a, c] b = decide (b = a ∨ b = c) := by
  rw [Bool.eq_iff_iff, Lib.containsS_iff]; simp
theorem forms_eq (s : ByteArray) : formsOf s = formsRef s := by
  have e1 := beq_mks (headOf s.data.toList) s
  have e2 := beq_mks (s.data.toList.map lowB) s
  have e3 := beq_mk (s.data.toList.map lowB) (headOf s.data.toList)
  unfold formsOf formsRef
  rw [e1, e2, e3, kinds_eq]
  change (if kindRef s.data.toList = 3 then addS (addS [s] (headS s)) (lowS s) else if kindRef s.data.toList = 2 then addS [s] (lowS s) else [s]) =
    if (kindRef s.data.toList = 3 ∨ kindRef s.data.toList = 2) ∧ decide (lowS s = s) = false ∧ (kindRef s.data.toList = 2 ∨ decide (lowS s = headS s) = false)
    then (if kindRef s.data.toList = 3 ∧ decide (headS s = s) = false then [s, headS s] else [s]) ++ [lowS s] else (if kindRef s.data.toList = 3 ∧ decide (headS s = s) = false then [s, headS s] else [s])
  generalize kindRef s.data.toList = k
  generalize headS s = h
  generalize lowS s = l
  by_cases k3 : k = 3
  · subst k3
    by_cases h1 : h = s
    · subst h1
      simp [addS, contains1]
    · simp [addS, contains1, contains2, h1]
      by_cases h2 : l = s
      · simp [h2]
      · simp [h2]
  · by_cases k2 : k = 2
    · subst k2
      simp [addS, contains1]
    · simp [k3, k2]
end Go.Proofs.Ytdleoankkcemfaa
