/-
  The answers that the document fixes, and the kinds' statement walked.
-/
import Derived.Test.YtdleoankkcemfaaRows
import Derived.Test.YtdleoankkcemfaaCases7
namespace Go.Proofs.Ytdleoankkcemfaa
open Go.RowKit

def catS : ByteArray := ⟨#[67, 65, 84]⟩
theorem forms_cat : formsOf ⟨#[67, 65, 84]⟩ = [⟨#[67, 65, 84]⟩, ⟨#[67, 97, 116]⟩, ⟨#[99, 97, 116]⟩] := by kernel_rfl
theorem kind_cat : kindOf (⟨#[67, 97, 116]⟩ : ByteArray).data.toList = 2 := by kernel_rfl
theorem head_clock : (⟨(headOf (⟨#[111, 39, 67, 76, 79, 67, 75]⟩ : ByteArray).data.toList).toArray⟩ : ByteArray) = ⟨#[79, 39, 99, 108, 111, 99, 107]⟩ := by kernel_rfl

def Cat3 (w : World) (e : Ending) (w' : World) : Prop :=
  ∃ g cap, e = .returned (.slice (some ⟨g, 0, none⟩) 3 cap) ∧ w'.cell? ⟨g, 1, none⟩ = some (.string ⟨#[67, 97, 116]⟩) ∧ Below w.heap.size w w'
theorem Forms_cat (w : World) : Calls Try.prog 22 #[.string ⟨#[67, 65, 84]⟩] w (Cat3 w) := by
  refine (Forms_any ⟨#[67, 65, 84]⟩ w (by decide)).mono ?_
  rintro e w' ⟨⟨g, cap, rfl, hown⟩, hb⟩
  rw [forms_cat] at hown ⊢
  refine ⟨g, cap, rfl, ?_, hb⟩
  exact own_str hown 1 (by decide)
theorem Of_cat (w : World) : Calls Try.prog 13 #[.string ⟨#[67, 97, 116]⟩] w fun e w' => e = .returned (.int .i64 2) ∧ w = w' := by
  have := of_any ⟨#[67, 97, 116]⟩ w (by decide)
  rwa [kind_cat] at this
theorem Headed_clock (w : World) : Calls Try.prog 19 #[.string ⟨#[111, 39, 67, 76, 79, 67, 75]⟩] w fun e w' => e = .returned (.string ⟨#[79, 39, 99, 108, 111, 99, 107]⟩) ∧ Below w.heap.size w w' := by
  have := Headed_any ⟨#[111, 39, 67, 76, 79, 67, 75]⟩ w (by decide)
  rwa [head_clock] at this

set_option maxHeartbeats 1000000 in
theorem wakes22_any (w : World) : Calls Try.prog 12 #[] w fun e w' => e = .returned (.bool true) ∧ Below w.heap.size w w' := by
  go_enter Try.func12, Try.ntmps12
  go_wp2_with (first
    | (go_at_call 22; refine (Forms_cat _).mono ?_; rintro e w1 ⟨g, cap, rfl, hc, hb1⟩; have HB1 := Lib.hid hb1; have HC := Lib.hid hc; clear hb1 hc)
    | (go_at_call 13; refine (Of_cat _).mono ?_; rintro e w' ⟨rfl, rfl⟩)
    | (go_at_call 19; refine (Headed_clock _).mono ?_; rintro e w2 ⟨rfl, hb2⟩; have HB2 := Lib.hid hb2; have hc2 := (HB2.out.cell (World.block_lt_of_cell? _ _ HC.out)).trans HC.out; clear hb2))
  go_ret
  exact ⟨rfl, HB1.out.trans (HB2.out.mono HB1.out.size)⟩

theorem allSort1 (l : List UInt8) : allSort 1 l = decide (cnt capB l = 0) := by
  induction l with
  | nil => rfl
  | cons a l ih =>
    have h1 := sort_cap a
    have h2 := sort_small a
    have h3 := not_both a
    simp only [allSort, List.all_cons, cnt, List.countP_cons] at ih ⊢
    rw [ih]
    unfold sortOf
    cases q1 : smallB a <;> cases q2 : capB a <;> simp_all
theorem allSort2 (l : List UInt8) : allSort 2 l = decide (cnt smallB l = 0) := by
  induction l with
  | nil => rfl
  | cons a l ih =>
    have h3 := not_both a
    simp only [allSort, List.all_cons, cnt, List.countP_cons] at ih ⊢
    rw [ih]
    unfold sortOf
    cases q1 : smallB a <;> cases q2 : capB a <;> simp_all
theorem kinds_aux (c d : Nat) (p q : Bool) (h : ¬ (p = true ∧ q = true)) :
    ((if (d + if p = true then 1 else 0) + (c + if q = true then 1 else 0) = 0 then 0
      else if (c + if q = true then 1 else 0) = 0 then 1
      else if (c + if q = true then 1 else 0) = 1 ∧ q = true then 2
      else if (d + if p = true then 1 else 0) = 0 then 3 else 4) : Int) =
    if (decide ((c + if q = true then 1 else 0) = 0) && decide ((d + if p = true then 1 else 0) = 0)) = true then 0
    else if decide ((c + if q = true then 1 else 0) = 0) = true then 1
    else if (some (if p = true then (1 : Int) else if q = true then 2 else 0) == some 2 && decide (c = 0)) = true then 2
    else if decide ((d + if p = true then 1 else 0) = 0) = true then 3 else 4 := by
  cases p <;> cases q <;> simp at h ⊢
  all_goals (repeat' split) <;> first | rfl | omega
theorem kinds_eq (l : List UInt8) : kindOf l = kindRef l := by
  unfold kindOf kindRef
  rw [allSort1, allSort2]
  cases l with
  | nil => rfl
  | cons a l =>
    have h3 := not_both a
    rw [List.tail_cons, allSort1]
    simp only [cnt, List.countP_cons, List.head?_cons, Option.map_some, Option.some.injEq, sortOf]
    exact kinds_aux _ _ _ _ h3

set_option maxHeartbeats 1000000 in
theorem casesKinds_walk (s : ByteArray) (w : World) (hs : s.size ≤ maxLen) :
    Calls Try.prog 3 #[.string s] w fun e w' => e = .returned (.bool true) ∧ Below w.heap.size w w' := by
  have HK := Lib.hid (kinds_eq s.data.toList)
  go_enter Try.func3, Try.ntmps3
  go_wp2_with (first
    | (go_at_call 12; refine (wakes22_any _).mono ?_; rintro e w1 ⟨rfl, hb1⟩; have HB1 := Lib.hid hb1; clear hb1)
    | (go_at_call 13; refine (of_any _ _ hs).mono ?_; rw [HK.out]; rintro e w' ⟨rfl, rfl⟩)
    | (go_at_call 14; refine (of22_any _ _ hs).mono ?_; rintro e w' ⟨rfl, rfl⟩))
  go_ret
  exact ⟨ret_bool (by simp), HB1.out⟩
end Go.Proofs.Ytdleoankkcemfaa
