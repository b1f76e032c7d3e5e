/-
  What is found of a word that was turned: the plain laws.
-/
import Derived.Test.YtdleoankkcemfaaRows
import Derived.Test.YtdleoankkcemfaaKep4
namespace Go.Proofs.Ytdleoankkcemfaa
open Go.RowKit

theorem toList_inj {a b : ByteArray} (h : a.toList = b.toList) : a = b := of_decide_eq_true (by rw [← beq_str]; simp [h])
theorem addS_cons (a : ByteArray) (r : List ByteArray) (f : ByteArray) : ∃ r', addS (a :: r) f = a :: r' := by
  unfold addS
  split
  · exact ⟨r, rfl⟩
  · exact ⟨r ++ [f], rfl⟩
theorem formsOf_cons (t : ByteArray) : ∃ r, formsOf t = t :: r := by
  unfold formsOf
  split
  · obtain ⟨r, hr⟩ := addS_cons t [] (headS t)
    rw [hr]
    exact addS_cons _ _ _
  · split
    · exact addS_cons _ _ _
    · exact ⟨[], rfl⟩
theorem mem_addS {ss : List ByteArray} {f x : ByteArray} (h : x ∈ addS ss f) : x ∈ ss ∨ x = f := by
  unfold addS at h
  split at h
  · exact .inl h
  · rcases List.mem_append.1 h with h | h
    · exact .inl h
    · exact .inr (by simpa using h)
theorem forms_low (t : ByteArray) : ∀ f ∈ formsOf t, lowS f = lowS t := by
  intro f hf
  unfold formsOf at hf
  split at hf
  · rcases mem_addS hf with h | rfl
    · rcases mem_addS h with h | rfl
      · have : f = t := by simpa using h
        rw [this]
      · exact lowS_head t
    · exact lowS_low t
  · split at hf
    · rcases mem_addS hf with h | rfl
      · have : f = t := by simpa using h
        rw [this]
      · exact lowS_low t
    · have : f = t := by simpa using hf
      rw [this]
theorem low_in (t : ByteArray) (h : kindOf t.data.toList = 2 ∨ kindOf t.data.toList = 3) : lowS t ∈ formsOf t := by
  unfold formsOf
  rcases h with h | h
  · rw [if_neg (by rw [h]; decide), if_pos h]
    unfold addS
    rw [contains1]
    split
    · rename_i hh
      have := of_decide_eq_true hh
      rw [this]; simp
    · simp
  · rw [if_pos h]
    have ha : ∀ ss, (Lib.containsS ss (lowS t) = true → lowS t ∈ ss) → lowS t ∈ addS ss (lowS t) := fun ss hss => by
      unfold addS
      split
      · rename_i hh; exact hss hh
      · simp
    refine ha _ (fun hh => ?_)
    unfold addS at hh ⊢
    split at hh
    · rename_i h1
      rw [if_pos h1]
      rw [contains1] at hh
      have := of_decide_eq_true hh
      rw [this]; simp
    · rename_i h1
      rw [if_neg h1]
      rw [show [t] ++ [headS t] = [t, headS t] from rfl, contains2] at hh
      rcases of_decide_eq_true hh with h2 | h2 <;> · rw [h2]; simp
theorem up_small (L : List UInt8) : cnt smallB (L.map upB) = 0 := by
  unfold cnt
  rw [List.countP_eq_zero]
  intro x hx
  obtain ⟨b, _, rfl⟩ := List.mem_map.1 hx
  have := (up_iff (upB b)).1 (up_up b)
  rw [this]; simp
theorem up_cap (b : UInt8) (h : smallB b = true) : capB (upB b) = true := by
  have := all_bytes (fun b => !smallB b || capB (upB b)) (by kernel_rfl) b
  simp only [h, Bool.not_true, Bool.false_or] at this
  exact this
theorem up_caps (L : List UInt8) : cnt smallB L ≤ cnt capB (L.map upB) := by
  unfold cnt
  rw [List.countP_map]
  exact List.countP_mono_left (fun x _ h => up_cap x h)
theorem small_in (x t : ByteArray) (hk : kindOf x.data.toList = 1) (ht : t = upS x ∨ t = headS x ∨ t = lowS x) : x ∈ formsOf t := by
  have hlow : lowS x = x := toList_inj ((turn_kinds x).2.1 hk)
  have hself : ∀ y : ByteArray, y ∈ formsOf y := fun y => by
    obtain ⟨r, hr⟩ := formsOf_cons y
    rw [hr]; simp
  have hc : cnt capB x.data.toList = 0 ∧ cnt smallB x.data.toList ≠ 0 := by
    unfold kindOf at hk
    split at hk
    · cases hk
    · split at hk
      · rename_i h1 h2
        exact ⟨h2, by omega⟩
      · split at hk
        · cases hk
        · split at hk <;> cases hk
  rcases ht with rfl | rfl | rfl
  · have h2 : kindOf (upS x).data.toList = 2 ∨ kindOf (upS x).data.toList = 3 := by
      have e : (upS x).data.toList = x.data.toList.map upB := by simp [upS]
      rw [e]
      have h1 := up_small x.data.toList
      have h3 := up_caps x.data.toList
      unfold kindOf
      rw [if_neg (by omega), if_neg (by omega)]
      split
      · exact .inl rfl
      · exact .inr rfl
    have := low_in _ h2
    rw [lowS_up, hlow] at this
    exact this
  · cases hL : x.data.toList with
    | nil => rw [hL] at hc; exact absurd rfl hc.2
    | cons b l =>
      cases hb : smallB b
      · have : headS x = x := by
          refine toList_inj ((headS_iff x).2 ⟨?_, ?_⟩)
          · rw [hL]; simp [hb]
          · rw [hL] at hc ⊢
            have h0 := hc.1
            unfold cnt at h0 ⊢
            rw [List.countP_cons] at h0
            simp only [List.tail_cons]
            omega
        rw [this]
        exact hself x
      · have h2 : kindOf (headS x).data.toList = 2 := by
          have e : (headS x).data.toList = upB b :: l.map lowB := by simp [headS, hL, headOf]
          have h0 := hc.1
          rw [hL] at h0
          unfold cnt at h0
          rw [List.countP_cons] at h0
          have hl0 : List.countP capB l = 0 := by omega
          have hm : l.map lowB = l := (map_id_iff lowB capB low_iff l).2 hl0
          rw [e, hm]
          have hcb := up_cap b hb
          have h1 : cnt capB (upB b :: l) = 1 := by
            unfold cnt
            rw [List.countP_cons, hl0, hcb]; rfl
          unfold kindOf
          rw [if_neg (by omega), if_neg (by omega), if_pos ⟨h1, by simp [hcb]⟩]
        have := low_in _ (.inl h2)
        rw [lowS_head, hlow] at this
        exact this
  · rw [hlow]
    exact hself x

theorem chkGo_some {P Q : ByteArray → Bool} : ∀ {fs : List ByteArray} {f : ByteArray}, chkGo P Q false fs = some f → f ∈ fs ∧ P f = true ∧ Q f = false
  | [], f, h => by rw [chkGo] at h; cases h
  | a :: fs, f, h => by
    rw [chkGo] at h
    split at h
    · rename_i hc
      injection h with h
      subst h
      simp at hc
      exact ⟨by simp, hc.1, hc.2⟩
    · have := chkGo_some h
      exact ⟨List.mem_cons_of_mem _ this.1, this.2⟩
theorem chkB_some {P Q : ByteArray → Bool} {t f : ByteArray} (h : chkB P Q t = some f) : f ∈ formsOf t ∧ P f = true ∧ (f ≠ t → Q f = false) := by
  obtain ⟨r, hr⟩ := formsOf_cons t
  unfold chkB at h
  rw [hr] at h ⊢
  rw [chkGo] at h
  split at h
  · rename_i hc
    injection h with h
    subst h
    simp at hc
    exact ⟨by simp, hc, fun hne => absurd rfl hne⟩
  · have := chkGo_some h
    exact ⟨List.mem_cons_of_mem _ this.1, this.2.1, fun _ => this.2.2⟩
theorem chkB_self {P Q : ByteArray → Bool} {x : ByteArray} (h : P x = true) : chkB P Q x = some x := by
  obtain ⟨r, hr⟩ := formsOf_cons x
  unfold chkB
  rw [hr, chkGo, h]
  rfl
theorem chkGo_found {P Q : ByteArray → Bool} {x : ByteArray} (hP : P x = true) (hQ : Q x = false) : ∀ {b : Bool} {fs : List ByteArray}, x ∈ fs → chkGo P Q b fs ≠ none
  | b, [], h => by cases h
  | b, a :: fs, h => by
    rw [chkGo]
    split
    · intro e; cases e
    · rename_i hc
      rcases List.mem_cons.1 h with rfl | h
      · rw [hP, hQ] at hc; simp at hc
      · exact chkGo_found hP hQ h
theorem chkB_found {P Q : ByteArray → Bool} {x t : ByteArray} (hP : P x = true) (hQ : Q x = false) (h : x ∈ formsOf t) : chkB P Q t ≠ none := chkGo_found hP hQ h
end Go.Proofs.Ytdleoankkcemfaa
