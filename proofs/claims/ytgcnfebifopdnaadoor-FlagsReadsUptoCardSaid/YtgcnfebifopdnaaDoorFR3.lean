/-
  Plain: the reference's search for the least number above the last one walks through the set in order.
-/
import Derived.Test.YtgcnfebifopdnaaDoorRows
import Derived.Test.YtgcnfebifopdnaaDoorFA0
namespace Go.Proofs.YtgcnfebifopdnaaDoor

/-- One step of the reference's search. -/
def bestStep (last nx x : Int) : Int := if x > last ∧ (nx < 0 ∨ x < nx) then x else nx
def best (last : Int) (l : List Int) : Int := l.foldl (bestStep last) (-1)
theorem best_snoc (last : Int) (l : List Int) (x : Int) : best last (l ++ [x]) = bestStep last (best last l) x := by
  unfold best; rw [List.foldl_append]; rfl
theorem best_spec (last : Int) (hl : -1 ≤ last) (l : List Int) (h0 : ∀ x ∈ l, 0 ≤ x) : ∀ k, k ≤ l.length →
    (best last (l.take k) = -1 ∧ ∀ x ∈ l.take k, x ≤ last) ∨ (best last (l.take k) ∈ l ∧ last < best last (l.take k) ∧ ∀ x ∈ l.take k, last < x → best last (l.take k) ≤ x)
  | 0, _ => .inl ⟨by simp [best], by simp⟩
  | k + 1, hk => by
    have ih := best_spec last hl l h0 k (by omega)
    have hx := h0 l[k] (List.getElem_mem (by omega))
    have hm : l[k] ∈ l := List.getElem_mem (by omega)
    have e : l.take (k + 1) = l.take k ++ [l[k]] := by rw [List.take_add_one, List.getElem?_eq_getElem (by omega)]; rfl
    rw [e, best_snoc]
    generalize l[k] = y at *
    generalize best last (l.take k) = b at *
    unfold bestStep
    rcases ih with ⟨rfl, ih⟩ | ⟨i1, i2, i3⟩
    · by_cases h : y > last
      · rw [if_pos ⟨h, .inl (by omega)⟩]
        refine .inr ⟨hm, h, fun x hx' hlx => ?_⟩
        rcases List.mem_append.1 hx' with h' | h'
        · have := ih x h'; omega
        · obtain rfl : x = y := by simpa using h'
          exact Int.le_refl _
      · rw [if_neg (by omega)]
        refine .inl ⟨rfl, fun x hx' => ?_⟩
        rcases List.mem_append.1 hx' with h' | h'
        · exact ih x h'
        · obtain rfl : x = y := by simpa using h'
          omega
    · by_cases h : y > last ∧ (b < 0 ∨ y < b)
      · rw [if_pos h]
        refine .inr ⟨hm, h.1, fun x hx' hlx => ?_⟩
        rcases List.mem_append.1 hx' with h' | h'
        · have := i3 x h' hlx; omega
        · obtain rfl : x = y := by simpa using h'
          exact Int.le_refl _
      · rw [if_neg h]
        refine .inr ⟨i1, i2, fun x hx' hlx => ?_⟩
        rcases List.mem_append.1 hx' with h' | h'
        · exact i3 x h' hlx
        · obtain rfl : x = y := by simpa using h'
          omega
theorem canon_lt (zs : List Int) {i j : Nat} (hi : i < (canon zs).length) (hj : j < (canon zs).length) (h : i < j) : (canon zs)[i] < (canon zs)[j] :=
  List.pairwise_iff_getElem.1 (canon_sorted zs) i j hi hj h
/-- The last one found, when m have been found. -/
def lastOf (zs : List Int) (m : Nat) : Int := if m = 0 then -1 else (canon zs).getD (m - 1) 0
theorem lastOf_lt (zs : List Int) (h0 : ∀ x ∈ zs, 0 ≤ x) (m j : Nat) (hj : j < (canon zs).length) : lastOf zs m < (canon zs)[j] ∨ j < m := by
  unfold lastOf
  have hp := h0 _ ((mem_canon _ _).1 (List.getElem_mem hj))
  by_cases hm : m = 0
  · rw [if_pos hm]; left; omega
  · rw [if_neg hm]
    by_cases hjm : j < m
    · exact .inr hjm
    · left
      have h1 : m - 1 < (canon zs).length := by omega
      have e : (canon zs).getD (m - 1) 0 = (canon zs)[m - 1] := by simp [List.getD, h1]
      rw [e]
      exact canon_lt zs h1 hj (by omega)
theorem best_canon (zs : List Int) (h0 : ∀ x ∈ zs, 0 ≤ x) (m : Nat) (hm : m ≤ (canon zs).length) : best (lastOf zs m) zs = if m < (canon zs).length then (canon zs).getD m 0 else -1 := by
  have hl : -1 ≤ lastOf zs m := by
    unfold lastOf
    split
    · omega
    · have h1 : m - 1 < (canon zs).length := by omega
      have e : (canon zs).getD (m - 1) 0 = (canon zs)[m - 1] := by simp [List.getD, h1]
      rw [e]
      have := h0 _ ((mem_canon _ _).1 (List.getElem_mem h1))
      omega
  have hge : ∀ j, j < m → ∀ hj : j < (canon zs).length, (canon zs)[j] ≤ lastOf zs m := by
    intro j hjm hj
    unfold lastOf
    rw [if_neg (by omega)]
    have h1 : m - 1 < (canon zs).length := by omega
    have e : (canon zs).getD (m - 1) 0 = (canon zs)[m - 1] := by simp [List.getD, h1]
    rw [e]
    by_cases hjj : j = m - 1
    · subst hjj; exact Int.le_refl _
    · exact Int.le_of_lt (canon_lt zs hj h1 (by omega))
  have hs := best_spec (lastOf zs m) hl zs h0 zs.length (Nat.le_refl _)
  rw [List.take_length] at hs
  by_cases hmm : m < (canon zs).length
  · rw [if_pos hmm]
    have e : (canon zs).getD m 0 = (canon zs)[m] := by simp [List.getD, hmm]
    rw [e]
    have hin := (mem_canon _ _).1 (List.getElem_mem hmm)
    have hgt := (lastOf_lt zs h0 m m hmm).resolve_right (by omega)
    rcases hs with ⟨_, h2⟩ | ⟨h1, h2, h3⟩
    · have := h2 _ hin; omega
    · have hle := h3 _ hin hgt
      obtain ⟨j, hj, hjb⟩ := List.getElem_of_mem ((mem_canon zs _).2 h1)
      rcases Nat.lt_trichotomy j m with h | h | h
      · have := hge j h hj; omega
      · subst h; exact hjb.symm
      · have := canon_lt zs hmm hj h; omega
  · rw [if_neg hmm]
    rcases hs with ⟨h1, _⟩ | ⟨h1, h2, _⟩
    · exact h1
    · obtain ⟨j, hj, hjb⟩ := List.getElem_of_mem ((mem_canon zs _).2 h1)
      have := hge j (by omega) hj
      omega
end Go.Proofs.YtgcnfebifopdnaaDoor
