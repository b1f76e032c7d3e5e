/-
  Plain laws of the sets.
-/
import Derived.Test.YtgcnfebifopdnaaDoorRows
import Derived.Test.YtgcnfebifopdnaaDoorFL7
namespace Go.Proofs.YtgcnfebifopdnaaDoor

theorem mem_compactUpTo (d : Array Int) : ∀ (m : Nat) (x : Int), x ∈ Lib.compactUpTo d m ↔ ∃ j, j < m ∧ d[j]! = x
  | 0, x => by simp [Lib.compactUpTo]
  | m + 1, x => by
    rw [Lib.compactUpTo_succ, List.mem_append, mem_compactUpTo d m x]
    constructor
    · rintro (⟨j, hj, e⟩ | h)
      · exact ⟨j, by omega, e⟩
      · cases hk : Lib.keeps d m
        · rw [hk] at h; simp at h
        · rw [hk] at h; simp at h; exact ⟨m, by omega, h.symm⟩
    · rintro ⟨j, hj, e⟩
      by_cases hjm : j = m
      · subst hjm
        cases hk : Lib.keeps d j
        · left
          have : ¬ (j = 0 ∨ d[j]! ≠ d[j - 1]!) := by simpa [Lib.keeps] using hk
          exact ⟨j - 1, by omega, by
            have h2 : d[j]! = d[j - 1]! := by
              by_cases h3 : d[j]! = d[j - 1]!
              · exact h3
              · exact absurd (.inr h3) this
            rw [← h2]; exact e⟩
        · right; simp [e]
      · exact .inl ⟨j, by omega, e⟩
theorem mem_compact (zs : List Int) (x : Int) : x ∈ Lib.compact zs ↔ x ∈ zs := by
  unfold Lib.compact
  rw [mem_compactUpTo]
  constructor
  · rintro ⟨j, hj, rfl⟩
    rw [getElem!_pos zs.toArray j (by simpa using hj)]
    simp
  · intro h
    obtain ⟨j, hj, rfl⟩ := List.getElem_of_mem h
    exact ⟨j, hj, by rw [getElem!_pos zs.toArray j (by simpa using hj)]; simp⟩
theorem mem_canon (zs : List Int) (x : Int) : x ∈ canon zs ↔ x ∈ zs := by
  unfold canon
  rw [mem_compact, List.mem_mergeSort]
theorem mem_outs (ts zs : List Int) (x : Int) : x ∈ outs ts zs ↔ x ∈ zs ∧ x ∉ ts := by
  unfold outs
  rw [List.mem_filter]
  simp
theorem contains_iff (zs : List Int) (x : Int) : zs.contains x = true ↔ x ∈ zs := by simp
theorem all_law (zs ts : List Int) : ((canon (foldOuts (canon ts) [zs])).length == 0) = ts.all (fun z => zs.contains z) := by
  rw [Bool.eq_iff_iff]
  have e : foldOuts (canon ts) [zs] = canon (outs zs (canon (canon ts))) := rfl
  rw [e]
  constructor
  · intro h
    have h0 : canon (canon (outs zs (canon (canon ts)))) = [] := List.eq_nil_of_length_eq_zero (by simpa using h)
    rw [List.all_eq_true]
    intro x hx
    rw [contains_iff]
    cases hc : zs.contains x
    · exfalso
      have : x ∈ canon (canon (outs zs (canon (canon ts)))) := by
        rw [mem_canon, mem_canon, mem_outs, mem_canon, mem_canon]
        exact ⟨hx, by simpa using hc⟩
      rw [h0] at this
      cases this
    · simpa using hc
  · intro h
    rw [List.all_eq_true] at h
    have h0 : canon (canon (outs zs (canon (canon ts)))) = [] := by
      rw [List.eq_nil_iff_forall_not_mem]
      intro x hx
      rw [mem_canon, mem_canon, mem_outs, mem_canon, mem_canon] at hx
      exact hx.2 ((contains_iff _ _).1 (h x hx.1))
    rw [h0]; rfl
end Go.Proofs.YtgcnfebifopdnaaDoor
