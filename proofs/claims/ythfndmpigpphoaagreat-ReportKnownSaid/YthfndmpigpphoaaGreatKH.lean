/-
  What a decoded book is bounded by: plain laws.
-/
import Derived.Test.YthfndmpigpphoaaGreatRows
import Derived.Test.YthfndmpigpphoaaGreatKE
namespace Go.Proofs.YthfndmpigpphoaaGreat
section
open Go.RowKit

theorem edgesR_len {s : ByteArray} {n : Nat} : ∀ (k a p : Nat) (es : List Ed), edgesR s n k a = .ok (es, p) → es.length = k
  | 0, a, p, es, h => by
    rw [edgesR] at h
    injection h with h
    injection h with h1 _
    rw [← h1]; rfl
  | k + 1, a, p, es, h => by
    rw [edgesR] at h
    split at h
    · cases h
    · split at h
      · cases h
      · rename_i es' p' hes
        injection h with h
        injection h with h1 _
        rw [← h1, List.length_cons, edgesR_len k _ _ _ hes]
theorem staR_len {s : ByteArray} {n a p : Nat} {x : St} (h : staR s n a = .ok (x, p)) : x.2.length ≤ 256 := by
  unfold staR at h
  split at h
  · cases h
  · split at h
    · cases h
    · rename_i hv
      split at h
      · cases h
      · rename_i es p' hes
        injection h with h
        injection h with h1 _
        rw [← h1]
        have := edgesR_len _ _ _ _ hes
        simp only
        omega
theorem statesR_len {s : ByteArray} {n : Nat} : ∀ (k a p : Nat) (xs : List St), statesR s n k a = .ok (xs, p) → xs.length = k ∧ ∀ x ∈ xs, x.2.length ≤ 256
  | 0, a, p, xs, h => by
    rw [statesR] at h
    injection h with h
    injection h with h1 _
    rw [← h1]; exact ⟨rfl, fun _ h => by cases h⟩
  | k + 1, a, p, xs, h => by
    rw [statesR] at h
    split at h
    · cases h
    · rename_i x q hx
      split at h
      · cases h
      · rename_i xs' p' hxs
        injection h with h
        injection h with h1 _
        have ih := statesR_len k _ _ _ hxs
        rw [← h1]
        refine ⟨by rw [List.length_cons, ih.1], fun y hy => ?_⟩
        rcases List.mem_cons.1 hy with rfl | hy
        · exact staR_len hx
        · exact ih.2 y hy
theorem secR_len {s : ByteArray} {a p : Nat} {A : List St} (h : secR s a = .ok (A, p)) : shapeB A = true ∧ A.length ≤ 1048576 ∧ ∀ x ∈ A, x.2.length ≤ 256 := by
  unfold secR at h
  split at h
  · cases h
  · split at h
    · cases h
    · rename_i hn
      split at h
      · cases h
      · rename_i A' p' hA
        split at h
        · rename_i hs
          injection h with h
          injection h with h1 _
          subst h1
          have := statesR_len _ _ _ _ hA
          exact ⟨hs, by omega, this.2⟩
        · cases h
theorem manyR_len {α : Type} {P : α → Prop} {f : Nat → Except Nat (α × Nat)} (hf : ∀ a x p, f a = .ok (x, p) → P x) : ∀ (k a p : Nat) (xs : List α), manyR f k a = .ok (xs, p) → xs.length = k ∧ ∀ x ∈ xs, P x
  | 0, a, p, xs, h => by
    rw [manyR] at h
    injection h with h
    injection h with h1 _
    rw [← h1]; exact ⟨rfl, fun _ h => by cases h⟩
  | k + 1, a, p, xs, h => by
    rw [manyR] at h
    split at h
    · cases h
    · rename_i x q hx
      split at h
      · cases h
      · rename_i xs' p' hxs
        injection h with h
        injection h with h1 _
        have ih := manyR_len hf k _ _ _ hxs
        rw [← h1]
        refine ⟨by rw [List.length_cons, ih.1], fun y hy => ?_⟩
        rcases List.mem_cons.1 hy with rfl | hy
        · exact hf _ _ _ hx
        · exact ih.2 y hy
/-- A book that was read: its settings hold, its four sections are in shape. -/
theorem decR_bounds {s : ByteArray} {b : Bk} (h : decR s = .ok b) : b.reps.length ≤ 256 ∧ settingsB (b.least : Int) b.tryT b.reps = true ∧ b.secs.length = 4 ∧ ∀ A ∈ b.secs, shapeB A = true ∧ A.length ≤ 1048576 ∧ ∀ x ∈ A, x.2.length ≤ 256 := by
  unfold decR at h
  split at h
  · unfold bookR at h
    split at h
    · cases h
    · split at h
      · cases h
      · unfold repsR at h
        split at h
        · cases h
        · split at h
          · cases h
          · rename_i hn
            split at h
            · cases h
            · rename_i rs p hrs
              unfold secsR at h
              split at h
              · cases h
              · rename_i hset
                split at h
                · cases h
                · rename_i As p2 hAs
                  unfold endR at h
                  split at h
                  · injection h with h
                    subst h
                    have h1 := manyR_len (P := fun _ => True) (fun _ _ _ _ => trivial) _ _ _ _ hrs
                    have h2 := manyR_len (P := fun A => shapeB A = true ∧ A.length ≤ 1048576 ∧ ∀ x ∈ A, x.2.length ≤ 256) (fun _ _ _ h => secR_len h) _ _ _ _ hAs
                    exact ⟨by rw [h1.1]; omega, by simpa using hset, h2.1, h2.2⟩
                  · cases h
  · cases h
end
end Go.Proofs.YthfndmpigpphoaaGreat
