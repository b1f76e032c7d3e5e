/-
  Plain laws of the sets: order, equality, counts.
-/
import Derived.Test.YtgcnfebifopdnaaDoorRows
import Derived.Test.YtgcnfebifopdnaaDoorFL9
namespace Go.Proofs.YtgcnfebifopdnaaDoor

theorem sorted_get {zs : List Int} (hs : zs.Pairwise (· ≤ ·)) {i j : Nat} (hij : i ≤ j) (hj : j < zs.length) : zs.toArray[i]! ≤ zs.toArray[j]! := by
  rw [getElem!_pos zs.toArray i (by simp; omega), getElem!_pos zs.toArray j (by simpa using hj)]
  simp only [List.getElem_toArray]
  rcases Nat.lt_or_ge i j with h | h
  · exact List.pairwise_iff_getElem.1 hs i j (by omega) hj h
  · obtain rfl : i = j := by omega
    exact Int.le_refl _
theorem compact_sorted (zs : List Int) (hs : zs.Pairwise (· ≤ ·)) : ∀ m, m ≤ zs.length → (Lib.compactUpTo zs.toArray m).Pairwise (· < ·)
  | 0, _ => by simp [Lib.compactUpTo]
  | m + 1, hm => by
    rw [Lib.compactUpTo_succ, List.pairwise_append]
    refine ⟨compact_sorted zs hs m (by omega), ?_, ?_⟩
    · split <;> simp
    · intro x hx y hy
      cases hk : Lib.keeps zs.toArray m
      · rw [hk] at hy; simp at hy
      · rw [hk] at hy
        obtain rfl : y = zs.toArray[m]! := by simpa using hy
        obtain ⟨j, hj, rfl⟩ := (mem_compactUpTo _ _ _).1 hx
        have hk2 : m = 0 ∨ zs.toArray[m]! ≠ zs.toArray[m - 1]! := by simpa [Lib.keeps] using hk
        have h1 := sorted_get hs (show j ≤ m - 1 by omega) (by omega)
        have h2 := sorted_get hs (show m - 1 ≤ m by omega) (by omega)
        rcases hk2 with h | h <;> omega
theorem canon_sorted (zs : List Int) : (canon zs).Pairwise (· < ·) := by
  refine compact_sorted _ ?_ _ (Nat.le_refl _)
  have := List.pairwise_mergeSort (le := fun x y : Int => decide (x ≤ y)) (by intro a b c; simp; omega) (by intro a b; simp; omega) zs
  exact this.imp (by intro a b h; simpa using h)
theorem sorted_ext : ∀ (a b : List Int), a.Pairwise (· < ·) → b.Pairwise (· < ·) → (∀ x, x ∈ a ↔ x ∈ b) → a = b
  | [], [], _, _, _ => rfl
  | [], y :: b, _, _, h => absurd ((h y).2 (by simp)) (by simp)
  | x :: a, [], _, _, h => absurd ((h x).1 (by simp)) (by simp)
  | x :: a, y :: b, ha, hb, h => by
    rw [List.pairwise_cons] at ha hb
    have e : x = y := by
      have h1 := (h x).1 (by simp)
      have h2 := (h y).2 (by simp)
      rw [List.mem_cons] at h1 h2
      rcases h1 with h1 | h1
      · exact h1
      · rcases h2 with h2 | h2
        · exact h2.symm
        · have := hb.1 x h1; have := ha.1 y h2; omega
    subst e
    rw [sorted_ext a b ha.2 hb.2 (fun z => by
      have hz := h z
      rw [List.mem_cons, List.mem_cons] at hz
      constructor
      · intro hm
        rcases hz.1 (.inr hm) with rfl | h2
        · exact absurd (ha.1 z hm) (by omega)
        · exact h2
      · intro hm
        rcases hz.2 (.inr hm) with rfl | h2
        · exact absurd (hb.1 z hm) (by omega)
        · exact h2)]
theorem canon_ext {a b : List Int} (h : ∀ x, x ∈ a ↔ x ∈ b) : canon a = canon b :=
  sorted_ext _ _ (canon_sorted a) (canon_sorted b) (fun x => by rw [mem_canon, mem_canon]; exact h x)
theorem canon_idem (a : List Int) : canon (canon a) = canon a := canon_ext (fun x => mem_canon a x)
theorem sorted_nodup {a : List Int} (h : a.Pairwise (· < ·)) : a.Nodup := h.imp (by intro x y hxy e; omega)
theorem nodup_len : ∀ (a b : List Int), a.Nodup → (∀ x ∈ a, x ∈ b) → a.length ≤ b.length
  | [], _, _, _ => by simp
  | x :: a, b, ha, h => by
    rw [List.nodup_cons] at ha
    have h1 := nodup_len a (b.erase x) ha.2 (fun y hy => (List.mem_erase_of_ne (fun e => ha.1 (by rw [← e]; exact hy))).2 (h y (by simp [hy])))
    have h2 := List.length_erase_of_mem (h x (by simp))
    have h3 : 0 < b.length := List.length_pos_of_mem (h x (by simp))
    simp only [List.length_cons]
    omega
theorem count_law (x y : List Int) : (canon (canon (x ++ y))).length = (canon x).length + (canon (canon (outs x y))).length := by
  rw [canon_idem, canon_idem]
  have hn : (canon x ++ canon (outs x y)).Nodup := by
    rw [List.nodup_append]
    refine ⟨sorted_nodup (canon_sorted _), sorted_nodup (canon_sorted _), fun a ha b hb e => ?_⟩
    subst e
    rw [mem_canon] at ha hb
    exact ((mem_outs _ _ _).1 hb).2 ha
  have h : ∀ a, a ∈ canon (x ++ y) ↔ a ∈ canon x ++ canon (outs x y) := by
    intro a
    rw [List.mem_append, mem_canon, mem_canon, mem_canon, mem_outs, List.mem_append]
    constructor
    · rintro (h | h)
      · exact .inl h
      · by_cases hx : a ∈ x
        · exact .inl hx
        · exact .inr ⟨h, hx⟩
    · rintro (h | h)
      · exact .inl h
      · exact .inr h.1
  have h1 := nodup_len _ _ (sorted_nodup (canon_sorted (x ++ y))) (fun a ha => (h a).1 ha)
  have h2 := nodup_len _ _ hn (fun a ha => (h a).2 ha)
  rw [List.length_append] at h1 h2
  omega
/-- With, either way round. -/
theorem with_law (x y : List Int) : canon (canon (x ++ y)) = canon (canon (y ++ x)) := by
  rw [canon_idem, canon_idem]
  exact canon_ext (fun a => by simp [or_comm])
theorem all_both (x y : List Int) : y.all (fun z => (canon (x ++ y)).contains z) = true := by
  rw [List.all_eq_true]
  intro z hz
  rw [contains_iff, mem_canon]
  exact List.mem_append_right _ hz
theorem rest_any (x y : List Int) : y.any (fun z => (canon (outs y (canon (x ++ y)))).contains z) = false := by
  rw [List.any_eq_false]
  intro z hz
  rw [contains_iff, mem_canon, mem_outs]
  exact fun h => h.2 hz
theorem rest_law (x y : List Int) : canon (canon (outs y (canon (x ++ y)))) = canon (canon (outs y x)) := by
  rw [canon_idem, canon_idem]
  refine canon_ext (fun a => ?_)
  rw [mem_outs, mem_outs, mem_canon, List.mem_append]
  constructor
  · rintro ⟨h | h, h2⟩
    · exact ⟨h, h2⟩
    · exact absurd h h2
  · rintro ⟨h, h2⟩
    exact ⟨.inl h, h2⟩
theorem canon_nil : canon [] = [] := by simp [canon, Lib.compact, Lib.compactUpTo]
theorem none_left (b : List Int) : (canon (canon (outs b b))).length = 0 := by
  have : outs b b = [] := by
    rw [List.eq_nil_iff_forall_not_mem]
    intro a ha
    exact ((mem_outs _ _ _).1 ha).2 ((mem_outs _ _ _).1 ha).1
  rw [this, canon_nil, canon_nil]; rfl
theorem two_law : (canon (canon [4, 9, 4])).length = 2 := by
  have : canon (canon [4, 9, 4]) = [4, 9] := by
    refine sorted_ext _ _ (canon_sorted _) (by decide) (fun x => ?_)
    rw [mem_canon, mem_canon]
    simp only [List.mem_cons, List.not_mem_nil, or_false]
    constructor
    · rintro (h | h | h) <;> simp [h]
    · rintro (h | h) <;> simp [h]
  rw [this]; rfl
end Go.Proofs.YtgcnfebifopdnaaDoor
