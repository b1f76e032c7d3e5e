/-
  A text made of lines that are each ended: its lines.
-/
import Derived.Test.YtbhfkhfnljddhaaDoorRows
import Derived.Test.YtbhfkhfnljddhaaDoorLines9
import Derived.Test.YtbhfkhfnljddhaaDoorEnds1
namespace Go.Proofs.YtbhfkhfnljddhaaDoor
open Go.RowKit

def lineEnd (p : List UInt8 × Bool) : List UInt8 := p.1 ++ ((if p.2 then [13] else []) ++ [10])
def endsText (ps : List (List UInt8 × Bool)) : List UInt8 := (ps.map lineEnd).flatten
theorem endsText_snoc (ps : List (List UInt8 × Bool)) (p : List UInt8 × Bool) : endsText (ps ++ [p]) = endsText ps ++ lineEnd p := by simp [endsText]
theorem endsText_cons (ps : List (List UInt8 × Bool)) (p : List UInt8 × Bool) : endsText (p :: ps) = lineEnd p ++ endsText ps := by simp [endsText]
def GoodLine (l : List UInt8) : Prop := (10 : UInt8) ∉ l ∧ ended l = l
theorem lineEnd_pos (p : List UInt8 × Bool) : 0 < (lineEnd p).length := by simp [lineEnd]; omega
theorem ends_len (ps : List (List UInt8 × Bool)) : ps.length ≤ (endsText ps).length := by
  induction ps with
  | nil => simp
  | cons p ps ih => have := lineEnd_pos p; rw [endsText_cons, List.length_append, List.length_cons]; omega
theorem ends_lines : ∀ (ps : List (List UInt8 × Bool)) (n : Nat), (∀ p ∈ ps, GoodLine p.1) → (endsText ps).length ≤ n → linesFrom n (endsText ps) = ps.map (·.1)
  | [], n, _, _ => by simp [endsText, linesFrom_nil]
  | (l, cr) :: ps, n, hg, hn => by
    have h1 := hg (l, cr) (by simp)
    have h2 : ∀ p ∈ ps, GoodLine p.1 := fun p hp => hg p (by simp [hp])
    rw [endsText_cons, List.length_append] at hn
    have hp := lineEnd_pos (l, cr)
    rw [endsText_cons, linesFrom_step _ _ (by intro h; rw [List.append_eq_nil_iff] at h; rw [h.1] at hp; simp at hp) (by rw [List.length_append]; exact hn)]
    have ih := ends_lines ps (n - 1) h2 (by omega)
    have e : lineEnd (l, cr) ++ endsText ps = (l ++ (if cr then [13] else [])) ++ 10 :: endsText ps := by simp [lineEnd]
    have h10 : (10 : UInt8) ∉ l ++ (if cr then [13] else []) := by
      have := h1.1
      cases cr <;> simp [this]
    rw [e, cut_at _ _ h10]
    simp only [List.map_cons, ih]
    congr 1
    cases cr
    · simpa using h1.2
    · simpa using ended_some l 13
theorem mark_ext (l r : List UInt8) (c : UInt8) (h : Lib.hasPrefix l [239, 187, 191] = false) (hc : c = 10 ∨ c = 13) : Lib.hasPrefix (l ++ c :: r) [239, 187, 191] = false := by
  unfold Lib.hasPrefix at h ⊢
  match l with
  | [] => rcases hc with rfl | rfl <;> simp [List.isPrefixOf]
  | [a] => rcases hc with rfl | rfl <;> simp [List.isPrefixOf]
  | [a, b] => rcases hc with rfl | rfl <;> simp [List.isPrefixOf]
  | a :: b :: d :: l => simpa [List.isPrefixOf] using h
theorem ends_nomark (ps : List (List UInt8 × Bool)) (h : ∀ p r, ps = p :: r → Lib.hasPrefix p.1 [239, 187, 191] = false) : Lib.hasPrefix (endsText ps) [239, 187, 191] = false := by
  cases ps with
  | nil => rfl
  | cons p ps =>
    have hp := h p ps rfl
    rw [endsText_cons]
    obtain ⟨l, cr⟩ := p
    cases cr
    · have e : lineEnd (l, false) ++ endsText ps = l ++ 10 :: endsText ps := by simp [lineEnd]
      rw [e]; exact mark_ext _ _ _ hp (.inl rfl)
    · have e : lineEnd (l, true) ++ endsText ps = l ++ 13 :: (10 :: endsText ps) := by simp [lineEnd]
      rw [e]; exact mark_ext _ _ _ hp (.inr rfl)
theorem ends_split (ps : List (List UInt8 × Bool)) (hg : ∀ p ∈ ps, GoodLine p.1) (h : ∀ p r, ps = p :: r → Lib.hasPrefix p.1 [239, 187, 191] = false) (hn : (endsText ps).length ≤ 65536) : splitS (mkS (endsText ps)) = (ps.map (·.1)).map mkS ∧ codeS (mkS (endsText ps)) = 0 := by
  have e : (mkS (endsText ps)).data.toList = endsText ps := rfl
  unfold splitS codeS
  rw [mkS_size, if_neg (by omega), if_neg (by omega), e, linesOf, unmarked, Lib.trimPrefix, ends_nomark ps h]
  exact ⟨by rw [if_neg (by simp), ends_lines ps _ hg (Nat.le_refl _)], rfl⟩
theorem ends_split_marked (ps : List (List UInt8 × Bool)) (hg : ∀ p ∈ ps, GoodLine p.1) (hn : (endsText ps).length ≤ 65533) : splitS (mkS ([239, 187, 191] ++ endsText ps)) = (ps.map (·.1)).map mkS ∧ codeS (mkS ([239, 187, 191] ++ endsText ps)) = 0 := by
  have e : (mkS ([239, 187, 191] ++ endsText ps)).data.toList = [239, 187, 191] ++ endsText ps := rfl
  have hp : Lib.hasPrefix ([239, 187, 191] ++ endsText ps) [239, 187, 191] = true := by simp [Lib.hasPrefix, List.isPrefixOf]
  have hl : ([239, 187, 191] ++ endsText ps).length = (endsText ps).length + 3 := by simp
  unfold splitS codeS
  rw [mkS_size, hl, if_neg (by omega), if_neg (by omega), e, linesOf, unmarked, Lib.trimPrefix, hp]
  refine ⟨?_, rfl⟩
  rw [if_pos rfl]
  have e2 : ([239, 187, 191] ++ endsText ps).drop ([239, 187, 191] : List UInt8).length = endsText ps := by simp
  rw [e2, ends_lines ps _ hg (by rw [hl]; omega)]
theorem plain_good (l : List UInt8) : GoodLine (plainOf l) := ⟨plain_no l, plain_last l⟩
end Go.Proofs.YtbhfkhfnljddhaaDoor
