/-
  What Show writes Rows reads as the very rows: plain.
-/
import Derived.Test.YtbhfkhfnljddhaaDoorSH0
import Derived.Test.YtbhfkhfnljddhaaDoorEnds2
import Derived.Test.YtbhfkhfnljddhaaDoorLines10
import Derived.Test.YtbhfkhfnljddhaaDoorRows3
namespace Go.Proofs.YtbhfkhfnljddhaaDoor
open Go.RowKit

theorem fit_parts (f : ByteArray) (b : Bool) (h : fitS f b = true) : f.data.toList ≠ [] ∧ sharp f = false ∧ (∀ x ∈ f.data.toList, blanks.contains x = false) ∧ (b = true → Lib.hasPrefix f.data.toList [239, 187, 191] = false) := by
  unfold fitS at h
  rw [Bool.and_eq_true, Bool.and_eq_true, Bool.and_eq_true] at h
  obtain ⟨h1, h2, h3, h4⟩ := h
  refine ⟨fun e => (by rw [e] at h1; cases h1), (by simpa using h2), fun x hx => ?_, fun hb => (by rw [hb] at h4; simpa using h4)⟩
  rw [Bool.not_eq_true', List.any_eq_false] at h3
  simpa using h3 x hx
theorem rowErr_fits (r : List ByteArray) : ∀ b, rowErr b r = 0 → ∀ f ∈ r, f.data.toList ≠ [] ∧ sharp f = false ∧ ∀ x ∈ f.data.toList, blanks.contains x = false := by
  induction r with
  | nil => intro b _ f hf; cases hf
  | cons a r ih =>
    intro b h f hf
    rw [rowErr] at h
    split at h
    · rename_i ha
      rcases List.mem_cons.1 hf with rfl | hf
      · obtain ⟨h1, h2, h3, _⟩ := fit_parts _ _ ha
        exact ⟨h1, h2, h3⟩
      · exact ih _ h f hf
    · cases h
theorem rowsErr_fits (rs : List (List ByteArray)) : ∀ b, rowsErr b rs = 0 → ∀ r ∈ rs, r ≠ [] ∧ ∀ f ∈ r, f.data.toList ≠ [] ∧ sharp f = false ∧ ∀ x ∈ f.data.toList, blanks.contains x = false := by
  induction rs with
  | nil => intro b _ f hf; cases hf
  | cons a r ih =>
    intro b h f hf
    rw [rowsErr] at h
    split at h
    · cases h
    · split at h
      · rename_i ha h0
        rcases List.mem_cons.1 hf with rfl | hf
        · exact ⟨ha, rowErr_fits _ _ h0⟩
        · exact ih _ h f hf
      · cases h
theorem rowsErr_first (f : ByteArray) (r : List ByteArray) (rs : List (List ByteArray)) (h : rowsErr true ((f :: r) :: rs) = 0) : Lib.hasPrefix f.data.toList [239, 187, 191] = false := by
  rw [rowsErr] at h
  split at h
  · cases h
  · split at h
    · rename_i h0
      rw [rowErr] at h0
      split at h0
      · rename_i hf
        exact (fit_parts _ _ hf).2.2.2 rfl
      · cases h0
    · cases h

def linesP (rs : List (List ByteArray)) : List (List UInt8 × Bool) := rs.map fun r => (lineOf r, false)
theorem ends_rows (rs : List (List ByteArray)) : endsText (linesP rs) = rowsText rs := by
  unfold endsText linesP rowsText
  rw [List.map_map, List.flatMap_def]
  rfl
theorem join_fields (x : List UInt8) (l : List (List UInt8)) (h : ∀ p ∈ x :: l, p ≠ [] ∧ ∀ b ∈ p, gapB b = false) : fgo (Lib.join (x :: l) [32]) none = x :: l := by
  rw [Lib.join_cons]
  induction l generalizing x with
  | nil =>
    obtain ⟨h1, h2⟩ := h x (by simp)
    cases x with
    | nil => exact absurd rfl h1
    | cons b p =>
      have e : Lib.joinTail [32] ([] : List (List UInt8)) = [] := rfl
      rw [e, List.cons_append, fgo_first _ _ (h2 b (by simp)), fgo_word p _ _ fun d hd => h2 d (by simp [hd])]
      rfl
  | cons y l ih =>
    have e : Lib.joinTail [32] (y :: l) = 32 :: (y ++ Lib.joinTail [32] l) := by simp [Lib.joinTail]
    obtain ⟨h1, h2⟩ := h x (by simp)
    rw [e, fgo_piece x _ h1 h2, ih y fun p hp => h p (by simp [hp])]
theorem blank_gap (b : UInt8) (h : blanks.contains b = false) : gapB b = false ∧ b ≠ 10 ∧ b ≠ 13 := by
  simp [blanks] at h
  refine ⟨?_, h.2.2.1, h.2.2.2⟩
  rw [gapB_eq, Bool.or_eq_false_iff, beq_eq_false_iff_ne, beq_eq_false_iff_ne]
  refine ⟨fun e => h.1 (UInt8.toNat_inj.1 ?_), fun e => h.2.1 (UInt8.toNat_inj.1 ?_)⟩
  · show b.toNat = 32; omega
  · show b.toNat = 9; omega
theorem line_fields (r : List ByteArray) (hr : r ≠ []) (h : ∀ f ∈ r, f.data.toList ≠ [] ∧ sharp f = false ∧ ∀ x ∈ f.data.toList, blanks.contains x = false) : fieldsS (mkS (lineOf r)) = r := by
  unfold fieldsS fieldsOf
  rw [mkS_data]
  cases r with
  | nil => exact absurd rfl hr
  | cons f r =>
    unfold lineOf
    rw [List.map_cons, join_fields]
    · show List.map mkS ((f :: r).map (·.data.toList)) = f :: r
      rw [List.map_map]
      conv => rhs; rw [← List.map_id (f :: r)]
      refine List.map_congr_left fun g _ => ?_
      obtain ⟨⟨l⟩⟩ := g
      rfl
    · intro p hp
      have hp : p ∈ (f :: r).map (·.data.toList) := hp
      obtain ⟨g, hg, rfl⟩ := List.mem_map.1 hp
      obtain ⟨h1, _, h3⟩ := h g hg
      exact ⟨h1, fun b hb => (blank_gap b (h3 b hb)).1⟩
theorem join_mem (l : List (List UInt8)) (b : UInt8) (h : b ∈ Lib.join l [32]) : b = 32 ∨ ∃ p ∈ l, b ∈ p := by
  cases l with
  | nil => simp [Lib.join_nil] at h
  | cons x l =>
    rw [Lib.join_cons] at h
    rcases List.mem_append.1 h with h | h
    · exact .inr ⟨x, by simp, h⟩
    · unfold Lib.joinTail at h
      obtain ⟨q, hq, hb⟩ := List.mem_flatten.1 h
      obtain ⟨p, hp, rfl⟩ := List.mem_map.1 hq
      rcases List.mem_append.1 hb with hb | hb
      · exact .inl (by simpa using hb)
      · exact .inr ⟨p, by simp [hp], hb⟩
theorem line_good (r : List ByteArray) (h : ∀ f ∈ r, f.data.toList ≠ [] ∧ sharp f = false ∧ ∀ x ∈ f.data.toList, blanks.contains x = false) : GoodLine (lineOf r) := by
  have hm : ∀ b ∈ lineOf r, b ≠ 10 ∧ b ≠ 13 := by
    intro b hb
    rcases join_mem _ _ hb with rfl | ⟨p, hp, hbp⟩
    · decide
    · obtain ⟨g, hg, rfl⟩ := List.mem_map.1 hp
      exact (blank_gap b ((h g hg).2.2 b hbp)).2
  refine ⟨fun h10 => (hm 10 h10).1 rfl, ?_⟩
  rcases List.eq_nil_or_concat (lineOf r) with e | ⟨m, a, e⟩
  · rw [e]; exact ended_nil
  · rw [List.concat_eq_append] at e
    rw [e, ended_some, if_neg]
    intro ha
    exact (hm a (by rw [e]; simp)).2 ha
/-- A mark at the line's beginning is one at the first field's. -/
theorem line_mark (f : ByteArray) (r : List ByteArray) (h : Lib.hasPrefix f.data.toList [239, 187, 191] = false) : Lib.hasPrefix (lineOf (f :: r)) [239, 187, 191] = false := by
  unfold lineOf
  rw [List.map_cons, Lib.join_cons]
  generalize hl : f.data.toList = l at *
  have ht : ∀ c ∈ (Lib.joinTail [32] (r.map (·.data.toList))).head?, c = 32 := by
    cases r with
    | nil => simp [Lib.joinTail]
    | cons g r => simp [Lib.joinTail]
  generalize Lib.joinTail [32] (r.map (·.data.toList)) = t at ht
  unfold Lib.hasPrefix at *
  match l, t with
  | [], [] => rfl
  | [], c :: t =>
    have := ht c rfl
    subst this; rfl
  | [a], [] => simpa using h
  | [a], c :: t =>
    have := ht c rfl
    subst this
    simp [List.isPrefixOf]
  | [a, b], [] => simpa using h
  | [a, b], c :: t =>
    have := ht c rfl
    subst this
    simp [List.isPrefixOf]
  | a :: b :: c :: l, t => simpa [List.isPrefixOf] using h

theorem rowsText_rows (rs : List (List ByteArray)) (n : Nat) (h : ∀ r ∈ rs, r ≠ [] ∧ ∀ f ∈ r, f.data.toList ≠ [] ∧ sharp f = false ∧ ∀ x ∈ f.data.toList, blanks.contains x = false)
    (hc : ∀ r ∈ rs, (lineOf r).length ≤ 65536) : rowsOf (numbered n (rs.map lineOf)) = ((List.range' n rs.length).zip rs).map (fun x => (((x.1 : Nat) : Int), x.2)) := by
  induction rs generalizing n with
  | nil => rfl
  | cons r rs ih =>
    obtain ⟨hr, hf⟩ := h r (by simp)
    have e : rowsOf (numbered n ((r :: rs).map lineOf)) = rowOf (n : Int) (clamp (mkS (lineOf r))) ++ rowsOf (numbered (n + 1) (rs.map lineOf)) := by
      simp [rowsOf, numbered]
    have e2 : rowOf (n : Int) (clamp (mkS (lineOf r))) = [((n : Int), r)] := by
      unfold clamp
      rw [if_pos (by rw [mkS_size]; exact hc r (by simp))]
      unfold rowOf
      rw [line_fields r hr hf, kept_all r (fun f hf' => (hf f hf').2.1), if_neg hr]
    rw [e, e2, ih (n + 1) (fun q hq => h q (by simp [hq])) (fun q hq => hc q (by simp [hq]))]
    simp [List.range'_succ]
/-- What Show writes Rows reads as the very rows, numbered from 1 on. -/
theorem back_rows (rs : List (List ByteArray)) (h : showErr rs = 0) : rowsOf (eachOf (rowsText rs)) = ((List.range' 1 rs.length).zip rs).map (fun x => (((x.1 : Nat) : Int), x.2)) ∧ (rowsText rs).length ≤ 65536 := by
  have h0 : rowsErr true rs = 0 := by
    unfold showErr at h
    by_cases e : rowsErr true rs = 0
    · exact e
    · rw [if_neg e] at h; exact h
  have hs : sumR rs ≤ 65536 := by
    unfold showErr at h
    rw [if_pos h0] at h
    split at h
    · cases h
    · omega
  have hf := rowsErr_fits rs true h0
  have hlen : (rowsText rs).length = sumR rs := by
    clear h h0 hs
    induction rs with
    | nil => rfl
    | cons r rs ih =>
      have e : rowsText (r :: rs) = rowText r ++ rowsText rs := by simp [rowsText]
      have e2 : sumR (r :: rs) = bulkS r + sumR rs := by simp [sumR]
      rw [e, e2, List.length_append, rowText_len r (hf r (by simp)).1, ih fun q hq => hf q (by simp [hq])]
  have hmark : Lib.hasPrefix (rowsText rs) [239, 187, 191] = false := by
    rw [← ends_rows]
    refine ends_nomark _ fun p r e => ?_
    cases rs with
    | nil => cases e
    | cons q rs =>
      unfold linesP at e
      rw [List.map_cons] at e
      injection e with e1 e2
      rw [← e1]
      cases q with
      | nil => exact absurd rfl (hf [] (by simp)).1
      | cons f q => exact line_mark f q (rowsErr_first f q rs h0)
  have hlines : linesOf (rowsText rs) = rs.map lineOf := by
    unfold linesOf unmarked Lib.trimPrefix
    rw [if_neg (by rw [hmark]; decide), ← ends_rows]
    rw [ends_lines (linesP rs) _ (fun p hp => ?_) (Nat.le_refl _)]
    · simp [linesP]
    · unfold linesP at hp
      obtain ⟨r, hr, rfl⟩ := List.mem_map.1 hp
      exact line_good r (hf r hr).2
  refine ⟨?_, by omega⟩
  unfold eachOf
  rw [if_neg (by omega), hlines]
  refine rowsText_rows rs 1 hf fun r hr => ?_
  have : lineOf r ∈ linesOf (rowsText rs) := by rw [hlines]; exact List.mem_map.2 ⟨r, hr, rfl⟩
  have := linesOf_each _ _ this
  omega
end Go.Proofs.YtbhfkhfnljddhaaDoor
