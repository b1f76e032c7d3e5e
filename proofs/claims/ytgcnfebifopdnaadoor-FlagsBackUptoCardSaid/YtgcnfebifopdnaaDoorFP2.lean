/-
  Plain: the text of a flag, the text of a set; what is written is read again.
-/
import Derived.Test.YtgcnfebifopdnaaDoorRows
import Derived.Test.YtgcnfebifopdnaaDoorFR11
import Derived.Test.YtgcnfebifopdnaaDoorLinesD
import Derived.Lib.Join
namespace Go.Proofs.YtgcnfebifopdnaaDoor
open Go.RowKit

/-- The text of one flag. -/
def textF (kind x : Int) : List UInt8 :=
  if kind = 1 then [UInt8.ofNat (x.toNat % 256)] else if kind = 2 then [UInt8.ofNat (x.toNat / 256), UInt8.ofNat (x.toNat % 256)] else Lib.decDigits x.toNat
/-- Is it a flag of the kind? -/
def goodF (kind x : Int) : Bool := decide (numF kind (textF kind x) = x ∧ x ≠ 0)
def sepF (kind : Int) : List UInt8 := if kind = 3 then [44] else []
/-- The text of these flags. -/
def joinF (kind : Int) (cs : List Int) : List UInt8 := Lib.join (cs.map (textF kind)) (sepF kind)
/-- What Show answers. -/
def showF (kind : Int) (cs : List Int) : List UInt8 × Int :=
  if kindOk kind = false then ([], 30)
  else if cs.all (goodF kind) = false then ([], 31)
  else if 64 < cs.length then ([], 32)
  else (joinF kind cs, 0)

theorem textF_1 (x : Int) : textF 1 x = [UInt8.ofNat (x.toNat % 256)] := rfl
theorem textF_2 (x : Int) : textF 2 x = [UInt8.ofNat (x.toNat / 256), UInt8.ofNat (x.toNat % 256)] := rfl
theorem textF_3 (x : Int) : textF 3 x = Lib.decDigits x.toNat := rfl
theorem of_nat (n : Nat) (h : n < 256) : (UInt8.ofNat n).toNat = n := by rw [UInt8.toNat_ofNat']; omega
theorem num_1 (x : Int) (h0 : 0 ≤ x) (h1 : x ≤ 255) : numF 1 (textF 1 x) = 0 ∨ numF 1 (textF 1 x) = x := by
  rw [textF_1, numF_1]
  split
  · rw [of_nat _ (by omega)]; right; omega
  · exact .inl rfl
theorem num_1_big (x : Int) (h1 : 255 < x) : goodF 1 x = false := by
  unfold goodF
  rw [textF_1, numF_1, decide_eq_false_iff_not]
  rintro ⟨h, -⟩
  have hl := UInt8.toNat_lt (UInt8.ofNat (x.toNat % 256))
  split at h <;> omega
theorem num_2 (x : Int) (h0 : 0 ≤ x) (h1 : x ≤ 65535) : numF 2 (textF 2 x) = 0 ∨ numF 2 (textF 2 x) = x := by
  rw [textF_2, numF_2]
  split
  · rw [of_nat _ (by omega), of_nat _ (by omega)]; right; omega
  · exact .inl rfl
theorem num_3 (x : Int) (h0 : 0 ≤ x) (h1 : x ≤ 65535) : numF 3 (textF 3 x) = x := by
  obtain ⟨h2, h3⟩ := num_dec x.toNat
  rw [textF_3, numF_3, numVal, if_pos ⟨h2, by rw [h3]; omega⟩, h3]
  omega
/-- What a piece writes is a flag of the kind. -/
theorem good_num (kind : Int) (hk : kind = 1 ∨ kind = 2 ∨ kind = 3) (l : List UInt8) (h : numF kind l ≠ 0) : goodF kind (numF kind l) = true := by
  unfold goodF
  rw [decide_eq_true_eq]
  refine ⟨?_, h⟩
  obtain ⟨b0, b1⟩ := numF_bd kind l
  rcases hk with rfl | rfl | rfl
  · obtain ⟨a, rfl⟩ : ∃ a, l = [a] := by
      match l with
      | [a] => exact ⟨a, rfl⟩
      | [] => exact absurd (numF1_no [] (by simp)) h
      | a :: b :: r => exact absurd (numF1_no (a :: b :: r) (by simp)) h
    rw [numF_1] at h ⊢
    have hs : signB a = true := by
      cases hq : signB a
      · rw [hq] at h; simp at h
      · rfl
    rw [if_pos hs, textF_1]
    have := a.toNat_lt
    rw [show ((a.toNat : Int)).toNat % 256 = a.toNat by omega, UInt8.ofNat_toNat, numF_1, if_pos hs]
  · obtain ⟨a, b, rfl⟩ : ∃ a b, l = [a, b] := by
      match l with
      | [a, b] => exact ⟨a, b, rfl⟩
      | [] => exact absurd (numF2_no [] (by simp)) h
      | [a] => exact absurd (numF2_no [a] (by simp)) h
      | a :: b :: c :: r => exact absurd (numF2_no (a :: b :: c :: r) (by simp)) h
    rw [numF_2] at h ⊢
    have hs : signB a = true ∧ signB b = true := by
      cases hq : signB a <;> cases hq2 : signB b <;> simp [hq, hq2] at h ⊢
    rw [if_pos hs, textF_2]
    have := a.toNat_lt
    have := b.toNat_lt
    rw [show ((a.toNat : Int) * 256 + b.toNat).toNat / 256 = a.toNat by omega, show ((a.toNat : Int) * 256 + b.toNat).toNat % 256 = b.toNat by omega, UInt8.ofNat_toNat, UInt8.ofNat_toNat, numF_2, if_pos hs]
  · exact num_3 _ b0 b1
theorem good_bad (kind x : Int) (h : numF kind (textF kind x) = 0) : goodF kind x = false := by
  unfold goodF
  rw [h, decide_eq_false_iff_not]
  rintro ⟨h1, h2⟩
  exact h2 h1.symm
theorem good_is (kind x : Int) (h : numF kind (textF kind x) = x) (h0 : x ≠ 0) : goodF kind x = true := by
  unfold goodF
  rw [decide_eq_true_eq]
  exact ⟨h, h0⟩

/-! ### What is written is read again -/
theorem cgo_none (l : List UInt8) : ∀ cur, (∀ b ∈ l, b.toNat ≠ 44) → cgo cur l = [cur ++ l] := by
  induction l with
  | nil => intro cur _; simp [cgo]
  | cons b l ih =>
    intro cur h
    rw [cgo, if_neg (h b (by simp)), ih _ (fun x hx => h x (by simp [hx]))]
    simp
theorem cgo_piece1 (l r : List UInt8) : ∀ cur, (∀ b ∈ l, b.toNat ≠ 44) → cgo cur (l ++ 44 :: r) = (cur ++ l) :: cgo [] r := by
  induction l with
  | nil => intro cur _; simp [cgo]
  | cons b l ih =>
    intro cur h
    rw [List.cons_append, cgo, if_neg (h b (by simp)), ih _ (fun x hx => h x (by simp [hx]))]
    simp
theorem cgo_join (ls : List (List UInt8)) : ∀ l, (∀ p ∈ l :: ls, ∀ b ∈ p, b.toNat ≠ 44) → cgo [] (Lib.join (l :: ls) [44]) = l :: ls := by
  induction ls with
  | nil => intro l h; rw [Lib.join_one, cgo_none _ _ (h l (by simp))]; rfl
  | cons m ls ih =>
    intro l h
    have e : Lib.join (l :: m :: ls) [44] = l ++ 44 :: Lib.join (m :: ls) [44] := by
      rw [Lib.join_cons, Lib.join_cons]
      simp [Lib.joinTail]
    rw [e, cgo_piece1 _ _ _ (h l (by simp)), ih m (fun p hp => h p (List.mem_cons_of_mem _ hp))]
    rfl
theorem chop_join (k : Nat) (hk : 0 < k) (ls : List (List UInt8)) : ∀ n, ls.flatten.length ≤ n → (∀ p ∈ ls, p.length = k) → chop k n ls.flatten = ls := by
  induction ls with
  | nil => intro n _ _; exact chop_nil k n
  | cons l ls ih =>
    intro n hn h
    have hl := h l (by simp)
    have hne : (l :: ls).flatten ≠ [] := by
      intro e
      have := congrArg List.length e
      rw [List.flatten_cons, List.length_append] at this
      simp only [List.length_nil] at this
      omega
    rw [chop_step k n _ hne hn]
    rw [List.flatten_cons]
    rw [List.flatten_cons, List.length_append] at hn
    rw [List.take_append_of_le_length (by omega), List.take_of_length_le (by omega), List.drop_append_of_le_length (by omega), List.drop_of_length_le (by omega), List.nil_append, ih _ (by omega) (fun p hp => h p (by simp [hp]))]
theorem joinTail_nil (ls : List (List UInt8)) : Lib.joinTail [] ls = ls.flatten := by simp [Lib.joinTail]
theorem join_flat (ls : List (List UInt8)) : Lib.join ls [] = ls.flatten := by
  cases ls with
  | nil => rfl
  | cons l ls => rw [Lib.join_cons, joinTail_nil]; rfl
theorem digits_no_comma (u : Nat) : ∀ b ∈ Lib.decDigits u, b.toNat ≠ 44 := by
  intro b hb h
  have h1 := (dec_val u).2.1
  have h2 := List.all_eq_true.1 h1 b hb
  unfold digB at h2
  rw [decide_eq_true_eq] at h2
  omega
theorem pieces_join (kind : Int) (hk : kind = 1 ∨ kind = 2 ∨ kind = 3) (cs : List Int) (hne : cs ≠ []) : piecesOf kind (joinF kind cs) = cs.map (textF kind) := by
  unfold joinF
  rcases hk with rfl | rfl | rfl
  · rw [show sepF 1 = [] from rfl, join_flat]
    exact chop_join 1 (by decide) _ _ (Nat.le_refl _) (fun p hp => by obtain ⟨x, -, rfl⟩ := List.mem_map.1 hp; rfl)
  · rw [show sepF 2 = [] from rfl, join_flat]
    exact chop_join 2 (by decide) _ _ (Nat.le_refl _) (fun p hp => by obtain ⟨x, -, rfl⟩ := List.mem_map.1 hp; rfl)
  · rw [show sepF 3 = [44] from rfl]
    cases cs with
    | nil => exact absurd rfl hne
    | cons c cs =>
      rw [List.map_cons]
      exact cgo_join _ _ (fun p hp b hb => by
        rw [← List.map_cons (f := textF 3)] at hp
        obtain ⟨x, -, rfl⟩ := List.mem_map.1 hp
        exact digits_no_comma _ b hb)
theorem text_ne (kind x : Int) : textF kind x ≠ [] := by
  unfold textF
  split
  · simp
  · split
    · simp
    · exact (dec_val x.toNat).2.2.1
theorem joinF_ne (kind : Int) (cs : List Int) (hne : cs ≠ []) : joinF kind cs ≠ [] := by
  unfold joinF
  cases cs with
  | nil => exact absurd rfl hne
  | cons c cs =>
    rw [List.map_cons, Lib.join_cons]
    simp [text_ne]
theorem nums_join (kind : Int) (hk : kind = 1 ∨ kind = 2 ∨ kind = 3) (cs : List Int) (hne : cs ≠ []) (hg : cs.all (goodF kind) = true) : numsF kind (joinF kind cs) = cs := by
  unfold numsF
  rw [pieces_join kind hk cs hne, List.map_map]
  conv => rhs; rw [← List.map_id cs]
  refine List.map_congr_left (fun x hx => ?_)
  have := List.all_eq_true.1 hg x hx
  unfold goodF at this
  rw [decide_eq_true_eq] at this
  exact this.1
theorem kindOk_of {kind : Int} (hk : kind = 1 ∨ kind = 2 ∨ kind = 3) : kindOk kind = true := by rcases hk with rfl | rfl | rfl <;> rfl
/-- What Show writes Read reads as the set. -/
theorem read_join (kind : Int) (hk : kind = 1 ∨ kind = 2 ∨ kind = 3) (cs : List Int) (hne : cs ≠ []) (hg : cs.all (goodF kind) = true) (hl : cs.length ≤ 64) : readF kind (joinF kind cs) = (canon cs, 0) := by
  unfold readF
  rw [kindOk_of hk, nums_join kind hk cs hne hg, if_neg (by simp), if_neg (joinF_ne kind cs hne), if_neg, if_neg (by omega)]
  intro h
  have h0 := List.all_eq_true.1 hg 0 ((contains_iff _ _).1 h)
  unfold goodF at h0
  simp at h0
/-- What Read reads, where it reads a set: flags of the kind, in order, some. -/
theorem readF_good (kind : Int) (l : List UInt8) (h : (readF kind l).2 = 0) :
    (kind = 1 ∨ kind = 2 ∨ kind = 3) ∧ (readF kind l).1 ≠ [] ∧ (readF kind l).1.all (goodF kind) = true ∧ canon (readF kind l).1 = (readF kind l).1 := by
  rcases kind_cases kind with ⟨hk, hk3⟩ | ⟨hk, -⟩
  · refine ⟨hk3, ?_⟩
    unfold readF at h ⊢
    rw [if_neg (by rw [hk]; simp)] at h ⊢
    by_cases h1 : l = []
    · rw [if_pos h1] at h; simp at h
    · rw [if_neg h1] at h ⊢
      by_cases h2 : (numsF kind l).contains 0 = true
      · rw [if_pos h2] at h; simp at h
      · rw [if_neg h2] at h ⊢
        by_cases h3 : 64 < (numsF kind l).length
        · rw [if_pos h3] at h; simp at h
        · rw [if_neg h3]
          refine ⟨?_, ?_, canon_idem _⟩
          · intro e
            have hp : numsF kind l ≠ [] := by
              unfold numsF
              intro e2
              have e3 := List.map_eq_nil_iff.1 e2
              unfold piecesOf at e3
              split at e3
              · exact cgo_ne _ _ e3
              · rw [chop_step kind.toNat l.length l h1 (Nat.le_refl _)] at e3
                simp at e3
            obtain ⟨x, r, hx⟩ := List.exists_cons_of_ne_nil hp
            have : x ∈ canon (numsF kind l) := (mem_canon _ _).2 (by rw [hx]; simp)
            rw [show canon (numsF kind l) = [] from e] at this
            simp at this
          · rw [List.all_eq_true]
            intro x hx
            have hx2 := (mem_canon _ _).1 hx
            have h0 : x ≠ 0 := fun e => h2 ((contains_iff _ _).2 (e ▸ hx2))
            obtain ⟨p, -, rfl⟩ := List.mem_map.1 hx2
            exact good_num kind hk3 p h0
  · unfold readF at h
    rw [if_pos hk] at h
    simp at h
end Go.Proofs.YtgcnfebifopdnaaDoor
