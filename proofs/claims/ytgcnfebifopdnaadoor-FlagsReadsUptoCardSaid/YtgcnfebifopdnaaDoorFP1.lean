/-
  Plain: a text cut at its commas; pieces of one length; the flag that a piece writes.
-/
import Derived.Test.YtgcnfebifopdnaaDoorRows
import Derived.Test.YtgcnfebifopdnaaDoorLines2
import Derived.Lib.Split
namespace Go.Proofs.YtgcnfebifopdnaaDoor
open Go.RowKit

/-- The pieces between the commas of what is left, where 'cur' is the piece that is open. -/
def cgo (cur : List UInt8) : List UInt8 → List (List UInt8)
  | [] => [cur]
  | b :: l => if b.toNat = 44 then cur :: cgo [] l else cgo (cur ++ [b]) l
theorem index_comma_cons (b : UInt8) (l : List UInt8) : Lib.index (b :: l) [44] = if b.toNat = 44 then 0 else if Lib.index l [44] = -1 then -1 else Lib.index l [44] + 1 := by
  have e : (44 : UInt8) == b ↔ b.toNat = 44 := by
    rw [beq_iff_eq]
    constructor
    · rintro rfl; rfl
    · intro h; exact (UInt8.toNat_inj.1 (h.trans (by rfl))).symm
  by_cases h : b.toNat = 44
  · have h2 := e.2 h
    rw [if_pos h, Lib.index, if_pos (by simpa [List.isPrefixOf] using h2)]
  · have h2 : ¬ ((44 : UInt8) == b) = true := fun hh => h (e.1 hh)
    rw [if_neg h, Lib.index, if_neg (by simpa [List.isPrefixOf] using h2)]
    simp only [beq_iff_eq]
theorem cgo_index (l : List UInt8) : ∀ cur, (Lib.index l [44] = -1 ∧ cgo cur l = [cur ++ l]) ∨ ∃ i : Nat, Lib.index l [44] = i ∧ i < l.length ∧ cgo cur l = (cur ++ l.take i) :: cgo [] (l.drop (i + 1)) := by
  induction l with
  | nil => intro cur; exact .inl ⟨rfl, by simp [cgo]⟩
  | cons b l ih =>
    intro cur
    rw [index_comma_cons]
    by_cases h : b.toNat = 44
    · rw [if_pos h]
      exact .inr ⟨0, rfl, by simp, by simp [cgo, h]⟩
    · rw [if_neg h]
      rcases ih (cur ++ [b]) with ⟨h1, h2⟩ | ⟨i, h1, h2, h3⟩
      · exact .inl ⟨by rw [if_pos h1], by rw [cgo, if_neg h, h2]; simp⟩
      · refine .inr ⟨i + 1, by rw [h1, if_neg (by omega)]; omega, by simpa using h2, ?_⟩
        rw [cgo, if_neg h, h3]; simp
theorem splitK_comma : ∀ (n : Nat) (l : List UInt8), l.length ≤ n → Lib.splitK [44] 0 (Lib.count l [44]) l = cgo [] l
  | n, l, hn => by
    rcases cgo_index l [] with ⟨h1, h2⟩ | ⟨i, h1, h2, h3⟩
    · rw [Lib.count_miss h1, h2]; rfl
    · cases n with
      | zero => omega
      | succ n =>
        rw [Lib.count_hit (by simp) h1, Nat.add_comm 1, Lib.splitK, if_neg (by rw [h1]; simp), h1, h3]
        have := splitK_comma n (l.drop (i + 1)) (by simp; omega)
        simp only [List.length_cons, List.length_nil, Int.toNat_natCast, Nat.add_zero, Nat.zero_add, List.nil_append]
        rw [this]
/-- strings.Split at a comma. -/
theorem split_comma (s : ByteArray) : (Lib.splitB ⟨#[44]⟩ 0 (Lib.countB s ⟨#[44]⟩) s).map (·.data.toList) = cgo [] s.data.toList := by
  rw [Lib.splitB_data]
  exact splitK_comma _ _ (Nat.le_refl _)
theorem cgo_ne (l : List UInt8) : ∀ cur, cgo cur l ≠ [] := by
  induction l with
  | nil => intro cur; simp [cgo]
  | cons b l ih =>
    intro cur
    rw [cgo]
    split
    · simp
    · exact ih _
theorem cgo_len (l : List UInt8) : ∀ cur, (cgo cur l).length ≤ l.length + 1 := by
  induction l with
  | nil => intro cur; simp [cgo]
  | cons b l ih =>
    intro cur
    rw [cgo]
    split
    · have := ih []; simp; omega
    · have := ih (cur ++ [b]); simp; omega

/-- Pieces of k letters each, the last as long as it is. -/
def chop (k : Nat) : Nat → List UInt8 → List (List UInt8)
  | 0, _ => []
  | n + 1, l => if l = [] then [] else l.take k :: chop k n (l.drop k)
theorem chop_step (k n : Nat) (l : List UInt8) (h : l ≠ []) (hn : l.length ≤ n) : chop k n l = l.take k :: chop k (n - 1) (l.drop k) := by
  cases n with
  | zero => exact absurd (List.eq_nil_of_length_eq_zero (by omega)) h
  | succ n => rw [chop, if_neg h]; rfl
theorem chop_nil (k n : Nat) : chop k n [] = [] := by cases n <;> simp [chop]
theorem chop_fuel (k : Nat) (hk : 0 < k) : ∀ (n m : Nat) (l : List UInt8), l.length ≤ n → l.length ≤ m → chop k n l = chop k m l
  | 0, m, l, h1, _ => by
    have : l = [] := List.eq_nil_of_length_eq_zero (by omega)
    subst this; rw [chop_nil, chop_nil]
  | n + 1, m, l, h1, h2 => by
    by_cases h : l = []
    · subst h; rw [chop_nil, chop_nil]
    · have hp := List.length_pos_iff.2 h
      cases m with
      | zero => omega
      | succ m =>
        rw [chop, chop, if_neg h, if_neg h, chop_fuel k hk n m _ (by simp; omega) (by simp; omega)]
theorem chop_len (k : Nat) : ∀ (n : Nat) (l : List UInt8), (chop k n l).length ≤ n
  | 0, _ => by simp [chop]
  | n + 1, l => by
    rw [chop]
    split
    · simp
    · have := chop_len k n (l.drop k); simp; omega
/-- The pieces of a text of this kind. -/
def piecesOf (kind : Int) (l : List UInt8) : List (List UInt8) := if kind = 3 then cgo [] l else chop kind.toNat l.length l
theorem piecesOf_len (kind : Int) (l : List UInt8) : (piecesOf kind l).length ≤ l.length + 1 := by
  unfold piecesOf
  split
  · exact cgo_len _ _
  · have := chop_len kind.toNat l.length l; omega

/-- May the byte stand in a flag? -/
def signB (b : UInt8) : Bool := decide (32 < b.toNat ∧ b.toNat < 127 ∧ b.toNat ≠ 47 ∧ b.toNat ≠ 44 ∧ b.toNat ≠ 35)
/-- The flag that the piece writes, 0 if none. -/
def numF (kind : Int) (l : List UInt8) : Int :=
  if kind = 1 then (match l with | [a] => if signB a = true then a.toNat else 0 | _ => 0)
  else if kind = 2 then (match l with | [a, b] => if signB a = true ∧ signB b = true then a.toNat * 256 + b.toNat else 0 | _ => 0)
  else numVal l 65535
theorem numVal_bd (l : List UInt8) (m : Int) (hm : 0 ≤ m) : 0 ≤ numVal l m ∧ numVal l m ≤ m := by
  unfold numVal
  split
  · rename_i h; exact ⟨by omega, h.2⟩
  · omega
theorem numF_bd (kind : Int) (l : List UInt8) : 0 ≤ numF kind l ∧ numF kind l ≤ 65535 := by
  unfold numF
  split
  · split
    · rename_i a
      have := a.toNat_lt
      split <;> omega
    · omega
  · split
    · split
      · rename_i a b
        have := a.toNat_lt
        have := b.toNat_lt
        split <;> omega
      · omega
    · exact numVal_bd _ _ (by omega)
end Go.Proofs.YtgcnfebifopdnaaDoor
