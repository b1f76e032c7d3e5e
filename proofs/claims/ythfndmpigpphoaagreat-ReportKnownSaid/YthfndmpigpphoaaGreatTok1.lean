/-
  Words of a text, with no program in sight: which bytes belong to a word, where a word ends, the words of a line, those of a text; and what holds of them.
-/
import Derived.Test.YthfndmpigpphoaaGreatRows
import Derived.Test.YthfndmpigpphoaaGreatEach
import Derived.Test.YthfndmpigpphoaaGreatKA
namespace Go.Proofs.YthfndmpigpphoaaGreat

def letterB (b : UInt8) : Bool := (97 ≤ b && b ≤ 122) || (65 ≤ b && b ≤ 90) || 128 ≤ b
/-- Does the byte at place i belong to a word? -/
def belongs (L : List UInt8) (i : Nat) : Bool := letterB (byteAt L i) || (byteAt L i == 39 && decide (0 < i) && letterB (byteAt L (i + 1)) && letterB (byteAt L (i - 1)))
def endF (L : List UInt8) : Nat → Nat → Nat
  | 0, i => i
  | f + 1, i => if i < L.length ∧ belongs L i = true then endF L f (i + 1) else i
def endOf (L : List UInt8) (i : Nat) : Nat := endF L (L.length - i) i
def wordsF (L : List UInt8) : Nat → Nat → List (Nat × Nat)
  | 0, _ => []
  | f + 1, i => if i < L.length then (if letterB (byteAt L i) then (i, endOf L i) :: wordsF L f (endOf L i) else wordsF L f (i + 1)) else []

theorem letter0 : letterB 0 = false := by decide
theorem letter_lt {L : List UInt8} {i : Nat} (h : letterB (byteAt L i) = true) : i < L.length := by
  rcases Nat.lt_or_ge i L.length with h1 | h1
  · exact h1
  · rw [byteAt_beyond L i h1, letter0] at h; cases h

/-- Where a word that stands at i ends. -/
structure IsEnd (L : List UInt8) (i k : Nat) : Prop where
  le : i ≤ k
  top : k ≤ L.length
  all : ∀ j, i ≤ j → j < k → belongs L j = true
  stop : k < L.length → belongs L k = false
theorem IsEnd.unique {L : List UInt8} {i k m : Nat} (h : IsEnd L i k) (h' : IsEnd L i m) : k = m := by
  rcases Nat.lt_trichotomy k m with h1 | h1 | h1
  · have := h'.all k h.le h1
    rw [h.stop (by have := h'.top; omega)] at this; cases this
  · exact h1
  · have := h.all m h'.le h1
    rw [h'.stop (by have := h.top; omega)] at this; cases this
theorem endF_is (L : List UInt8) : ∀ (f i : Nat), L.length - i ≤ f → i ≤ L.length → IsEnd L i (endF L f i)
  | 0, i, hf, hi => ⟨Nat.le_refl _, by simp only [endF]; omega, fun j h1 h2 => by simp only [endF] at h2; omega, fun h => by simp only [endF] at h; omega⟩
  | f + 1, i, hf, hi => by
    by_cases hc : i < L.length ∧ belongs L i = true
    · have e : endF L (f + 1) i = endF L f (i + 1) := by simp only [endF]; rw [if_pos hc]
      have ih := endF_is L f (i + 1) (by omega) (by omega)
      rw [e]
      refine ⟨by have := ih.le; omega, ih.top, fun j h1 h2 => ?_, ih.stop⟩
      rcases Nat.lt_or_ge i j with h3 | h3
      · exact ih.all j h3 h2
      · have : j = i := by omega
        rw [this]; exact hc.2
    · have e : endF L (f + 1) i = i := by simp only [endF]; rw [if_neg hc]
      rw [e]
      refine ⟨Nat.le_refl _, hi, fun j h1 h2 => by omega, fun h => ?_⟩
      cases hb : belongs L i
      · rfl
      · exact absurd ⟨h, hb⟩ hc
theorem endOf_is (L : List UInt8) (i : Nat) (h : i ≤ L.length) : IsEnd L i (endOf L i) := endF_is L _ i (Nat.le_refl _) h
theorem endOf_lt (L : List UInt8) (i : Nat) (h : letterB (byteAt L i) = true) : i < endOf L i := by
  have hi := letter_lt h
  have he := endOf_is L i (by omega)
  rcases Nat.lt_or_ge i (endOf L i) with h1 | h1
  · exact h1
  · have e : endOf L i = i := by have := he.le; omega
    have := he.stop (by omega)
    rw [e] at this
    unfold belongs at this
    rw [h] at this; simp at this

/-- What holds of a word from i to k in a line or in a text. -/
structure Word (L : List UInt8) (i k : Nat) : Prop where
  lt : i < k
  top : k ≤ L.length
  head : letterB (byteAt L i) = true
  last : letterB (byteAt L (k - 1)) = true
  over : letterB (byteAt L k) = false
  inner : ∀ j, i ≤ j → j < k → letterB (byteAt L j) = true ∨ (byteAt L j = 39 ∧ i < j ∧ letterB (byteAt L (j - 1)) = true ∧ letterB (byteAt L (j + 1)) = true ∧ j + 1 < k)
  long : ¬ (byteAt L k = 39 ∧ letterB (byteAt L (k + 1)) = true)

theorem belongs_letter {L : List UInt8} {i : Nat} (h : letterB (byteAt L i) = true) : belongs L i = true := by unfold belongs; rw [h]; rfl
theorem belongs_cases {L : List UInt8} {i : Nat} (h : belongs L i = true) : letterB (byteAt L i) = true ∨ (byteAt L i = 39 ∧ 0 < i ∧ letterB (byteAt L (i + 1)) = true ∧ letterB (byteAt L (i - 1)) = true) := by
  unfold belongs at h
  simp only [Bool.or_eq_true, Bool.and_eq_true, beq_iff_eq, decide_eq_true_eq] at h
  rcases h with h | ⟨⟨⟨a, b⟩, c⟩, d⟩
  · exact .inl h
  · exact .inr ⟨a, b, c, d⟩
theorem word_of (L : List UInt8) (i : Nat) (h : letterB (byteAt L i) = true) : Word L i (endOf L i) := by
  have hi := letter_lt h
  have he := endOf_is L i (by omega)
  have hlt := endOf_lt L i h
  have hover : letterB (byteAt L (endOf L i)) = false := by
    cases hb : letterB (byteAt L (endOf L i))
    · rfl
    · have := he.stop (letter_lt hb)
      rw [belongs_letter hb] at this; cases this
  have hlast : letterB (byteAt L (endOf L i - 1)) = true := by
    rcases belongs_cases (he.all (endOf L i - 1) (by omega) (by omega)) with h1 | ⟨_, _, h1, _⟩
    · exact h1
    · rw [show endOf L i - 1 + 1 = endOf L i by omega, hover] at h1; cases h1
  refine ⟨hlt, he.top, h, hlast, hover, fun j h1 h2 => ?_, fun ⟨h1, h2⟩ => ?_⟩
  · rcases belongs_cases (he.all j h1 h2) with h3 | ⟨h3, h4, h5, h6⟩
    · exact .inl h3
    · refine .inr ⟨h3, ?_, h6, h5, ?_⟩
      · rcases Nat.lt_or_ge i j with g | g
        · exact g
        · have : j = i := by omega
          rw [this] at h3; rw [h3] at h; exact absurd h (by decide)
      · rcases Nat.lt_or_ge (j + 1) (endOf L i) with g | g
        · exact g
        · have : j + 1 = endOf L i := by omega
          rw [this, hover] at h5; cases h5
  · have hk : endOf L i < L.length := by have := letter_lt h2; omega
    have := he.stop hk
    unfold belongs at this
    rw [h1, h2, hlast] at this
    simp at this; omega

/-- No letters from a to b. -/
def Clear (L : List UInt8) (a b : Nat) : Prop := ∀ j, a ≤ j → j < b → letterB (byteAt L j) = false
/-- The words of a line, one behind another from p on, and no letter outside them up to q. -/
def Spaced (L : List UInt8) (q : Nat) : Nat → List (Nat × Nat) → Prop
  | p, [] => Clear L p q
  | p, (i, k) :: r => p ≤ i ∧ Clear L p i ∧ Word L i k ∧ k ≤ q ∧ Spaced L q k r
theorem Clear.step {L : List UInt8} {a b : Nat} (h : letterB (byteAt L a) = false) (hc : Clear L (a + 1) b) : Clear L a b := by
  intro j h1 h2
  rcases Nat.lt_or_ge a j with g | g
  · exact hc j g h2
  · have : j = a := by omega
    rw [this]; exact h
theorem Spaced.step {L : List UInt8} {q a : Nat} (h : letterB (byteAt L a) = false) : ∀ {r : List (Nat × Nat)}, Spaced L q (a + 1) r → Spaced L q a r
  | [], hc => Clear.step h hc
  | (i, k) :: r, ⟨h1, h2, h3, h4, h5⟩ => ⟨by omega, Clear.step h h2, h3, h4, h5⟩
theorem words_spaced (L : List UInt8) : ∀ (f i : Nat), L.length - i ≤ f → Spaced L L.length i (wordsF L f i)
  | 0, i, hf => fun j h1 h2 => by omega
  | f + 1, i, hf => by
    by_cases hi : i < L.length
    · cases hb : letterB (byteAt L i)
      · have e : wordsF L (f + 1) i = wordsF L f (i + 1) := by simp [wordsF, hi, hb]
        rw [e]
        exact Spaced.step hb (words_spaced L f (i + 1) (by omega))
      · have e : wordsF L (f + 1) i = (i, endOf L i) :: wordsF L f (endOf L i) := by simp [wordsF, hi, hb]
        have hl := endOf_lt L i hb
        rw [e]
        exact ⟨Nat.le_refl _, fun j h1 h2 => by omega, word_of L i hb, (endOf_is L i (by omega)).top, words_spaced L f (endOf L i) (by omega)⟩
    · have e : wordsF L (f + 1) i = [] := by simp [wordsF, hi]
      rw [e]
      intro j h1 h2; omega

theorem index_byte (c : UInt8) : ∀ l : List UInt8, Lib.index l [c] = Lib.indexByte l c
  | [] => by simp [Lib.index, Lib.indexByte]
  | b :: l => by
    have ih := index_byte c l
    have e : ([c] : List UInt8).isPrefixOf (b :: l) = (b == c) := by
      rw [Bool.eq_iff_iff]; simp [List.isPrefixOf]; exact ⟨fun h => h.symm, fun h => h.symm⟩
    simp only [Lib.index, Lib.indexByte, e, ih]
theorem indexByte_cases (c : UInt8) : ∀ l : List UInt8, (∃ m r, l = m ++ c :: r ∧ c ∉ m ∧ Lib.indexByte l c = (m.length : Int)) ∨ (c ∉ l ∧ Lib.indexByte l c = -1)
  | [] => .inr ⟨by simp, rfl⟩
  | b :: l => by
    by_cases hb : b = c
    · exact .inl ⟨[], l, by simp [hb], by simp, by simp [Lib.indexByte, hb]⟩
    · have hb' : (b == c) = false := by simp [hb]
      rcases indexByte_cases c l with ⟨m, r, rfl, h2, h3⟩ | ⟨h1, h2⟩
      · refine .inl ⟨b :: m, r, rfl, (by simp [h2]; exact fun h => hb h.symm), ?_⟩
        have : ((m.length : Int) == -1) = false := by rw [beq_eq_false_iff_ne]; omega
        simp [Lib.indexByte, hb', h3, this, List.length_cons]
      · refine .inr ⟨by simp [h1]; exact fun h => hb h.symm, ?_⟩
        simp [Lib.indexByte, hb', h2]
theorem cut_cases (l : List UInt8) : (∃ m r, l = m ++ 10 :: r ∧ 10 ∉ m ∧ Lib.cut l [10] = (m, r, true) ∧ Lib.indexByte l 10 = (m.length : Int)) ∨ (10 ∉ l ∧ Lib.cut l [10] = (l, [], false) ∧ Lib.indexByte l 10 = -1) := by
  unfold Lib.cut
  rw [index_byte]
  rcases indexByte_cases 10 l with ⟨m, r, rfl, h2, h3⟩ | ⟨h1, h2⟩
  · refine .inl ⟨m, r, rfl, h2, ?_, h3⟩
    rw [h3, if_pos (by omega)]
    simp
  · refine .inr ⟨h1, ?_, h2⟩
    rw [h2, if_neg (by omega)]

/-- Where the next line begins. -/
def nextAt (T : List UInt8) (a : Nat) : Nat := if 0 ≤ Lib.indexByte (T.drop a) 10 then a + (Lib.indexByte (T.drop a) 10).toNat + 1 else a
/-- A word with its line, its column, its place. -/
structure Tok where
  line : Int
  col : Nat
  pos : Nat
  word : List UInt8
def tokOf (cols : List UInt8 → List Nat) (n : Int) (a : Nat) (L : List UInt8) (p : Nat × Nat) : Tok := ⟨n, (cols L).getD p.1 0, a + p.1, (L.take p.2).drop p.1⟩
def lineToks (cols : List UInt8 → List Nat) (n : Int) (a : Nat) (L : List UInt8) : List Tok := (wordsF L L.length 0).map (tokOf cols n a L)
/-- The words of lines that are handed over one by one, of the text T, the first of them at the place a. -/
def toks (cols : List UInt8 → List Nat) (T : List UInt8) : Nat → List (Int × List UInt8) → List Tok
  | _, [] => []
  | a, (n, L) :: r => lineToks cols n a L ++ toks cols T (nextAt T a) r
def lastAt (T : List UInt8) : Nat → List (Int × List UInt8) → Nat
  | a, [] => a
  | a, _ :: r => lastAt T (nextAt T a) r
theorem toks_snoc (cols : List UInt8 → List Nat) (T : List UInt8) : ∀ (a : Nat) (r : List (Int × List UInt8)) (x : Int × List UInt8), toks cols T a (r ++ [x]) = toks cols T a r ++ lineToks cols x.1 (lastAt T a r) x.2
  | a, [], x => by simp [toks, lastAt]
  | a, (n, L) :: r, x => by simp only [List.cons_append, toks, lastAt, toks_snoc cols T _ r x, List.append_assoc]
theorem lastAt_snoc (T : List UInt8) : ∀ (a : Nat) (r : List (Int × List UInt8)) (x : Int × List UInt8), lastAt T a (r ++ [x]) = nextAt T (lastAt T a r)
  | a, [], x => rfl
  | a, (n, L) :: r, x => by simp only [List.cons_append, lastAt, lastAt_snoc T _ r x]

/-- What holds of a word of a text. -/
structure Good (T : List UInt8) (t : Tok) : Prop where
  word : Word T t.pos (t.pos + t.word.length)
  is : t.word = (T.drop t.pos).take t.word.length
  col : 1 ≤ t.col
  line : t.line = 1 + ((T.take t.pos).count 10 : Nat)
def TSpaced (T : List UInt8) : Nat → List Tok → Prop
  | p, [] => Clear T p T.length
  | p, t :: r => p ≤ t.pos ∧ Clear T p t.pos ∧ Good T t ∧ TSpaced T (t.pos + t.word.length) r
theorem Clear.join {T : List UInt8} {a b c : Nat} (h : Clear T a b) (h' : Clear T b c) : Clear T a c := by
  intro j h1 h2
  rcases Nat.lt_or_ge j b with g | g
  · exact h j h1 g
  · exact h' j g h2
theorem TSpaced.back {T : List UInt8} {a b : Nat} (hab : a ≤ b) (h : Clear T a b) : ∀ {r : List Tok}, TSpaced T b r → TSpaced T a r
  | [], hc => h.join hc
  | t :: r, ⟨h1, h2, h3, h4⟩ => ⟨by omega, h.join h2, h3, h4⟩

section line
variable {T L U : List UInt8} {a : Nat} (ha : a ≤ T.length) (hT : T.drop a = L ++ U) (hU1 : letterB (byteAt U 0) = false) (hU2 : byteAt U 0 ≠ 39)
theorem drop_at (a : Nat) (T : List UInt8) (i : Nat) : byteAt T (a + i) = byteAt (T.drop a) i := by unfold byteAt; simp [List.getD, List.getElem?_drop]
theorem in_line (hT : T.drop a = L ++ U) (i : Nat) (h : i < L.length) : byteAt T (a + i) = byteAt L i := by
  rw [drop_at, hT]; unfold byteAt; simp [List.getD, List.getElem?_append_left h]
theorem at_over (hT : T.drop a = L ++ U) : byteAt T (a + L.length) = byteAt U 0 := by
  rw [drop_at, hT]; unfold byteAt; simp [List.getD, List.getElem?_append_right (Nat.le_refl _)]
include hT hU1 in
theorem letter_in (i : Nat) (h : i ≤ L.length) : letterB (byteAt T (a + i)) = letterB (byteAt L i) := by
  rcases Nat.lt_or_ge i L.length with g | g
  · rw [in_line hT i g]
  · have : i = L.length := by omega
    subst this
    rw [at_over hT, hU1, byteAt_beyond L _ (Nat.le_refl _), letter0]
include ha hT hU1 hU2 in
theorem Word.lift {i k : Nat} (h : Word L i k) : Word T (a + i) (a + k) := by
  have htop := h.top
  have hlt := h.lt
  have hlen : T.length = a + (L.length + U.length) := by
    have := congrArg List.length hT
    rw [List.length_drop, List.length_append] at this; omega
  refine ⟨by omega, by omega, ?_, ?_, ?_, ?_, ?_⟩
  · rw [letter_in hT hU1 i (by omega)]; exact h.head
  · rw [show a + k - 1 = a + (k - 1) by omega, letter_in hT hU1 _ (by omega)]; exact h.last
  · rw [letter_in hT hU1 k (by omega)]; exact h.over
  · intro j h1 h2
    obtain ⟨q, rfl⟩ : ∃ q, j = a + q := ⟨j - a, by omega⟩
    rcases h.inner q (by omega) (by omega) with g | ⟨g1, g2, g3, g4, g5⟩
    · exact .inl (by rw [letter_in hT hU1 q (by omega)]; exact g)
    · refine .inr ⟨by rw [in_line hT q (by omega)]; exact g1, by omega, ?_, ?_, by omega⟩
      · rw [show a + q - 1 = a + (q - 1) by omega, letter_in hT hU1 _ (by omega)]; exact g3
      · rw [show a + q + 1 = a + (q + 1) by omega, letter_in hT hU1 _ (by omega)]; exact g4
  · rintro ⟨h1, h2⟩
    rcases Nat.lt_or_ge k L.length with g | g
    · rw [in_line hT k g] at h1
      rw [show a + k + 1 = a + (k + 1) by omega, letter_in hT hU1 _ (by omega)] at h2
      exact h.long ⟨h1, h2⟩
    · have : k = L.length := by omega
      rw [this, at_over hT] at h1
      exact hU2 h1
include hT hU1 in
theorem Clear.lift {p q : Nat} (hq : q ≤ L.length) (h : Clear L p q) : Clear T (a + p) (a + q) := by
  intro j h1 h2
  obtain ⟨i, rfl⟩ : ∃ i, j = a + i := ⟨j - a, by omega⟩
  rw [letter_in hT hU1 i (by omega)]
  exact h i (by omega) (by omega)
include hT in
theorem count_in (h10 : (10 : UInt8) ∉ L) (i : Nat) (hi : i ≤ L.length) : (T.take (a + i)).count 10 = (T.take a).count 10 := by
  have e : T.take (a + i) = T.take a ++ L.take i := by
    rw [List.take_add, hT, List.take_append_of_le_length hi]
  rw [e, List.count_append]
  have : (L.take i).count 10 = 0 := List.count_eq_zero.2 (fun h => h10 (List.take_subset _ _ h))
  omega
include ha hT hU1 hU2 in
theorem line_spaced (cols : List UInt8 → List Nat) (hcols : ∀ i, i < L.length → 1 ≤ (cols L).getD i 0) (n : Int) (hn : n = 1 + ((T.take a).count 10 : Nat)) (h10 : (10 : UInt8) ∉ L) {more : List Tok} (hm : TSpaced T (a + L.length) more) :
    ∀ (r : List (Nat × Nat)) (p : Nat), p ≤ L.length → Spaced L L.length p r → TSpaced T (a + p) (r.map (tokOf cols n a L) ++ more)
  | [], p, hp, h => TSpaced.back (by omega) (Clear.lift hT hU1 (Nat.le_refl _) h) hm
  | (i, k) :: r, p, hp, ⟨h1, h2, h3, h4, h5⟩ => by
    have hlt := h3.lt
    have hwl : ((L.take k).drop i).length = k - i := by rw [List.length_drop, List.length_take]; omega
    have ih := line_spaced cols hcols n hn h10 hm r k h4 h5
    refine ⟨show a + p ≤ a + i by omega, Clear.lift hT hU1 (by omega) h2, ⟨?_, ?_, hcols i (by omega), ?_⟩, ?_⟩
    · show Word T (a + i) (a + i + ((L.take k).drop i).length)
      rw [hwl, show a + i + (k - i) = a + k by omega]
      exact h3.lift ha hT hU1 hU2
    · show (L.take k).drop i = (T.drop (a + i)).take ((L.take k).drop i).length
      rw [hwl, ← List.drop_drop, hT, List.drop_append_of_le_length (by omega), List.take_append_of_le_length (by rw [List.length_drop]; omega), List.drop_take]
    · show n = 1 + ((T.take (a + i)).count 10 : Nat)
      rw [count_in hT h10 i (by omega)]; exact hn
    · show TSpaced T (a + i + ((L.take k).drop i).length) _
      rw [hwl, show a + i + (k - i) = a + k by omega]
      exact ih
end line

/-- Lines with their numbers. -/
def numB (n : Nat) : List (List UInt8) → List (Int × List UInt8)
  | [] => []
  | l :: r => ((n : Int), l) :: numB (n + 1) r
theorem ended_cases (l : List UInt8) : ended l = l ∨ l = ended l ++ [13] := by
  unfold ended Lib.trimSuffix Lib.hasSuffix
  split
  · rename_i h
    obtain ⟨t, ht⟩ := List.isSuffixOf_iff_suffix.1 h
    right
    rw [← ht]; simp
  · exact .inl rfl
theorem l10 : letterB 10 = false := by decide
theorem l13 : letterB 13 = false := by decide
theorem text_spaced (cols : List UInt8 → List Nat) (hcols : ∀ L i, i < L.length → 1 ≤ (cols L).getD i 0) (T : List UInt8) : ∀ (f a n : Nat) (rest : List UInt8), T.drop a = rest → rest.length ≤ f → a ≤ T.length → (n : Int) = 1 + ((T.take a).count 10 : Nat) →
    TSpaced T a (toks cols T a (numB n (linesFrom f rest)))
  | f, a, n, [], hT, hf, ha, hn => by
    rw [linesFrom_nil]
    intro j h1 h2
    have := congrArg List.length hT
    rw [List.length_drop, List.length_nil] at this; omega
  | 0, a, n, b :: rest, hT, hf, ha, hn => by simp at hf
  | f + 1, a, n, b :: rest, hT, hf, ha, hn => by
    have hlen := congrArg List.length hT
    rw [List.length_drop] at hlen
    rcases cut_cases (b :: rest) with ⟨m, r, he, h10, hc, hi⟩ | ⟨h10, hc, hi⟩
    · have e : linesFrom (f + 1) (b :: rest) = ended m :: linesFrom f r := by simp [linesFrom, hc]
      have en : nextAt T a = a + (m.length + 1) := by
        unfold nextAt
        rw [hT, hi, if_pos (by omega)]; omega
      have hdr : T.drop (a + (m.length + 1)) = r := by
        rw [← List.drop_drop, hT, he]; simp
      have hrl : r.length ≤ f := by
        have := congrArg List.length he
        simp at this hf; omega
      have hal : a + (m.length + 1) ≤ T.length := by
        rw [he] at hlen; simp at hlen; omega
      have hcnt : ((n + 1 : Nat) : Int) = 1 + ((T.take (a + (m.length + 1))).count 10 : Nat) := by
        have e1 : T.take (a + (m.length + 1)) = T.take a ++ (m ++ [10]) := by
          have e0 : (m ++ 10 :: r).take (m.length + 1) = m ++ [10] := by
            rw [show m ++ 10 :: r = (m ++ [10]) ++ r by simp]
            exact List.take_left' (by simp)
          rw [List.take_add, hT, he, e0]
        have e2 : (m ++ [10]).count 10 = 1 := by
          rw [List.count_append, List.count_eq_zero.2 h10]; rfl
        rw [e1, List.count_append, e2]; omega
      have ih := text_spaced cols hcols T f (a + (m.length + 1)) (n + 1) r hdr hrl hal hcnt
      rw [e]
      show TSpaced T a (lineToks cols (n : Int) a (ended m) ++ toks cols T (nextAt T a) (numB (n + 1) (linesFrom f r)))
      rw [en]
      have hem : (10 : UInt8) ∉ ended m := by
        rcases ended_cases m with h | h
        · rw [h]; exact h10
        · intro h'
          exact h10 (by rw [h]; exact List.mem_append_left _ h')
      obtain ⟨U, hU, hU1, hU2, hback⟩ : ∃ U, T.drop a = ended m ++ U ∧ letterB (byteAt U 0) = false ∧ byteAt U 0 ≠ 39 ∧ (∀ j, j < m.length + 1 - (ended m).length → letterB (byteAt U j) = false) := by
        rcases ended_cases m with h | h
        · refine ⟨10 :: r, by rw [hT, he, h], l10, (show (10 : UInt8) ≠ 39 by decide), fun j hj => ?_⟩
          rw [h] at hj
          obtain rfl : j = 0 := by omega
          exact l10
        · refine ⟨13 :: 10 :: r, by rw [hT, he]; conv => lhs; rw [h]
                                    simp, l13, (show (13 : UInt8) ≠ 39 by decide), fun j hj => ?_⟩
          have : m.length = (ended m).length + 1 := by have := congrArg List.length h; simpa using this
          match j, hj with
          | 0, _ => exact l13
          | 1, _ => exact l10
          | j + 2, hj => omega
      have hml : (ended m).length ≤ m.length := by
        rcases ended_cases m with h | h
        · rw [h]; exact Nat.le_refl _
        · have := congrArg List.length h
          simp at this; omega
      have hmore : TSpaced T (a + (ended m).length) (toks cols T (a + (m.length + 1)) (numB (n + 1) (linesFrom f r))) := by
        refine TSpaced.back (by omega) (fun j h1 h2 => ?_) ih
        obtain ⟨q, rfl⟩ : ∃ q, j = a + ((ended m).length + q) := ⟨j - (a + (ended m).length), by omega⟩
        have : byteAt T (a + ((ended m).length + q)) = byteAt U q := by
          rw [drop_at, hU]; unfold byteAt; simp [List.getD, List.getElem?_append_right]
        rw [this]
        exact hback q (by omega)
      exact line_spaced ha hU hU1 hU2 cols (hcols _) n hn hem hmore _ 0 (Nat.zero_le _) (words_spaced _ _ _ (by omega))
    · have e : linesFrom (f + 1) (b :: rest) = [ended (b :: rest)] := by
        have : linesFrom (f + 1) (b :: rest) = ended (b :: rest) :: linesFrom f [] := by simp [linesFrom, hc]
        rw [this, linesFrom_nil]
      rw [e]
      show TSpaced T a (lineToks cols (n : Int) a (ended (b :: rest)) ++ [])
      have hem : (10 : UInt8) ∉ ended (b :: rest) := by
        rcases ended_cases (b :: rest) with h | h
        · rw [h]; exact h10
        · intro h'
          exact h10 (by rw [h]; exact List.mem_append_left _ h')
      obtain ⟨U, hU, hU1, hU2, hback⟩ : ∃ U, T.drop a = ended (b :: rest) ++ U ∧ letterB (byteAt U 0) = false ∧ byteAt U 0 ≠ 39 ∧ (∀ j, letterB (byteAt U j) = false) := by
        rcases ended_cases (b :: rest) with h | h
        · exact ⟨[], by rw [hT, h, List.append_nil], by decide, by decide, fun j => rfl⟩
        · refine ⟨[13], by rw [hT]; exact h, by decide, by decide, fun j => ?_⟩
          match j with
          | 0 => decide
          | j + 1 => rfl
      refine line_spaced ha hU hU1 hU2 cols (hcols _) n hn hem ?_ _ 0 (Nat.zero_le _) (words_spaced _ _ _ (by omega))
      intro j h1 h2
      obtain ⟨q, rfl⟩ : ∃ q, j = a + ((ended (b :: rest)).length + q) := ⟨j - (a + (ended (b :: rest)).length), by omega⟩
      have : byteAt T (a + ((ended (b :: rest)).length + q)) = byteAt U q := by
        rw [drop_at, hU]; unfold byteAt; simp [List.getD, List.getElem?_append_right]
      rw [this]
      exact hback q

def startOf (T : List UInt8) : Nat := if Lib.hasPrefix T [239, 187, 191] then 3 else 0
theorem start_le (T : List UInt8) : startOf T ≤ T.length := by
  unfold startOf
  split
  · rename_i h
    have := (List.isPrefixOf_iff_prefix.1 h).length_le
    simpa using this
  · exact Nat.zero_le _
theorem start_drop (T : List UInt8) : T.drop (startOf T) = unmarked T := by
  unfold startOf unmarked Lib.trimPrefix
  split <;> rfl
theorem start_count (T : List UInt8) : (T.take (startOf T)).count 10 = 0 := by
  unfold startOf
  split
  · rename_i h
    obtain ⟨t, ht⟩ := List.isPrefixOf_iff_prefix.1 h
    rw [← ht]; rfl
  · rfl
/-- All words of a text. -/
def textToks (cols : List UInt8 → List Nat) (T : List UInt8) : List Tok := toks cols T (startOf T) (numB 1 (linesOf T))
theorem textToks_spaced (cols : List UInt8 → List Nat) (hcols : ∀ L i, i < L.length → 1 ≤ (cols L).getD i 0) (T : List UInt8) : TSpaced T (startOf T) (textToks cols T) :=
  text_spaced cols hcols T T.length (startOf T) 1 (unmarked T) (start_drop T) (by rw [← start_drop, List.length_drop]; omega) (start_le T) (by rw [start_count]; rfl)
end Go.Proofs.YthfndmpigpphoaaGreat
