/-
  The runes of a text: what stands at a place whose byte is 128 or more, and that none of its bytes is an ASCII one.
-/
import Derived.Test.YtbhfkhfnljddhaaDoorLines1
import Derived.Lib.DecodeN
import Derived.Lib.IndexAny
import Derived.Lib.IndexBytes
namespace Go.Proofs.YtbhfkhfnljddhaaDoor
open Go.RowKit

/-- A blank, a tab, a line feed, a carriage return. -/
def blanks : List UInt8 := [32, 9, 10, 13]
/-- A rune whose first byte is 128 or more: it is valid, 128 or more, and so are all its bytes. -/
theorem dec_hi (s : ByteArray) (p : Nat) (h : p < s.size) (hb : 128 ≤ (s.get! p).toNat) :
    128 ≤ (Utf8.decode s p).1 ∧ (Utf8.decode s p).1 ≤ 1114111 ∧ Utf8.valid ((Utf8.decode s p).1 : Nat) = true ∧ 1 ≤ (Utf8.decode s p).2 ∧ p + (Utf8.decode s p).2 ≤ s.size ∧ (Utf8.decode s p).2 ≤ 4 ∧
    (2 ≤ (Utf8.decode s p).2 → 128 ≤ (s.get! (p + 1)).toNat) ∧ (3 ≤ (Utf8.decode s p).2 → 128 ≤ (s.get! (p + 2)).toNat) ∧ (4 ≤ (Utf8.decode s p).2 → 128 ≤ (s.get! (p + 3)).toNat) := by
  rw [Lib.decode_at]
  have h1 := (s.get! (p + 1)).toNat_lt
  have h2 := (s.get! (p + 2)).toNat_lt
  have h3 := (s.get! (p + 3)).toNat_lt
  have h0 := (s.get! p).toNat_lt
  generalize (s.get! p).toNat = b0 at *
  generalize (s.get! (p + 1)).toNat = b1 at *
  generalize (s.get! (p + 2)).toNat = b2 at *
  generalize (s.get! (p + 3)).toNat = b3 at *
  have hv : ∀ c : Nat, (c < 55296 ∨ (57344 ≤ c ∧ c ≤ 1114111)) → Utf8.valid (c : Nat) = true := fun c hc => by
    unfold Utf8.valid; simp; omega
  unfold Lib.decodeN
  repeat' split
  all_goals
    simp only
    refine ⟨by omega, by omega, hv _ (by omega), by omega, by omega, by omega, by omega, by omega, by omega⟩
theorem get_at (s : ByteArray) (p : Nat) (h : p < s.size) : s.get! p = s[p] := by
  show s.data[p]! = s.data[p]'h
  exact getElem!_pos s.data p h
/-- A byte of 128 and more is not among ASCII bytes. -/
theorem ascii_no (l : List UInt8) (hl : ∀ b ∈ l, b.toNat < 128) (x : UInt8) (hx : 128 ≤ x.toNat) : l.contains x = false := by
  rw [Bool.eq_false_iff]
  intro h
  have := hl x (List.contains_iff_mem.1 h)
  omega
theorem ascii_index (l : List UInt8) (hl : ∀ b ∈ l, b.toNat < 128) (x : UInt8) (hx : 128 ≤ x.toNat) : Lib.indexByte l x = -1 := by
  have h1 := Lib.contains_iff_indexByte l x
  rw [ascii_no l hl x hx] at h1
  have h2 := of_decide_eq_false h1.symm
  have h3 := Lib.indexByte_ge l x
  omega
set_option maxRecDepth 100000 in
/-- None of a rune's bytes is among ASCII bytes. -/
theorem noAny_more (s : ByteArray) (l : List UInt8) (hl : ∀ b ∈ l, b.toNat < 128) (p : Nat) (h : p < s.size) (hb : 128 ≤ (s.get! p).toNat) (hn : Lib.NoAny s.data.toList l p) : Lib.NoAny s.data.toList l (p + (Utf8.decode s p).2) := by
  obtain ⟨_, _, _, h1, h2, h4, g1, g2, g3⟩ := dec_hi s p h hb
  intro j b hj hs
  by_cases hjp : j < p
  · exact hn j b hjp hs
  · have hjs : j < s.size := by omega
    have e : b = s.get! j := by
      have h2 := Lib.data_getElem? s j hjs
      rw [get_at s j hjs]
      exact Option.some.inj (hs.symm.trans h2)
    have hd : j = p ∨ (j = p + 1 ∧ 2 ≤ (Utf8.decode s p).2) ∨ (j = p + 2 ∧ 3 ≤ (Utf8.decode s p).2) ∨ (j = p + 3 ∧ 4 ≤ (Utf8.decode s p).2) := by omega
    refine ascii_no l hl b ?_
    rw [e]
    rcases hd with rfl | ⟨rfl, k⟩ | ⟨rfl, k⟩ | ⟨rfl, k⟩
    · exact hb
    · exact g1 k
    · exact g2 k
    · exact g3 k
end Go.Proofs.YtbhfkhfnljddhaaDoor
