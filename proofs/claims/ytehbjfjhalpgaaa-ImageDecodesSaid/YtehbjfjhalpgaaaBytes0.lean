/-
  A byte at a place.
-/
import Derived.Test.YtehbjfjhalpgaaaRows
import Derived.Test.YtehbjfjhalpgaaaMkS
namespace Go.Proofs.Ytehbjfjhalpgaaa
open Go.RowKit

/-- The byte at a place; 0 beyond the end. -/
def byteAt (L : List UInt8) (i : Nat) : UInt8 := L.getD i 0
theorem byteAt_beyond (L : List UInt8) (i : Nat) (h : L.length ≤ i) : byteAt L i = 0 := by unfold byteAt; simp [List.getD, List.getElem?_eq_none h]
theorem byteAt_lt (s : ByteArray) (i : Nat) (h : i < s.size) : byteAt s.data.toList i = s[i] := by
  unfold byteAt
  rw [List.getD, List.getElem?_eq_getElem (by simpa using h)]; rfl
end Go.Proofs.Ytehbjfjhalpgaaa
