/-
  Slices that are only read.
-/
import Derived.Test.YtbhfkhfnljddhaaDoorBase2
import Derived.Deep.QuietTactic
import Derived.BigQuiet
namespace Go.Proofs.YtbhfkhfnljddhaaDoor
open Go.RowKit

/-- In w the slice v reads as n elements of 'size' cells each, all cells together xs. -/
def Rd (w : World) (size : Nat) (v : Value) (n : Nat) (xs : List Value) : Prop :=
  xs.length = n * size ∧ ∃ A cap, v = .slice A n cap ∧ n ≤ cap ∧ (n = 0 ∨ ∃ g o, A = some ⟨g, o, none⟩ ∧ ∀ j u, xs[j]? = some u → w.cell? ⟨g, o + j, none⟩ = some u)
theorem Rd.keep {w w' : World} {size n : Nat} {v : Value} {xs : List Value} (h : Rd w size v n xs) (hb : Below w.heap.size w w') : Rd w' size v n xs := by
  obtain ⟨h1, A, cap, hv, hc, h2⟩ := h
  refine ⟨h1, A, cap, hv, hc, ?_⟩
  rcases h2 with h2 | ⟨g, o, hA, h3⟩
  · exact .inl h2
  · refine .inr ⟨g, o, hA, fun j u hj => ?_⟩
    have h4 := h3 j u hj
    exact (hb.cell (World.block_lt_of_cell? w _ h4)).trans h4
theorem Rd.of_own {w : World} {B e size n : Nat} {v : Value} {xs : List Value} (h : w.ownsRow B e size v n xs) : Rd w size v n xs := by
  refine ⟨h.1, ?_⟩
  rcases h.2 with ⟨rfl, rfl⟩ | ⟨g, cap, cur, rfl, _, _, hn, _⟩
  · exact ⟨none, 0, rfl, Nat.le_refl _, .inl rfl⟩
  · refine ⟨_, cap, rfl, hn, .inr ⟨g, 0, rfl, fun j u hj => ?_⟩⟩
    have := h.cells (g := g) rfl j u hj
    rw [row_addr] at this
    rw [Nat.zero_add]; exact this
theorem Rd.of_strs {w : World} {B e : Nat} {ss : List ByteArray} {g cap : Nat} (h : w.ownsRow B e 1 (.slice (some ⟨g, 0, none⟩) ss.length cap) ss.length (strV ss)) : Rd w 1 (.slice (some ⟨g, 0, none⟩) ss.length cap) ss.length (strV ss) := Rd.of_own h
theorem Rd.drewN {w : World} {size n : Nat} {v : Value} {xs : List Value} (h : Rd w size v n xs) (k : Nat) : Rd (w.drewN k) size v n xs := h
theorem below_drewN {B : Nat} {a w : World} (h : Below B a w) (n : Nat) : Below B a (w.drewN n) := ⟨h.os, h.tape, h.output, h.size, h.block⟩
end Go.Proofs.YtbhfkhfnljddhaaDoor
