/-
  How long a list of texts among the arguments may be.
-/
import Derived.Test.YtdleoankkcemfaaRows
import Derived.Test.YtdleoankkcemfaaChk7
import Derived.Test.YtdleoankkcemfaaOpen2
namespace Go.Proofs.Ytdleoankkcemfaa
open Go.ChangeShapes Go.WideShapes Go.ChangeAt Go.RowKit

theorem strs_len {H : Type} {enc : TypeId × Value → H} {W : World} {v : Value} {d : DataW H} {p : List MemPlace} {n : Nat} {xs : List Value} (h : DataW.Trod enc Try.prog W 0 (fun _ => true) true 28 v d p) (hr : Rd W 1 v n xs) : n ≤ 9223372036854775807 := by
  obtain ⟨_, A, cap, rfl, hc, _⟩ := hr
  obtain ⟨fuel, hf⟩ := h
  rcases open_strings Try.underlying28 Try.underlying9 cells_str hf with ⟨hcs, hx⟩ | ⟨a, len', cap', ss, hcs, _, hl, hm, _⟩
  · simp only [Value.cells, List.cons.injEq, and_true, Value.slice.injEq] at hcs
    omega
  · simp only [Value.cells, List.cons.injEq, and_true, Value.slice.injEq] at hcs
    obtain ⟨rfl, rfl, rfl⟩ := hcs
    unfold maxLen at hm
    omega
end Go.Proofs.Ytdleoankkcemfaa
