/-
  Arguments that are slices, opened, where the law holds at every size.
-/
import Derived.Test.YthfndmpigpphoaaGreatOpen
import Derived.SizedLaws
namespace Go.Proofs.YthfndmpigpphoaaGreat
open Go.ChangeShapes Go.WideShapes Go.ChangeAt Go.RowKit

theorem mem_weights_strs {H : Type} (ss : List ByteArray) (s : ByteArray) (hs : s ∈ ss) : s.data.toList.length ∈ DataW.weightsAll (H := H) Tryz.prog 9 (strs ss) := by
  induction ss with
  | nil => cases hs
  | cons a ss ih =>
    have e : strs (H := H) (a :: ss) = .lit (.string a.data.toList) :: strs ss := rfl
    rw [e]
    simp only [DataW.weightsAll, DataW.weights, List.cons_append, List.nil_append, List.mem_cons]
    rcases List.mem_cons.1 hs with rfl | h
    · exact .inl rfl
    · exact .inr (ih h)
set_option maxRecDepth 100000 in
/-- Each text's length is among what the reading weighs. -/
theorem open_strings2_ {H : Type} {enc : TypeId × Value → H} {W : World} {base : Nat} {v : Value} {d : DataW H} {p : List MemPlace} (hval : Value.okWide Tryz.prog W .any base 22 v)
    (h : DataW.Trod enc Tryz.prog W 0 (fun _ => true) true 22 v d p) : ∃ ss : List ByteArray, Rd W 1 v ss.length (strV ss) ∧ ∀ s ∈ ss, s.data.toList.length ∈ d.weights Tryz.prog 22 := by
  obtain ⟨a0, len, cap, rfl⟩ := okWide_slice Tryz.underlying22 hval
  obtain ⟨fuel, hf⟩ := h
  rcases open_strings Tryz.underlying22 Tryz.underlying9 cells_str hf with ⟨hcs, hx⟩ | ⟨a, len', cap', ss, hcs, _, hl, hm, hz, hx, hcell, hws⟩
  · simp only [Value.cells, List.cons.injEq, and_true, Value.slice.injEq] at hcs
    obtain ⟨rfl, rfl, rfl⟩ := hcs
    exact ⟨[], ⟨by simp [strV], none, 0, rfl, Nat.le_refl _, .inl rfl⟩, by simp⟩
  · simp only [Value.cells, List.cons.injEq, and_true, Value.slice.injEq] at hcs
    obtain ⟨rfl, rfl, rfl⟩ := hcs
    simp only [if_true] at hz
    have hd : d = .slice (strs (ss.take len)) (strs (ss.drop len)) := (Prod.mk.inj hx).1
    have hlen : (ss.take len).length = len := by rw [List.length_take]; omega
    refine ⟨ss.take len, ⟨by rw [strV_len, Nat.mul_one], some a, cap, by rw [hlen], by omega, ?_⟩, fun s hs => ?_⟩
    · rcases Nat.eq_zero_or_pos len with h0 | h0
      · exact .inl (by omega)
      · right
        have c0 := hcell 0 (by omega)
        have e0 : a.add 0 = a := by simp [Addr.add]
        rw [e0] at c0
        have ha := addr_plain c0
        refine ⟨a.block, a.off, by rw [← ha], fun j u hj => ?_⟩
        have hjl : j < len := by
          rcases Nat.lt_or_ge j len with h | h
          · exact h
          · rw [List.getElem?_eq_none (by rw [strV_len, hlen]; exact h)] at hj; cases hj
        have cj := hcell j (by omega)
        rw [ha, addr_add] at cj
        rw [cj]
        have : (strV (ss.take len))[j]? = some (.string (ss.getD j ByteArray.empty)) := by
          rw [strV_get _ j (by omega)]
          simp [List.getD, List.getElem?_eq_getElem (show j < ss.length by omega)]
        rw [this] at hj
        exact hj
    · rw [hd, DataW.weights, Tryz.underlying22]
      exact List.mem_cons_of_mem _ (List.mem_append_left _ (mem_weights_strs _ s hs))

theorem cells_bool : Tryz.prog.cellsOf 4 = 1 := by kernel_rfl
set_option maxRecDepth 100000 in
theorem open_bools_ {H : Type} {enc : TypeId × Value → H} {W : World} {base : Nat} {v : Value} {d : DataW H} {p : List MemPlace} (hval : Value.okWide Tryz.prog W .any base 108 v)
    (h : DataW.Trod enc Tryz.prog W 0 (fun _ => true) true 108 v d p) : ∃ bs : List Bool, Rd W 1 v bs.length (bs.map Value.bool) := by
  obtain ⟨a0, len, cap, rfl⟩ := okWide_slice Tryz.underlying108 hval
  obtain ⟨fuel, hf⟩ := h
  rcases DataW.trod_slice Tryz.underlying108 hf with ⟨hcs, hx⟩ | ⟨a, len', cap', elems, rest, n, _, hcs, _, hb, hl, hm, hlen, hel, _, _⟩
  · simp only [Value.cells, List.cons.injEq, and_true, Value.slice.injEq] at hcs
    obtain ⟨rfl, rfl, rfl⟩ := hcs
    exact ⟨[], ⟨rfl, none, 0, rfl, Nat.le_refl _, .inl rfl⟩⟩
  · simp only [Value.cells, List.cons.injEq, and_true, Value.slice.injEq] at hcs
    obtain ⟨rfl, rfl, rfl⟩ := hcs
    have each : ∀ i, i < len → ∃ b, W.cell? (a.add i) = some (.bool b) := by
      intro i hi
      have hi' := hel i hi
      rw [cells_bool, Nat.mul_one, List.getElem?_eq_getElem (by omega), Option.bind_eq_some_iff] at hi'
      obtain ⟨cs', hcs, hy'⟩ := hi'
      obtain ⟨b, rfl, _⟩ := DataW.trod_bool Tryz.underlying4 hy'
      exact ⟨b, cell_of_cells?_one hcs⟩
    have each' : ∀ i, ∃ b, i < len → W.cell? (a.add i) = some (.bool b) := by
      intro i
      by_cases hi : i < len
      · obtain ⟨b, hb⟩ := each i hi
        exact ⟨b, fun _ => hb⟩
      · exact ⟨false, fun h => absurd h hi⟩
    obtain ⟨f, hf⟩ := Classical.axiomOfChoice each'
    refine ⟨(List.range len).map f, ⟨by simp, some a, cap, by simp, by simp; omega, ?_⟩⟩
    rcases Nat.eq_zero_or_pos len with h0 | h0
    · exact .inl (by simp [h0])
    · right
      have c0 := hf 0 h0
      have e0 : a.add 0 = a := by simp [Addr.add]
      rw [e0] at c0
      have ha := addr_plain c0
      refine ⟨a.block, a.off, by rw [← ha], fun j u hj => ?_⟩
      have hjl : j < len := by
        rcases Nat.lt_or_ge j len with h | h
        · exact h
        · rw [List.getElem?_eq_none (by simp; exact h)] at hj; cases hj
      have cj := hf j hjl
      rw [ha, addr_add] at cj
      rw [cj]
      simpa [hjl] using hj
end Go.Proofs.YthfndmpigpphoaaGreat
