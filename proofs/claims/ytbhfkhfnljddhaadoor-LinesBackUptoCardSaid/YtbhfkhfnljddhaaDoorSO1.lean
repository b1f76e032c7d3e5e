/-
  Rows of texts among the arguments, opened; what the bound on their bulk gives.
-/
import Derived.Test.YtbhfkhfnljddhaaDoorRows
import Derived.Test.YtbhfkhfnljddhaaDoorSH0
import Derived.Deep.Slices
namespace Go.Proofs.YtbhfkhfnljddhaaDoor
open Go.ChangeShapes Go.WideShapes Go.ChangeAt Go.RowKit Go.Deep

set_option maxRecDepth 100000 in
/-- A slice of texts that lies in one cell. -/
theorem open_strings_cs {H : Type} {enc : TypeId × Value → H} {W : World} {v : Value} {x : DataW H × List MemPlace} {fuel : Nat}
    (hf : DataW.trod enc Tryd.prog W 0 (fun _ => true) true fuel 24 [v] = some x) :
    ∃ ss : List ByteArray, Rd W 1 v ss.length (strV ss) ∧ bulkS ss + 1 ≤ Rows.uptoBulk x.1 := by
  rcases open_strings Tryd.underlying24 Tryd.underlying9 cells_str hf with ⟨hcs, hx⟩ | ⟨a, len, cap, ss, hcs, _, hl, hm, hz, hx, hcell, hws⟩
  · obtain rfl : v = .slice none 0 0 := by simpa using hcs
    exact ⟨[], ⟨by simp [strV], none, 0, rfl, Nat.le_refl _, .inl rfl⟩, by rw [hx]; simp [bulkS, Rows.uptoBulk]⟩
  · obtain rfl : v = .slice (some a) len cap := by simpa using hcs
    simp only [if_true] at hz
    have hlen : (ss.take len).length = len := by rw [List.length_take]; omega
    refine ⟨ss.take len, ⟨by rw [strV_len, Nat.mul_one], some a, cap, by rw [hlen], by omega, ?_⟩, by rw [hx]; simp only [Rows.uptoBulk, bulk_strs]; omega⟩
    rcases Nat.eq_zero_or_pos len with h0 | h0
    · exact .inl (by omega)
    · right
      have c0 := hcell 0 (by omega)
      have e0 : a.add 0 = a := by simp [Addr.add]
      rw [e0] at c0
      have ha := addr_plain c0
      refine ⟨a.block, a.off, by rw [← ha], fun j u hj => ?_⟩
      have hjl : j < len := by
        rcases Nat.lt_or_ge j len with h | h
        · exact h
        · rw [List.getElem?_eq_none (by rw [strV_len, hlen]; exact h)] at hj; cases hj
      have cj := hcell j (by omega)
      rw [ha, addr_add] at cj
      rw [cj]
      have : (strV (ss.take len))[j]? = some (.string (ss.getD j ByteArray.empty)) := by
        rw [strV_get _ j (by omega)]
        simp [List.getD, List.getElem?_eq_getElem (show j < ss.length by omega)]
      rw [this] at hj
      exact hj

theorem pick_rows {α : Type} {p : Nat → α → Prop} : ∀ n : Nat, (∀ k, k < n → ∃ a, p k a) → ∃ l : List α, l.length = n ∧ ∀ k (h : k < l.length), p k l[k]
  | 0, _ => ⟨[], rfl, fun k h => absurd h (Nat.not_lt_zero _)⟩
  | n + 1, h => by
    obtain ⟨l, hl, hp⟩ := pick_rows n (fun k hk => h k (by omega))
    obtain ⟨a, ha⟩ := h n (by omega)
    refine ⟨l ++ [a], by simp [hl], fun k hk => ?_⟩
    by_cases e : k < l.length
    · rw [List.getElem_append_left e]; exact hp k e
    · have : k = n := by simp at hk; omega
      subst this
      rw [List.getElem_append_right (by omega)]
      simp only [hl, Nat.sub_self, List.getElem_cons_zero]
      exact ha
theorem bulk_rows {H : Type} (D : Nat → DataW H) : ∀ (gs : List (Value × List ByteArray)) (k0 : Nat), (∀ k (h : k < gs.length), bulkS gs[k].2 + 1 ≤ Rows.uptoBulk (D (k0 + k))) →
    gs.length + sumR (rowsV gs) ≤ Rows.uptoBulkAll ((List.range' k0 gs.length).map D)
  | [], k0, _ => by simp [sumR]
  | g :: gs, k0, h => by
    have h0 := h 0 (by simp)
    have ih := bulk_rows D gs (k0 + 1) (fun k hk => by
      have := h (k + 1) (by simpa using hk)
      rw [show k0 + (k + 1) = k0 + 1 + k by omega] at this
      simpa using this)
    have e : sumR (rowsV (g :: gs)) = bulkS g.2 + sumR (rowsV gs) := by simp [sumR, rowsV]
    rw [e]
    simp only [List.length_cons, List.range'_succ, List.map_cons, Rows.uptoBulkAll] at *
    simp only [List.getElem_cons_zero, Nat.add_zero] at h0
    omega

theorem cells_strs : Tryd.prog.cellsOf 24 = 1 := by kernel_rfl
set_option maxRecDepth 100000 in
theorem open_rows_ {H : Type} {enc : TypeId × Value → H} {W : World} {base : Nat} {v : Value} {d : DataW H} {p : List MemPlace} (hval : Value.okWide Tryd.prog W .any base 60 v)
    (h : DataW.Trod enc Tryd.prog W 0 (fun _ => true) true 60 v d p) :
    ∃ gs : List (Value × List ByteArray), RS W v gs ∧ gs.length + sumR (rowsV gs) ≤ Rows.uptoBulk d := by
  obtain ⟨a0, len, cap, rfl⟩ := okWide_slice Tryd.underlying60 hval
  obtain ⟨fuel, hf⟩ := h
  rcases open_slice1 Tryd.underlying60 cells_strs hf with ⟨hcs, hx⟩ | ⟨a, len', cap', m, n, V, D, Pl, hcs, _, hl, hm, hmm, hx, hi⟩
  · simp only [Value.cells, List.cons.injEq, and_true, Value.slice.injEq] at hcs
    obtain ⟨rfl, rfl, rfl⟩ := hcs
    exact ⟨[], ⟨none, 0, rfl, Nat.le_refl _, .inl rfl, by simp⟩, by simp [sumR]⟩
  · simp only [Value.cells, List.cons.injEq, and_true, Value.slice.injEq] at hcs
    obtain ⟨rfl, rfl, rfl⟩ := hcs
    simp only [if_true] at hmm
    subst hmm
    obtain ⟨gs, hgl, hgs⟩ := pick_rows (α := Value × List ByteArray) (p := fun k g => g.1 = V k ∧ Rd W 1 g.1 g.2.length (strV g.2) ∧ bulkS g.2 + 1 ≤ Rows.uptoBulk (D k)) len (fun k hk => by
      obtain ⟨_, ht⟩ := hi k (by omega)
      obtain ⟨zs, h1, h2⟩ := open_strings_cs ht
      exact ⟨(V k, zs), rfl, h1, h2⟩)
    have hd : d = .slice ((List.range len).map D) ((List.range (m - len)).map fun j => D (len + j)) := (Prod.mk.inj hx).1
    refine ⟨gs, ⟨some a, _, by rw [hgl], by omega, ?_, fun g hg => ?_⟩, ?_⟩
    · rcases Nat.eq_zero_or_pos len with h0 | h0
      · exact .inl (by omega)
      · right
        obtain ⟨c0, _⟩ := hi 0 (by omega)
        have e0 : a.add 0 = a := by simp [Addr.add]
        rw [e0] at c0
        have ha := addr_plain c0
        refine ⟨a.block, a.off, by rw [← ha], fun j hj => ?_⟩
        obtain ⟨cj, _⟩ := hi j (by omega)
        rw [ha, addr_add] at cj
        rw [cj, (hgs j hj).1]
    · obtain ⟨k, hk, rfl⟩ := List.getElem_of_mem hg
      exact (hgs k hk).2.1
    · have := bulk_rows D gs 0 (fun k hk => by rw [Nat.zero_add]; exact (hgs k hk).2.2)
      rw [hgl, ← List.range_eq_range'] at this
      rw [hd, Rows.uptoBulk]
      omega
end Go.Proofs.YtbhfkhfnljddhaaDoor
