/-
  Arguments that are slices, opened: what they read as, and what the bound on their bulk gives.
-/
import Derived.Test.YthfndmpigpphoaaGreatRows
import Derived.Test.YthfndmpigpphoaaGreatKA
import Derived.SliceStrings
namespace Go.Proofs.YthfndmpigpphoaaGreat
open Go.ChangeShapes Go.WideShapes Go.ChangeAt Go.RowKit

theorem addr_plain {w : World} {a : Addr} {v : Value} (h : w.cell? a = some v) : a = ⟨a.block, a.off, none⟩ := by
  obtain ⟨b, o, sp⟩ := a
  cases sp with
  | none => rfl
  | some s =>
    simp [World.cell?] at h
    split at h <;> simp at h
theorem addr_add (g o j : Nat) : (⟨g, o, none⟩ : Addr).add j = ⟨g, o + j, none⟩ := by unfold Addr.add; split <;> simp_all

theorem bulk_pos {H : Type} (d : DataW H) : 1 ≤ Rows.uptoBulk d := by
  cases d with
  | lit l => cases l <;> simp [Rows.uptoBulk]
  | nil => simp [Rows.uptoBulk]
  | ptr d => simp [Rows.uptoBulk]
  | slice elems spare => simp [Rows.uptoBulk]
  | agg parts => simp [Rows.uptoBulk]
  | iface t d => simp [Rows.uptoBulk]
  | map entries => simp [Rows.uptoBulk]
  | held h => simp [Rows.uptoBulk]
/-- How many letters and texts. -/
def bulkS (ss : List ByteArray) : Nat := (ss.map fun s => s.size + 1).sum
theorem bulkS_cons (s : ByteArray) (ss : List ByteArray) : bulkS (s :: ss) = s.size + 1 + bulkS ss := by simp [bulkS]
theorem bulk_strs {H : Type} (ss : List ByteArray) : Rows.uptoBulkAll (strs (H := H) ss) = bulkS ss := by
  induction ss with
  | nil => simp [strs, Rows.uptoBulkAll, bulkS]
  | cons s ss ih =>
    have e : strs (H := H) (s :: ss) = .lit (.string s.data.toList) :: strs ss := rfl
    rw [e, bulkS_cons]
    simp only [Rows.uptoBulkAll, Rows.uptoBulk, ih, size_list]
theorem bulkS_len (ss : List ByteArray) : ss.length ≤ bulkS ss := by
  induction ss with
  | nil => simp [bulkS]
  | cons s ss ih => rw [bulkS_cons, List.length_cons]; omega
theorem bulk_lits {H : Type} (k : IntKind) (zs : List Int) : Rows.uptoBulkAll (lits (H := H) k zs) = zs.length := by
  induction zs with
  | nil => simp [lits, Rows.uptoBulkAll]
  | cons s ss ih =>
    have e : lits (H := H) k (s :: ss) = .lit (.int k s) :: lits k ss := rfl
    rw [e]
    simp only [Rows.uptoBulkAll, Rows.uptoBulk, ih, List.length_cons]; omega

theorem cells_str : Tryz.prog.cellsOf 9 = 1 := by kernel_rfl
theorem cells_byte : Tryz.prog.cellsOf 5 = 1 := by kernel_rfl
set_option maxRecDepth 100000 in
theorem open_strings_ {H : Type} {enc : TypeId × Value → H} {W : World} {base : Nat} {v : Value} {d : DataW H} {p : List MemPlace} (hval : Value.okWide Tryz.prog W .any base 22 v)
    (h : DataW.Trod enc Tryz.prog W 0 (fun _ => true) true 22 v d p) : ∃ ss : List ByteArray, Rd W 1 v ss.length (strV ss) ∧ bulkS ss ≤ Rows.uptoBulk d := by
  obtain ⟨a0, len, cap, rfl⟩ := okWide_slice Tryz.underlying22 hval
  obtain ⟨fuel, hf⟩ := h
  rcases open_strings Tryz.underlying22 Tryz.underlying9 cells_str hf with ⟨hcs, hx⟩ | ⟨a, len', cap', ss, hcs, _, hl, hm, hz, hx, hcell, hws⟩
  · simp only [Value.cells, List.cons.injEq, and_true, Value.slice.injEq] at hcs
    obtain ⟨rfl, rfl, rfl⟩ := hcs
    exact ⟨[], ⟨by simp [strV], none, 0, rfl, Nat.le_refl _, .inl rfl⟩, by simp [bulkS]⟩
  · simp only [Value.cells, List.cons.injEq, and_true, Value.slice.injEq] at hcs
    obtain ⟨rfl, rfl, rfl⟩ := hcs
    simp only [if_true] at hz
    have hd : d = .slice (strs (ss.take len)) (strs (ss.drop len)) := (Prod.mk.inj hx).1
    have hlen : (ss.take len).length = len := by rw [List.length_take]; omega
    refine ⟨ss.take len, ⟨by rw [strV_len, Nat.mul_one], some a, cap, by rw [hlen], by omega, ?_⟩, by rw [hd, Rows.uptoBulk, bulk_strs]; omega⟩
    rcases Nat.eq_zero_or_pos len with h0 | h0
    · exact .inl (by omega)
    · right
      have c0 := hcell 0 (by omega)
      have e0 : a.add 0 = a := by simp [Addr.add]
      rw [e0] at c0
      have ha := addr_plain c0
      refine ⟨a.block, a.off, by rw [← ha], fun j u hj => ?_⟩
      have hjl : j < len := by
        rcases Nat.lt_or_ge j len with h | h
        · exact h
        · rw [List.getElem?_eq_none (by rw [strV_len, hlen]; exact h)] at hj; cases hj
      have cj := hcell j (by omega)
      rw [ha, addr_add] at cj
      rw [cj]
      have : (strV (ss.take len))[j]? = some (.string (ss.getD j ByteArray.empty)) := by
        rw [strV_get _ j (by omega)]
        simp [List.getD, List.getElem?_eq_getElem (show j < ss.length by omega)]
      rw [this] at hj
      exact hj
set_option maxRecDepth 100000 in
theorem open_bytes_ {H : Type} {enc : TypeId × Value → H} {W : World} {base : Nat} {v : Value} {d : DataW H} {p : List MemPlace} (hval : Value.okWide Tryz.prog W .any base 123 v)
    (h : DataW.Trod enc Tryz.prog W 0 (fun _ => true) true 123 v d p) : ∃ l : List UInt8, Rd W 1 v l.length (Lib.byteCells l) ∧ l.length ≤ Rows.uptoBulk d := by
  obtain ⟨a0, len, cap, rfl⟩ := okWide_slice Tryz.underlying123 hval
  obtain ⟨fuel, hf⟩ := h
  rcases open_ints Tryz.underlying123 Tryz.underlying5 cells_byte hf with ⟨hcs, hx⟩ | ⟨a, len', cap', zs, hcs, _, hl, hm, hz, hx, hcell, hwz⟩
  · simp only [Value.cells, List.cons.injEq, and_true, Value.slice.injEq] at hcs
    obtain ⟨rfl, rfl, rfl⟩ := hcs
    exact ⟨[], ⟨by simp [Lib.byteCells], none, 0, rfl, Nat.le_refl _, .inl rfl⟩, by simp⟩
  · simp only [Value.cells, List.cons.injEq, and_true, Value.slice.injEq] at hcs
    obtain ⟨rfl, rfl, rfl⟩ := hcs
    simp only [if_true] at hz
    have hd : d = .slice (lits .u8 (zs.take len)) (lits .u8 (zs.drop len)) := (Prod.mk.inj hx).1
    have hlen : (zs.take len).length = len := by rw [List.length_take]; omega
    have hl2 : ((zs.take len).map fun z => UInt8.ofNat z.toNat).length = len := by rw [List.length_map, hlen]
    refine ⟨(zs.take len).map fun z => UInt8.ofNat z.toNat, ⟨by simp [Lib.byteCells], some a, cap, by rw [hl2], by omega, ?_⟩, by rw [hd, Rows.uptoBulk, bulk_lits]; omega⟩
    rcases Nat.eq_zero_or_pos len with h0 | h0
    · exact .inl (by omega)
    · right
      have c0 := hcell 0 (by omega)
      have e0 : a.add 0 = a := by simp [Addr.add]
      rw [e0] at c0
      have ha := addr_plain c0
      refine ⟨a.block, a.off, by rw [← ha], fun j u hj => ?_⟩
      have hjl : j < len := by
        rcases Nat.lt_or_ge j len with h | h
        · exact h
        · rw [List.getElem?_eq_none (by simp [Lib.byteCells]; omega)] at hj; cases hj
      have cj := hcell j (by omega)
      rw [ha, addr_add] at cj
      rw [cj]
      have hw := hwz (zs[j]'(by omega)) (List.getElem_mem _)
      have hb : 0 ≤ zs[j]'(by omega) ∧ zs[j]'(by omega) ≤ 255 := by
        simp [Lit.wf, IntKind.min, IntKind.max, IntKind.signed, IntKind.bits] at hw; omega
      have hj2 : j < zs.length := by omega
      have : (Lib.byteCells ((zs.take len).map fun z => UInt8.ofNat z.toNat))[j]? = some (.int .u8 (zs.getD j 0)) := by
        simp only [Lib.byteCells, List.map_map, List.getElem?_map, List.getElem?_take, hjl, if_true, List.getElem?_eq_getElem hj2, Option.map_some, Function.comp, List.getD, Option.getD_some]
        congr 2
        rw [UInt8.toNat_ofNat']
        omega
      rw [this] at hj
      exact hj
end Go.Proofs.YthfndmpigpphoaaGreat
