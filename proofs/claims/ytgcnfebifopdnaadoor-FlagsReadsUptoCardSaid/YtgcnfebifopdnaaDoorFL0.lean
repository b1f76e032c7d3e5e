/-
  Slices of flags: those that are read, and rows made by a call that may be written.
-/
import Derived.Test.YtgcnfebifopdnaaDoorRows
import Derived.Test.YtgcnfebifopdnaaDoorSSort
import Derived.Below
import Derived.Lib.Slices
import Derived.Laws.AppendOwn
import Derived.OwnWalk
import Derived.WalkKit
import Derived.WalkSpells
import Derived.WalkLawsBesides
import Derived.Lib.Hide
namespace Go.Proofs.YtgcnfebifopdnaaDoor
open Go.RowKit

/-- In w the slice v reads as the flags zs. -/
def FS (w : World) (v : Value) (zs : List Int) : Prop :=
  ∃ (p : Option Addr) (c : Nat), v = .slice p zs.length c ∧ zs.length ≤ c ∧ (zs.length = 0 ∨ ∃ b off, p = some ⟨b, off, none⟩ ∧ ∀ j, j < zs.length → w.cell? ⟨b, off + j, none⟩ = some (.int .u16 (zs.getD j 0)))
/-- The slice v is a row of flags zs behind B that may be written. -/
def FN (B : Nat) (w : World) (v : Value) (zs : List Int) : Prop :=
  ∃ (p : Option Addr) (c : Nat), v = .slice p zs.length c ∧ zs.length ≤ c ∧ (zs.length = 0 ∨ ∃ b off, p = some ⟨b, off, none⟩ ∧ B ≤ b ∧ Sort.Holds (Value.int .u16) w b off zs.toArray)

theorem FS.keep {w w' : World} {v : Value} {zs : List Int} (h : FS w v zs) (hb : Below w.heap.size w w') : FS w' v zs := by
  obtain ⟨p, c, hv, hc, h⟩ := h
  refine ⟨p, c, hv, hc, h.imp id ?_⟩
  rintro ⟨b, off, hp, h2⟩
  refine ⟨b, off, hp, fun j hj => ?_⟩
  have h3 := h2 j hj
  exact (hb.cell (World.block_lt_of_cell? w _ h3)).trans h3
theorem FN.fs {B : Nat} {w : World} {v : Value} {zs : List Int} (h : FN B w v zs) : FS w v zs := by
  obtain ⟨p, c, hv, hc, h⟩ := h
  refine ⟨p, c, hv, hc, h.imp id ?_⟩
  rintro ⟨b, off, hp, _, h2⟩
  refine ⟨b, off, hp, fun j hj => ?_⟩
  have h3 := (h2 j (by simpa using hj)).1
  simpa [List.getD, hj] using h3
theorem FN.mono {B B' : Nat} {w : World} {v : Value} {zs : List Int} (h : FN B w v zs) (hB : B' ≤ B) : FN B' w v zs := by
  obtain ⟨p, c, hv, hc, h⟩ := h
  exact ⟨p, c, hv, hc, h.imp id (by rintro ⟨b, off, hp, h1, h2⟩; exact ⟨b, off, hp, by omega, h2⟩)⟩
theorem FN.nil (B : Nat) (w : World) (p : Option Addr) (c : Nat) : FN B w (.slice p 0 c) [] := ⟨p, c, rfl, Nat.zero_le _, .inl rfl⟩

/-- What writes one row behind B, draws and makes memory leaves what is below B. -/
theorem below_row {α : Type} [Inhabited α] (enc : α → Value) (w : World) (B n blk off : Nat) (d : Array α) (os : Array Obj) (hB : B ≤ blk) (hw : blk < w.heap.size) : Below B w (Sort.grow (Sort.putRow enc (Sort.ahead w n) blk off d) os) := by
  refine ⟨rfl, rfl, rfl, by simp, fun k hk => ?_⟩
  rw [Sort.heap_grow_old _ _ (by simp; omega)]
  have : blk ≠ k := by omega
  simp [Sort.putRow, Sort.mapBlock, Sort.ahead, Array.getElem?_modify, this]

/-- A row of its own is a row of flags that may be written. -/
theorem FN.of_own {B e : Nat} {w : World} {v : Value} {zs : List Int} (h : w.ownsRow B e 1 v zs.length (zs.map (Value.int .u16))) : FN B w v zs := by
  rcases h.2 with ⟨rfl, h0⟩ | ⟨g, cap, cur, rfl, hB, hg, hn, hm, hs, ht⟩
  · exact ⟨none, 0, by rw [h0], by omega, .inl h0⟩
  · refine ⟨_, cap, rfl, hn, .inr ⟨g, 0, rfl, hB, fun j hj => ?_⟩⟩
    have hj' : j < zs.length := by simpa using hj
    refine ⟨?_, by simp [World.frozen?, hg]⟩
    rw [Nat.mul_one] at ht
    have h1 : (cur.toList.take zs.length)[j]? = (zs.map (Value.int .u16))[j]? := by rw [ht]
    rw [List.getElem?_take_of_lt hj'] at h1
    simp only [World.cell?, hg, Nat.zero_add]
    simp only [Option.isSome_none, Bool.false_eq_true, if_false]
    rw [← Array.getElem?_toList, h1]
    simp [hj']

theorem flag_info : (Tryd.prog.info? 34).map (fun i => (i.zero, i.size, i.bytes)) = some (some (.int .u16 0), 1, 2) := by kernel_rfl

/-- slices.Sort on such a row. -/
theorem so_Sort_FN (B : Nat) (v : Value) (zs : List Int) (w : World) (h : FN B w v zs) (hB : B ≤ w.heap.size) (hsz : zs.length < 4611686018427387904) :
    Calls Tryd.prog 43 #[v] w fun e w' => e = .returned (.tuple #[]) ∧ FN B w' v (zs.mergeSort fun x y => decide (x ≤ y)) ∧ Below B w w' := by
  obtain ⟨p, c, rfl, hc, h⟩ := h
  have hl : (zs.mergeSort fun x y => decide (x ≤ y)).length = zs.length := by simp
  rcases h with h | ⟨b, off, rfl, hb, hH⟩
  · rw [h]
    refine (so_Sort_int_nil p c w).mono ?_
    rintro e w' ⟨rfl, rfl⟩
    exact ⟨rfl, ⟨p, c, by rw [hl, h], by omega, .inl (by omega)⟩, Below.refl _ _⟩
  · by_cases h0 : zs.length = 0
    · rw [h0]
      refine (so_Sort_int_nil _ c w).mono ?_
      rintro e w' ⟨rfl, rfl⟩
      exact ⟨rfl, ⟨_, c, by rw [hl, h0], by omega, .inl (by omega)⟩, Below.refl _ _⟩
    · have hblk : b < w.heap.size := World.block_lt_of_cell? w _ (hH 0 (by simp; omega)).1
      refine (so_slices_Sort b off c zs w hH hblk hsz).mono ?_
      rintro e w' ⟨rfl, n, os, rfl⟩
      refine ⟨rfl, ⟨_, c, by rw [hl], by omega, .inr ⟨b, off, rfl, hb, ?_⟩⟩, below_row _ _ _ _ _ _ _ _ hb hblk⟩
      refine Sort.holds_grow _ _ _ _ _ _ (by simpa using hblk) ?_
      exact Sort.holds_putRow _ _ _ _ zs.toArray _ (Sort.holds_ahead _ _ _ _ _ _ hH) (by simp)
end Go.Proofs.YtgcnfebifopdnaaDoor
