/-
  slices.Compact on rows of flags; flags.Of.
-/
import Derived.Test.YtgcnfebifopdnaaDoorRows
import Derived.Test.YtgcnfebifopdnaaDoorFL2
import Derived.Test.YtgcnfebifopdnaaDoorFL3
namespace Go.Proofs.YtgcnfebifopdnaaDoor
open Go.RowKit

theorem below_CW {w : World} {B b off n : Nat} {dk : Array Int} (hB : B ≤ b) (hb : b < w.heap.size) : Below B w (CW w b off n dk) := by
  have h := below_row (Value.int .u16) w B n b off dk #[] hB hb
  rwa [Sort.grow_empty] at h

set_option maxHeartbeats 1000000 in
theorem so_Compact (B : Nat) (v : Value) (zs : List Int) (w : World) (h : FN B w v zs) (hsz : zs.length ≤ 4611686018427387904) :
    Calls Tryd.prog 44 #[v] w fun e w' => ∃ v', e = .returned v' ∧ FN B w' v' (Lib.compact zs) ∧ Below B w w' := by
  obtain ⟨p, c, rfl, hc, h⟩ := h
  have he : ∀ (q : Option Addr), zs.length = 0 → Calls Tryd.prog 44 #[.slice q zs.length c] w fun e w' => ∃ v', e = .returned v' ∧ FN B w' v' (Lib.compact zs) ∧ Below B w w' := by
    intro q h0
    have : zs = [] := List.eq_nil_of_length_eq_zero h0
    subst this
    clear h
    go_enter Tryd.func44, Tryd.ntmps44
    go_wp2
    go_ret
    exact ⟨_, rfl, FN.nil _ _ _ _, Below.refl _ _⟩
  rcases h with h | ⟨b, off, rfl, hb, hH⟩
  · exact he p h
  · by_cases h0 : zs.length = 0
    · exact he _ h0
    · have hblk : b < w.heap.size := World.block_lt_of_cell? w _ (hH 0 (by simp; omega)).1
      have hC := so_Compact_arr b off c zs.toArray w hH (by simpa using hsz) (by simpa using hc)
      rw [List.size_toArray] at hC
      refine hC.mono ?_
      rintro e w' ⟨n, dk, rfl, rfl, hs, hlow⟩
      have hle : (Lib.compactUpTo zs.toArray zs.length).length ≤ zs.length := by
        unfold Lib.compactUpTo
        rw [List.length_map]
        exact Nat.le_trans (List.length_filter_le _ _) (by simp)
      have hHd := CW.holds n hH hs
      have hs' : dk.size = zs.length := by simpa using hs
      refine ⟨_, rfl, ⟨_, c, rfl, by have : (Lib.compact zs).length ≤ zs.length := hle; omega, .inr ⟨b, off, rfl, hb, fun j hj => ?_⟩⟩, below_CW hb hblk⟩
      have hj' : j < (Lib.compactUpTo zs.toArray zs.length).length := by simpa [Lib.compact] using hj
      obtain ⟨h1, h2⟩ := hHd j (by omega)
      refine ⟨?_, h2⟩
      rw [h1]
      have h3 := hlow j hj'
      have h4 : (Lib.compact zs).toArray[j]! = dk[j]! := by
        have : (Lib.compact zs)[j]? = some dk[j]! := h3
        obtain ⟨h5, h6⟩ := List.getElem?_eq_some_iff.1 this
        rw [getElem!_pos (Lib.compact zs).toArray j (by simpa using h5)]
        simpa using h6
      rw [h4]

/-- The set of the flags, in order. -/
def canon (zs : List Int) : List Int := Lib.compact (zs.mergeSort fun x y => decide (x ≤ y))

set_option maxHeartbeats 1000000 in
theorem so_Of (v : Value) (zs : List Int) (w : World) (h : FS w v zs) (hbig : zs.length * 2 ≤ 281474976710656) :
    Calls Tryd.prog 25 #[v] w fun e w' => ∃ v', e = .returned v' ∧ FN w.heap.size w' v' (canon zs) ∧ Below w.heap.size w w' := by
  have hF := Lib.hid h
  obtain ⟨p, c, rfl, hcap, -⟩ := h
  go_enter Tryd.func25, Tryd.ntmps25
  go_wp2_with (go_at_call 40; refine (so_CloneF _ zs _ hF.out hbig).mono ?_; rintro e w1 ⟨v1, rfl, h1, b1⟩)
  have H1 := Lib.hid h1
  have B1 := Lib.hid b1
  have hs1 := b1.size
  clear h1 b1
  go_wp2_with (go_at_call 43; refine (so_Sort_FN w.heap.size _ zs _ H1.out hs1 (by omega)).mono ?_; rintro e w2 ⟨rfl, h2, b2⟩)
  have H2 := Lib.hid h2
  have B2 := Lib.hid b2
  clear h2 b2
  go_wp2_with (go_at_call 44; refine (so_Compact w.heap.size _ _ _ H2.out (by simp; omega)).mono ?_; rintro e w3 ⟨v3, rfl, h3, b3⟩)
  have H3 := Lib.hid h3
  have B3 := Lib.hid b3
  clear h3 b3
  go_wp2
  go_ret
  exact ⟨v3, rfl, H3.out, B1.out.trans (B2.out.trans B3.out)⟩
end Go.Proofs.YtgcnfebifopdnaaDoor
