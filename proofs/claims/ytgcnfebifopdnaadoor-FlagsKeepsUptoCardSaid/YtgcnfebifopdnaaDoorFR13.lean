/-
  The law's wakes.
-/
import Derived.Test.YtgcnfebifopdnaaDoorRows
import Derived.Test.YtgcnfebifopdnaaDoorFR11
import Derived.Shelf.Vars
namespace Go.Proofs.YtgcnfebifopdnaaDoor
open Go.RowKit

theorem wakes_nums : numsF 3 [55, 44, 51, 48, 48, 44, 55] = [7, 300, 7] := by decide
theorem wakes_canon : canon [7, 300, 7] = [7, 300] := by
  refine sorted_ext _ _ (canon_sorted _) (by decide) (fun x => ?_)
  rw [mem_canon]
  simp only [List.mem_cons, List.not_mem_nil, or_false]
  constructor
  · rintro (h | h | h) <;> simp [h]
  · rintro (h | h) <;> simp [h]
theorem wakes_read : readF 3 [55, 44, 51, 48, 48, 44, 55] = ([7, 300], 0) := by
  rw [readF, if_neg (by decide), if_neg (by decide), wakes_nums, if_neg (by decide), if_neg (by decide), wakes_canon]

set_option maxHeartbeats 1000000 in
set_option maxRecDepth 100000 in
theorem so_wakes (m : Int) (w : World) (hm : w.cell? ⟨0, 0, none⟩ = some (.int .i64 m)) :
    Calls Tryd.prog 13 #[] w fun e w' => e = .returned (.bool true) ∧ Below w.heap.size w w' := by
  have hR := Lib.hid wakes_read
  go_enter Tryd.func13, Tryd.ntmps13
  go_wp2_with (go_at_call 11; refine (so_Read 3 ⟨#[55, 44, 51, 48, 48, 44, 55]⟩ m _ (by decide) hm).mono ?_; rw [show (⟨#[55, 44, 51, 48, 48, 44, 55]⟩ : ByteArray).data.toList = [55, 44, 51, 48, 48, 44, 55] from rfl, hR.out]; rintro e w1 ⟨v1, rfl, h1, b1⟩; obtain ⟨p, c, hv, hc, hcells⟩ := h1.fs; obtain ⟨b, off, rfl, hcell⟩ := hcells.resolve_left (by decide); have c0 := hcell 0 (by decide); have c1 := hcell 1 (by decide); rw [Nat.add_zero] at c0; subst hv; have B1 := Lib.hid b1; clear hcell hcells h1 b1)
  go_ret
  exact ⟨rfl, B1.out⟩

/-- The library's own variable, in whatever world of the right shape. -/
theorem maxLen_of (W : World) (h : W.ShapedOpen Tryd.prog) : ∃ m, W.cell? ⟨0, 0, none⟩ = some (.int .i64 m) :=
  Go.Proofs.cell_of_shapedOpen_int (zero := #[.int .i64 0]) h (by decide +kernel) (by kernel_rfl) rfl (by kernel_rfl) (by kernel_rfl) Tryd.underlying3
end Go.Proofs.YtgcnfebifopdnaaDoor
