/-
  The sort's walks at this translation, elements of kind u16: turned by a program (mksort.py) from the worked walk 'WalkANil' over a toy at int.
-/
import Derived.Test.YtgcnfebifopdnaaDoorRows
import Derived.Test.YtgcnfebifopdnaaDoorSWalkA14
namespace Go.Proofs.YtgcnfebifopdnaaDoor
open Go.RowKit Go.Sort

theorem so_insertionSort_int_nil (p : Option Addr) (cap : Nat) (w : World) :
    Calls Tryd.prog 65 #[.slice p 0 cap, .int .i64 0, .int .i64 0] w fun e w' => e = .returned (.tuple #[]) ∧ w' = w := by
  go_enter Tryd.func65, Tryd.ntmps65
  go_wp2
  refine wp_loop_rounds 1 ?_
  rw [rounds_succ]
  go_wp2
  go_end0
  exact ⟨rfl, rfl⟩

set_option maxRecDepth 100000 in
theorem so_pdqsort_int_nil (p : Option Addr) (cap : Nat) (w : World) :
    Calls Tryd.prog 57 #[.slice p 0 cap, .int .i64 0, .int .i64 0, .int .i64 0] w fun e w' => e = .returned (.tuple #[]) ∧ w' = w := by
  go_enter Tryd.func57, Tryd.ntmps57
  go_wp2
  refine wp_loop_rounds 1 ?_
  rw [rounds_succ]
  go_wp2_with (first | (go_at_call 65; refine (so_insertionSort_int_nil p cap _).mono ?_; rintro e w' ⟨rfl, rfl⟩))
  refine bodyPost_ret (results_none rfl _ _ _) rfl ?_
  exact ⟨rfl, rfl⟩

set_option maxRecDepth 100000 in
theorem so_Sort_int_nil (p : Option Addr) (cap : Nat) (w : World) :
    Calls Tryd.prog 43 #[.slice p 0 cap] w fun e w' => e = .returned (.tuple #[]) ∧ w' = w := by
  have hLen : ∀ w, Calls Tryd.prog 58 #[.int .u64 0] w fun e w' => e = .returned (.int .i64 0) ∧ w' = w := fun w => so_bits_Len 0 w (by omega) (by omega)
  go_enter Tryd.func43, Tryd.ntmps43
  go_wp2_with (first
    | (go_at_call 58; refine (hLen _).mono ?_; rintro e w' ⟨rfl, rfl⟩)
    | (go_at_call 57; refine (so_pdqsort_int_nil p cap _).mono ?_; rintro e w' ⟨rfl, rfl⟩))
  go_end0
  exact ⟨rfl, rfl⟩

end Go.Proofs.YtgcnfebifopdnaaDoor
