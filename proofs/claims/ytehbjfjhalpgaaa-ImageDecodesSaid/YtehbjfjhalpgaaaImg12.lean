/-
  The reader: must.
-/
import Derived.Test.YtehbjfjhalpgaaaRows
import Derived.Test.YtehbjfjhalpgaaaImg11
namespace Go.Proofs.Ytehbjfjhalpgaaa
open Go.RowKit

set_option maxHeartbeats 400000 in
theorem must_true (r : Value) (e : Int) (w : World) :
    Calls Try.prog 39 #[r, .bool true, .int .i64 e] w fun e w' => e = .returned (.tuple #[]) ∧ w = w' := by
  go_enter Try.func39, Try.ntmps39
  go_wp2_with fail
  go_end0
  exact ⟨rfl, rfl⟩
set_option maxHeartbeats 400000 in
theorem must_false (r : Value) (n : Int) (w : World) :
    Calls Try.prog 39 #[r, .bool false, .int .i64 n] w fun e w' => e = .panicked [{ v := .iface 28 (.int .i64 n), recovered := false }] ∧ w = w' := by
  go_enter Try.func39, Try.ntmps39
  go_wp2_with fail
  exact ⟨rfl, rfl, rfl⟩
end Go.Proofs.Ytehbjfjhalpgaaa
