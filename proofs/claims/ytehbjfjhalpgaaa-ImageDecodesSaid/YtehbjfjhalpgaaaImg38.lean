/-
  The fixed text of the law, decoded: by computing.
-/
import Derived.Test.YtehbjfjhalpgaaaRows
import Derived.Test.YtehbjfjhalpgaaaImg37
namespace Go.Proofs.Ytehbjfjhalpgaaa
open Go.RowKit

/-- The bytes that the document fixes. -/
def wakeS : ByteArray := ⟨#[72, 66, 75, 49, 3, 0, 0, 1, 0, 1, 0, 1, 0, 1, 0]⟩
set_option maxRecDepth 100000 in
theorem wake_dec : decR wakeS = .ok ⟨3, ⟨#[]⟩, [], [[(false, [])], [(false, [])], [(false, [])], [(false, [])]]⟩ := by kernel_rfl
end Go.Proofs.Ytehbjfjhalpgaaa
