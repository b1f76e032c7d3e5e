/-
  Nothing more than the first shelf holds.
-/
import Derived.Test.YthfndmpigpphoaaGreatShelf
namespace Go.Proofs.YthfndmpigpphoaaGreat
theorem shelf2_here : True := trivial
end Go.Proofs.YthfndmpigpphoaaGreat
