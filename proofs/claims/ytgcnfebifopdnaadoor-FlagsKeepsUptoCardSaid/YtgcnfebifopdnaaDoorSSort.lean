/-
  slices.Sort over flags: the sort's walks put together (after the worked assembly at int).
-/
import Derived.Sort.AssemblyPlain
import Derived.Test.YtgcnfebifopdnaaDoorSWalkANil
import Derived.Test.YtgcnfebifopdnaaDoorSWalk7
import Derived.Test.YtgcnfebifopdnaaDoorSWalk11
import Derived.Test.YtgcnfebifopdnaaDoorSWalkC4
import Derived.Test.YtgcnfebifopdnaaDoorSWalk13
namespace Go.Proofs.YtgcnfebifopdnaaDoor
open Go.Sort

theorem callees13 : Callees13 where
  ins := so_insertionSort_int
  brk := so_breakPatterns_int
  piv := so_choosePivot_int
  par := so_partialInsertionSort_int
  peq := so_partitionEqualOrdered_int
  prt := so_partitionOrdered_int

theorem plain13 : Plain13 where
  swo := swo_ltInt
  ins := insertionSort_holds
  par := partialInsertionSort_holds
  prt := partition_holds _
  peq := partitionEqual_holds _
  pdq := pdq_sorts _

theorem pdqWalkInt : pdqWalk_int := fun blk off cap a b limit d w hH hb hab hbd hsz hl hB =>
  so_pdqsort_int callees13 plain13 (b - a + 1) blk off cap a b limit d w (by omega) hH hb hab hbd hsz hl hB

theorem sort_int_eq (zs : List Int) : Sort.sort ltInt zs.toArray = (zs.mergeSort fun x y => decide (x ≤ y)).toArray := by
  rw [← sortInt zs]

/-- slices.Sort over flags. -/
theorem so_slices_Sort (blk off cap : Nat) (zs : List Int) (w : World) (hH : Holds (Value.int .u16) w blk off zs.toArray) (hblk : blk < w.heap.size) (hsz : zs.length < 4611686018427387904) :
    Calls Tryd.prog 43 #[.slice (some ⟨blk, off, none⟩) zs.length cap] w fun e w' =>
      e = .returned (.tuple #[]) ∧ ∃ n os, w' = grow (putRow (Value.int .u16) (Sort.ahead w n) blk off (zs.mergeSort fun x y => decide (x ≤ y)).toArray) os := by
  have h := so_Sort_int pdqWalkInt blk off cap zs.toArray w hH hblk (by simpa using hsz)
  rw [sort_int_eq] at h
  simpa using h

end Go.Proofs.YtgcnfebifopdnaaDoor
