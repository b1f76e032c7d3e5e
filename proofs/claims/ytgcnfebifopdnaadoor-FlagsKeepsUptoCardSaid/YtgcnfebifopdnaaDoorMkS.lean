/-
  Small lemmas on texts, where the dump holds none of layer 1's own functions but the lines.
-/
import Derived.Test.YtgcnfebifopdnaaDoorRows
import Derived.Test.YtgcnfebifopdnaaDoorBase3
namespace Go.Proofs.YtgcnfebifopdnaaDoor
open Go.RowKit

def mkS (l : List UInt8) : ByteArray := ⟨l.toArray⟩
theorem mkS_size (l : List UInt8) : (mkS l).size = l.length := by show l.toArray.size = _; simp
theorem mkS_data (l : List UInt8) : (mkS l).data.toList = l := rfl
theorem extract_mkS (s : ByteArray) (a b : Nat) : s.extract a b = mkS ((s.data.toList.drop a).take (b - a)) := Lib.extract_eq s a b
theorem str_info : (Tryd.prog.info? 9).map (fun i => (i.zero, i.size, i.bytes)) = some (some (.string ByteArray.empty), 1, 16) := by kernel_rfl
theorem byte_info : (Tryd.prog.info? 5).map (fun i => (i.zero, i.size, i.bytes)) = some (some (.int .u8 0), 1, 1) := by kernel_rfl
theorem bytes_snoc (l : List UInt8) (b : UInt8) : Lib.byteCells l ++ [Value.int .u8 (b.toNat : Int)] = Lib.byteCells (l ++ [b]) := by simp [Lib.byteCells]
end Go.Proofs.YtgcnfebifopdnaaDoor
