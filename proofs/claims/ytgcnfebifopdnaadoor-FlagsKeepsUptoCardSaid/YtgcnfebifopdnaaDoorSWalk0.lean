/-
  The sort's walks at this translation, elements of kind u16: turned by a program (mksort.py) from the worked walk 'Walk0' over a toy at int.
-/
import Derived.Test.YtgcnfebifopdnaaDoorRows
import Derived.Test.YtgcnfebifopdnaaDoorShelf
import Derived.Lib.Walk
import Derived.Sort.Row
import Derived.Lib.Strings
namespace Go.Proofs.YtgcnfebifopdnaaDoor

set_option maxHeartbeats 1000000 in
theorem so_cmp_isNaN_int (x : Int) (w : World) : Calls Tryd.prog 87 #[.int .u16 x] w fun e w' => e = .returned (.bool false) ∧ w' = w := by
  go_enter Tryd.func87, Tryd.ntmps87
  go_wp2
  go_ret
  exact ⟨by simp, rfl⟩

set_option maxHeartbeats 1000000 in
theorem so_cmp_Less_int (x y : Int) (w : World) : Calls Tryd.prog 71 #[.int .u16 x, .int .u16 y] w fun e w' => e = .returned (.bool (Sort.ltInt x y)) ∧ w' = w := by
  go_enter Tryd.func71, Tryd.ntmps71
  go_wp2_with (go_at_call 87; refine (so_cmp_isNaN_int _ _).mono ?_; rintro e w' ⟨rfl, rfl⟩)
  go_ret
  exact ⟨rfl, rfl⟩

theorem bytesLess_eq : ∀ (x y : List UInt8), Op.bytesLess x y = decide (x < y)
  | [], [] => by simp [Op.bytesLess]
  | _ :: _, [] => by simp [Op.bytesLess]
  | [], _ :: _ => by simp [Op.bytesLess]
  | a :: x, b :: y => by
    rw [Op.bytesLess, bytesLess_eq x y]
    simp only [List.cons_lt_cons_iff]
    by_cases h1 : a < b <;> by_cases h2 : a = b <;> by_cases h3 : x < y <;> simp [h1, h2, h3]

theorem so_bits_Len (x : Int) (w : World) (h0 : 0 ≤ x) (h1 : x ≤ 18446744073709551615) :
    Calls Tryd.prog 58 #[.int .u64 x] w fun e w' => e = .returned (.int .i64 (Lib.bitLen x.toNat)) ∧ w' = w := Tryd.bits_Len x w h0 h1

end Go.Proofs.YtgcnfebifopdnaaDoor
