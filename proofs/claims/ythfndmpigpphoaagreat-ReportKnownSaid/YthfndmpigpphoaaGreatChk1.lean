/-
  A checker's section; the way of a word along it.
-/
import Derived.Test.YthfndmpigpphoaaGreatRows
import Derived.Test.YthfndmpigpphoaaGreatChk0
import Derived.Test.YthfndmpigpphoaaGreatBk
namespace Go.Proofs.YthfndmpigpphoaaGreat
open Go.RowKit

theorem AutAt.keep {w w' : World} {p : Nat → Prop} {v : Value} {A : List St} (h : AutAt w p v A) (hb : Below w.heap.size w w') : AutAt w' p v A := h.kept (Kept.of_below (E := []) hb) (by simp)
theorem EdsAt.keep {w w' : World} {p : Nat → Prop} {v : Value} {es : List Ed} (h : EdsAt w p v es) (hb : Below w.heap.size w w') : EdsAt w' p v es := h.kept (Kept.of_below (E := []) hb) (by simp)
theorem beq_byte (a b : UInt8) : ((a.toNat : Int) == (b.toNat : Int)) = decide (a = b) := by
  rw [Bool.eq_iff_iff, decide_eq_true_iff, beq_iff_eq]
  constructor
  · intro h
    exact UInt8.toNat_inj.1 (by omega)
  · rintro rfl; rfl

set_option maxHeartbeats 1000000 in
theorem so_along1 (b : UInt8) (t : Int) (s : ByteArray) (i : Nat) (p q : Nat) (w : World) (hi : i < s.size) (hs : s.size ≤ maxLen) (hp : w.cell? ⟨p, 0, none⟩ = some (.string s)) (hq : w.cell? ⟨q, 0, none⟩ = some (.int .i64 i)) :
    Calls Tryz.prog 86 #[.agg #[.int .u8 (b.toNat : Int), .int .i64 t], .pointer (some ⟨p, 0, none⟩), .pointer (some ⟨q, 0, none⟩)] w fun e w' => e = .returned (.bool (decide (b = s[i]))) ∧ Below w.heap.size w w' := by
  have lp := World.block_lt_of_cell? w _ hp
  have lq := World.block_lt_of_cell? w _ hq
  dsimp only at lp lq
  have np : w.heap.size ≠ p := by omega
  have nq : w.heap.size ≠ q := by omega
  have qb := beq_byte b s[i]
  go_enter Tryz.func86, Tryz.ntmps86
  go_wp2_with fail
  go_quiet (fail)
  go_wp2_with fail
  go_ret
  refine ⟨rfl, ?_⟩
  exact below_drewN ((Below.refl _ _).alloc (Nat.le_refl _) _) _
end Go.Proofs.YthfndmpigpphoaaGreat
