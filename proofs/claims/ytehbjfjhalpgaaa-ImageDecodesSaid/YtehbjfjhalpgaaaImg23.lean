/-
  Decode's deferred closure: behind a fault, and behind none.
-/
import Derived.Test.YtehbjfjhalpgaaaRows
import Derived.Test.YtehbjfjhalpgaaaImg22
import Derived.Tactics
import Derived.Tactics2
import Derived.Defers
import Derived.Recover
import Derived.Laws.Pointers
namespace Go.Proofs.Ytehbjfjhalpgaaa
open Go.RowKit

theorem errno_info : (Try.prog.info? 28).map (·.zero) = some (some (.int .i64 0)) := by kernel_rfl
theorem assert_fault (xT : TypeId) (c : Int) (w : World) : (Instr.typeAssert (.iface 28 (.int .i64 c)) xT 28 true).run Try.prog w = .ok (.tuple #[.int .i64 c, .bool true]) w := by
  simp [Instr.typeAssert, run_underlying Try.underlying28, go_sem, Result.andThen]
theorem assert_nil (xT : TypeId) (w : World) : (Instr.typeAssert .nilIface xT 28 true).run Try.prog w = .ok (.tuple #[.int .i64 0, .bool false]) w := by
  obtain ⟨i, hi, hz⟩ := Option.map_eq_some_iff.1 errno_info
  simp [Instr.typeAssert, run_underlying Try.underlying28, go_sem, Result.andThen, typeInfo, zeroValue, hi, hz]

set_option maxHeartbeats 2000000 in
theorem catch_fault (bb eb : Nat) (x0 x1 x2 x3 x4 x5 x6 y : Value) (c : Int) (older : List PanicEntry) (w : World) (hb : w.heap[bb]? = some (.cells #[x0, x1, x2, x3, x4, x5, x6] 26 (0, 0))) (he : w.heap[eb]? = some (.cells #[y] 28 (0, 0))) (hne : bb ≠ eb) :
    CallsD Try.prog 36 #[.pointer (some ⟨bb, 0, none⟩), .pointer (some ⟨eb, 0, none⟩)] (.panicking ({ v := .iface 28 (.int .i64 c), recovered := false } :: older)) w fun e u' w' =>
      e = .returned (.tuple #[]) ∧ u' = .panicking ({ v := .iface 28 (.int .i64 c), recovered := true } :: older) ∧ Kept [bb, eb] w w' ∧
      w'.heap[bb]? = some (.cells #[.int .i64 0, .string ⟨#[]⟩, .slice none 0 0, .slice none 0 0, .slice none 0 0, .slice none 0 0, .slice none 0 0] 26 (0, 0)) ∧ w'.heap[eb]? = some (.cells #[.int .i64 c] 28 (0, 0)) := by
  have b0 : w.cell? ⟨bb, 0, none⟩ = some x0 := by rw [Lib.cell_of_heap hb]; rfl
  have b1 : w.cell? ⟨bb, 1, none⟩ = some x1 := by rw [Lib.cell_of_heap hb]; rfl
  have b2 : w.cell? ⟨bb, 2, none⟩ = some x2 := by rw [Lib.cell_of_heap hb]; rfl
  have b3 : w.cell? ⟨bb, 3, none⟩ = some x3 := by rw [Lib.cell_of_heap hb]; rfl
  have b4 : w.cell? ⟨bb, 4, none⟩ = some x4 := by rw [Lib.cell_of_heap hb]; rfl
  have b5 : w.cell? ⟨bb, 5, none⟩ = some x5 := by rw [Lib.cell_of_heap hb]; rfl
  have b6 : w.cell? ⟨bb, 6, none⟩ = some x6 := by rw [Lib.cell_of_heap hb]; rfl
  have bf : ∀ i, w.frozen? ⟨bb, i, none⟩ = false := Lib.frozen_of_heap hb
  have e0 : w.cell? ⟨eb, 0, none⟩ = some y := by rw [Lib.cell_of_heap he]; rfl
  have ef : w.frozen? ⟨eb, 0, none⟩ = false := Lib.frozen_of_heap he 0
  have hne' := Ne.symm hne
  refine callsD_of_wpS Try.func36 rfl fun c₀ cs hu => ?_
  apply wpS_seq
  apply wpS_region
  simp [wpOpsS, go_sem, recoverD, hu, assert_fault, Try.ntmps36, Exit.thenS]
  apply wpS_seq
  apply wpS_region
  simp [wpOpsS, go_sem, Exit.thenS]
  refine wpS_cond (t := true) (by simp [Act.eval, Array.replicate]) ?_
  simp only [if_true]
  refine wpS_of_wp ?_
  simp only [Array.replicate, List.replicate, List.setIfInBounds_toArray, List.set_cons_zero, List.set_cons_succ, List.append_toArray]
  go_wp2_with fail
  have hz := heap_setCell_same _ bb 6 _ _ (Value.slice none 0 0) (heap_setCell_same _ bb 5 _ _ (Value.slice none 0 0) (heap_setCell_same _ bb 4 _ _ (Value.slice none 0 0) (heap_setCell_same _ bb 3 _ _ (Value.slice none 0 0) (heap_setCell_same _ bb 2 _ _ (Value.slice none 0 0) (heap_setCell_same _ bb 1 _ _ (Value.string ⟨#[]⟩) (heap_setCell_same _ bb 0 _ _ (Value.int .i64 0) hb))))))
  simp only [List.setIfInBounds_toArray, List.set_cons_zero, List.set_cons_succ] at hz
  refine ⟨rfl, _, rfl, .tuple #[], by simp [results, Try.results36], rfl, rfl, ?_, ?_, ?_⟩
  · exact ((((((((Kept.refl [bb, eb] w).set _ _ _ (.inl (by simp))).set _ _ _ (.inl (by simp))).set _ _ _ (.inl (by simp))).set _ _ _ (.inl (by simp))).set _ _ _ (.inl (by simp))).set _ _ _ (.inl (by simp))).set _ _ _ (.inl (by simp))).set _ _ _ (.inl (by simp))
  · rw [heap_setCell_other _ ⟨eb, 0, none⟩ bb _ hne]
    exact hz
  · refine heap_setCell_same _ eb 0 #[y] _ _ ?_
    rw [heap_setCell_other _ ⟨bb, 6, none⟩ eb _ hne', heap_setCell_other _ ⟨bb, 5, none⟩ eb _ hne', heap_setCell_other _ ⟨bb, 4, none⟩ eb _ hne', heap_setCell_other _ ⟨bb, 3, none⟩ eb _ hne', heap_setCell_other _ ⟨bb, 2, none⟩ eb _ hne', heap_setCell_other _ ⟨bb, 1, none⟩ eb _ hne', heap_setCell_other _ ⟨bb, 0, none⟩ eb _ hne']
    exact he
theorem catch_none (bb eb : Nat) (w : World) :
    CallsD Try.prog 36 #[.pointer (some ⟨bb, 0, none⟩), .pointer (some ⟨eb, 0, none⟩)] .returning w fun e u' w' => e = .returned (.tuple #[]) ∧ u' = .returning ∧ w' = w := by
  refine callsD_of_wpS Try.func36 rfl fun c₀ cs hu => ?_
  apply wpS_seq
  apply wpS_region
  simp [wpOpsS, go_sem, recoverD, hu, assert_nil, Try.ntmps36, Exit.thenS]
  apply wpS_seq
  apply wpS_region
  simp [wpOpsS, go_sem, Exit.thenS]
  refine wpS_cond (t := false) (by simp [Act.eval, Array.replicate]) ?_
  simp only [Bool.false_eq_true, if_false]
  refine wpS_of_wp (wp_skip ?_)
  cases c₀
  simp_all [bodyPostS, results, Try.results36]
end Go.Proofs.Ytehbjfjhalpgaaa
