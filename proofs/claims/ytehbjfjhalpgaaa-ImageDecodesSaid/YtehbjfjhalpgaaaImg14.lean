/-
  The reader: take and frame.
-/
import Derived.Test.YtehbjfjhalpgaaaRows
import Derived.Test.YtehbjfjhalpgaaaImg13
namespace Go.Proofs.Ytehbjfjhalpgaaa
open Go.RowKit

theorem RdrAt.put {w : World} {b a : Nat} {s : ByteArray} (h : RdrAt w b s a) (m p : Nat) : RdrAt ((w.drewN m).setCell ⟨b, 1, none⟩ (.int .i64 p)) b s p := by
  have h' : RdrAt (w.drewN m) b s a := h
  exact Go.heap_setCell_same (w.drewN m) b 1 _ _ _ h'

set_option maxHeartbeats 4000000 in
set_option maxRecDepth 100000 in
theorem take_ok (b : Nat) (s : ByteArray) (a n : Nat) (w : World) (hr : RdrAt w b s a) (hs : s.size ≤ 140737488355328) (hn : a + n ≤ s.size) :
    Calls Try.prog 54 #[.pointer (some ⟨b, 0, none⟩), .int .i64 n] w fun e w' =>
      e = .returned (.string (s.extract a (a + n))) ∧ ∃ m k, w' = ((w.drewN m).setCell ⟨b, 1, none⟩ (.int .i64 ((a : Int) + (n : Int)))).drewN k := by
  obtain ⟨c0, c1, f1⟩ := hr.cells
  have HD : Hid (∀ m, ((w.drewN m).setCell ⟨b, 1, none⟩ (.int .i64 ((a : Int) + (n : Int)))).cell? ⟨b, 0, none⟩ = some (.string s) ∧ ((w.drewN m).setCell ⟨b, 1, none⟩ (.int .i64 ((a : Int) + (n : Int)))).cell? ⟨b, 1, none⟩ = some (.int .i64 ((a : Int) + (n : Int)))) := Lib.hid (fun m => by
    have h := (hr.put m (a + n)).cells
    rw [Int.natCast_add] at h
    exact ⟨h.1, h.2.1⟩)
  have hle : (n : Int) ≤ (s.size : Int) - (a : Int) := by omega
  have hm : ∀ (x : Nat), Calls Try.prog 39 #[.pointer (some ⟨b, 0, none⟩), .bool true, .int .i64 60] (w.drewN x) fun e w' => e = .returned (.tuple #[]) ∧ ∃ n, w' = w.drewN n := fun x => (must_true _ _ _).mono fun _ _ ⟨he, hn⟩ => ⟨he, x, hn.symm⟩
  have HM := Lib.hid hm
  clear hm hr
  go_enter Try.func54, Try.ntmps54
  go_wp2_with fail
  go_quiet (first | (go_at_call 39; exact HM.out _))
  go_wp2_with fail
  obtain ⟨d0, d1⟩ := HD.out nq
  obtain ⟨W2, hW⟩ : ∃ W2, (w.drewN nq).setCell ⟨b, 1, none⟩ (.int .i64 ((a : Int) + (n : Int))) = W2 := ⟨_, rfl⟩
  rw [hW] at d0 d1 ⊢
  have HW := Lib.hid hW
  clear hW
  go_quiet (fail)
  go_wp2_with fail
  go_ret
  exact ⟨rfl, _, _, congrArg (World.drewN · _) HW.out.symm⟩
end Go.Proofs.Ytehbjfjhalpgaaa
