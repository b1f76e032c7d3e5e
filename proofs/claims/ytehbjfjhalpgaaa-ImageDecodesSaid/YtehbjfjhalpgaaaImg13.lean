/-
  The reader: number.
-/
import Derived.Test.YtehbjfjhalpgaaaRows
import Derived.Test.YtehbjfjhalpgaaaImg12
namespace Go.Proofs.Ytehbjfjhalpgaaa
open Go.RowKit

/-- A reader at a place, in a block of its own. -/
def RdrAt (w : World) (b : Nat) (s : ByteArray) (a : Nat) : Prop := w.heap[b]? = some (.cells #[.string s, .int .i64 a] 86 (0, 0))
theorem RdrAt.cells {w : World} {b a : Nat} {s : ByteArray} (h : RdrAt w b s a) : w.cell? ⟨b, 0, none⟩ = some (.string s) ∧ w.cell? ⟨b, 1, none⟩ = some (.int .i64 a) ∧ w.frozen? ⟨b, 1, none⟩ = false :=
  ⟨by rw [Lib.cell_of_heap h]; rfl, by rw [Lib.cell_of_heap h]; rfl, Lib.frozen_of_heap h 1⟩

set_option maxHeartbeats 4000000 in
set_option maxRecDepth 100000 in
theorem readerNumber_any (b : Nat) (s : ByteArray) (a : Nat) (w : World) (hr : RdrAt w b s a) (hs : s.size ≤ 140737488355328) (ha : a ≤ 140737488355328) :
    Calls Try.prog 37 #[.pointer (some ⟨b, 0, none⟩)] w fun e w' =>
      if (rdU s.data.toList a).2.2 = 0 then e = .returned (.int .u64 ((rdU s.data.toList a).1 : Nat)) ∧ ∃ m, w' = (w.drewN m).setCell ⟨b, 1, none⟩ (.int .i64 ((rdU s.data.toList a).2.1 : Nat))
      else e = .panicked [{ v := .iface 28 (.int .i64 ((rdU s.data.toList a).2.2 : Nat)), recovered := false }] ∧ ∃ m, w' = w.drewN m := by
  obtain ⟨c0, c1, f1⟩ := hr.cells
  have hq : ∀ (x : Nat), Calls Try.prog 53 #[.string s, .int .i64 a] (w.drewN x) fun e w' => e = .returned (rdV (rdU s.data.toList a)) ∧ ∃ n, w' = w.drewN n := fun x => (ReadUint_any s a _ hs ha).mono fun _ _ ⟨he, hn⟩ => ⟨he, x, hn.symm⟩
  obtain ⟨⟨n, p, e⟩, hR⟩ : ∃ r, rdU s.data.toList a = r := ⟨_, rfl⟩
  rw [hR] at hq ⊢
  have HQ := Lib.hid hq
  clear hq hR hr
  dsimp only
  unfold rdV at HQ
  dsimp only at HQ
  by_cases he : e = 0
  · subst he
    simp only [↓reduceIte]
    go_enter Try.func37, Try.ntmps37
    go_wp2_with fail
    go_quiet (first | (go_at_call 53; exact HQ.out _))
    go_wp2_with fail
    refine (must_true _ _ _).mono ?_
    rintro e w' ⟨rfl, rfl⟩
    go_wp2_with fail
    go_ret
    exact ⟨rfl, _, rfl⟩
  · have hei : ((e : Int) == 0) = false := by rw [beq_eq_false_iff_ne]; omega
    simp only [he, ↓reduceIte]
    go_enter Try.func37, Try.ntmps37
    go_wp2_with fail
    go_quiet (first | (go_at_call 53; exact HQ.out _))
    go_wp2_with fail
    refine (must_false _ _ _).mono ?_
    rintro e' w' ⟨rfl, rfl⟩
    exact ⟨rfl, rfl, _, rfl⟩
end Go.Proofs.Ytehbjfjhalpgaaa
