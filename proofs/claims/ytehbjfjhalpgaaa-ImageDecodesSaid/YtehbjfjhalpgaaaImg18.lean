/-
  An automaton's one shape: the program's Shape.
-/
import Derived.Test.YtehbjfjhalpgaaaRows
import Derived.Test.YtehbjfjhalpgaaaImg17
import Derived.Deep.OwnRows
namespace Go.Proofs.Ytehbjfjhalpgaaa
open Go.RowKit

theorem EdsAt.lt {w : World} {p : Nat → Prop} {v : Value} {es : List Ed} (h : EdsAt w p v es) : EdsAt w (fun k => p k ∧ k < w.heap.size) v es := by
  obtain ⟨A, cap, hv, hc, h0⟩ := h
  exact ⟨A, cap, hv, hc, h0.imp id fun ⟨g, o, hA, hg, hp, hcs⟩ => ⟨g, o, hA, hg, ⟨hp, hg⟩, hcs⟩⟩
theorem AutAt.lt {w : World} {p : Nat → Prop} {v : Value} {a : List St} (h : AutAt w p v a) : AutAt w (fun k => p k ∧ k < w.heap.size) v a := by
  obtain ⟨A, cap, hv, hc, h0⟩ := h
  exact ⟨A, cap, hv, hc, h0.imp id fun ⟨g, o, hA, hg, hp, hcs⟩ => ⟨g, o, hA, hg, ⟨hp, hg⟩, fun k h => ⟨(hcs k h).1, by
    obtain ⟨ev, h1, h2⟩ := (hcs k h).2
    exact ⟨ev, h1, h2.lt⟩⟩⟩⟩
def shapeV (A : List St) : Int := if shapeB A then 0 else 190
theorem shapeV_len (A : List St) (h : A.length = 0 ∨ 1048576 < A.length) : shapeV A = 190 := by
  unfold shapeV shapeB
  rcases h with h | h
  · rw [decide_eq_false (p := 0 < A.length) (by omega)]; rfl
  · rw [decide_eq_false (p := A.length ≤ 1048576) (by omega)]; simp
theorem shapeV_none (A : List St) (h : vis A (A.length + 1) 0 0 (fun _ => false) = none) : shapeV A = 190 := by
  unfold shapeV shapeB; rw [h]; simp
theorem shapeV_some (A : List St) (h1 : 0 < A.length) (h2 : A.length ≤ 1048576) (m : Nat) (d : Dn) (h : vis A (A.length + 1) 0 0 (fun _ => false) = some (m, d)) : shapeV A = if m = A.length then 0 else 190 := by
  unfold shapeV shapeB
  rw [h, decide_eq_true h1, decide_eq_true h2]
  simp

theorem look_new (w : World) (av : Value) (N : Nat) :
    LookP ((w.alloc (.cells (madeCells #[Value.int .u8 0] N) 5)).alloc (.cells #[av, .int .i64 0, .slice (some ⟨w.heap.size, 0, none⟩) N N] 98)) (w.heap.size + 1) w.heap.size av N 0 (fun _ => false) := by
  refine ⟨⟨N, ?_⟩, ⟨madeCells #[Value.int .u8 0] N, ?_, size_madeCells _ _, fun k hk => ⟨0, ?_, by simp⟩⟩, by omega⟩
  · have := heap_alloc_new (w.alloc (.cells (madeCells #[Value.int .u8 0] N) 5)) (.cells #[av, .int .i64 0, .slice (some ⟨w.heap.size, 0, none⟩) N N] 98)
    simpa using this
  · rw [Below.heap_alloc _ _ _ (by simp)]
    exact heap_alloc_new w _
  · rw [← Array.getElem?_toList, toList_madeCells_one]; simp [hk]

set_option maxHeartbeats 4000000 in
set_option maxRecDepth 100000 in
theorem Shape_any (A : List St) (v : Value) (w : World) (hA : AutAt w (fun _ => True) v A) :
    Calls Try.prog 17 #[v] w fun e w' => e = .returned (.int .i64 (shapeV A)) ∧ Below w.heap.size w w' := by
  have hA' := hA
  obtain ⟨Ax, cap0, rfl, hc0, _⟩ := hA
  have HC0 := Lib.hid hc0
  clear hc0
  by_cases h0 : A.length = 0
  · have HV := Lib.hid (shapeV_len A (.inl h0))
    have h0' : ((A.length : Int) == 0) = true := by simpa using h0
    clear hA' h0
    go_enter Try.func17, Try.ntmps17
    go_wp2_with fail
    go_ret
    exact ⟨by rw [HV.out]; rfl, Below.refl _ _⟩
  · have h0' : ((A.length : Int) == 0) = false := by simpa using h0
    by_cases h1 : 1048576 < A.length
    · have HV := Lib.hid (shapeV_len A (.inr h1))
      clear hA' h0
      go_enter Try.func17, Try.ntmps17
      go_wp2_with fail
      go_ret
      exact ⟨by rw [HV.out]; rfl, Below.refl _ _⟩
    · have hmk := run_make_row' (P := Try.prog) 57 5 (.int .u8 0) 1 Try.underlying57 byte_info rfl .i64 .i64 A.length (by omega) (by omega) w
      have HL := Lib.hid (look_new w (.slice Ax A.length cap0) A.length)
      have HA := Lib.hid hA'
      have H0 := Lib.hid h0
      have H1 := Lib.hid h1
      obtain ⟨r, hr⟩ : ∃ r, vis A (A.length + 1) 0 0 (fun _ => false) = r := ⟨_, rfl⟩
      have HCall : Hid (Calls Try.prog 44 #[.pointer (some ⟨w.heap.size + 1, 0, none⟩), .int .i64 0] ((w.alloc (.cells (madeCells #[Value.int .u8 0] A.length) 5)).alloc (.cells #[.slice Ax A.length cap0, .int .i64 0, .slice (some ⟨w.heap.size, 0, none⟩) A.length A.length] 98))
          (PostV ((w.alloc (.cells (madeCells #[Value.int .u8 0] A.length) 5)).alloc (.cells #[.slice Ax A.length cap0, .int .i64 0, .slice (some ⟨w.heap.size, 0, none⟩) A.length A.length] 98)) (w.heap.size + 1) w.heap.size (.slice Ax A.length cap0) A.length 0 r)) := Lib.hid (by
        rw [← hr]
        refine visit_any A _ _ _ (by omega) (A.length + 1) 0 0 _ _ (by omega) (by omega) HL.out ?_
        refine AutAt.mono ((HA.out.lt).kept ((((Kept.refl [] w).alloc _).alloc _)) (by simp)) (fun k hk => ?_)
        simp only [List.mem_cons, List.not_mem_nil, or_false]
        omega)
      have HKB : Hid (∀ W', Kept [w.heap.size + 1, w.heap.size] ((w.alloc (.cells (madeCells #[Value.int .u8 0] A.length) 5)).alloc (.cells #[.slice Ax A.length cap0, .int .i64 0, .slice (some ⟨w.heap.size, 0, none⟩) A.length A.length] 98)) W' → Below w.heap.size w W') := Lib.hid (fun W' h =>
        ((((Kept.refl [w.heap.size + 1, w.heap.size] w).alloc _).alloc _).trans h).below (Nat.le_refl _) (by simp))
      rcases r with _ | ⟨m, d⟩
      · have HV := Lib.hid (shapeV_none A hr)
        clear hA' h0 hr HL HA
        go_enter Try.func17, Try.ntmps17
        go_wp2_with fail
        refine HCall.out.mono ?_
        rintro e w1 ⟨rfl, hk⟩
        have HB := Lib.hid (HKB.out _ hk)
        clear hk
        go_wp2_with fail
        go_ret
        exact ⟨by rw [HV.out]; rfl, HB.out⟩
      · have HV := Lib.hid (shapeV_some A (by omega) (by omega) m d hr)
        clear hA' h0 hr HL HA
        go_enter Try.func17, Try.ntmps17
        go_wp2_with fail
        refine HCall.out.mono ?_
        rintro e w1 ⟨rfl, hk, hl, hm1, hm2⟩
        have HB := Lib.hid (HKB.out _ hk)
        obtain ⟨cap, _, c1, _, _⟩ := hl.head
        clear hk hl hm1 hm2
        by_cases hm : m = A.length
        · have hm' : ((m : Int) != (A.length : Int)) = false := by simp [hm]
          have HV' := Lib.hid (HV.out.trans (if_pos hm))
          clear hm
          go_wp2_with fail
          go_ret
          exact ⟨by rw [HV'.out]; rfl, HB.out⟩
        · have hm' : ((m : Int) != (A.length : Int)) = true := by simp [hm]; omega
          have HV' := Lib.hid (HV.out.trans (if_neg hm))
          clear hm
          go_wp2_with fail
          go_ret
          exact ⟨by rw [HV'.out]; rfl, HB.out⟩
end Go.Proofs.Ytehbjfjhalpgaaa
