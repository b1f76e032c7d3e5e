/-
  In: does a section of a checker accept a word?
-/
import Derived.Test.YthfndmpigpphoaaGreatRows
import Derived.Test.YthfndmpigpphoaaGreatChk1
namespace Go.Proofs.YthfndmpigpphoaaGreat
open Go.RowKit

/-- No state has more edges than there are bytes. -/
def Slim (A : List St) : Prop := ∀ x ∈ A, x.2.length ≤ 256
/-- A pointer to a checker of the sections As. -/
def CkAt (w : World) (c : Value) (As : List (List St)) : Prop :=
  ∃ cb n t vr v0 v1 v2 v3 s, c = .pointer (some ⟨cb, 0, none⟩) ∧ w.heap[cb]? = some (.cells #[n, t, vr, v0, v1, v2, v3, s] 53 (0, 0)) ∧ As.length = 4 ∧ SecP w (fun _ => True) [v0, v1, v2, v3] As ∧ ∀ A ∈ As, shapeB A = true ∧ Slim A
theorem CkAt.keep {w w' : World} {c : Value} {As : List (List St)} (h : CkAt w c As) (hb : Below w.heap.size w w') : CkAt w' c As := by
  obtain ⟨cb, n, t, vr, v0, v1, v2, v3, s, hc, hh, hl, hs, ha⟩ := h
  exact ⟨cb, n, t, vr, v0, v1, v2, v3, s, hc, (hb.block cb (block_lt hh)).trans hh, hl, hs.keep hb, ha⟩

set_option maxHeartbeats 1000000 in
theorem so_section_nil (n : Int) (w : World) : Calls Tryz.prog 84 #[.pointer none, .int .i64 n] w fun e w' => e = .returned (.slice none 0 0) ∧ w' = w := by
  go_enter Tryz.func84, Tryz.ntmps84
  go_wp2
  go_ret
  exact ⟨rfl, rfl⟩
set_option maxHeartbeats 1000000 in
theorem so_section (k : Nat) (hk : k < 4) (c : Value) (As : List (List St)) (A : List St) (w : World) (h : CkAt w c As) (hA : As[k]? = some A) :
    Calls Tryz.prog 84 #[c, .int .i64 k] w fun e w' => ∃ v, e = .returned v ∧ w' = w ∧ AutAt w (fun _ => True) v A ∧ shapeB A = true ∧ Slim A := by
  obtain ⟨cb, n, t, vr, v0, v1, v2, v3, s, rfl, hh, hl, hs, ha⟩ := h
  obtain ⟨hkl, hA'⟩ := List.getElem?_eq_some_iff.1 hA
  have hm : A ∈ As := by rw [← hA']; exact List.getElem_mem hkl
  have h1 := hs k hkl
  rw [hA'] at h1
  obtain ⟨vk, hvk⟩ : ∃ v, [v0, v1, v2, v3].getD k undef = v := ⟨_, rfl⟩
  rw [hvk] at h1
  have hcell : w.cell? ⟨cb, 3 + k, none⟩ = some vk := by
    rw [Lib.cell_of_heap hh]
    have : k = 0 ∨ k = 1 ∨ k = 2 ∨ k = 3 := by omega
    rcases this with rfl | rfl | rfl | rfl <;> · rw [← hvk]; rfl
  have H1 := Lib.hid h1
  have HR := Lib.hid (ha A hm)
  clear hh hs ha hA h1 hA' hvk hm
  have q1 : ¬ ((k : Int) < 0) := by omega
  have q2 : ¬ (4 ≤ (k : Int)) := by omega
  go_enter Tryz.func84, Tryz.ntmps84
  go_wp2
  go_ret
  exact ⟨_, rfl, rfl, H1.out, HR.out⟩
end Go.Proofs.YthfndmpigpphoaaGreat
