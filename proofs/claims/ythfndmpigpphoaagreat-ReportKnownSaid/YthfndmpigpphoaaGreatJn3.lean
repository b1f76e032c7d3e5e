/-
  The reference's table of the pieces walked.
-/
import Derived.Test.YthfndmpigpphoaaGreatRows
import Derived.Test.YthfndmpigpphoaaGreatJn2
import Derived.Test.YthfndmpigpphoaaGreatChk4
namespace Go.Proofs.YthfndmpigpphoaaGreat
open Go.RowKit

/-- Is there a piece from i to j? -/
def pieceB (A : List St) (least : Int) (L : List UInt8) (i j : Nat) : Bool := decide (j ∈ endsOf A least L i)
theorem pieceB_lt {A : List St} {least : Int} {L : List UInt8} {i j : Nat} (h : pieceB A least L i j = true) : i < j := (pcs_bd (of_decide_eq_true h)).1
theorem bool_row : (Tryz.prog.info? 4).map (fun i => (i.zero, i.size, i.bytes)) = some (some (.bool false), 1, 1) := by kernel_rfl
theorem bools_info : (Tryz.prog.info? 108).map (fun i => (i.zero, i.size, i.bytes)) = some (some (.slice none 0 0), 1, 24) := by kernel_rfl
/-- A row of n + 1 answers in the block g. -/
def RowB (w : World) (g n : Nat) (f : Nat → Bool) : Prop := ∃ cs, w.heap[g]? = some (.cells cs 4 (0, 0)) ∧ cs.size = n + 1 ∧ ∀ j, j ≤ n → cs[j]? = some (.bool (f j))
theorem RowB.fz {w : World} {g n : Nat} {f : Nat → Bool} (h : RowB w g n f) (j : Nat) : w.frozen? ⟨g, j, none⟩ = false := by
  obtain ⟨cs, hc, _⟩ := h
  exact Lib.frozen_of_heap hc j
theorem RowB.cell {w : World} {g n : Nat} {f : Nat → Bool} (h : RowB w g n f) (j : Nat) (hj : j ≤ n) : w.cell? ⟨g, j, none⟩ = some (.bool (f j)) := by
  obtain ⟨cs, hc, _, hx⟩ := h
  rw [Lib.cell_of_heap hc]; exact hx j hj
theorem RowB.congr {w : World} {g n : Nat} {f f' : Nat → Bool} (h : RowB w g n f) (he : ∀ j, j ≤ n → f j = f' j) : RowB w g n f' := by
  obtain ⟨cs, hc, hn, hx⟩ := h
  exact ⟨cs, hc, hn, fun j hj => by rw [← he j hj]; exact hx j hj⟩
theorem RowB.set {w : World} {g n : Nat} {f : Nat → Bool} (h : RowB w g n f) (i : Nat) : RowB (w.setCell ⟨g, i, none⟩ (.bool true)) g n (fun j => if j = i then true else f j) := by
  obtain ⟨cs, hc, hn, hx⟩ := h
  refine ⟨_, Go.heap_setCell_same w g i _ _ _ hc, by simp [hn], fun j hj => ?_⟩
  by_cases e : j = i
  · subst e
    show _ = some (Value.bool (if j = j then true else f j))
    rw [if_pos rfl]
    simp [hn, Nat.lt_succ_of_le hj]
  · show _ = some (Value.bool (if j = i then true else f j))
    rw [if_neg e, Array.getElem?_setIfInBounds_ne (Ne.symm e)]
    exact hx j hj
theorem RowB.new (w : World) (n : Nat) : RowB (w.alloc (.cells (madeCells #[Value.bool false] (n + 1)) 4)) w.heap.size n (fun _ => false) := by
  refine ⟨madeCells #[Value.bool false] (n + 1), heap_alloc_new w _, size_madeCells _ _, fun j hj => ?_⟩
  rw [← Array.getElem?_toList, toList_madeCells_one]
  simp [Nat.lt_succ_of_le hj]
/-- The rows so far: each of its own. -/
def TabS (w : World) (B n i : Nat) (ov : Value) (p : Nat → Nat → Bool) : Prop := ∃ gs : List Nat, gs.length = i ∧ w.ownsRow B 108 1 ov i (gs.map fun g => .slice (some ⟨g, 0, none⟩) (n + 1) (n + 1)) ∧ ∀ j (h : j < gs.length), RowB w gs[j] n (p j)
theorem RowB.keep {w w' : World} {g n : Nat} {f : Nat → Bool} (h : RowB w g n f) (hb : w'.heap[g]? = w.heap[g]?) : RowB w' g n f := by
  obtain ⟨cs, hc, r⟩ := h
  exact ⟨cs, hb.trans hc, r⟩
theorem RowB.lt {w : World} {g n : Nat} {f : Nat → Bool} (h : RowB w g n f) : g < w.heap.size := by
  obtain ⟨cs, hc, _⟩ := h
  exact (Array.getElem?_eq_some_iff.1 hc).1
theorem TabS.keep {w w' : World} {B n i : Nat} {ov : Value} {p : Nat → Nat → Bool} (h : TabS w B n i ov p) (hb : Below w.heap.size w w') : TabS w' B n i ov p := by
  obtain ⟨gs, hl, ho, hr⟩ := h
  exact ⟨gs, hl, own_below ho hb, fun j hj => (hr j hj).keep (hb.block _ (hr j hj).lt)⟩
/-- A row more. -/
theorem TabS.push {w w' : World} {B n i g m : Nat} {ov ov' : Value} {p : Nat → Nat → Bool} (h : TabS w B n i ov p) (hg : RowB w g n (p i)) (ho : w'.ownsRow B 108 1 ov' m ((h.choose.map fun g => Value.slice (some ⟨g, 0, none⟩) (n + 1) (n + 1)) ++ [.slice (some ⟨g, 0, none⟩) (n + 1) (n + 1)])) (hm : m = i + 1) (hw : w.grownBy w' ov.ownBlock) (hne : ∀ k f, RowB w k n f → ov.ownBlock ≠ some k) : TabS w' B n (i + 1) ov' p := by
  subst hm
  obtain ⟨hl, _, hr⟩ := h.choose_spec
  refine ⟨h.choose ++ [g], by rw [List.length_append, hl]; rfl, by rw [List.map_append]; exact ho, fun j hj => ?_⟩
  rw [List.length_append, List.length_singleton] at hj
  by_cases e : j < h.choose.length
  · rw [List.getElem_append_left e]
    have h1 := hr j e
    exact h1.keep (hw.block _ h1.lt (fun hq => hne _ _ h1 hq.symm))
  · have hje : j = h.choose.length := by omega
    have : (h.choose ++ [g])[j]'(by rw [List.length_append, List.length_singleton]; omega) = g := by
      subst hje; simp
    rw [this, show p j = p i by rw [hje, hl]]
    exact hg.keep (hw.block _ hg.lt (fun hq => hne _ _ hg hq.symm))
theorem TabS.tab {w : World} {B n : Nat} {ov : Value} {p : Nat → Nat → Bool} (h : TabS w B n n ov p) : TabAt w ov n p := by
  obtain ⟨gs, hl, ho, hr⟩ := h
  obtain ⟨_, A, cap, hv, _, hc⟩ := Rd.of_own ho
  refine ⟨A, cap, hv, hc.imp id ?_⟩
  rintro ⟨g, o, hA, hcell⟩
  refine ⟨g, o, hA, fun i hi => ?_⟩
  have h1 := hcell i (.slice (some ⟨gs[i]'(by omega), 0, none⟩) (n + 1) (n + 1)) (by simp [show i < gs.length by omega])
  exact ⟨gs[i]'(by omega), 0, n + 1, h1, fun j hj => by rw [Nat.zero_add]; exact (hr i (by omega)).cell j hj⟩
/-- What the inner loop holds: D is what was found so far. -/
def PcSt (A : List St) (least : Int) (L : List UInt8) (i k : Nat) (q : Int) (D : List Nat) : Prop :=
  (q = -1 ∧ endsOf A least L i = D) ∨ (∃ (x h : Nat), q = (x : Int) ∧ Low A h (x : Int) ∧ endsOf A least L i = D ++ pcs A least i x k (L.drop k))
theorem PcSt.step {A : List St} {least : Int} {L : List UInt8} {i k : Nat} {x h : Nat} {D : List Nat} (hl : Low A h (x : Int)) (he : endsOf A least L i = D ++ pcs A least i x k (L.drop k)) (hk : k < L.length) :
    PcSt A least L i (k + 1) (stepV (A.getD x (false, [])).2 L[k]) (D ++ if (match stepE (A.getD x (false, [])).2 L[k] with | none => false | some t => finB A t && decide (least ≤ ((k + 1 : Nat) : Int) - i)) then [k + 1] else []) := by
  rw [List.drop_eq_getElem_cons hk, pcs, Int.toNat_natCast] at he
  cases hs : stepE (A.getD x (false, [])).2 L[k] with
  | none =>
    rw [hs] at he
    left
    exact ⟨by unfold stepV; rw [hs], by simpa using he⟩
  | some t =>
    rw [hs] at he
    dsimp only at he
    right
    cases h with
    | zero => cases hl
    | succ h =>
      have hlow := hl.step (t := t) (b := L[k]) (by rw [Int.toNat_natCast]; exact hs)
      refine ⟨t.toNat, h, ?_, ?_, ?_⟩
      · unfold stepV; rw [hs]; exact (Int.toNat_of_nonneg hlow.nn).symm
      · rw [Int.toNat_of_nonneg hlow.nn]; exact hlow
      · rw [Int.toNat_of_nonneg hlow.nn, he, List.append_assoc]
end Go.Proofs.YthfndmpigpphoaaGreat
