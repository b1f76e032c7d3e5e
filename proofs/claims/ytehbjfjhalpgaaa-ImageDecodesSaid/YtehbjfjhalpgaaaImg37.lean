/-
  The law's empty: the book of the example.
-/
import Derived.Test.YtehbjfjhalpgaaaRows
import Derived.Test.YtehbjfjhalpgaaaImg36
import Derived.Test.YtehbjfjhalpgaaaImg29
namespace Go.Proofs.Ytehbjfjhalpgaaa
open Go.RowKit

/-- A slice of one empty state, in a block of its own. -/
def OneSt (W : World) (B : Nat) (v : Value) : Prop := ∃ g, B ≤ g ∧ v = .slice (some ⟨g, 0, none⟩) 1 1 ∧ W.heap[g]? = some (.cells #[.bool false, .slice none 0 0] 53 (0, 0))
theorem OneSt.kept {E : List Nat} {W W' : World} {B : Nat} {v : Value} (h : OneSt W B v) (hk : Kept E W W') (hE : ∀ x ∈ E, x < B) : OneSt W' B v := by
  obtain ⟨g, h1, h2, h3⟩ := h
  exact ⟨g, h1, h2, hk.at h3 (fun hm => by have := hE g hm; omega)⟩
theorem OneSt.aut {W : World} {B : Nat} {v : Value} (h : OneSt W B v) : AutAt W (fun g => B ≤ g) v [(false, [])] := by
  obtain ⟨g, h1, rfl, h3⟩ := h
  refine ⟨_, 1, rfl, ⟨Nat.le_refl _, by unfold maxLen; omega⟩, .inr ⟨g, 0, rfl, block_lt h3, h1, fun k hk => ?_⟩⟩
  obtain rfl : k = 0 := by simpa using hk
  exact ⟨by rw [Lib.cell_of_heap h3]; rfl, .slice none 0 0, by rw [Lib.cell_of_heap h3]; rfl, none, 0, rfl, ⟨Nat.le_refl _, by unfold maxLen; omega⟩, .inl rfl⟩
structure ESt (w W : World) (cs : Array Value) : Prop where
  below : Below w.heap.size w W
  size : w.heap.size + 1 + 1 ≤ W.heap.size
  res : W.heap[w.heap.size]? = some (.cells zeroCells 26 (0, 0))
  out : W.heap[w.heap.size + 1]? = some (.cells cs 26 (0, 0))
theorem ESt.call {w W W' : World} {cs : Array Value} (h : ESt w W cs) (hk : Kept [] W W') : ESt w W' cs :=
  ⟨h.below.trans (hk.below (by have := h.size; omega) (by simp)), Nat.le_trans h.size hk.size, hk.at h.res (by simp), hk.at h.out (by simp)⟩
theorem ESt.set {w W : World} {cs : Array Value} (h : ESt w W cs) (i : Nat) (v : Value) : ESt w (W.setCell ⟨w.heap.size + 1, i, none⟩ v) (cs.setIfInBounds i v) :=
  ⟨h.below.trans (((Kept.refl [w.heap.size + 1] W).set _ _ _ (.inl (by simp))).below (by have := h.size; omega) (by simp)), by simpa [World.setCell] using h.size,
    by rw [heap_setCell_other W _ _ _ (by simp)]; exact h.res, heap_setCell_same W _ i _ _ _ h.out⟩
theorem ESt.cell {w W : World} {cs : Array Value} (h : ESt w W cs) (i : Nat) {x : Value} (hx : cs[i]? = some x) : W.cell? ⟨w.heap.size + 1, i, none⟩ = some x := by rw [Lib.cell_of_heap h.out]; exact hx
theorem ESt.fz {w W : World} {cs : Array Value} (h : ESt w W cs) (i : Nat) : W.frozen? ⟨w.heap.size + 1, i, none⟩ = false := Lib.frozen_of_heap h.out i
theorem ESt.start (w : World) (cs : Array Value) : ESt w ((w.alloc (.cells zeroCells 26)).alloc (.cells cs 26)) cs := by
  refine ⟨((Below.refl _ _).alloc (Nat.le_refl _) _).alloc (by simp) _, by simp, ?_, ?_⟩
  · rw [Below.heap_alloc _ _ _ (by simp)]
    exact heap_alloc_new w _
  · have := heap_alloc_new (w.alloc (.cells zeroCells 26)) (.cells cs 26)
    simpa using this
theorem eres_store {w W : World} {cs : Array Value} (x0 x1 x2 x3 x4 x5 x6 : Value) (h : ESt w W cs) :
    let Z := (((((((W.setCell ⟨w.heap.size, 0, none⟩ x0).setCell ⟨w.heap.size, 1, none⟩ x1).setCell ⟨w.heap.size, 2, none⟩ x2).setCell ⟨w.heap.size, 3, none⟩ x3).setCell ⟨w.heap.size, 4, none⟩ x4).setCell ⟨w.heap.size, 5, none⟩ x5).setCell ⟨w.heap.size, 6, none⟩ x6)
    Z.heap[w.heap.size]? = some (.cells #[x0, x1, x2, x3, x4, x5, x6] 26 (0, 0)) ∧ Kept [w.heap.size] W Z ∧ Below w.heap.size w Z := by
  intro Z
  have hz := heap_setCell_same _ w.heap.size 6 _ _ x6 (heap_setCell_same _ w.heap.size 5 _ _ x5 (heap_setCell_same _ w.heap.size 4 _ _ x4 (heap_setCell_same _ w.heap.size 3 _ _ x3 (heap_setCell_same _ w.heap.size 2 _ _ x2 (heap_setCell_same _ w.heap.size 1 _ _ x1 (heap_setCell_same _ w.heap.size 0 _ _ x0 h.res))))))
  simp only [List.setIfInBounds_toArray, List.set_cons_zero, List.set_cons_succ] at hz
  have hk : Kept [w.heap.size] W Z := (((((((Kept.refl [w.heap.size] W).set _ _ _ (.inl (by simp))).set _ _ _ (.inl (by simp))).set _ _ _ (.inl (by simp))).set _ _ _ (.inl (by simp))).set _ _ _ (.inl (by simp))).set _ _ _ (.inl (by simp))).set _ _ _ (.inl (by simp))
  exact ⟨hz, hk, h.below.trans (hk.below h.below.size (by simp))⟩
theorem OneSt.base {W : World} {B B' : Nat} {v : Value} (h : OneSt W B v) (hB : B' ≤ B) : OneSt W B' v := by
  obtain ⟨g, h1, h2, h3⟩ := h
  exact ⟨g, by omega, h2, h3⟩
def OnesTo (W : World) (B j : Nat) (vs : List Value) : Prop := ∀ k, k < j → OneSt W B (vs.getD k undef)
theorem OnesTo.step {w W : World} {j : Nat} {vs vs' : List Value} {i : Nat} (h : OnesTo W (w.heap.size + 1 + 1) j vs) (hw : w.heap.size + 1 + 1 ≤ W.heap.size) (hv : vs'.getD j undef = .slice (some ⟨W.heap.size, 0, none⟩) 1 1) (hs : ∀ k, k < j → vs'.getD k undef = vs.getD k undef) :
    OnesTo ((W.alloc (.cells #[.bool false, .slice none 0 0] 53)).setCell ⟨w.heap.size + 1, i, none⟩ (.slice (some ⟨W.heap.size, 0, none⟩) 1 1)) (w.heap.size + 1 + 1) (j + 1) vs' := by
  intro k hk
  have hK : Kept [w.heap.size + 1] W ((W.alloc (.cells #[.bool false, .slice none 0 0] 53)).setCell ⟨w.heap.size + 1, i, none⟩ (.slice (some ⟨W.heap.size, 0, none⟩) 1 1)) := ((Kept.refl _ _).alloc _).set _ _ _ (.inl (by simp))
  by_cases e : k = j
  · subst e
    rw [hv]
    refine ⟨W.heap.size, hw, rfl, ?_⟩
    rw [heap_setCell_other _ ⟨w.heap.size + 1, i, none⟩ _ _ (by simp; omega)]
    exact heap_alloc_new W _
  · rw [hs k (by omega)]
    exact (h k (by omega)).kept hK (by simp)
theorem results_empty (bb : Nat) (x0 x1 x2 x3 x4 x5 x6 : Value) (w : World) (tmps : Array Value) (h2 : tmps[0]?.getD undef = .pointer (some ⟨bb, 0, none⟩))
    (hb : w.heap[bb]? = some (.cells #[x0, x1, x2, x3, x4, x5, x6] 26 (0, 0))) :
    (results Try.f33 tmps).run Try.prog w = .ok (.agg #[x0, x1, x2, x3, x4, x5, x6]) w := by
  have b0 : w.cell? ⟨bb, 0, none⟩ = some x0 := by rw [Lib.cell_of_heap hb]; rfl
  have b1 : w.cell? ⟨bb, 1, none⟩ = some x1 := by rw [Lib.cell_of_heap hb]; rfl
  have b2 : w.cell? ⟨bb, 2, none⟩ = some x2 := by rw [Lib.cell_of_heap hb]; rfl
  have b3 : w.cell? ⟨bb, 3, none⟩ = some x3 := by rw [Lib.cell_of_heap hb]; rfl
  have b4 : w.cell? ⟨bb, 4, none⟩ = some x4 := by rw [Lib.cell_of_heap hb]; rfl
  have b5 : w.cell? ⟨bb, 5, none⟩ = some x5 := by rw [Lib.cell_of_heap hb]; rfl
  have b6 : w.cell? ⟨bb, 6, none⟩ = some x6 := by rw [Lib.cell_of_heap hb]; rfl
  simp [results, Try.results33, go_sem, h2, b0, b1, b2, b3, b4, b5, b6]
set_option maxHeartbeats 4000000 in
set_option maxRecDepth 100000 in
theorem empty_any (w : World) : Calls Try.prog 33 #[] w fun e w' => ∃ s0 s1 s2 s3, e = .returned (.agg #[.int .i64 3, .string ⟨#[]⟩, .slice none 0 0, s0, s1, s2, s3]) ∧ Below w.heap.size w w' ∧ OneSt w' w.heap.size s0 ∧ OneSt w' w.heap.size s1 ∧ OneSt w' w.heap.size s2 ∧ OneSt w' w.heap.size s3 := by
  go_enter Try.func33, Try.ntmps33
  go_wp2_with fail
  obtain ⟨W0, hW0⟩ : ∃ W0, (w.alloc (.cells zeroCells 26)).alloc (.cells #[.int .i64 3, .string ⟨#[]⟩, .slice none 0 0, .slice none 0 0, .slice none 0 0, .slice none 0 0, .slice none 0 0] 26) = W0 := ⟨_, rfl⟩
  have HE0 : Hid (ESt w W0 #[.int .i64 3, .string ⟨#[]⟩, .slice none 0 0, .slice none 0 0, .slice none 0 0, .slice none 0 0, .slice none 0 0]) := Lib.hid (by rw [← hW0]; exact ESt.start _ _)
  rw [hW0]
  clear hW0
  go_loopw [2, 4] (fun _ i W => ∃ (j : Nat) (s0 s1 s2 s3 : Value), j ≤ 4 ∧ i = .int .i64 j ∧ Hid (ESt w W #[.int .i64 3, .string ⟨#[]⟩, .slice none 0 0, s0, s1, s2, s3]) ∧ Hid (OnesTo W (w.heap.size + 1 + 1) j [s0, s1, s2, s3])) (fun _ i _ => 4 - (intOf i).toNat)
  case atStart => exact ⟨0, _, _, _, _, by omega, rfl, HE0, Lib.hid (fun _ h => absurd h (Nat.not_lt_zero _))⟩
  case round =>
    obtain ⟨j, s0, s1, s2, s3, hj, rfl, HE, HO⟩ := hrel
    by_cases hlt : j < 4
    · have hj4 : j = 0 ∨ j = 1 ∨ j = 2 ∨ j = 3 := by omega
      have hc : ∀ ob i x, #[.int .i64 3, .string ⟨#[]⟩, .slice none 0 0, s0, s1, s2, s3][i]? = some x → (wr.alloc ob).cell? ⟨w.heap.size + 1, i, none⟩ = some x := fun ob i x hx => (HE.out.call ((Kept.refl [] _).alloc ob)).cell i hx
      have d3 := fun ob => hc ob 3 _ rfl
      have d4 := fun ob => hc ob 4 _ rfl
      have d5 := fun ob => hc ob 5 _ rfl
      have d6 := fun ob => hc ob 6 _ rfl
      have g3 : ∀ ob i, (wr.alloc ob).frozen? ⟨w.heap.size + 1, i, none⟩ = false := fun ob i => (HE.out.call ((Kept.refl [] _).alloc ob)).fz i
      have HEa := Lib.hid (HE.out.call ((Kept.refl [] _).alloc (.cells #[.bool false, .slice none 0 0] 53)))
      clear hc
      rcases hj4 with rfl | rfl | rfl | rfl
      all_goals
        go_wp2_with fail
        refine ⟨⟨_ + 1, _, _, _, _, by omega, rfl, Lib.hid (HEa.out.set _ _), Lib.hid (HO.out.step HE.out.size rfl (fun k hk => by rcases k with _ | _ | _ | k <;> first | rfl | omega))⟩, by simp [intOf]⟩
    · obtain rfl : j = 4 := by omega
      obtain ⟨y0, _, e0, _⟩ := HO.out 0 (by omega)
      obtain ⟨y1, _, e1, _⟩ := HO.out 1 (by omega)
      obtain ⟨y2, _, e2, _⟩ := HO.out 2 (by omega)
      obtain ⟨y3, _, e3, _⟩ := HO.out 3 (by omega)
      obtain rfl : s0 = _ := e0
      obtain rfl : s1 = _ := e1
      obtain rfl : s2 = _ := e2
      obtain rfl : s3 = _ := e3
      have c0 := HE.out.cell 0 rfl
      have r0 : wr.cell? ⟨w.heap.size, 0, none⟩ = zeroCells[0]? := by rw [Lib.cell_of_heap HE.out.res]
      have c1 := HE.out.cell 1 rfl
      have r1 : wr.cell? ⟨w.heap.size, 1, none⟩ = zeroCells[1]? := by rw [Lib.cell_of_heap HE.out.res]
      have c2 := HE.out.cell 2 rfl
      have r2 : wr.cell? ⟨w.heap.size, 2, none⟩ = zeroCells[2]? := by rw [Lib.cell_of_heap HE.out.res]
      have c3 := HE.out.cell 3 rfl
      have r3 : wr.cell? ⟨w.heap.size, 3, none⟩ = zeroCells[3]? := by rw [Lib.cell_of_heap HE.out.res]
      have c4 := HE.out.cell 4 rfl
      have r4 : wr.cell? ⟨w.heap.size, 4, none⟩ = zeroCells[4]? := by rw [Lib.cell_of_heap HE.out.res]
      have c5 := HE.out.cell 5 rfl
      have r5 : wr.cell? ⟨w.heap.size, 5, none⟩ = zeroCells[5]? := by rw [Lib.cell_of_heap HE.out.res]
      have c6 := HE.out.cell 6 rfl
      have r6 : wr.cell? ⟨w.heap.size, 6, none⟩ = zeroCells[6]? := by rw [Lib.cell_of_heap HE.out.res]
      have rf : ∀ i, wr.frozen? ⟨w.heap.size, i, none⟩ = false := Lib.frozen_of_heap HE.out.res
      have HZ := Lib.hid (eres_store (.int .i64 3) (.string ⟨#[]⟩) (.slice none 0 0) (.slice (some ⟨y0, 0, none⟩) 1 1) (.slice (some ⟨y1, 0, none⟩) 1 1) (.slice (some ⟨y2, 0, none⟩) 1 1) (.slice (some ⟨y3, 0, none⟩) 1 1) HE.out)
      have HQ := Lib.hid (fun k (hk : k < 4) => ((HO.out k hk).kept HZ.out.2.1 (by simp; omega)).base (B' := w.heap.size) (by omega))
      go_wp2_with fail
      exact ⟨rfl, _, results_empty w.heap.size _ _ _ _ _ _ _ _ _ rfl HZ.out.1, _, _, _, _, rfl, HZ.out.2.2, HQ.out 0 (by omega), HQ.out 1 (by omega), HQ.out 2 (by omega), HQ.out 3 (by omega)⟩
end Go.Proofs.Ytehbjfjhalpgaaa
