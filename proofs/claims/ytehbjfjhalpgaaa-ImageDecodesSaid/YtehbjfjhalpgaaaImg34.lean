/-
  The law's ref: the book for the document's answer.
-/
import Derived.Test.YtehbjfjhalpgaaaRows
import Derived.Test.YtehbjfjhalpgaaaImg33
import Derived.Test.YtehbjfjhalpgaaaImg30
namespace Go.Proofs.Ytehbjfjhalpgaaa
open Go.RowKit

structure FSt (w W : World) (bk cs : Array Value) : Prop where
  below : Below w.heap.size w W
  size : w.heap.size + 3 ≤ W.heap.size
  arg : W.heap[w.heap.size]? = some (.cells bk 26 (0, 0))
  res : W.heap[w.heap.size + 1]? = some (.cells zeroCells 37 (0, 0))
  out : W.heap[w.heap.size + 1 + 1]? = some (.cells cs 37 (0, 0))
theorem FSt.call {w W W' : World} {bk cs : Array Value} (h : FSt w W bk cs) (hk : Kept [] W W') : FSt w W' bk cs :=
  ⟨h.below.trans (hk.below (by have := h.size; omega) (by simp)), Nat.le_trans h.size hk.size, hk.at h.arg (by simp), hk.at h.res (by simp), hk.at h.out (by simp)⟩
theorem FSt.set {w W : World} {bk cs : Array Value} (h : FSt w W bk cs) (i : Nat) (v : Value) : FSt w (W.setCell ⟨w.heap.size + 1 + 1, i, none⟩ v) bk (cs.setIfInBounds i v) :=
  ⟨h.below.trans (((Kept.refl [w.heap.size + 1 + 1] W).set _ _ _ (.inl (by simp <;> omega))).below (by have := h.size; omega) (by simp <;> omega)), by simpa [World.setCell] using h.size,
    by rw [heap_setCell_other W _ _ _ (by simp <;> omega)]; exact h.arg, by rw [heap_setCell_other W _ _ _ (by simp <;> omega)]; exact h.res, heap_setCell_same W _ i _ _ _ h.out⟩
theorem FSt.push {w W W' : World} {bk cs : Array Value} {e size n : Nat} {v : Value} {xs : List Value} (h : FSt w W bk cs) (ho : W.ownsRow w.heap.size e size v n xs) (h1 : e ≠ 37) (h3 : e ≠ 26) (hg : W.grownBy W' v.ownBlock) : FSt w W' bk cs := by
  have hk : Kept v.ownBlock.toList W W' := Kept.grown hg (fun k hk => by rw [hk]; simp)
  have key : ∀ (g t : Nat) (cs : Array Value), W.heap[g]? = some (.cells cs t (0, 0)) → e ≠ t → g ∉ v.ownBlock.toList := fun g t cs hg' hne hm =>
    hne ((own_ty ho (show v.ownBlock = some g by simpa using hm)).1.uniq ⟨cs, hg'⟩)
  exact ⟨h.below.trans (hk.below (by have := h.size; omega) (fun x hx => (own_ty ho (show v.ownBlock = some x by simpa using hx)).2)), Nat.le_trans h.size hk.size, hk.at h.arg (key _ _ _ h.arg h3), hk.at h.res (key _ _ _ h.res h1), hk.at h.out (key _ _ _ h.out h1)⟩
theorem FSt.cell {w W : World} {bk cs : Array Value} (h : FSt w W bk cs) (i : Nat) {x : Value} (hx : cs[i]? = some x) : W.cell? ⟨w.heap.size + 1 + 1, i, none⟩ = some x := by rw [Lib.cell_of_heap h.out]; exact hx
theorem FSt.fz {w W : World} {bk cs : Array Value} (h : FSt w W bk cs) (i : Nat) : W.frozen? ⟨w.heap.size + 1 + 1, i, none⟩ = false := Lib.frozen_of_heap h.out i
theorem FSt.start (w : World) (bk cs : Array Value) : FSt w (((w.alloc (.cells bk 26)).alloc (.cells zeroCells 37)).alloc (.cells cs 37)) bk cs := by
  refine ⟨(((Below.refl _ _).alloc (Nat.le_refl _) _).alloc (by simp) _).alloc (by simp; omega) _, by simp, ?_, ?_, ?_⟩
  · rw [Below.heap_alloc _ _ _ (by simp; omega), Below.heap_alloc _ _ _ (by simp)]
    exact heap_alloc_new w _
  · rw [Below.heap_alloc _ _ _ (by simp)]
    have := heap_alloc_new (w.alloc (.cells bk 26)) (.cells zeroCells 37)
    simpa using this
  · have := heap_alloc_new ((w.alloc (.cells bk 26)).alloc (.cells zeroCells 37)) (.cells cs 37)
    simpa using this
theorem fown_set {w W : World} {bk cs : Array Value} {e size n i : Nat} {v u : Value} {xs : List Value} (h : FSt w W bk cs) (ho : W.ownsRow w.heap.size e size v n xs) (h1 : e ≠ 37) : (W.setCell ⟨w.heap.size + 1 + 1, i, none⟩ u).ownsRow w.heap.size e size v n xs :=
  ((Kept.refl [w.heap.size + 1 + 1] W).set _ _ _ (.inl (by simp))).own ho (fun g hg hm => by
    have := (own_ty ho hg).1
    simp only [List.mem_cons, List.not_mem_nil, or_false] at hm
    subst hm
    exact h1 (this.uniq ⟨_, h.out⟩))
theorem fres_store {w W : World} {bk cs : Array Value} (x0 x1 x2 x3 x4 x5 x6 : Value) (h : FSt w W bk cs) :
    let Z := (((((((W.setCell ⟨w.heap.size + 1, 0, none⟩ x0).setCell ⟨w.heap.size + 1, 1, none⟩ x1).setCell ⟨w.heap.size + 1, 2, none⟩ x2).setCell ⟨w.heap.size + 1, 3, none⟩ x3).setCell ⟨w.heap.size + 1, 4, none⟩ x4).setCell ⟨w.heap.size + 1, 5, none⟩ x5).setCell ⟨w.heap.size + 1, 6, none⟩ x6)
    Z.heap[w.heap.size + 1]? = some (.cells #[x0, x1, x2, x3, x4, x5, x6] 37 (0, 0)) ∧ Kept [w.heap.size + 1] W Z ∧ Below w.heap.size w Z := by
  intro Z
  have hz := heap_setCell_same _ (w.heap.size + 1) 6 _ _ x6 (heap_setCell_same _ (w.heap.size + 1) 5 _ _ x5 (heap_setCell_same _ (w.heap.size + 1) 4 _ _ x4 (heap_setCell_same _ (w.heap.size + 1) 3 _ _ x3 (heap_setCell_same _ (w.heap.size + 1) 2 _ _ x2 (heap_setCell_same _ (w.heap.size + 1) 1 _ _ x1 (heap_setCell_same _ (w.heap.size + 1) 0 _ _ x0 h.res))))))
  simp only [List.setIfInBounds_toArray, List.set_cons_zero, List.set_cons_succ] at hz
  have hk : Kept [w.heap.size + 1] W Z := (((((((Kept.refl [w.heap.size + 1] W).set _ _ _ (.inl (by simp))).set _ _ _ (.inl (by simp))).set _ _ _ (.inl (by simp))).set _ _ _ (.inl (by simp))).set _ _ _ (.inl (by simp))).set _ _ _ (.inl (by simp))).set _ _ _ (.inl (by simp))
  exact ⟨hz, hk, h.below.trans (hk.below h.below.size (by simp))⟩
theorem results_ref (bb : Nat) (x0 x1 x2 x3 x4 x5 x6 : Value) (w : World) (tmps : Array Value) (h2 : tmps[2]?.getD undef = .pointer (some ⟨bb, 0, none⟩))
    (hb : w.heap[bb]? = some (.cells #[x0, x1, x2, x3, x4, x5, x6] 37 (0, 0))) :
    (results Try.f12 tmps).run Try.prog w = .ok (.agg #[x0, x1, x2, x3, x4, x5, x6]) w := by
  have b0 : w.cell? ⟨bb, 0, none⟩ = some x0 := by rw [Lib.cell_of_heap hb]; rfl
  have b1 : w.cell? ⟨bb, 1, none⟩ = some x1 := by rw [Lib.cell_of_heap hb]; rfl
  have b2 : w.cell? ⟨bb, 2, none⟩ = some x2 := by rw [Lib.cell_of_heap hb]; rfl
  have b3 : w.cell? ⟨bb, 3, none⟩ = some x3 := by rw [Lib.cell_of_heap hb]; rfl
  have b4 : w.cell? ⟨bb, 4, none⟩ = some x4 := by rw [Lib.cell_of_heap hb]; rfl
  have b5 : w.cell? ⟨bb, 5, none⟩ = some x5 := by rw [Lib.cell_of_heap hb]; rfl
  have b6 : w.cell? ⟨bb, 6, none⟩ = some x6 := by rw [Lib.cell_of_heap hb]; rfl
  simp [results, Try.results12, go_sem, h2, b0, b1, b2, b3, b4, b5, b6]
theorem index_0 (v0 v1 v2 v3 : Value) (w : World) : (Instr.index 24 (.agg #[v0, v1, v2, v3]) (.int .i64 0)).run Try.prog w = .ok v0 w := by
  kernel_rfl
theorem index_1 (v0 v1 v2 v3 : Value) (w : World) : (Instr.index 24 (.agg #[v0, v1, v2, v3]) (.int .i64 1)).run Try.prog w = .ok v1 w := by
  kernel_rfl
theorem index_2 (v0 v1 v2 v3 : Value) (w : World) : (Instr.index 24 (.agg #[v0, v1, v2, v3]) (.int .i64 2)).run Try.prog w = .ok v2 w := by
  kernel_rfl
theorem index_3 (v0 v1 v2 v3 : Value) (w : World) : (Instr.index 24 (.agg #[v0, v1, v2, v3]) (.int .i64 3)).run Try.prog w = .ok v3 w := by
  kernel_rfl
set_option maxHeartbeats 8000000 in
set_option maxRecDepth 100000 in
theorem ref_any (n : Int) (t : ByteArray) (rs : List Rp) (As : List (List St)) (vr v0 v1 v2 v3 : Value) (w : World) (hrv : RepsAt w vr rs) (hl : As.length = 4)
    (hv : SecP w (fun _ => True) [v0, v1, v2, v3] As) (hrl : rs.length ≤ 1099511627776) (hAl : ∀ A ∈ As, A.length ≤ 1099511627776 ∧ ∀ x ∈ A, x.2.length ≤ 1099511627776) :
    Calls Try.prog 12 #[.agg #[.int .i64 n, .string t, vr, v0, v1, v2, v3]] w fun e w' => ∃ ur u0 u1 u2 u3, e = .returned (.agg #[.int .i64 n, .string t, ur, u0, u1, u2, u3]) ∧ Below w.heap.size w w' ∧ RepsAt w' ur rs ∧ SecP w' (fun g => w.heap.size ≤ g) [u0, u1, u2, u3] As := by
  obtain ⟨i0, hi, hz0, hz1, hz2⟩ := info_parts rrep_info
  obtain ⟨X1, cap1, rfl, hr1⟩ := hrv.row
  have H1 := Lib.hid hr1
  obtain ⟨W0, hW0⟩ : ∃ W0, (((w.alloc (.cells #[.int .i64 n, .string t, .slice X1 rs.length cap1, v0, v1, v2, v3] 26)).alloc (.cells zeroCells 37)).alloc (.cells #[.int .i64 n, .string t, .slice none 0 0, .slice none 0 0, .slice none 0 0, .slice none 0 0, .slice none 0 0] 37)) = W0 := ⟨_, rfl⟩
  have HF0 : Hid (FSt w W0 #[.int .i64 n, .string t, .slice X1 rs.length cap1, v0, v1, v2, v3] #[.int .i64 n, .string t, .slice none 0 0, .slice none 0 0, .slice none 0 0, .slice none 0 0, .slice none 0 0]) := Lib.hid (by rw [← hW0]; exact FSt.start _ _ _)
  have HW0 := Lib.hid hW0
  have HV := Lib.hid hv
  have HL := Lib.hid hl
  have HA := Lib.hid hAl
  have hrli : (rs.length : Int) ≤ 1099511627776 := by omega
  clear hrv hr1 hW0 hv hl hAl hrl
  go_enter Try.func12, Try.ntmps12
  go_wp2_with fail
  rw [HW0.out]
  go_loopw [5, 16] (fun _ i W => ∃ (k : Nat) (fs : List Rp) (ur : Value), k ≤ rs.length ∧ i = .int .i64 k ∧ Hid (fs.length = k ∧ fs = rs.take k) ∧ Hid (FSt w W #[.int .i64 n, .string t, .slice X1 rs.length cap1, v0, v1, v2, v3] #[.int .i64 n, .string t, ur, .slice none 0 0, .slice none 0 0, .slice none 0 0, .slice none 0 0]) ∧ Hid (W.ownsRow w.heap.size 77 2 ur fs.length (repCells fs))) (fun _ i _ => rs.length - (intOf i).toNat)
  case atStart => exact ⟨0, [], _, Nat.zero_le _, rfl, Lib.hid ⟨rfl, rfl⟩, HF0, Lib.hid (World.ownsRow_nil _ _ _ _)⟩
  case round =>
    obtain ⟨k, fs, ur, hk, rfl, HK, HF, HO⟩ := hrel
    obtain ⟨X, cap, hX⟩ := own_form HO.out
    subst hX
    by_cases hlt : k < rs.length
    · obtain ⟨g, o, hX1, hg, c0', c1'⟩ := H1.out k hlt
      subst hX1
      have c0 := (HF.out.below.cell (p := ⟨g, o + k * 2, none⟩) hg).trans c0'
      have c1 := (HF.out.below.cell (p := ⟨g, o + k * 2 + 1, none⟩) hg).trans c1'
      obtain ⟨⟨f, to⟩, hy⟩ : ∃ x, rs[k] = x := ⟨_, rfl⟩
      have hTk : rs.take (k + 1) = rs.take k ++ [(f, to)] := by rw [List.take_succ_eq_append_getElem hlt, hy]
      rw [hy] at c0 c1
      dsimp only at c0 c1
      have hki : (k : Int) < (rs.length : Int) := by omega
      have hfl : (fs.length : Int) ≤ 1099511627776 := by have := HK.out.1; omega
      have HLt : Hid (True → k + 1 ≤ rs.length) := Lib.hid (fun _ => hlt)
      have HTk := Lib.hid hTk
      have d2 : ∀ ob, (wr.alloc ob).cell? ⟨w.heap.size + 1 + 1, 2, none⟩ = some (.slice X fs.length cap) := fun ob => (HF.out.call ((Kept.refl [] _).alloc ob)).cell 2 rfl
      clear c0' c1' hy hTk hlt
      go_wp2_with (at_builtin; refine wpList_push_at rfl _ _ 33 rfl w.heap.size 77 i0 _ 2 32 Try.underlying33 hi hz0 hz1 hz2 rfl (by decide) _ fs.length (repCells fs) rfl (HO.out.alloc _) _ rfl (by intro x hx; simp at hx; rcases hx with rfl | rfl <;> rfl) _ rfl (by simp) (by unfold maxLen; omega) (by omega) (by have := HF.out.below.size; simp; omega) ?_; intro gg cc w9 hown hg9; have HF9 := Lib.hid ((HF.out.call ((Kept.refl [] _).alloc _)).push (HO.out.alloc _) (by decide) (by decide) hg9); have HO9 := Lib.hid hown; clear hown hg9; have e2 := HF9.out.cell 2 rfl; have f2 := HF9.out.fz 2)
      refine ⟨⟨k + 1, fs ++ [(f, to)], .slice (some ⟨gg, 0, none⟩) (fs.length + 1) cc, HLt.out trivial, rfl, Lib.hid ⟨by rw [List.length_append, HK.out.1]; rfl, by rw [HTk.out, HK.out.2]⟩, Lib.hid (HF9.out.set 2 _), Lib.hid ?_⟩, by have := HLt.out trivial; simp [intOf]; omega⟩
      rw [← repCells_snoc, List.length_append, List.length_singleton]
      exact fown_set HF9.out HO9.out (by decide)
    · obtain rfl : k = rs.length := by omega
      have hfe : fs = rs := by rw [HK.out.2, List.take_of_length_le (Nat.le_refl _)]
      subst hfe
      have a3 : wr.cell? ⟨w.heap.size, 3, none⟩ = some v0 := by rw [Lib.cell_of_heap HF.out.arg]; rfl
      have a4 : wr.cell? ⟨w.heap.size, 4, none⟩ = some v1 := by rw [Lib.cell_of_heap HF.out.arg]; rfl
      have a5 : wr.cell? ⟨w.heap.size, 5, none⟩ = some v2 := by rw [Lib.cell_of_heap HF.out.arg]; rfl
      have a6 : wr.cell? ⟨w.heap.size, 6, none⟩ = some v3 := by rw [Lib.cell_of_heap HF.out.arg]; rfl
      go_wp2_with fail
      go_loopw [6, 7, 33] (fun _ _ i W => ∃ (j : Nat) (u0 u1 u2 u3 : Value), j ≤ 4 ∧ i = .int .i64 j ∧ Hid (FSt w W #[.int .i64 n, .string t, .slice X1 fs.length cap1, v0, v1, v2, v3] #[.int .i64 n, .string t, .slice X fs.length cap, u0, u1, u2, u3]) ∧ Hid (W.ownsRow w.heap.size 77 2 (.slice X fs.length cap) fs.length (repCells fs)) ∧ Hid (SecP W (fun g => w.heap.size + 1 + 1 < g) [u0, u1, u2, u3] (As.take j))) (fun _ _ i _ => 4 - (intOf i).toNat)
      case atStart => exact ⟨0, _, _, _, _, by omega, rfl, HF, HO, Lib.hid (fun _ h => by cases h)⟩
      case round =>
        clear a3 a4 a5 a6
        obtain ⟨j, u0, u1, u2, u3, hj, rfl, HF, HO, HS⟩ := hrel
        by_cases hlt2 : j < 4
        · have hj4 : j = 0 ∨ j = 1 ∨ j = 2 ∨ j = 3 := by omega
          have hkw : Kept [] w wr := Kept.of_below HF.out.below
          rcases hj4 with rfl | rfl | rfl | rfl
          · have HSt := Lib.hid (states_any (As[0]'(by have := HL.out; omega)) v0 wr ((HV.out 0 (by have := HL.out; omega)).kept hkw (by simp)) (HA.out _ (List.getElem_mem _)).1 (HA.out _ (List.getElem_mem _)).2)
            have hA0 : As.take (0 + 1) = As.take 0 ++ [As[0]'(by have := HL.out; omega)] := List.take_succ_eq_append_getElem _
            have HTk := Lib.hid hA0
            clear hA0
            have hix := index_0 v0 v1 v2 v3 wr
            go_wp2_with fail
            clear hix
            refine HSt.out.mono ?_
            rintro e w10 ⟨v, rfl, hb, hA⟩
            obtain ⟨AX, capX, rfl, _⟩ := id hA
            have hk10 : Kept [] wr w10 := Kept.of_below hb
            have HF10 := Lib.hid (HF.out.call hk10)
            have HO10 := Lib.hid (hk10.own HO.out (fun _ _ h => by cases h))
            have HS10 : Hid (SecP w10 (fun g => w.heap.size + 1 + 1 < g) [u0, u1, u2, u3] (As.take 0)) := Lib.hid (fun j h => (HS.out j h).kept hk10 (by simp))
            have HA10 := Lib.hid (hA.mono (q := fun g => w.heap.size + 1 + 1 < g) (fun g hg => by have := HF.out.size; omega))
            clear hb hA hk10
            have d3 := HF10.out.cell 3 rfl
            have d4 := HF10.out.cell 4 rfl
            have d5 := HF10.out.cell 5 rfl
            have d6 := HF10.out.cell 6 rfl
            have g3 := HF10.out.fz
            go_wp2_with fail
            refine ⟨⟨0 + 1, _, _, _, _, by omega, rfl, Lib.hid (HF10.out.set _ _), Lib.hid (fown_set HF10.out HO10.out (by decide)), Lib.hid (by rw [HTk.out]; exact SecP.snoc (fun j hj => (HS10.out j hj).kept ((Kept.refl [w.heap.size + 1 + 1] w10).set _ _ _ (.inl (by simp))) (by simp <;> omega)) (HA10.out.kept ((Kept.refl [w.heap.size + 1 + 1] w10).set _ _ _ (.inl (by simp))) (by simp <;> omega)) (by rw [show (As.take 0).length = 0 by simp [List.length_take, HL.out]]; rfl) (fun j h => by rw [List.length_take, HL.out] at h; rcases j with _ | _ | _ | j <;> first | rfl | omega))⟩, by simp [intOf]⟩
          · have HSt := Lib.hid (states_any (As[1]'(by have := HL.out; omega)) v1 wr ((HV.out 1 (by have := HL.out; omega)).kept hkw (by simp)) (HA.out _ (List.getElem_mem _)).1 (HA.out _ (List.getElem_mem _)).2)
            have hA1 : As.take (1 + 1) = As.take 1 ++ [As[1]'(by have := HL.out; omega)] := List.take_succ_eq_append_getElem _
            have HTk := Lib.hid hA1
            clear hA1
            have hix := index_1 v0 v1 v2 v3 wr
            go_wp2_with fail
            clear hix
            refine HSt.out.mono ?_
            rintro e w10 ⟨v, rfl, hb, hA⟩
            obtain ⟨AX, capX, rfl, _⟩ := id hA
            have hk10 : Kept [] wr w10 := Kept.of_below hb
            have HF10 := Lib.hid (HF.out.call hk10)
            have HO10 := Lib.hid (hk10.own HO.out (fun _ _ h => by cases h))
            have HS10 : Hid (SecP w10 (fun g => w.heap.size + 1 + 1 < g) [u0, u1, u2, u3] (As.take 1)) := Lib.hid (fun j h => (HS.out j h).kept hk10 (by simp))
            have HA10 := Lib.hid (hA.mono (q := fun g => w.heap.size + 1 + 1 < g) (fun g hg => by have := HF.out.size; omega))
            clear hb hA hk10
            have d3 := HF10.out.cell 3 rfl
            have d4 := HF10.out.cell 4 rfl
            have d5 := HF10.out.cell 5 rfl
            have d6 := HF10.out.cell 6 rfl
            have g3 := HF10.out.fz
            go_wp2_with fail
            refine ⟨⟨1 + 1, _, _, _, _, by omega, rfl, Lib.hid (HF10.out.set _ _), Lib.hid (fown_set HF10.out HO10.out (by decide)), Lib.hid (by rw [HTk.out]; exact SecP.snoc (fun j hj => (HS10.out j hj).kept ((Kept.refl [w.heap.size + 1 + 1] w10).set _ _ _ (.inl (by simp))) (by simp <;> omega)) (HA10.out.kept ((Kept.refl [w.heap.size + 1 + 1] w10).set _ _ _ (.inl (by simp))) (by simp <;> omega)) (by rw [show (As.take 1).length = 1 by simp [List.length_take, HL.out]]; rfl) (fun j h => by rw [List.length_take, HL.out] at h; rcases j with _ | _ | _ | j <;> first | rfl | omega))⟩, by simp [intOf]⟩
          · have HSt := Lib.hid (states_any (As[2]'(by have := HL.out; omega)) v2 wr ((HV.out 2 (by have := HL.out; omega)).kept hkw (by simp)) (HA.out _ (List.getElem_mem _)).1 (HA.out _ (List.getElem_mem _)).2)
            have hA2 : As.take (2 + 1) = As.take 2 ++ [As[2]'(by have := HL.out; omega)] := List.take_succ_eq_append_getElem _
            have HTk := Lib.hid hA2
            clear hA2
            have hix := index_2 v0 v1 v2 v3 wr
            go_wp2_with fail
            clear hix
            refine HSt.out.mono ?_
            rintro e w10 ⟨v, rfl, hb, hA⟩
            obtain ⟨AX, capX, rfl, _⟩ := id hA
            have hk10 : Kept [] wr w10 := Kept.of_below hb
            have HF10 := Lib.hid (HF.out.call hk10)
            have HO10 := Lib.hid (hk10.own HO.out (fun _ _ h => by cases h))
            have HS10 : Hid (SecP w10 (fun g => w.heap.size + 1 + 1 < g) [u0, u1, u2, u3] (As.take 2)) := Lib.hid (fun j h => (HS.out j h).kept hk10 (by simp))
            have HA10 := Lib.hid (hA.mono (q := fun g => w.heap.size + 1 + 1 < g) (fun g hg => by have := HF.out.size; omega))
            clear hb hA hk10
            have d3 := HF10.out.cell 3 rfl
            have d4 := HF10.out.cell 4 rfl
            have d5 := HF10.out.cell 5 rfl
            have d6 := HF10.out.cell 6 rfl
            have g3 := HF10.out.fz
            go_wp2_with fail
            refine ⟨⟨2 + 1, _, _, _, _, by omega, rfl, Lib.hid (HF10.out.set _ _), Lib.hid (fown_set HF10.out HO10.out (by decide)), Lib.hid (by rw [HTk.out]; exact SecP.snoc (fun j hj => (HS10.out j hj).kept ((Kept.refl [w.heap.size + 1 + 1] w10).set _ _ _ (.inl (by simp))) (by simp <;> omega)) (HA10.out.kept ((Kept.refl [w.heap.size + 1 + 1] w10).set _ _ _ (.inl (by simp))) (by simp <;> omega)) (by rw [show (As.take 2).length = 2 by simp [List.length_take, HL.out]]; rfl) (fun j h => by rw [List.length_take, HL.out] at h; rcases j with _ | _ | _ | j <;> first | rfl | omega))⟩, by simp [intOf]⟩
          · have HSt := Lib.hid (states_any (As[3]'(by have := HL.out; omega)) v3 wr ((HV.out 3 (by have := HL.out; omega)).kept hkw (by simp)) (HA.out _ (List.getElem_mem _)).1 (HA.out _ (List.getElem_mem _)).2)
            have hA3 : As.take (3 + 1) = As.take 3 ++ [As[3]'(by have := HL.out; omega)] := List.take_succ_eq_append_getElem _
            have HTk := Lib.hid hA3
            clear hA3
            have hix := index_3 v0 v1 v2 v3 wr
            go_wp2_with fail
            clear hix
            refine HSt.out.mono ?_
            rintro e w10 ⟨v, rfl, hb, hA⟩
            obtain ⟨AX, capX, rfl, _⟩ := id hA
            have hk10 : Kept [] wr w10 := Kept.of_below hb
            have HF10 := Lib.hid (HF.out.call hk10)
            have HO10 := Lib.hid (hk10.own HO.out (fun _ _ h => by cases h))
            have HS10 : Hid (SecP w10 (fun g => w.heap.size + 1 + 1 < g) [u0, u1, u2, u3] (As.take 3)) := Lib.hid (fun j h => (HS.out j h).kept hk10 (by simp))
            have HA10 := Lib.hid (hA.mono (q := fun g => w.heap.size + 1 + 1 < g) (fun g hg => by have := HF.out.size; omega))
            clear hb hA hk10
            have d3 := HF10.out.cell 3 rfl
            have d4 := HF10.out.cell 4 rfl
            have d5 := HF10.out.cell 5 rfl
            have d6 := HF10.out.cell 6 rfl
            have g3 := HF10.out.fz
            go_wp2_with fail
            refine ⟨⟨3 + 1, _, _, _, _, by omega, rfl, Lib.hid (HF10.out.set _ _), Lib.hid (fown_set HF10.out HO10.out (by decide)), Lib.hid (by rw [HTk.out]; exact SecP.snoc (fun j hj => (HS10.out j hj).kept ((Kept.refl [w.heap.size + 1 + 1] w10).set _ _ _ (.inl (by simp))) (by simp <;> omega)) (HA10.out.kept ((Kept.refl [w.heap.size + 1 + 1] w10).set _ _ _ (.inl (by simp))) (by simp <;> omega)) (by rw [show (As.take 3).length = 3 by simp [List.length_take, HL.out]]; rfl) (fun j h => by rw [List.length_take, HL.out] at h; rcases j with _ | _ | _ | j <;> first | rfl | omega))⟩, by simp [intOf]⟩
        · obtain rfl : j = 4 := by omega
          have HSl : Hid (∀ v, v ∈ [u0, u1, u2, u3] → ∃ A n cap, v = .slice A n cap) := Lib.hid (by
            have key : ∀ j, j < 4 → ∃ A n cap, [u0, u1, u2, u3].getD j undef = .slice A n cap := fun j h => by
              obtain ⟨A, cap, e, _⟩ := HS.out j (by rw [List.length_take, HL.out]; omega)
              exact ⟨_, _, _, e⟩
            intro v hv
            simp only [List.mem_cons, List.not_mem_nil, or_false] at hv
            rcases hv with rfl | rfl | rfl | rfl
            · exact key 0 (by omega)
            · exact key 1 (by omega)
            · exact key 2 (by omega)
            · exact key 3 (by omega))
          obtain ⟨yA, yn, yc, hy⟩ := HSl.out u0 (by simp)
          obtain ⟨zA, zn, zc, hz⟩ := HSl.out u1 (by simp)
          obtain ⟨uA, un, uc, hu⟩ := HSl.out u2 (by simp)
          obtain ⟨tA, tn, tc, ht⟩ := HSl.out u3 (by simp)
          subst hy hz hu ht
          have HZ := Lib.hid (fres_store (.int .i64 n) (.string t) (.slice X fs.length cap) (.slice yA yn yc) (.slice zA zn zc) (.slice uA un uc) (.slice tA tn tc) HF.out)
          have HFin := Lib.hid (And.intro (reps_of_own (HZ.out.2.1.own HO.out (fun g hg hm => by
            simp only [List.mem_cons, List.not_mem_nil, or_false] at hm
            subst hm
            exact absurd ((own_ty HO.out hg).1.uniq ⟨_, HF.out.res⟩) (by decide)))) (show SecP _ (fun g => w.heap.size ≤ g) [_, _, _, _] (As.take 4) from fun j hj => ((HS.out j hj).kept HZ.out.2.1 (by simp <;> omega)).mono (fun g hg => by omega)))
          have HT4 : Hid (As.take 4 = As) := Lib.hid (List.take_of_length_le (by have := HL.out; omega))
          clear HSl
          have c0 := HF.out.cell 0 rfl
          have r0 : wr.cell? ⟨w.heap.size + 1, 0, none⟩ = zeroCells[0]? := by rw [Lib.cell_of_heap HF.out.res]
          have c1 := HF.out.cell 1 rfl
          have r1 : wr.cell? ⟨w.heap.size + 1, 1, none⟩ = zeroCells[1]? := by rw [Lib.cell_of_heap HF.out.res]
          have c2 := HF.out.cell 2 rfl
          have r2 : wr.cell? ⟨w.heap.size + 1, 2, none⟩ = zeroCells[2]? := by rw [Lib.cell_of_heap HF.out.res]
          have c3 := HF.out.cell 3 rfl
          have r3 : wr.cell? ⟨w.heap.size + 1, 3, none⟩ = zeroCells[3]? := by rw [Lib.cell_of_heap HF.out.res]
          have c4 := HF.out.cell 4 rfl
          have r4 : wr.cell? ⟨w.heap.size + 1, 4, none⟩ = zeroCells[4]? := by rw [Lib.cell_of_heap HF.out.res]
          have c5 := HF.out.cell 5 rfl
          have r5 : wr.cell? ⟨w.heap.size + 1, 5, none⟩ = zeroCells[5]? := by rw [Lib.cell_of_heap HF.out.res]
          have c6 := HF.out.cell 6 rfl
          have r6 : wr.cell? ⟨w.heap.size + 1, 6, none⟩ = zeroCells[6]? := by rw [Lib.cell_of_heap HF.out.res]
          have rf : ∀ i, wr.frozen? ⟨w.heap.size + 1, i, none⟩ = false := Lib.frozen_of_heap HF.out.res
          go_wp2_with fail
          exact ⟨rfl, _, results_ref (w.heap.size + 1) _ _ _ _ _ _ _ _ _ rfl HZ.out.1, _, _, _, _, _, rfl, HZ.out.2.2, HFin.out.1, by have := HFin.out.2; rw [HT4.out] at this; exact this⟩
end Go.Proofs.Ytehbjfjhalpgaaa
