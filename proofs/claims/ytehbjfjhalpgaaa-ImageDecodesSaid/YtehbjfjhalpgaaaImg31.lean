/-
  The law's states: an automaton copied.
-/
import Derived.Test.YtehbjfjhalpgaaaRows
import Derived.Test.YtehbjfjhalpgaaaImg28b
namespace Go.Proofs.Ytehbjfjhalpgaaa
open Go.RowKit

set_option maxHeartbeats 8000000 in
set_option maxRecDepth 100000 in
theorem states_any (A : List St) (v : Value) (w : World) (hA : AutAt w (fun _ => True) v A) (hN : A.length ≤ 1099511627776) (hE : ∀ x ∈ A, x.2.length ≤ 1099511627776) :
    Calls Try.prog 32 #[v] w fun e w' => ∃ v', e = .returned v' ∧ Below w.heap.size w w' ∧ AutAt w' (fun g => w.heap.size ≤ g) v' A := by
  obtain ⟨i0, hi, hz0, hz1, hz2⟩ := info_parts redge_info
  obtain ⟨i1, hj, hy0, hy1, hy2⟩ := info_parts rstate_info
  have hA' := hA.lt
  obtain ⟨AX, acap, rfl, hac, hA0⟩ := hA'
  have HA0 := Lib.hid hA0
  have HN := Lib.hid hN
  have HE := Lib.hid hE
  have hNi : (A.length : Int) ≤ 1099511627776 := by omega
  clear hA hA0 hac hN hE
  go_enter Try.func32, Try.ntmps32
  go_wp2_with fail
  go_loopw [3, 5, 6, 8, 11, 21] (fun v3 _ _ _ i _ W => ∃ (k : Nat) (L : List (St × Value)), k ≤ A.length ∧ i = .int .i64 k ∧ Hid (L.length = k ∧ L.map (·.1) = A.take k) ∧ Hid (Kept [] w W) ∧ Hid (OutAt W w.heap.size 112 113 v3 L)) (fun _ _ _ _ i _ _ => A.length - (intOf i).toNat)
  case atStart => exact ⟨0, [], Nat.zero_le _, rfl, Lib.hid ⟨rfl, rfl⟩, Lib.hid (Kept.refl _ _), Lib.hid (OutAt.nil_ _ _ _ _)⟩
  case round =>
    obtain ⟨k, L, hk, rfl, HL, HK, HO⟩ := hrel
    rename World => wo
    by_cases hlt : k < A.length
    · obtain ⟨g, o, hAX, hg, hp, hcs⟩ := HA0.out.resolve_left (by omega)
      subst hAX
      obtain ⟨a0, ev, a1, hEv⟩ := hcs k hlt
      obtain ⟨⟨fin, es⟩, hx⟩ : ∃ x, A[k] = x := ⟨_, rfl⟩
      have hTk : A.take (k + 1) = A.take k ++ [(fin, es)] := by rw [List.take_succ_eq_append_getElem hlt, hx]
      have hEl := HE.out A[k] (List.getElem_mem hlt)
      rw [hx] at a0 hEv hEl
      dsimp only at a0 hEv hEl
      have hEv' := hEv.kept HK.out (by simp)
      obtain ⟨EX, ecap, rfl, hec, hE1⟩ := hEv'
      have x0 := (HK.out.cell (p := ⟨g, o + k * 2, none⟩) hg (by simp)).trans a0
      have x1 := (HK.out.cell (p := ⟨g, o + k * 2 + 1, none⟩) hg (by simp)).trans a1
      have HE1 := Lib.hid hE1
      have HTk := Lib.hid hTk
      have HLt : Hid (True → k + 1 ≤ A.length) := Lib.hid (fun _ => hlt)
      have HEl := Lib.hid hEl
      have hEi : (es.length : Int) ≤ 1099511627776 := by omega
      clear hx hcs hEv hE1 hTk a0 a1 hEl
      go_wp2_with fail
      generalize hW0 : (wo.alloc (Obj.cells #[Value.bool fin, Value.slice EX es.length ecap] 53)).alloc (Obj.cells #[Value.bool fin, Value.slice none 0 0] 112) = W0
      have HX0 : Hid (W0.heap[wo.heap.size + 1]? = some (.cells #[Value.bool fin, Value.slice none 0 0] 112 (0, 0))) := Lib.hid (by
        rw [← hW0]
        have := heap_alloc_new (wo.alloc (Obj.cells #[Value.bool fin, Value.slice EX es.length ecap] 53)) (Obj.cells #[Value.bool fin, Value.slice none 0 0] 112)
        simpa using this)
      have HZ0 : Hid (W0.heap.size = wo.heap.size + 1 + 1) := Lib.hid (by rw [← hW0]; simp)
      have HKr0 : Hid (∀ W, Kept [wo.heap.size + 1] W0 W → Kept [wo.heap.size + 1] wo W) := Lib.hid (fun W h => by rw [← hW0] at h; exact (((Kept.refl [wo.heap.size + 1] wo).alloc _).alloc _).trans h)
      have HKX : Hid (∀ W, Kept [wo.heap.size + 1] W0 W → Kept [] w W) := Lib.hid (fun W h => HK.out.trans' (HKr0.out W h) (fun x hx => by
        have := HK.out.size
        simp only [List.mem_cons, List.not_mem_nil, or_false] at hx ⊢
        omega))
      have HO0 : Hid (∀ W, Kept [wo.heap.size + 1] W0 W → OutAt W w.heap.size 112 113 u3 L) := Lib.hid (fun W hW => by
        have hk := HKr0.out W hW
        refine ⟨hk.own HO.out.own (fun g hg hm => ?_), fun x hx => (HO.out.eds x hx).keptTy hk (fun g hg => ?_)⟩
        · obtain ⟨⟨cs, h1⟩, h2⟩ := own_ty HO.out.own hg
          have := block_lt h1
          simp at hm; omega
        · simp only [List.mem_cons, List.not_mem_nil, or_false] at hg
          subst hg
          exact .inr (fun ⟨cs, h1⟩ => by have := block_lt h1; omega))
      have HSz : Hid (w.heap.size ≤ wo.heap.size) := Lib.hid HK.out.size
      obtain ⟨X3, c3, hX3⟩ := HO.out.form
      subst hX3
      clear hW0 x0 x1
      go_loopw [8, 21] (fun _ j W => ∃ (u : Nat) (fs : List Ed), u ≤ es.length ∧ j = .int .i64 u ∧ Hid (fs.length = u ∧ fs = es.take u) ∧ Hid (Kept [wo.heap.size + 1] W0 W) ∧ Hid (∃ sv, W.heap[wo.heap.size + 1]? = some (.cells #[Value.bool fin, sv] 112 (0, 0)) ∧ W.ownsRow W0.heap.size 113 2 sv fs.length (edCells fs))) (fun _ j _ => es.length - (intOf j).toNat)
      case atStart => exact ⟨0, [], Nat.zero_le _, rfl, Lib.hid ⟨rfl, rfl⟩, Lib.hid (Kept.refl _ _), Lib.hid ⟨_, HX0.out, World.ownsRow_nil _ _ _ _⟩⟩
      case round =>
        obtain ⟨u, fs, hu, rfl, HF, HKw, HXw⟩ := hrel
        obtain ⟨sv, hXs, hOw⟩ := HXw.out
        obtain ⟨SX, scap, hsv⟩ := own_form hOw
        subst hsv
        by_cases hlu : u < es.length
        · obtain ⟨eg, eo, hEX, heg, hep, hec2⟩ := HE1.out.resolve_left (by omega)
          subst hEX
          obtain ⟨e0, e1⟩ := hec2 u hlu
          obtain ⟨⟨eb, et⟩, hy⟩ : ∃ x, es[u] = x := ⟨_, rfl⟩
          have hTu : es.take (u + 1) = es.take u ++ [(eb, et)] := by rw [List.take_succ_eq_append_getElem hlu, hy]
          rw [hy] at e0 e1
          dsimp only at e0 e1
          have hkr := HKr0.out _ HKw.out
          have y0 := (hkr.cell (p := ⟨eg, eo + u * 2, none⟩) heg (by simp; omega)).trans e0
          have y1 := (hkr.cell (p := ⟨eg, eo + u * 2 + 1, none⟩) heg (by simp; omega)).trans e1
          have HTu := Lib.hid hTu
          have HLu : Hid (True → u + 1 ≤ es.length) := Lib.hid (fun _ => hlu)
          have HXs := Lib.hid hXs
          have HOw := Lib.hid hOw
          have hfl : (fs.length : Int) ≤ 1099511627776 := by have := HF.out.1; have := HEl.out; omega
          have x6 : ∀ o, (wr.alloc o).cell? ⟨wo.heap.size + 1, 1, none⟩ = some (.slice SX fs.length scap) := fun o => by rw [Lib.cell_of_heap (((Kept.refl [] _).alloc o).at HXs.out (by simp))]; rfl
          have hluI : (u : Int) < (es.length : Int) := by omega
          clear hXs hOw HXw hTu hy hlu
          go_wp2_with (at_builtin; refine wpList_push_at rfl _ _ 110 rfl W0.heap.size 113 i0 _ 2 16 Try.underlying110 hi hz0 hz1 hz2 rfl (by decide) _ fs.length (edCells fs) rfl (HOw.out.alloc _) _ rfl (by intro x hx; simp at hx; rcases hx with rfl | rfl <;> rfl) _ rfl (by simp) (by unfold maxLen; omega) (by omega) (by have := HKw.out.size; simp; omega) ?_; intro gg cc w8 hown hg8; have hx8 : w8.heap[wo.heap.size + 1]? = some (.cells #[Value.bool fin, Value.slice SX fs.length scap] 112 (0, 0)) := (by rw [hg8.block _ (by have := block_lt HXs.out; simp; omega) (fun e => by have h1 := (own_ty HOw.out e.symm).2; have h2 := HZ0.out; omega)]; exact ((Kept.refl [] _).alloc _).at HXs.out (by simp)); have c8 : w8.cell? ⟨wo.heap.size + 1, 1, none⟩ = some (.slice SX fs.length scap) := (by rw [Lib.cell_of_heap hx8]; rfl); have f8 : w8.frozen? ⟨wo.heap.size + 1, 1, none⟩ = false := Lib.frozen_of_heap hx8 1; have HX9 := Lib.hid hx8; have HO8 := Lib.hid hown; have HK8 : Hid (Kept [wo.heap.size + 1] W0 w8) := Lib.hid ((HKw.out.alloc _).push (HOw.out.alloc _) (Nat.le_refl _) hg8); clear hx8 hown hg8)
          have hset := Go.heap_setCell_same w8 (wo.heap.size + 1) 1 _ _ (.slice (some ⟨gg, 0, none⟩) (fs.length + 1) cc) HX9.out
          refine ⟨⟨u + 1, fs ++ [(eb, et)], HLu.out trivial, rfl, Lib.hid ⟨by rw [List.length_append, HF.out.1]; rfl, by rw [HTu.out, HF.out.2]⟩, Lib.hid (HK8.out.set _ _ _ (.inl (by simp))), Lib.hid ⟨_, hset, ?_⟩⟩, by have := HLu.out trivial; simp [intOf]; omega⟩
          rw [← edCells_snoc, List.length_append, List.length_singleton]
          refine ((Kept.refl [wo.heap.size + 1] w8).set _ _ _ (.inl (by simp))).own HO8.out (fun g hg hm => ?_)
          have h1 := (own_ty HO8.out hg).2
          have h2 := HZ0.out
          simp at hm; omega
        · obtain rfl : u = es.length := by omega
          have hfe : fs = es := by rw [HF.out.2, List.take_of_length_le (Nat.le_refl _)]
          subst hfe
          have x0 : wr.cell? ⟨wo.heap.size + 1, 0, none⟩ = some (.bool fin) := by rw [Lib.cell_of_heap hXs]; rfl
          have x1 : wr.cell? ⟨wo.heap.size + 1, 1, none⟩ = some (.slice SX fs.length scap) := by rw [Lib.cell_of_heap hXs]; rfl
          have HEd2 := Lib.hid ((eds_of_own hOw).base (B' := w.heap.size) (by have := HZ0.out; have := HSz.out; omega))
          have HOo := Lib.hid (HO0.out wr HKw.out)
          have HKr := Lib.hid (HKX.out wr HKw.out)
          have hLl : (L.length : Int) ≤ 1099511627776 := by have := HL.out.1; omega
          clear hXs hOw HXw hlu
          go_wp2_with (at_builtin; refine wpList_push rfl _ _ 34 rfl w.heap.size 112 i1 _ 2 32 Try.underlying34 hj hy0 hy1 hy2 rfl (by decide) _ L.length (stCells L) rfl HOo.out.own _ rfl (by intro x hx; simp at hx; rcases hx with rfl | rfl <;> rfl) rfl (by unfold maxLen; omega) (by omega) HKr.out.size ?_; intro gg cc w8 hown hg8; have HO8 := Lib.hid hown; have HG8 : Hid (wr.grownBy w8 (Value.slice X3 L.length c3).ownBlock) := Lib.hid hg8; clear hown hg8)
          refine ⟨⟨k + 1, L ++ [((fin, fs), .slice SX fs.length scap)], HLt.out trivial, rfl, Lib.hid ⟨by rw [List.length_append, HL.out.1]; rfl, by rw [HTk.out, List.map_append, HL.out.2]; rfl⟩, Lib.hid (HKr.out.push HOo.out.own (Nat.le_refl _) HG8.out), Lib.hid (HOo.out.push (by decide) HEd2.out (x := ((fin, fs), .slice SX fs.length scap)) HO8.out HG8.out)⟩, by have := HLt.out trivial; simp [intOf]; omega⟩
    · obtain rfl : k = A.length := by omega
      have HT : Hid (L.map (·.1) = A) := Lib.hid (by rw [HL.out.2, List.take_of_length_le (Nat.le_refl _)])
      go_wp2_with fail
      go_ret
      exact ⟨_, rfl, HK.out.below (Nat.le_refl _) (by simp), by rw [← HT.out]; exact HO.out.aut⟩
end Go.Proofs.Ytehbjfjhalpgaaa
