/-
  The law's states: an automaton copied.
  The reference's Equal, of two automata that are the same.
  The law's alike, of two books that say the same.
  The law's ref: the book for the document's answer.
  What a decoded book is bounded by: plain laws.
-/
import Derived.Test.YtehbjfjhalpgaaaRows
import Derived.Test.YtehbjfjhalpgaaaIF
import Derived.Test.YtehbjfjhalpgaaaIG
import Derived.Test.YtehbjfjhalpgaaaIE
namespace Go.Proofs.Ytehbjfjhalpgaaa
section
open Go.RowKit

set_option maxHeartbeats 8000000 in
set_option maxRecDepth 100000 in
theorem states_any (A : List St) (v : Value) (w : World) (hA : AutAt w (fun _ => True) v A) (hN : A.length ≤ 4398046510976) (hE : ∀ x ∈ A, x.2.length ≤ 8796093021952) :
    Calls Try.prog 32 #[v] w fun e w' => ∃ v', e = .returned v' ∧ Below w.heap.size w w' ∧ AutAt w' (fun g => w.heap.size ≤ g) v' A := by
  obtain ⟨i0, hi, hz0, hz1, hz2⟩ := info_parts redge_info
  obtain ⟨i1, hj, hy0, hy1, hy2⟩ := info_parts rstate_info
  have hA' := hA.lt
  obtain ⟨AX, acap, rfl, hac, hA0⟩ := hA'
  have HA0 := Lib.hid hA0
  have HN := Lib.hid hN
  have HE := Lib.hid hE
  have hNi : (A.length : Int) ≤ 4398046510976 := by omega
  clear hA hA0 hac hN hE
  go_enter Try.func32, Try.ntmps32
  go_wp2_with fail
  go_loopw [3, 5, 6, 8, 11, 21] (fun v3 _ _ _ i _ W => ∃ (k : Nat) (L : List (St × Value)), k ≤ A.length ∧ i = .int .i64 k ∧ Hid (L.length = k ∧ L.map (·.1) = A.take k) ∧ Hid (Kept [] w W) ∧ Hid (OutAt W w.heap.size 112 113 v3 L)) (fun _ _ _ _ i _ _ => A.length - (intOf i).toNat)
  case atStart => exact ⟨0, [], Nat.zero_le _, rfl, Lib.hid ⟨rfl, rfl⟩, Lib.hid (Kept.refl _ _), Lib.hid (OutAt.nil_ _ _ _ _)⟩
  case round =>
    obtain ⟨k, L, hk, rfl, HL, HK, HO⟩ := hrel
    rename World => wo
    by_cases hlt : k < A.length
    · obtain ⟨g, o, hAX, hg, hp, hcs⟩ := HA0.out.resolve_left (by omega)
      subst hAX
      obtain ⟨a0, ev, a1, hEv⟩ := hcs k hlt
      obtain ⟨⟨fin, es⟩, hx⟩ : ∃ x, A[k] = x := ⟨_, rfl⟩
      have hTk : A.take (k + 1) = A.take k ++ [(fin, es)] := by rw [List.take_succ_eq_append_getElem hlt, hx]
      have hEl := HE.out A[k] (List.getElem_mem hlt)
      rw [hx] at a0 hEv hEl
      dsimp only at a0 hEv hEl
      have hEv' := hEv.kept HK.out (by simp)
      obtain ⟨EX, ecap, rfl, hec, hE1⟩ := hEv'
      have x0 := (HK.out.cell (p := ⟨g, o + k * 2, none⟩) hg (by simp)).trans a0
      have x1 := (HK.out.cell (p := ⟨g, o + k * 2 + 1, none⟩) hg (by simp)).trans a1
      have HE1 := Lib.hid hE1
      have HTk := Lib.hid hTk
      have HLt : Hid (True → k + 1 ≤ A.length) := Lib.hid (fun _ => hlt)
      have HEl := Lib.hid hEl
      have hEi : (es.length : Int) ≤ 8796093021952 := by omega
      clear hx hcs hEv hE1 hTk a0 a1 hEl
      go_wp2_with fail
      generalize hW0 : (wo.alloc (Obj.cells #[Value.bool fin, Value.slice EX es.length ecap] 53)).alloc (Obj.cells #[Value.bool fin, Value.slice none 0 0] 112) = W0
      have HX0 : Hid (W0.heap[wo.heap.size + 1]? = some (.cells #[Value.bool fin, Value.slice none 0 0] 112 (0, 0))) := Lib.hid (by
        rw [← hW0]
        have := heap_alloc_new (wo.alloc (Obj.cells #[Value.bool fin, Value.slice EX es.length ecap] 53)) (Obj.cells #[Value.bool fin, Value.slice none 0 0] 112)
        simpa using this)
      have HZ0 : Hid (W0.heap.size = wo.heap.size + 1 + 1) := Lib.hid (by rw [← hW0]; simp)
      have HKr0 : Hid (∀ W, Kept [wo.heap.size + 1] W0 W → Kept [wo.heap.size + 1] wo W) := Lib.hid (fun W h => by rw [← hW0] at h; exact (((Kept.refl [wo.heap.size + 1] wo).alloc _).alloc _).trans h)
      have HKX : Hid (∀ W, Kept [wo.heap.size + 1] W0 W → Kept [] w W) := Lib.hid (fun W h => HK.out.trans' (HKr0.out W h) (fun x hx => by
        have := HK.out.size
        simp only [List.mem_cons, List.not_mem_nil, or_false] at hx ⊢
        omega))
      have HO0 : Hid (∀ W, Kept [wo.heap.size + 1] W0 W → OutAt W w.heap.size 112 113 u3 L) := Lib.hid (fun W hW => by
        have hk := HKr0.out W hW
        refine ⟨hk.own HO.out.own (fun g hg hm => ?_), fun x hx => (HO.out.eds x hx).keptTy hk (fun g hg => ?_)⟩
        · obtain ⟨⟨cs, h1⟩, h2⟩ := own_ty HO.out.own hg
          have := block_lt h1
          simp at hm; omega
        · simp only [List.mem_cons, List.not_mem_nil, or_false] at hg
          subst hg
          exact .inr (fun ⟨cs, h1⟩ => by have := block_lt h1; omega))
      have HSz : Hid (w.heap.size ≤ wo.heap.size) := Lib.hid HK.out.size
      obtain ⟨X3, c3, hX3⟩ := HO.out.form
      subst hX3
      clear hW0 x0 x1
      go_loopw [8, 21] (fun _ j W => ∃ (u : Nat) (fs : List Ed), u ≤ es.length ∧ j = .int .i64 u ∧ Hid (fs.length = u ∧ fs = es.take u) ∧ Hid (Kept [wo.heap.size + 1] W0 W) ∧ Hid (∃ sv, W.heap[wo.heap.size + 1]? = some (.cells #[Value.bool fin, sv] 112 (0, 0)) ∧ W.ownsRow W0.heap.size 113 2 sv fs.length (edCells fs))) (fun _ j _ => es.length - (intOf j).toNat)
      case atStart => exact ⟨0, [], Nat.zero_le _, rfl, Lib.hid ⟨rfl, rfl⟩, Lib.hid (Kept.refl _ _), Lib.hid ⟨_, HX0.out, World.ownsRow_nil _ _ _ _⟩⟩
      case round =>
        obtain ⟨u, fs, hu, rfl, HF, HKw, HXw⟩ := hrel
        obtain ⟨sv, hXs, hOw⟩ := HXw.out
        obtain ⟨SX, scap, hsv⟩ := own_form hOw
        subst hsv
        by_cases hlu : u < es.length
        · obtain ⟨eg, eo, hEX, heg, hep, hec2⟩ := HE1.out.resolve_left (by omega)
          subst hEX
          obtain ⟨e0, e1⟩ := hec2 u hlu
          obtain ⟨⟨eb, et⟩, hy⟩ : ∃ x, es[u] = x := ⟨_, rfl⟩
          have hTu : es.take (u + 1) = es.take u ++ [(eb, et)] := by rw [List.take_succ_eq_append_getElem hlu, hy]
          rw [hy] at e0 e1
          dsimp only at e0 e1
          have hkr := HKr0.out _ HKw.out
          have y0 := (hkr.cell (p := ⟨eg, eo + u * 2, none⟩) heg (by simp; omega)).trans e0
          have y1 := (hkr.cell (p := ⟨eg, eo + u * 2 + 1, none⟩) heg (by simp; omega)).trans e1
          have HTu := Lib.hid hTu
          have HLu : Hid (True → u + 1 ≤ es.length) := Lib.hid (fun _ => hlu)
          have HXs := Lib.hid hXs
          have HOw := Lib.hid hOw
          have hfl : (fs.length : Int) ≤ 8796093021952 := by have := HF.out.1; have := HEl.out; omega
          have x6 : ∀ o, (wr.alloc o).cell? ⟨wo.heap.size + 1, 1, none⟩ = some (.slice SX fs.length scap) := fun o => by rw [Lib.cell_of_heap (((Kept.refl [] _).alloc o).at HXs.out (by simp))]; rfl
          have hluI : (u : Int) < (es.length : Int) := by omega
          clear hXs hOw HXw hTu hy hlu
          go_wp2_with (at_builtin; refine wpList_push_at rfl _ _ 110 rfl W0.heap.size 113 i0 _ 2 16 Try.underlying110 hi hz0 hz1 hz2 rfl (by decide) _ fs.length (edCells fs) rfl (HOw.out.alloc _) _ rfl (by intro x hx; simp at hx; rcases hx with rfl | rfl <;> rfl) _ rfl (by simp) (by unfold maxLen; omega) (by omega) (by have := HKw.out.size; simp; omega) ?_; intro gg cc w8 hown hg8; have hx8 : w8.heap[wo.heap.size + 1]? = some (.cells #[Value.bool fin, Value.slice SX fs.length scap] 112 (0, 0)) := (by rw [hg8.block _ (by have := block_lt HXs.out; simp; omega) (fun e => by have h1 := (own_ty HOw.out e.symm).2; have h2 := HZ0.out; omega)]; exact ((Kept.refl [] _).alloc _).at HXs.out (by simp)); have c8 : w8.cell? ⟨wo.heap.size + 1, 1, none⟩ = some (.slice SX fs.length scap) := (by rw [Lib.cell_of_heap hx8]; rfl); have f8 : w8.frozen? ⟨wo.heap.size + 1, 1, none⟩ = false := Lib.frozen_of_heap hx8 1; have HX9 := Lib.hid hx8; have HO8 := Lib.hid hown; have HK8 : Hid (Kept [wo.heap.size + 1] W0 w8) := Lib.hid ((HKw.out.alloc _).push (HOw.out.alloc _) (Nat.le_refl _) hg8); clear hx8 hown hg8)
          have hset := Go.heap_setCell_same w8 (wo.heap.size + 1) 1 _ _ (.slice (some ⟨gg, 0, none⟩) (fs.length + 1) cc) HX9.out
          refine ⟨⟨u + 1, fs ++ [(eb, et)], HLu.out trivial, rfl, Lib.hid ⟨by rw [List.length_append, HF.out.1]; rfl, by rw [HTu.out, HF.out.2]⟩, Lib.hid (HK8.out.set _ _ _ (.inl (by simp))), Lib.hid ⟨_, hset, ?_⟩⟩, by have := HLu.out trivial; simp [intOf]; omega⟩
          rw [← edCells_snoc, List.length_append, List.length_singleton]
          refine ((Kept.refl [wo.heap.size + 1] w8).set _ _ _ (.inl (by simp))).own HO8.out (fun g hg hm => ?_)
          have h1 := (own_ty HO8.out hg).2
          have h2 := HZ0.out
          simp at hm; omega
        · obtain rfl : u = es.length := by omega
          have hfe : fs = es := by rw [HF.out.2, List.take_of_length_le (Nat.le_refl _)]
          subst hfe
          have x0 : wr.cell? ⟨wo.heap.size + 1, 0, none⟩ = some (.bool fin) := by rw [Lib.cell_of_heap hXs]; rfl
          have x1 : wr.cell? ⟨wo.heap.size + 1, 1, none⟩ = some (.slice SX fs.length scap) := by rw [Lib.cell_of_heap hXs]; rfl
          have HEd2 := Lib.hid ((eds_of_own hOw).base (B' := w.heap.size) (by have := HZ0.out; have := HSz.out; omega))
          have HOo := Lib.hid (HO0.out wr HKw.out)
          have HKr := Lib.hid (HKX.out wr HKw.out)
          have hLl : (L.length : Int) ≤ 4398046510976 := by have := HL.out.1; omega
          clear hXs hOw HXw hlu
          go_wp2_with (at_builtin; refine wpList_push rfl _ _ 34 rfl w.heap.size 112 i1 _ 2 32 Try.underlying34 hj hy0 hy1 hy2 rfl (by decide) _ L.length (stCells L) rfl HOo.out.own _ rfl (by intro x hx; simp at hx; rcases hx with rfl | rfl <;> rfl) rfl (by unfold maxLen; omega) (by omega) HKr.out.size ?_; intro gg cc w8 hown hg8; have HO8 := Lib.hid hown; have HG8 : Hid (wr.grownBy w8 (Value.slice X3 L.length c3).ownBlock) := Lib.hid hg8; clear hown hg8)
          refine ⟨⟨k + 1, L ++ [((fin, fs), .slice SX fs.length scap)], HLt.out trivial, rfl, Lib.hid ⟨by rw [List.length_append, HL.out.1]; rfl, by rw [HTk.out, List.map_append, HL.out.2]; rfl⟩, Lib.hid (HKr.out.push HOo.out.own (Nat.le_refl _) HG8.out), Lib.hid (HOo.out.push (by decide) HEd2.out (x := ((fin, fs), .slice SX fs.length scap)) HO8.out HG8.out)⟩, by have := HLt.out trivial; simp [intOf]; omega⟩
    · obtain rfl : k = A.length := by omega
      have HT : Hid (L.map (·.1) = A) := Lib.hid (by rw [HL.out.2, List.take_of_length_le (Nat.le_refl _)])
      go_wp2_with fail
      go_ret
      exact ⟨_, rfl, HK.out.below (Nat.le_refl _) (by simp), by rw [← HT.out]; exact HO.out.aut⟩
end

section
open Go.RowKit
attribute [local go_sem ↓] Go.wp_at_zero Go.wp_at_succ

theorem AutAt.row {w : World} {p : Nat → Prop} {v : Value} {A : List St} (h : AutAt w p v A) : ∃ X cap, v = .slice X A.length cap ∧ ∀ k (hk : k < A.length), ∃ g o ev ecap EX, X = some ⟨g, o, none⟩ ∧ w.cell? ⟨g, o + k * 2, none⟩ = some (.bool A[k].1) ∧ w.cell? ⟨g, o + k * 2 + 1, none⟩ = some ev ∧ ev = .slice EX A[k].2.length ecap ∧
    ∀ j (hj : j < A[k].2.length), ∃ eg eo, EX = some ⟨eg, eo, none⟩ ∧ w.cell? ⟨eg, eo + j * 2, none⟩ = some (.int .u8 (A[k].2[j].1.toNat : Int)) ∧ w.cell? ⟨eg, eo + j * 2 + 1, none⟩ = some (.int .i64 A[k].2[j].2) := by
  obtain ⟨X, cap, hv, _, h0⟩ := h
  refine ⟨X, cap, hv, fun k hk => ?_⟩
  obtain ⟨g, o, hX, _, _, hcs⟩ := h0.resolve_left (by omega)
  obtain ⟨c0, ev, c1, EX, ecap, hev, _, h1⟩ := hcs k hk
  refine ⟨g, o, ev, ecap, EX, hX, c0, c1, hev, fun j hj => ?_⟩
  obtain ⟨eg, eo, hE, _, _, hec⟩ := h1.resolve_left (by omega)
  exact ⟨eg, eo, hE, hec j hj⟩
set_option maxHeartbeats 8000000 in
set_option maxRecDepth 100000 in
theorem Equal_same (A : List St) (v1 v2 : Value) (w : World) (p1 p2 : Nat → Prop) (h1 : AutAt w p1 v1 A) (h2 : AutAt w p2 v2 A) (hN : A.length ≤ 4398046510976) (hE : ∀ x ∈ A, x.2.length ≤ 8796093021952) :
    Calls Try.prog 34 #[v1, v2] w fun e w' => e = .returned (.bool true) ∧ ∃ m, w' = w.drewN m := by
  obtain ⟨X1, cap1, rfl, hr1⟩ := h1.row
  obtain ⟨X2, cap2, rfl, hr2⟩ := h2.row
  have H1 := Lib.hid hr1
  have H2 := Lib.hid hr2
  have HE := Lib.hid hE
  have hNi : (A.length : Int) ≤ 4398046510976 := by omega
  clear h1 h2 hr1 hr2 hE hN
  go_enter Try.func34, Try.ntmps34
  go_wp2_with fail
  go_loopw [5, 6] (fun i _ W => ∃ (k m : Nat), k ≤ A.length ∧ i = .int .i64 k ∧ W = w.drewN m) (fun i _ _ => A.length - (intOf i).toNat)
  case atStart => exact ⟨0, 0, Nat.zero_le _, rfl, rfl⟩
  case round =>
    obtain ⟨k, m, hk, rfl, rfl⟩ := hrel
    by_cases hlt : k < A.length
    · obtain ⟨g1, o1, ev1, ec1, EX1, hx1, a0, a1, rfl, he1⟩ := H1.out k hlt
      obtain ⟨g2, o2, ev2, ec2, EX2, hx2, b0, b1, rfl, he2⟩ := H2.out k hlt
      subst hx1 hx2
      have hEl := HE.out A[k] (List.getElem_mem hlt)
      obtain ⟨⟨fin, es⟩, hx⟩ : ∃ x, A[k] = x := ⟨_, rfl⟩
      rw [hx] at a0 a1 b0 b1 hEl
      dsimp only at a0 a1 b0 b1 hEl
      have HE1 : Hid (∀ j (hj : j < es.length), ∃ eg eo, EX1 = some ⟨eg, eo, none⟩ ∧ w.cell? ⟨eg, eo + j * 2, none⟩ = some (.int .u8 (es[j].1.toNat : Int)) ∧ w.cell? ⟨eg, eo + j * 2 + 1, none⟩ = some (.int .i64 es[j].2)) := Lib.hid (fun j hj => by
        have := he1 j (by rw [hx]; exact hj)
        simpa [hx] using this)
      have HE2 : Hid (∀ j (hj : j < es.length), ∃ eg eo, EX2 = some ⟨eg, eo, none⟩ ∧ w.cell? ⟨eg, eo + j * 2, none⟩ = some (.int .u8 (es[j].1.toNat : Int)) ∧ w.cell? ⟨eg, eo + j * 2 + 1, none⟩ = some (.int .i64 es[j].2)) := Lib.hid (fun j hj => by
        have := he2 j (by rw [hx]; exact hj)
        simpa [hx] using this)
      have hki : (k : Int) < (A.length : Int) := by omega
      have hEi : (es.length : Int) ≤ 8796093021952 := by omega
      have HLt : Hid (True → k + 1 ≤ A.length) := Lib.hid (fun _ => hlt)
      clear he1 he2 hx hEl hlt
      go_wp2_with fail
      refine wp_region_held_drew (S := fun W => (W.cell? ⟨g1, o1 + k * 2, none⟩ = some (.bool fin) ∧ W.cell? ⟨g1, o1 + k * 2 + 1, none⟩ = some (.slice EX1 es.length ec1)) ∧ W.cell? ⟨g2, o2 + k * 2, none⟩ = some (.bool fin) ∧ W.cell? ⟨g2, o2 + k * 2 + 1, none⟩ = some (.slice EX2 es.length ec2)) (by kernel_rfl) ?_ (fun hHeld => ?_)
      · exact ⟨⟨a0, a1⟩, b0, b1⟩
      refine takeH (i := 0) (d := some 18) (v := ?_) rfl rfl (by kernel_rfl) (by kernel_rfl) (by kernel_rfl) (fun _ _ _ h => h) (Or.inl ⟨by kernel_rfl, ?_⟩) hHeld ?_
      rotate_left
      · intro w hSw; (try dsimp only at hSw); go_simp; try with_reducible rfl
      try simp only [Act.put, List.setIfInBounds_toArray, List.set_cons_zero, List.set_cons_succ]
      refine takeH (i := 1) (d := some 19) (v := ?_) rfl rfl (by kernel_rfl) (by kernel_rfl) (by kernel_rfl) (fun _ _ _ h => h) (Or.inl ⟨by kernel_rfl, ?_⟩) hHeld ?_
      rotate_left
      · intro w hSw; (try dsimp only at hSw); go_simp; try with_reducible rfl
      try simp only [Act.put, List.setIfInBounds_toArray, List.set_cons_zero, List.set_cons_succ]
      refine takeH (i := 2) (d := some 20) (v := ?_) rfl rfl (by kernel_rfl) (by kernel_rfl) (by kernel_rfl) (fun _ _ _ h => h) (Or.inl ⟨by kernel_rfl, ?_⟩) hHeld ?_
      rotate_left
      · intro w hSw; (try dsimp only at hSw); go_simp; try with_reducible rfl
      try simp only [Act.put, List.setIfInBounds_toArray, List.set_cons_zero, List.set_cons_succ]
      refine takeH (i := 3) (d := some 21) (v := ?_) rfl rfl (by kernel_rfl) (by kernel_rfl) (by kernel_rfl) (fun _ _ _ h => h) (Or.inl ⟨by kernel_rfl, ?_⟩) hHeld ?_
      rotate_left
      · intro w hSw; (try dsimp only at hSw); go_simp; try with_reducible rfl
      try simp only [Act.put, List.setIfInBounds_toArray, List.set_cons_zero, List.set_cons_succ]
      refine takeH (i := 4) (d := some 22) (v := ?_) rfl rfl (by kernel_rfl) (by kernel_rfl) (by kernel_rfl) (fun _ _ _ h => h) (Or.inl ⟨by kernel_rfl, ?_⟩) hHeld ?_
      rotate_left
      · intro w hSw; (try dsimp only at hSw); go_simp; try with_reducible rfl
      try simp only [Act.put, List.setIfInBounds_toArray, List.set_cons_zero, List.set_cons_succ]
      refine takeH (i := 5) (d := some 23) (v := ?_) rfl rfl (by kernel_rfl) (by kernel_rfl) (by kernel_rfl) (fun _ _ _ h => h) (Or.inl ⟨by kernel_rfl, ?_⟩) hHeld ?_
      rotate_left
      · intro w hSw; (try dsimp only at hSw); go_simp; try with_reducible rfl
      try simp only [Act.put, List.setIfInBounds_toArray, List.set_cons_zero, List.set_cons_succ]
      refine takeH (i := 6) (d := some 24) (v := ?_) rfl rfl (by kernel_rfl) (by kernel_rfl) (by kernel_rfl) (fun _ _ _ h => h) (Or.inl ⟨by kernel_rfl, ?_⟩) hHeld ?_
      rotate_left
      · intro w hSw; (try dsimp only at hSw); go_simp; try with_reducible rfl
      try simp only [Act.put, List.setIfInBounds_toArray, List.set_cons_zero, List.set_cons_succ]
      refine takeH (i := 7) (d := some 25) (v := ?_) rfl rfl (by kernel_rfl) (by kernel_rfl) (by kernel_rfl) (fun _ _ _ h => h) (Or.inl ⟨by kernel_rfl, ?_⟩) hHeld ?_
      rotate_left
      · intro w hSw; (try dsimp only at hSw); go_simp; try with_reducible rfl
      try simp only [Act.put, List.setIfInBounds_toArray, List.set_cons_zero, List.set_cons_succ]
      refine takeH (i := 8) (d := some 26) (v := ?_) rfl rfl (by kernel_rfl) (by kernel_rfl) (by kernel_rfl) (fun _ _ _ h => h) (Or.inl ⟨by kernel_rfl, ?_⟩) hHeld ?_
      rotate_left
      · intro w hSw; (try dsimp only at hSw); go_simp; try with_reducible rfl
      try simp only [Act.put, List.setIfInBounds_toArray, List.set_cons_zero, List.set_cons_succ]
      refine takeH (i := 9) (d := some 27) (v := ?_) rfl rfl (by kernel_rfl) (by kernel_rfl) (by kernel_rfl) (fun _ _ _ h => h) (Or.inl ⟨by kernel_rfl, ?_⟩) hHeld ?_
      rotate_left
      · intro w hSw; (try dsimp only at hSw); go_simp; try with_reducible rfl
      try simp only [Act.put, List.setIfInBounds_toArray, List.set_cons_zero, List.set_cons_succ]
      refine takeH (i := 10) (d := some 28) (v := ?_) rfl rfl (by kernel_rfl) (by kernel_rfl) (by kernel_rfl) (fun _ _ _ h => h) (Or.inl ⟨by kernel_rfl, ?_⟩) hHeld ?_
      rotate_left
      · intro w hSw; (try dsimp only at hSw); go_simp; try with_reducible rfl
      try simp only [Act.put, List.setIfInBounds_toArray, List.set_cons_zero, List.set_cons_succ]
      refine takeH (i := 11) (d := some 29) (v := ?_) rfl rfl (by kernel_rfl) (by kernel_rfl) (by kernel_rfl) (fun _ _ _ h => h) (Or.inl ⟨by kernel_rfl, ?_⟩) hHeld ?_
      rotate_left
      · intro w hSw; (try dsimp only at hSw); go_simp; try with_reducible rfl
      try simp only [Act.put, List.setIfInBounds_toArray, List.set_cons_zero, List.set_cons_succ]
      refine takeH (i := 12) (d := some 30) (v := ?_) rfl rfl (by kernel_rfl) (by kernel_rfl) (by kernel_rfl) (fun _ _ _ h => h) (Or.inl ⟨by kernel_rfl, ?_⟩) hHeld ?_
      rotate_left
      · intro w hSw; (try dsimp only at hSw); go_simp; try with_reducible rfl
      try simp only [Act.put, List.setIfInBounds_toArray, List.set_cons_zero, List.set_cons_succ]
      refine takeH (i := 13) (d := some 31) (v := ?_) rfl rfl (by kernel_rfl) (by kernel_rfl) (by kernel_rfl) (fun _ _ _ h => h) (Or.inl ⟨by kernel_rfl, ?_⟩) hHeld ?_
      rotate_left
      · intro w hSw; (try dsimp only at hSw); go_simp; try with_reducible rfl
      try simp only [Act.put, List.setIfInBounds_toArray, List.set_cons_zero, List.set_cons_succ]
      refine takeH (i := 14) (d := some 32) (v := ?_) rfl rfl (by kernel_rfl) (by kernel_rfl) (by kernel_rfl) (fun _ _ _ h => h) (Or.inl ⟨by kernel_rfl, ?_⟩) hHeld ?_
      rotate_left
      · intro w hSw; (try dsimp only at hSw); go_simp; try with_reducible rfl
      try simp only [Act.put, List.setIfInBounds_toArray, List.set_cons_zero, List.set_cons_succ]
      refine takeH (i := 15) (d := some 33) (v := ?_) rfl rfl (by kernel_rfl) (by kernel_rfl) (by kernel_rfl) (fun _ _ _ h => h) (Or.inl ⟨by kernel_rfl, ?_⟩) hHeld ?_
      rotate_left
      · intro w hSw; (try dsimp only at hSw); go_simp; try with_reducible rfl
      try simp only [Act.put, List.setIfInBounds_toArray, List.set_cons_zero, List.set_cons_succ]
      refine takeH (i := 16) (d := some 34) (v := ?_) rfl rfl (by kernel_rfl) (by kernel_rfl) (by kernel_rfl) (fun _ _ _ h => h) (Or.inl ⟨by kernel_rfl, ?_⟩) hHeld ?_
      rotate_left
      · intro w hSw; (try dsimp only at hSw); go_simp; try with_reducible rfl
      try simp only [Act.put, List.setIfInBounds_toArray, List.set_cons_zero, List.set_cons_succ]
      refine takeH (i := 17) (d := some 35) (v := ?_) rfl rfl (by kernel_rfl) (by kernel_rfl) (by kernel_rfl) (fun _ _ _ h => h) (Or.inl ⟨by kernel_rfl, ?_⟩) hHeld ?_
      rotate_left
      · intro w hSw; (try dsimp only at hSw); go_simp; try with_reducible rfl
      try simp only [Act.put, List.setIfInBounds_toArray, List.set_cons_zero, List.set_cons_succ]
      refine takeH (i := 18) (d := some 36) (v := ?_) rfl rfl (by kernel_rfl) (by kernel_rfl) (by kernel_rfl) (fun _ _ _ h => h) (Or.inl ⟨by kernel_rfl, ?_⟩) hHeld ?_
      rotate_left
      · intro w hSw; (try dsimp only at hSw); go_simp; try with_reducible rfl
      try simp only [Act.put, List.setIfInBounds_toArray, List.set_cons_zero, List.set_cons_succ]
      refine takeH (i := 19) (d := some 37) (v := ?_) rfl rfl (by kernel_rfl) (by kernel_rfl) (by kernel_rfl) (fun _ _ _ h => h) (Or.inl ⟨by kernel_rfl, ?_⟩) hHeld ?_
      rotate_left
      · intro w hSw; (try dsimp only at hSw); go_simp; try with_reducible rfl
      try simp only [Act.put, List.setIfInBounds_toArray, List.set_cons_zero, List.set_cons_succ]
      refine takeH (i := 20) (d := some 38) (v := ?_) rfl rfl (by kernel_rfl) (by kernel_rfl) (by kernel_rfl) (fun _ _ _ h => h) (Or.inl ⟨by kernel_rfl, ?_⟩) hHeld ?_
      rotate_left
      · intro w hSw; (try dsimp only at hSw); go_simp; try with_reducible rfl
      try simp only [Act.put, List.setIfInBounds_toArray, List.set_cons_zero, List.set_cons_succ]
      refine takeH (i := 21) (d := some 39) (v := ?_) rfl rfl (by kernel_rfl) (by kernel_rfl) (by kernel_rfl) (fun _ _ _ h => h) (Or.inl ⟨by kernel_rfl, ?_⟩) hHeld ?_
      rotate_left
      · intro w hSw; (try dsimp only at hSw); go_simp; try with_reducible rfl
      try simp only [Act.put, List.setIfInBounds_toArray, List.set_cons_zero, List.set_cons_succ]
      refine takeH (i := 22) (d := some 40) (v := ?_) rfl rfl (by kernel_rfl) (by kernel_rfl) (by kernel_rfl) (fun _ _ _ h => h) (Or.inl ⟨by kernel_rfl, ?_⟩) hHeld ?_
      rotate_left
      · intro w hSw; (try dsimp only at hSw); go_simp; try with_reducible rfl
      try simp only [Act.put, List.setIfInBounds_toArray, List.set_cons_zero, List.set_cons_succ]
      refine takeH (i := 23) (d := some 41) (v := ?_) rfl rfl (by kernel_rfl) (by kernel_rfl) (by kernel_rfl) (fun _ _ _ h => h) (Or.inl ⟨by kernel_rfl, ?_⟩) hHeld ?_
      rotate_left
      · intro w hSw; (try dsimp only at hSw); go_simp; try with_reducible rfl
      try simp only [Act.put, List.setIfInBounds_toArray, List.set_cons_zero, List.set_cons_succ]
      refine takeH (i := 24) (d := some 42) (v := ?_) rfl rfl (by kernel_rfl) (by kernel_rfl) (by kernel_rfl) (fun _ _ _ h => h) (Or.inl ⟨by kernel_rfl, ?_⟩) hHeld ?_
      rotate_left
      · intro w hSw; (try dsimp only at hSw); go_simp; try with_reducible rfl
      try simp only [Act.put, List.setIfInBounds_toArray, List.set_cons_zero, List.set_cons_succ]
      refine takeH (i := 25) (d := some 43) (v := ?_) rfl rfl (by kernel_rfl) (by kernel_rfl) (by kernel_rfl) (fun _ _ _ h => h) (Or.inl ⟨by kernel_rfl, ?_⟩) hHeld ?_
      rotate_left
      · intro w hSw; (try dsimp only at hSw); go_simp; try with_reducible rfl
      try simp only [Act.put, List.setIfInBounds_toArray, List.set_cons_zero, List.set_cons_succ]
      refine wpAnyH_done (by kernel_rfl) ?_ _
      go_wp2_with fail
      go_loopw [6] (fun j W => ∃ (u m' : Nat), u ≤ es.length ∧ j = .int .i64 u ∧ W = w.drewN m') (fun j _ => es.length - (intOf j).toNat)
      case atStart => exact ⟨0, m + 1, Nat.zero_le _, rfl, rfl⟩
      case round =>
        obtain ⟨u, m', hu, rfl, rfl⟩ := hrel
        by_cases hlu : u < es.length
        · obtain ⟨eg1, eo1, hX1, c0, c1⟩ := HE1.out u hlu
          obtain ⟨eg2, eo2, hX2, d0, d1⟩ := HE2.out u hlu
          subst hX1 hX2
          obtain ⟨⟨eb, et⟩, hy⟩ : ∃ x, es[u] = x := ⟨_, rfl⟩
          rw [hy] at c0 c1 d0 d1
          dsimp only at c0 c1 d0 d1
          have hui : (u : Int) < (es.length : Int) := by omega
          have HLu : Hid (True → u + 1 ≤ es.length) := Lib.hid (fun _ => hlu)
          clear hy hlu
          go_wp2_with fail
          refine wp_region_held_drew (S := fun W => (W.cell? ⟨g1, o1 + k * 2 + 1, none⟩ = some (.slice (some ⟨eg1, eo1, none⟩) es.length ec1) ∧ W.cell? ⟨eg1, eo1 + u * 2, none⟩ = some (.int .u8 (eb.toNat : Int)) ∧ W.cell? ⟨eg1, eo1 + u * 2 + 1, none⟩ = some (.int .i64 et)) ∧ W.cell? ⟨g2, o2 + k * 2 + 1, none⟩ = some (.slice (some ⟨eg2, eo2, none⟩) es.length ec2) ∧ W.cell? ⟨eg2, eo2 + u * 2, none⟩ = some (.int .u8 (eb.toNat : Int)) ∧ W.cell? ⟨eg2, eo2 + u * 2 + 1, none⟩ = some (.int .i64 et)) (by kernel_rfl) ?_ (fun hHeld => ?_)
          · exact ⟨⟨a1, c0, c1⟩, b1, d0, d1⟩
          refine takeH (i := 0) (d := some 54) (v := ?_) rfl rfl (by kernel_rfl) (by kernel_rfl) (by kernel_rfl) (fun _ _ _ h => h) (Or.inl ⟨by kernel_rfl, ?_⟩) hHeld ?_
          rotate_left
          · intro w hSw; (try dsimp only at hSw); go_simp; try with_reducible rfl
          try simp only [Act.put, List.setIfInBounds_toArray, List.set_cons_zero, List.set_cons_succ]
          refine takeH (i := 1) (d := some 55) (v := ?_) rfl rfl (by kernel_rfl) (by kernel_rfl) (by kernel_rfl) (fun _ _ _ h => h) (Or.inl ⟨by kernel_rfl, ?_⟩) hHeld ?_
          rotate_left
          · intro w hSw; (try dsimp only at hSw); go_simp; try with_reducible rfl
          try simp only [Act.put, List.setIfInBounds_toArray, List.set_cons_zero, List.set_cons_succ]
          refine takeH (i := 2) (d := some 56) (v := ?_) rfl rfl (by kernel_rfl) (by kernel_rfl) (by kernel_rfl) (fun _ _ _ h => h) (Or.inl ⟨by kernel_rfl, ?_⟩) hHeld ?_
          rotate_left
          · intro w hSw; (try dsimp only at hSw); go_simp; try with_reducible rfl
          try simp only [Act.put, List.setIfInBounds_toArray, List.set_cons_zero, List.set_cons_succ]
          refine takeH (i := 3) (d := some 57) (v := ?_) rfl rfl (by kernel_rfl) (by kernel_rfl) (by kernel_rfl) (fun _ _ _ h => h) (Or.inl ⟨by kernel_rfl, ?_⟩) hHeld ?_
          rotate_left
          · intro w hSw; (try dsimp only at hSw); go_simp; try with_reducible rfl
          try simp only [Act.put, List.setIfInBounds_toArray, List.set_cons_zero, List.set_cons_succ]
          refine takeH (i := 4) (d := some 58) (v := ?_) rfl rfl (by kernel_rfl) (by kernel_rfl) (by kernel_rfl) (fun _ _ _ h => h) (Or.inl ⟨by kernel_rfl, ?_⟩) hHeld ?_
          rotate_left
          · intro w hSw; (try dsimp only at hSw); go_simp; try with_reducible rfl
          try simp only [Act.put, List.setIfInBounds_toArray, List.set_cons_zero, List.set_cons_succ]
          refine takeH (i := 5) (d := some 59) (v := ?_) rfl rfl (by kernel_rfl) (by kernel_rfl) (by kernel_rfl) (fun _ _ _ h => h) (Or.inl ⟨by kernel_rfl, ?_⟩) hHeld ?_
          rotate_left
          · intro w hSw; (try dsimp only at hSw); go_simp; try with_reducible rfl
          try simp only [Act.put, List.setIfInBounds_toArray, List.set_cons_zero, List.set_cons_succ]
          refine takeH (i := 6) (d := some 60) (v := ?_) rfl rfl (by kernel_rfl) (by kernel_rfl) (by kernel_rfl) (fun _ _ _ h => h) (Or.inl ⟨by kernel_rfl, ?_⟩) hHeld ?_
          rotate_left
          · intro w hSw; (try dsimp only at hSw); go_simp; try with_reducible rfl
          try simp only [Act.put, List.setIfInBounds_toArray, List.set_cons_zero, List.set_cons_succ]
          refine takeH (i := 7) (d := some 61) (v := ?_) rfl rfl (by kernel_rfl) (by kernel_rfl) (by kernel_rfl) (fun _ _ _ h => h) (Or.inl ⟨by kernel_rfl, ?_⟩) hHeld ?_
          rotate_left
          · intro w hSw; (try dsimp only at hSw); go_simp; try with_reducible rfl
          try simp only [Act.put, List.setIfInBounds_toArray, List.set_cons_zero, List.set_cons_succ]
          refine takeH (i := 8) (d := some 62) (v := ?_) rfl rfl (by kernel_rfl) (by kernel_rfl) (by kernel_rfl) (fun _ _ _ h => h) (Or.inl ⟨by kernel_rfl, ?_⟩) hHeld ?_
          rotate_left
          · intro w hSw; (try dsimp only at hSw); go_simp; try with_reducible rfl
          try simp only [Act.put, List.setIfInBounds_toArray, List.set_cons_zero, List.set_cons_succ]
          refine takeH (i := 9) (d := some 63) (v := ?_) rfl rfl (by kernel_rfl) (by kernel_rfl) (by kernel_rfl) (fun _ _ _ h => h) (Or.inl ⟨by kernel_rfl, ?_⟩) hHeld ?_
          rotate_left
          · intro w hSw; (try dsimp only at hSw); go_simp; try with_reducible rfl
          try simp only [Act.put, List.setIfInBounds_toArray, List.set_cons_zero, List.set_cons_succ]
          refine takeH (i := 10) (d := some 64) (v := ?_) rfl rfl (by kernel_rfl) (by kernel_rfl) (by kernel_rfl) (fun _ _ _ h => h) (Or.inl ⟨by kernel_rfl, ?_⟩) hHeld ?_
          rotate_left
          · intro w hSw; (try dsimp only at hSw); go_simp; try with_reducible rfl
          try simp only [Act.put, List.setIfInBounds_toArray, List.set_cons_zero, List.set_cons_succ]
          refine takeH (i := 11) (d := some 65) (v := ?_) rfl rfl (by kernel_rfl) (by kernel_rfl) (by kernel_rfl) (fun _ _ _ h => h) (Or.inl ⟨by kernel_rfl, ?_⟩) hHeld ?_
          rotate_left
          · intro w hSw; (try dsimp only at hSw); go_simp; try with_reducible rfl
          try simp only [Act.put, List.setIfInBounds_toArray, List.set_cons_zero, List.set_cons_succ]
          refine takeH (i := 12) (d := some 66) (v := ?_) rfl rfl (by kernel_rfl) (by kernel_rfl) (by kernel_rfl) (fun _ _ _ h => h) (Or.inl ⟨by kernel_rfl, ?_⟩) hHeld ?_
          rotate_left
          · intro w hSw; (try dsimp only at hSw); go_simp; try with_reducible rfl
          try simp only [Act.put, List.setIfInBounds_toArray, List.set_cons_zero, List.set_cons_succ]
          refine takeH (i := 13) (d := some 67) (v := ?_) rfl rfl (by kernel_rfl) (by kernel_rfl) (by kernel_rfl) (fun _ _ _ h => h) (Or.inl ⟨by kernel_rfl, ?_⟩) hHeld ?_
          rotate_left
          · intro w hSw; (try dsimp only at hSw); go_simp; try with_reducible rfl
          try simp only [Act.put, List.setIfInBounds_toArray, List.set_cons_zero, List.set_cons_succ]
          refine takeH (i := 14) (d := some 68) (v := ?_) rfl rfl (by kernel_rfl) (by kernel_rfl) (by kernel_rfl) (fun _ _ _ h => h) (Or.inl ⟨by kernel_rfl, ?_⟩) hHeld ?_
          rotate_left
          · intro w hSw; (try dsimp only at hSw); go_simp; try with_reducible rfl
          try simp only [Act.put, List.setIfInBounds_toArray, List.set_cons_zero, List.set_cons_succ]
          refine takeH (i := 15) (d := some 69) (v := ?_) rfl rfl (by kernel_rfl) (by kernel_rfl) (by kernel_rfl) (fun _ _ _ h => h) (Or.inl ⟨by kernel_rfl, ?_⟩) hHeld ?_
          rotate_left
          · intro w hSw; (try dsimp only at hSw); go_simp; try with_reducible rfl
          try simp only [Act.put, List.setIfInBounds_toArray, List.set_cons_zero, List.set_cons_succ]
          refine takeH (i := 16) (d := some 70) (v := ?_) rfl rfl (by kernel_rfl) (by kernel_rfl) (by kernel_rfl) (fun _ _ _ h => h) (Or.inl ⟨by kernel_rfl, ?_⟩) hHeld ?_
          rotate_left
          · intro w hSw; (try dsimp only at hSw); go_simp; try with_reducible rfl
          try simp only [Act.put, List.setIfInBounds_toArray, List.set_cons_zero, List.set_cons_succ]
          refine wpAnyH_done (by kernel_rfl) ?_ _
          go_wp2_with fail
          exact ⟨⟨u + 1, m' + 1, HLu.out trivial, rfl, rfl⟩, by have := HLu.out trivial; simp [intOf]; omega⟩
        · obtain rfl : u = es.length := by omega
          go_wp2_with fail
          exact ⟨⟨k + 1, m', HLt.out trivial, rfl, rfl⟩, by have := HLt.out trivial; simp [intOf]; omega⟩
    · obtain rfl : k = A.length := by omega
      go_wp2_with fail
      go_ret
      exact ⟨rfl, m, rfl⟩
end

section
open Go.RowKit
attribute [local go_sem ↓] Go.wp_at_zero Go.wp_at_succ

theorem RepsAt.row {w : World} {v : Value} {rs : List Rp} (h : RepsAt w v rs) : ∃ X cap, v = .slice X rs.length cap ∧ ∀ k (hk : k < rs.length), ∃ g o, X = some ⟨g, o, none⟩ ∧ g < w.heap.size ∧ w.cell? ⟨g, o + k * 2, none⟩ = some (.string rs[k].1) ∧ w.cell? ⟨g, o + k * 2 + 1, none⟩ = some (.string rs[k].2) := by
  obtain ⟨X, cap, hv, h0⟩ := h
  refine ⟨X, cap, hv, fun k hk => ?_⟩
  obtain ⟨g, o, hX, hg, hcs⟩ := h0.resolve_left (by omega)
  exact ⟨g, o, hX, hg, hcs k hk⟩
set_option maxHeartbeats 8000000 in
set_option maxRecDepth 100000 in
theorem alike_same (n : Int) (t : ByteArray) (rs : List Rp) (As : List (List St)) (vr v0 v1 v2 v3 ur u0 u1 u2 u3 : Value) (w : World) (hrv : RepsAt w vr rs) (hru : RepsAt w ur rs) (hl : As.length = 4)
    (hv : SecP w (fun _ => True) [v0, v1, v2, v3] As) (hu : SecP w (fun _ => True) [u0, u1, u2, u3] As) (hrl : rs.length ≤ 4398046510976) (hAl : ∀ A ∈ As, A.length ≤ 4398046510976 ∧ ∀ x ∈ A, x.2.length ≤ 8796093021952) :
    Calls Try.prog 14 #[.agg #[.int .i64 n, .string t, vr, v0, v1, v2, v3], .agg #[.int .i64 n, .string t, ur, u0, u1, u2, u3]] w fun e w' => e = .returned (.bool true) ∧ Below w.heap.size w w' := by
  obtain ⟨X1, cap1, rfl, hr1⟩ := hrv.row
  obtain ⟨X2, cap2, rfl, hr2⟩ := hru.row
  obtain ⟨W0, hW0⟩ : ∃ W0, (w.alloc (Obj.cells #[.int .i64 n, .string t, .slice X1 rs.length cap1, v0, v1, v2, v3] 37)).alloc (Obj.cells #[.int .i64 n, .string t, .slice X2 rs.length cap2, u0, u1, u2, u3] 37) = W0 := ⟨_, rfl⟩
  have hk0 : Kept [] w W0 := by rw [← hW0]; exact ((Kept.refl [] w).alloc _).alloc _
  have hb1 : W0.heap[w.heap.size]? = some (.cells #[.int .i64 n, .string t, .slice X1 rs.length cap1, v0, v1, v2, v3] 37 (0, 0)) := by
    rw [← hW0, Below.heap_alloc _ _ _ (by simp)]
    exact heap_alloc_new w _
  have hb2 : W0.heap[w.heap.size + 1]? = some (.cells #[.int .i64 n, .string t, .slice X2 rs.length cap2, u0, u1, u2, u3] 37 (0, 0)) := by
    rw [← hW0]
    have := heap_alloc_new (w.alloc (Obj.cells #[.int .i64 n, .string t, .slice X1 rs.length cap1, v0, v1, v2, v3] 37)) (Obj.cells #[.int .i64 n, .string t, .slice X2 rs.length cap2, u0, u1, u2, u3] 37)
    simpa using this
  have HW0 := Lib.hid hW0
  have HK0 := Lib.hid hk0
  have HB1 := Lib.hid hb1
  have HB2 := Lib.hid hb2
  have H1 : Hid (∀ k (hk : k < rs.length), ∃ g o, X1 = some ⟨g, o, none⟩ ∧ W0.cell? ⟨g, o + k * 2, none⟩ = some (.string rs[k].1) ∧ W0.cell? ⟨g, o + k * 2 + 1, none⟩ = some (.string rs[k].2)) := Lib.hid (fun k hk => by
    obtain ⟨g, o, e, hg, a, b⟩ := hr1 k hk
    exact ⟨g, o, e, (hk0.cell (p := ⟨g, _, none⟩) hg (by simp)).trans a, (hk0.cell (p := ⟨g, _, none⟩) hg (by simp)).trans b⟩)
  have H2 : Hid (∀ k (hk : k < rs.length), ∃ g o, X2 = some ⟨g, o, none⟩ ∧ W0.cell? ⟨g, o + k * 2, none⟩ = some (.string rs[k].1) ∧ W0.cell? ⟨g, o + k * 2 + 1, none⟩ = some (.string rs[k].2)) := Lib.hid (fun k hk => by
    obtain ⟨g, o, e, hg, a, b⟩ := hr2 k hk
    exact ⟨g, o, e, (hk0.cell (p := ⟨g, _, none⟩) hg (by simp)).trans a, (hk0.cell (p := ⟨g, _, none⟩) hg (by simp)).trans b⟩)
  have HEq : Hid (∀ j (hj : j < As.length) m, Calls Try.prog 34 #[[v0, v1, v2, v3].getD j undef, [u0, u1, u2, u3].getD j undef] (W0.drewN m) fun e w' => e = .returned (.bool true) ∧ ∃ m', w' = W0.drewN m') := Lib.hid (fun j hj m => by
    have hA := hAl As[j] (List.getElem_mem hj)
    refine (Equal_same As[j] _ _ (W0.drewN m) _ _ (((hv j hj).kept hk0 (by simp)).kept ((Kept.refl [] W0).drewN m) (by simp)) (((hu j hj).kept hk0 (by simp)).kept ((Kept.refl [] W0).drewN m) (by simp)) hA.1 hA.2).mono ?_
    rintro e w' ⟨he, m2, rfl⟩
    exact ⟨he, m + m2, by simp [World.drewN_drewN]⟩)
  have HL := Lib.hid hl
  have hrli : (rs.length : Int) ≤ 4398046510976 := by omega
  have a0 : W0.cell? ⟨w.heap.size, 0, none⟩ = some (.int .i64 n) := by rw [Lib.cell_of_heap hb1]; rfl
  have a1 : W0.cell? ⟨w.heap.size, 1, none⟩ = some (.string t) := by rw [Lib.cell_of_heap hb1]; rfl
  have a2 : W0.cell? ⟨w.heap.size, 2, none⟩ = some (.slice X1 rs.length cap1) := by rw [Lib.cell_of_heap hb1]; rfl
  have a3 : W0.cell? ⟨w.heap.size, 3, none⟩ = some v0 := by rw [Lib.cell_of_heap hb1]; rfl
  have a4 : W0.cell? ⟨w.heap.size, 4, none⟩ = some v1 := by rw [Lib.cell_of_heap hb1]; rfl
  have a5 : W0.cell? ⟨w.heap.size, 5, none⟩ = some v2 := by rw [Lib.cell_of_heap hb1]; rfl
  have a6 : W0.cell? ⟨w.heap.size, 6, none⟩ = some v3 := by rw [Lib.cell_of_heap hb1]; rfl
  have b0 : W0.cell? ⟨w.heap.size + 1, 0, none⟩ = some (.int .i64 n) := by rw [Lib.cell_of_heap hb2]; rfl
  have b1 : W0.cell? ⟨w.heap.size + 1, 1, none⟩ = some (.string t) := by rw [Lib.cell_of_heap hb2]; rfl
  have b2 : W0.cell? ⟨w.heap.size + 1, 2, none⟩ = some (.slice X2 rs.length cap2) := by rw [Lib.cell_of_heap hb2]; rfl
  have b3 : W0.cell? ⟨w.heap.size + 1, 3, none⟩ = some u0 := by rw [Lib.cell_of_heap hb2]; rfl
  have b4 : W0.cell? ⟨w.heap.size + 1, 4, none⟩ = some u1 := by rw [Lib.cell_of_heap hb2]; rfl
  have b5 : W0.cell? ⟨w.heap.size + 1, 5, none⟩ = some u2 := by rw [Lib.cell_of_heap hb2]; rfl
  have b6 : W0.cell? ⟨w.heap.size + 1, 6, none⟩ = some u3 := by rw [Lib.cell_of_heap hb2]; rfl
  clear hrv hru hr1 hr2 hv hu hAl hW0 hk0 hb1 hb2 hl hrl
  go_enter Try.func14, Try.ntmps14
  go_wp2_with fail
  rw [HW0.out]
  go_loopw [5, 31] (fun _ i W => ∃ (k m : Nat), k ≤ rs.length ∧ i = .int .i64 k ∧ W = W0.drewN m) (fun _ i _ => rs.length - (intOf i).toNat)
  case atStart => exact ⟨0, 0, Nat.zero_le _, rfl, rfl⟩
  case round =>
    obtain ⟨k, m, hk, rfl, rfl⟩ := hrel
    by_cases hlt : k < rs.length
    · obtain ⟨g1, o1, hX1, c0, c1⟩ := H1.out k hlt
      obtain ⟨g2, o2, hX2, d0, d1⟩ := H2.out k hlt
      subst hX1 hX2
      obtain ⟨⟨f, to⟩, hy⟩ : ∃ x, rs[k] = x := ⟨_, rfl⟩
      rw [hy] at c0 c1 d0 d1
      dsimp only at c0 c1 d0 d1
      have hki : (k : Int) < (rs.length : Int) := by omega
      have HLt : Hid (True → k + 1 ≤ rs.length) := Lib.hid (fun _ => hlt)
      clear hy hlt
      go_wp2_with fail
      refine wp_region_held_drew (S := fun W => (W.cell? ⟨w.heap.size, 2, none⟩ = some (.slice (some ⟨g1, o1, none⟩) rs.length cap1) ∧ W.cell? ⟨g1, o1 + k * 2, none⟩ = some (.string f) ∧ W.cell? ⟨g1, o1 + k * 2 + 1, none⟩ = some (.string to)) ∧ W.cell? ⟨w.heap.size + 1, 2, none⟩ = some (.slice (some ⟨g2, o2, none⟩) rs.length cap2) ∧ W.cell? ⟨g2, o2 + k * 2, none⟩ = some (.string f) ∧ W.cell? ⟨g2, o2 + k * 2 + 1, none⟩ = some (.string to)) (by kernel_rfl) ?_ (fun hHeld => ?_)
      · exact ⟨⟨a2, c0, c1⟩, b2, d0, d1⟩
      refine takeH (i := 0) (d := some 34) (v := ?_) rfl rfl (by kernel_rfl) (by kernel_rfl) (by kernel_rfl) (fun _ _ _ h => h) (Or.inl ⟨by kernel_rfl, ?_⟩) hHeld ?_
      rotate_left
      · intro w hSw; (try dsimp only at hSw); go_simp; try with_reducible rfl
      try simp only [Act.put, List.setIfInBounds_toArray, List.set_cons_zero, List.set_cons_succ]
      refine takeH (i := 1) (d := some 35) (v := ?_) rfl rfl (by kernel_rfl) (by kernel_rfl) (by kernel_rfl) (fun _ _ _ h => h) (Or.inl ⟨by kernel_rfl, ?_⟩) hHeld ?_
      rotate_left
      · intro w hSw; (try dsimp only at hSw); go_simp; try with_reducible rfl
      try simp only [Act.put, List.setIfInBounds_toArray, List.set_cons_zero, List.set_cons_succ]
      refine takeH (i := 2) (d := some 36) (v := ?_) rfl rfl (by kernel_rfl) (by kernel_rfl) (by kernel_rfl) (fun _ _ _ h => h) (Or.inl ⟨by kernel_rfl, ?_⟩) hHeld ?_
      rotate_left
      · intro w hSw; (try dsimp only at hSw); go_simp; try with_reducible rfl
      try simp only [Act.put, List.setIfInBounds_toArray, List.set_cons_zero, List.set_cons_succ]
      refine takeH (i := 3) (d := some 37) (v := ?_) rfl rfl (by kernel_rfl) (by kernel_rfl) (by kernel_rfl) (fun _ _ _ h => h) (Or.inl ⟨by kernel_rfl, ?_⟩) hHeld ?_
      rotate_left
      · intro w hSw; (try dsimp only at hSw); go_simp; try with_reducible rfl
      try simp only [Act.put, List.setIfInBounds_toArray, List.set_cons_zero, List.set_cons_succ]
      refine takeH (i := 4) (d := some 38) (v := ?_) rfl rfl (by kernel_rfl) (by kernel_rfl) (by kernel_rfl) (fun _ _ _ h => h) (Or.inl ⟨by kernel_rfl, ?_⟩) hHeld ?_
      rotate_left
      · intro w hSw; (try dsimp only at hSw); go_simp; try with_reducible rfl
      try simp only [Act.put, List.setIfInBounds_toArray, List.set_cons_zero, List.set_cons_succ]
      refine takeH (i := 5) (d := some 39) (v := ?_) rfl rfl (by kernel_rfl) (by kernel_rfl) (by kernel_rfl) (fun _ _ _ h => h) (Or.inl ⟨by kernel_rfl, ?_⟩) hHeld ?_
      rotate_left
      · intro w hSw; (try dsimp only at hSw); go_simp; try with_reducible rfl
      try simp only [Act.put, List.setIfInBounds_toArray, List.set_cons_zero, List.set_cons_succ]
      refine takeH (i := 6) (d := some 40) (v := ?_) rfl rfl (by kernel_rfl) (by kernel_rfl) (by kernel_rfl) (fun _ _ _ h => h) (Or.inl ⟨by kernel_rfl, ?_⟩) hHeld ?_
      rotate_left
      · intro w hSw; (try dsimp only at hSw); go_simp; try with_reducible rfl
      try simp only [Act.put, List.setIfInBounds_toArray, List.set_cons_zero, List.set_cons_succ]
      refine takeH (i := 7) (d := some 41) (v := ?_) rfl rfl (by kernel_rfl) (by kernel_rfl) (by kernel_rfl) (fun _ _ _ h => h) (Or.inl ⟨by kernel_rfl, ?_⟩) hHeld ?_
      rotate_left
      · intro w hSw; (try dsimp only at hSw); go_simp; try with_reducible rfl
      try simp only [Act.put, List.setIfInBounds_toArray, List.set_cons_zero, List.set_cons_succ]
      refine takeH (i := 8) (d := some 42) (v := ?_) rfl rfl (by kernel_rfl) (by kernel_rfl) (by kernel_rfl) (fun _ _ _ h => h) (Or.inl ⟨by kernel_rfl, ?_⟩) hHeld ?_
      rotate_left
      · intro w hSw; (try dsimp only at hSw); go_simp; try with_reducible rfl
      try simp only [Act.put, List.setIfInBounds_toArray, List.set_cons_zero, List.set_cons_succ]
      refine takeH (i := 9) (d := some 43) (v := ?_) rfl rfl (by kernel_rfl) (by kernel_rfl) (by kernel_rfl) (fun _ _ _ h => h) (Or.inl ⟨by kernel_rfl, ?_⟩) hHeld ?_
      rotate_left
      · intro w hSw; (try dsimp only at hSw); go_simp; try with_reducible rfl
      try simp only [Act.put, List.setIfInBounds_toArray, List.set_cons_zero, List.set_cons_succ]
      refine takeH (i := 10) (d := some 44) (v := ?_) rfl rfl (by kernel_rfl) (by kernel_rfl) (by kernel_rfl) (fun _ _ _ h => h) (Or.inl ⟨by kernel_rfl, ?_⟩) hHeld ?_
      rotate_left
      · intro w hSw; (try dsimp only at hSw); go_simp; try with_reducible rfl
      try simp only [Act.put, List.setIfInBounds_toArray, List.set_cons_zero, List.set_cons_succ]
      refine wpAnyH_done (by kernel_rfl) ?_ _
      go_wp2_with fail
      exact ⟨⟨k + 1, m + 1, HLt.out trivial, rfl, rfl⟩, by have := HLt.out trivial; simp [intOf]; omega⟩
    · obtain rfl : k = rs.length := by omega
      go_wp2_with fail
      go_loopw [6, 46] (fun _ i W => ∃ (j m : Nat), j ≤ 4 ∧ i = .int .i64 j ∧ W = W0.drewN m) (fun _ i _ => 4 - (intOf i).toNat)
      case atStart => exact ⟨0, m, by omega, rfl, rfl⟩
      case round =>
        obtain ⟨j, m, hj, rfl, rfl⟩ := hrel
        by_cases hlt2 : j < 4
        · have hj4 : j = 0 ∨ j = 1 ∨ j = 2 ∨ j = 3 := by omega
          rcases hj4 with rfl | rfl | rfl | rfl
          · go_wp2_with fail
            refine wp_region_held_drew (S := fun W => W.cell? ⟨w.heap.size, 3, none⟩ = some v0 ∧ W.cell? ⟨w.heap.size + 1, 3, none⟩ = some u0) (by kernel_rfl) ?_ (fun hHeld => ?_)
            · exact ⟨a3, b3⟩
            refine takeH (i := 0) (d := some 49) (v := ?_) rfl rfl (by kernel_rfl) (by kernel_rfl) (by kernel_rfl) (fun _ _ _ h => h) (Or.inl ⟨by kernel_rfl, ?_⟩) hHeld ?_
            rotate_left
            · intro w hSw; (try dsimp only at hSw); go_simp; try with_reducible rfl
            try simp only [Act.put, List.setIfInBounds_toArray, List.set_cons_zero, List.set_cons_succ]
            refine takeH (i := 1) (d := some 50) (v := ?_) rfl rfl (by kernel_rfl) (by kernel_rfl) (by kernel_rfl) (fun _ _ _ h => h) (Or.inl ⟨by kernel_rfl, ?_⟩) hHeld ?_
            rotate_left
            · intro w hSw; (try dsimp only at hSw); go_simp; try with_reducible rfl
            try simp only [Act.put, List.setIfInBounds_toArray, List.set_cons_zero, List.set_cons_succ]
            refine takeH (i := 2) (d := some 51) (v := ?_) rfl rfl (by kernel_rfl) (by kernel_rfl) (by kernel_rfl) (fun _ _ _ h => h) (Or.inl ⟨by kernel_rfl, ?_⟩) hHeld ?_
            rotate_left
            · intro w hSw; (try dsimp only at hSw); go_simp; try with_reducible rfl
            try simp only [Act.put, List.setIfInBounds_toArray, List.set_cons_zero, List.set_cons_succ]
            refine takeH (i := 3) (d := some 52) (v := ?_) rfl rfl (by kernel_rfl) (by kernel_rfl) (by kernel_rfl) (fun _ _ _ h => h) (Or.inl ⟨by kernel_rfl, ?_⟩) hHeld ?_
            rotate_left
            · intro w hSw; (try dsimp only at hSw); go_simp; try with_reducible rfl
            try simp only [Act.put, List.setIfInBounds_toArray, List.set_cons_zero, List.set_cons_succ]
            refine takeH (i := 4) (d := some 53) (v := ?_) rfl rfl (by kernel_rfl) (by kernel_rfl) (by kernel_rfl) (fun _ _ _ h => h) (Or.inl ⟨by kernel_rfl, ?_⟩) hHeld ?_
            rotate_left
            · intro w hSw; (try dsimp only at hSw); go_simp; try with_reducible rfl
            try simp only [Act.put, List.setIfInBounds_toArray, List.set_cons_zero, List.set_cons_succ]
            refine takeH (i := 5) (d := some 54) (v := ?_) rfl rfl (by kernel_rfl) (by kernel_rfl) (by kernel_rfl) (fun _ _ _ h => h) (Or.inl ⟨by kernel_rfl, ?_⟩) hHeld ?_
            rotate_left
            · intro w hSw; (try dsimp only at hSw); go_simp; try with_reducible rfl
            try simp only [Act.put, List.setIfInBounds_toArray, List.set_cons_zero, List.set_cons_succ]
            refine takeH (i := 6) (d := some 55) (v := ?_) rfl rfl (by kernel_rfl) (by kernel_rfl) (by kernel_rfl) (fun _ _ _ h => h) (Or.inl ⟨by kernel_rfl, ?_⟩) hHeld ?_
            rotate_left
            · intro w hSw; (try dsimp only at hSw); go_simp; try with_reducible rfl
            try simp only [Act.put, List.setIfInBounds_toArray, List.set_cons_zero, List.set_cons_succ]
            refine takeH (i := 7) (d := some 56) (v := ?_) rfl rfl (by kernel_rfl) (by kernel_rfl) (by kernel_rfl) (fun _ _ _ h => h) (Or.inl ⟨by kernel_rfl, ?_⟩) hHeld ?_
            rotate_left
            · intro w hSw; (try dsimp only at hSw); go_simp; try with_reducible rfl
            try simp only [Act.put, List.setIfInBounds_toArray, List.set_cons_zero, List.set_cons_succ]
            refine wpAnyH_ready (rs := [8]) (by kernel_rfl) (by simp) ?_
            refine AllReadyH.cons rfl (fun K hK => ?_) AllReadyH.nil
            go_simp
            refine (HEq.out 0 (by have := HL.out; omega) _).mono ?_
            rintro e w' ⟨rfl, m2, rfl⟩
            refine hK.out _ _ ?_ (fun hHeld => ?_)
            · exact ⟨a3, b3⟩
            clear hK K
            refine takeH (i := 9) (d := some 58) (v := ?_) rfl rfl (by kernel_rfl) (by kernel_rfl) (by kernel_rfl) (fun _ _ _ h => h) (Or.inl ⟨by kernel_rfl, ?_⟩) hHeld ?_
            rotate_left
            · intro w hSw; (try dsimp only at hSw); go_simp; try with_reducible rfl
            try simp only [Act.put, List.setIfInBounds_toArray, List.set_cons_zero, List.set_cons_succ]
            refine wpAnyH_done (by kernel_rfl) ?_ _
            go_wp2_with fail
            exact ⟨⟨0 + 1, m2, by omega, rfl, rfl⟩, by simp [intOf]⟩
          · go_wp2_with fail
            refine wp_region_held_drew (S := fun W => W.cell? ⟨w.heap.size, 4, none⟩ = some v1 ∧ W.cell? ⟨w.heap.size + 1, 4, none⟩ = some u1) (by kernel_rfl) ?_ (fun hHeld => ?_)
            · exact ⟨a4, b4⟩
            refine takeH (i := 0) (d := some 49) (v := ?_) rfl rfl (by kernel_rfl) (by kernel_rfl) (by kernel_rfl) (fun _ _ _ h => h) (Or.inl ⟨by kernel_rfl, ?_⟩) hHeld ?_
            rotate_left
            · intro w hSw; (try dsimp only at hSw); go_simp; try with_reducible rfl
            try simp only [Act.put, List.setIfInBounds_toArray, List.set_cons_zero, List.set_cons_succ]
            refine takeH (i := 1) (d := some 50) (v := ?_) rfl rfl (by kernel_rfl) (by kernel_rfl) (by kernel_rfl) (fun _ _ _ h => h) (Or.inl ⟨by kernel_rfl, ?_⟩) hHeld ?_
            rotate_left
            · intro w hSw; (try dsimp only at hSw); go_simp; try with_reducible rfl
            try simp only [Act.put, List.setIfInBounds_toArray, List.set_cons_zero, List.set_cons_succ]
            refine takeH (i := 2) (d := some 51) (v := ?_) rfl rfl (by kernel_rfl) (by kernel_rfl) (by kernel_rfl) (fun _ _ _ h => h) (Or.inl ⟨by kernel_rfl, ?_⟩) hHeld ?_
            rotate_left
            · intro w hSw; (try dsimp only at hSw); go_simp; try with_reducible rfl
            try simp only [Act.put, List.setIfInBounds_toArray, List.set_cons_zero, List.set_cons_succ]
            refine takeH (i := 3) (d := some 52) (v := ?_) rfl rfl (by kernel_rfl) (by kernel_rfl) (by kernel_rfl) (fun _ _ _ h => h) (Or.inl ⟨by kernel_rfl, ?_⟩) hHeld ?_
            rotate_left
            · intro w hSw; (try dsimp only at hSw); go_simp; try with_reducible rfl
            try simp only [Act.put, List.setIfInBounds_toArray, List.set_cons_zero, List.set_cons_succ]
            refine takeH (i := 4) (d := some 53) (v := ?_) rfl rfl (by kernel_rfl) (by kernel_rfl) (by kernel_rfl) (fun _ _ _ h => h) (Or.inl ⟨by kernel_rfl, ?_⟩) hHeld ?_
            rotate_left
            · intro w hSw; (try dsimp only at hSw); go_simp; try with_reducible rfl
            try simp only [Act.put, List.setIfInBounds_toArray, List.set_cons_zero, List.set_cons_succ]
            refine takeH (i := 5) (d := some 54) (v := ?_) rfl rfl (by kernel_rfl) (by kernel_rfl) (by kernel_rfl) (fun _ _ _ h => h) (Or.inl ⟨by kernel_rfl, ?_⟩) hHeld ?_
            rotate_left
            · intro w hSw; (try dsimp only at hSw); go_simp; try with_reducible rfl
            try simp only [Act.put, List.setIfInBounds_toArray, List.set_cons_zero, List.set_cons_succ]
            refine takeH (i := 6) (d := some 55) (v := ?_) rfl rfl (by kernel_rfl) (by kernel_rfl) (by kernel_rfl) (fun _ _ _ h => h) (Or.inl ⟨by kernel_rfl, ?_⟩) hHeld ?_
            rotate_left
            · intro w hSw; (try dsimp only at hSw); go_simp; try with_reducible rfl
            try simp only [Act.put, List.setIfInBounds_toArray, List.set_cons_zero, List.set_cons_succ]
            refine takeH (i := 7) (d := some 56) (v := ?_) rfl rfl (by kernel_rfl) (by kernel_rfl) (by kernel_rfl) (fun _ _ _ h => h) (Or.inl ⟨by kernel_rfl, ?_⟩) hHeld ?_
            rotate_left
            · intro w hSw; (try dsimp only at hSw); go_simp; try with_reducible rfl
            try simp only [Act.put, List.setIfInBounds_toArray, List.set_cons_zero, List.set_cons_succ]
            refine wpAnyH_ready (rs := [8]) (by kernel_rfl) (by simp) ?_
            refine AllReadyH.cons rfl (fun K hK => ?_) AllReadyH.nil
            go_simp
            refine (HEq.out 1 (by have := HL.out; omega) _).mono ?_
            rintro e w' ⟨rfl, m2, rfl⟩
            refine hK.out _ _ ?_ (fun hHeld => ?_)
            · exact ⟨a4, b4⟩
            clear hK K
            refine takeH (i := 9) (d := some 58) (v := ?_) rfl rfl (by kernel_rfl) (by kernel_rfl) (by kernel_rfl) (fun _ _ _ h => h) (Or.inl ⟨by kernel_rfl, ?_⟩) hHeld ?_
            rotate_left
            · intro w hSw; (try dsimp only at hSw); go_simp; try with_reducible rfl
            try simp only [Act.put, List.setIfInBounds_toArray, List.set_cons_zero, List.set_cons_succ]
            refine wpAnyH_done (by kernel_rfl) ?_ _
            go_wp2_with fail
            exact ⟨⟨1 + 1, m2, by omega, rfl, rfl⟩, by simp [intOf]⟩
          · go_wp2_with fail
            refine wp_region_held_drew (S := fun W => W.cell? ⟨w.heap.size, 5, none⟩ = some v2 ∧ W.cell? ⟨w.heap.size + 1, 5, none⟩ = some u2) (by kernel_rfl) ?_ (fun hHeld => ?_)
            · exact ⟨a5, b5⟩
            refine takeH (i := 0) (d := some 49) (v := ?_) rfl rfl (by kernel_rfl) (by kernel_rfl) (by kernel_rfl) (fun _ _ _ h => h) (Or.inl ⟨by kernel_rfl, ?_⟩) hHeld ?_
            rotate_left
            · intro w hSw; (try dsimp only at hSw); go_simp; try with_reducible rfl
            try simp only [Act.put, List.setIfInBounds_toArray, List.set_cons_zero, List.set_cons_succ]
            refine takeH (i := 1) (d := some 50) (v := ?_) rfl rfl (by kernel_rfl) (by kernel_rfl) (by kernel_rfl) (fun _ _ _ h => h) (Or.inl ⟨by kernel_rfl, ?_⟩) hHeld ?_
            rotate_left
            · intro w hSw; (try dsimp only at hSw); go_simp; try with_reducible rfl
            try simp only [Act.put, List.setIfInBounds_toArray, List.set_cons_zero, List.set_cons_succ]
            refine takeH (i := 2) (d := some 51) (v := ?_) rfl rfl (by kernel_rfl) (by kernel_rfl) (by kernel_rfl) (fun _ _ _ h => h) (Or.inl ⟨by kernel_rfl, ?_⟩) hHeld ?_
            rotate_left
            · intro w hSw; (try dsimp only at hSw); go_simp; try with_reducible rfl
            try simp only [Act.put, List.setIfInBounds_toArray, List.set_cons_zero, List.set_cons_succ]
            refine takeH (i := 3) (d := some 52) (v := ?_) rfl rfl (by kernel_rfl) (by kernel_rfl) (by kernel_rfl) (fun _ _ _ h => h) (Or.inl ⟨by kernel_rfl, ?_⟩) hHeld ?_
            rotate_left
            · intro w hSw; (try dsimp only at hSw); go_simp; try with_reducible rfl
            try simp only [Act.put, List.setIfInBounds_toArray, List.set_cons_zero, List.set_cons_succ]
            refine takeH (i := 4) (d := some 53) (v := ?_) rfl rfl (by kernel_rfl) (by kernel_rfl) (by kernel_rfl) (fun _ _ _ h => h) (Or.inl ⟨by kernel_rfl, ?_⟩) hHeld ?_
            rotate_left
            · intro w hSw; (try dsimp only at hSw); go_simp; try with_reducible rfl
            try simp only [Act.put, List.setIfInBounds_toArray, List.set_cons_zero, List.set_cons_succ]
            refine takeH (i := 5) (d := some 54) (v := ?_) rfl rfl (by kernel_rfl) (by kernel_rfl) (by kernel_rfl) (fun _ _ _ h => h) (Or.inl ⟨by kernel_rfl, ?_⟩) hHeld ?_
            rotate_left
            · intro w hSw; (try dsimp only at hSw); go_simp; try with_reducible rfl
            try simp only [Act.put, List.setIfInBounds_toArray, List.set_cons_zero, List.set_cons_succ]
            refine takeH (i := 6) (d := some 55) (v := ?_) rfl rfl (by kernel_rfl) (by kernel_rfl) (by kernel_rfl) (fun _ _ _ h => h) (Or.inl ⟨by kernel_rfl, ?_⟩) hHeld ?_
            rotate_left
            · intro w hSw; (try dsimp only at hSw); go_simp; try with_reducible rfl
            try simp only [Act.put, List.setIfInBounds_toArray, List.set_cons_zero, List.set_cons_succ]
            refine takeH (i := 7) (d := some 56) (v := ?_) rfl rfl (by kernel_rfl) (by kernel_rfl) (by kernel_rfl) (fun _ _ _ h => h) (Or.inl ⟨by kernel_rfl, ?_⟩) hHeld ?_
            rotate_left
            · intro w hSw; (try dsimp only at hSw); go_simp; try with_reducible rfl
            try simp only [Act.put, List.setIfInBounds_toArray, List.set_cons_zero, List.set_cons_succ]
            refine wpAnyH_ready (rs := [8]) (by kernel_rfl) (by simp) ?_
            refine AllReadyH.cons rfl (fun K hK => ?_) AllReadyH.nil
            go_simp
            refine (HEq.out 2 (by have := HL.out; omega) _).mono ?_
            rintro e w' ⟨rfl, m2, rfl⟩
            refine hK.out _ _ ?_ (fun hHeld => ?_)
            · exact ⟨a5, b5⟩
            clear hK K
            refine takeH (i := 9) (d := some 58) (v := ?_) rfl rfl (by kernel_rfl) (by kernel_rfl) (by kernel_rfl) (fun _ _ _ h => h) (Or.inl ⟨by kernel_rfl, ?_⟩) hHeld ?_
            rotate_left
            · intro w hSw; (try dsimp only at hSw); go_simp; try with_reducible rfl
            try simp only [Act.put, List.setIfInBounds_toArray, List.set_cons_zero, List.set_cons_succ]
            refine wpAnyH_done (by kernel_rfl) ?_ _
            go_wp2_with fail
            exact ⟨⟨2 + 1, m2, by omega, rfl, rfl⟩, by simp [intOf]⟩
          · go_wp2_with fail
            refine wp_region_held_drew (S := fun W => W.cell? ⟨w.heap.size, 6, none⟩ = some v3 ∧ W.cell? ⟨w.heap.size + 1, 6, none⟩ = some u3) (by kernel_rfl) ?_ (fun hHeld => ?_)
            · exact ⟨a6, b6⟩
            refine takeH (i := 0) (d := some 49) (v := ?_) rfl rfl (by kernel_rfl) (by kernel_rfl) (by kernel_rfl) (fun _ _ _ h => h) (Or.inl ⟨by kernel_rfl, ?_⟩) hHeld ?_
            rotate_left
            · intro w hSw; (try dsimp only at hSw); go_simp; try with_reducible rfl
            try simp only [Act.put, List.setIfInBounds_toArray, List.set_cons_zero, List.set_cons_succ]
            refine takeH (i := 1) (d := some 50) (v := ?_) rfl rfl (by kernel_rfl) (by kernel_rfl) (by kernel_rfl) (fun _ _ _ h => h) (Or.inl ⟨by kernel_rfl, ?_⟩) hHeld ?_
            rotate_left
            · intro w hSw; (try dsimp only at hSw); go_simp; try with_reducible rfl
            try simp only [Act.put, List.setIfInBounds_toArray, List.set_cons_zero, List.set_cons_succ]
            refine takeH (i := 2) (d := some 51) (v := ?_) rfl rfl (by kernel_rfl) (by kernel_rfl) (by kernel_rfl) (fun _ _ _ h => h) (Or.inl ⟨by kernel_rfl, ?_⟩) hHeld ?_
            rotate_left
            · intro w hSw; (try dsimp only at hSw); go_simp; try with_reducible rfl
            try simp only [Act.put, List.setIfInBounds_toArray, List.set_cons_zero, List.set_cons_succ]
            refine takeH (i := 3) (d := some 52) (v := ?_) rfl rfl (by kernel_rfl) (by kernel_rfl) (by kernel_rfl) (fun _ _ _ h => h) (Or.inl ⟨by kernel_rfl, ?_⟩) hHeld ?_
            rotate_left
            · intro w hSw; (try dsimp only at hSw); go_simp; try with_reducible rfl
            try simp only [Act.put, List.setIfInBounds_toArray, List.set_cons_zero, List.set_cons_succ]
            refine takeH (i := 4) (d := some 53) (v := ?_) rfl rfl (by kernel_rfl) (by kernel_rfl) (by kernel_rfl) (fun _ _ _ h => h) (Or.inl ⟨by kernel_rfl, ?_⟩) hHeld ?_
            rotate_left
            · intro w hSw; (try dsimp only at hSw); go_simp; try with_reducible rfl
            try simp only [Act.put, List.setIfInBounds_toArray, List.set_cons_zero, List.set_cons_succ]
            refine takeH (i := 5) (d := some 54) (v := ?_) rfl rfl (by kernel_rfl) (by kernel_rfl) (by kernel_rfl) (fun _ _ _ h => h) (Or.inl ⟨by kernel_rfl, ?_⟩) hHeld ?_
            rotate_left
            · intro w hSw; (try dsimp only at hSw); go_simp; try with_reducible rfl
            try simp only [Act.put, List.setIfInBounds_toArray, List.set_cons_zero, List.set_cons_succ]
            refine takeH (i := 6) (d := some 55) (v := ?_) rfl rfl (by kernel_rfl) (by kernel_rfl) (by kernel_rfl) (fun _ _ _ h => h) (Or.inl ⟨by kernel_rfl, ?_⟩) hHeld ?_
            rotate_left
            · intro w hSw; (try dsimp only at hSw); go_simp; try with_reducible rfl
            try simp only [Act.put, List.setIfInBounds_toArray, List.set_cons_zero, List.set_cons_succ]
            refine takeH (i := 7) (d := some 56) (v := ?_) rfl rfl (by kernel_rfl) (by kernel_rfl) (by kernel_rfl) (fun _ _ _ h => h) (Or.inl ⟨by kernel_rfl, ?_⟩) hHeld ?_
            rotate_left
            · intro w hSw; (try dsimp only at hSw); go_simp; try with_reducible rfl
            try simp only [Act.put, List.setIfInBounds_toArray, List.set_cons_zero, List.set_cons_succ]
            refine wpAnyH_ready (rs := [8]) (by kernel_rfl) (by simp) ?_
            refine AllReadyH.cons rfl (fun K hK => ?_) AllReadyH.nil
            go_simp
            refine (HEq.out 3 (by have := HL.out; omega) _).mono ?_
            rintro e w' ⟨rfl, m2, rfl⟩
            refine hK.out _ _ ?_ (fun hHeld => ?_)
            · exact ⟨a6, b6⟩
            clear hK K
            refine takeH (i := 9) (d := some 58) (v := ?_) rfl rfl (by kernel_rfl) (by kernel_rfl) (by kernel_rfl) (fun _ _ _ h => h) (Or.inl ⟨by kernel_rfl, ?_⟩) hHeld ?_
            rotate_left
            · intro w hSw; (try dsimp only at hSw); go_simp; try with_reducible rfl
            try simp only [Act.put, List.setIfInBounds_toArray, List.set_cons_zero, List.set_cons_succ]
            refine wpAnyH_done (by kernel_rfl) ?_ _
            go_wp2_with fail
            exact ⟨⟨3 + 1, m2, by omega, rfl, rfl⟩, by simp [intOf]⟩
        · obtain rfl : j = 4 := by omega
          go_wp2_with fail
          go_ret
          exact ⟨rfl, (HK0.out.drewN m).below (Nat.le_refl _) (by simp)⟩
end

section
open Go.RowKit

structure FSt (w W : World) (bk cs : Array Value) : Prop where
  below : Below w.heap.size w W
  size : w.heap.size + 3 ≤ W.heap.size
  arg : W.heap[w.heap.size]? = some (.cells bk 26 (0, 0))
  res : W.heap[w.heap.size + 1]? = some (.cells zeroCells 37 (0, 0))
  out : W.heap[w.heap.size + 1 + 1]? = some (.cells cs 37 (0, 0))
theorem FSt.call {w W W' : World} {bk cs : Array Value} (h : FSt w W bk cs) (hk : Kept [] W W') : FSt w W' bk cs :=
  ⟨h.below.trans (hk.below (by have := h.size; omega) (by simp)), Nat.le_trans h.size hk.size, hk.at h.arg (by simp), hk.at h.res (by simp), hk.at h.out (by simp)⟩
theorem FSt.set {w W : World} {bk cs : Array Value} (h : FSt w W bk cs) (i : Nat) (v : Value) : FSt w (W.setCell ⟨w.heap.size + 1 + 1, i, none⟩ v) bk (cs.setIfInBounds i v) :=
  ⟨h.below.trans (((Kept.refl [w.heap.size + 1 + 1] W).set _ _ _ (.inl (by simp <;> omega))).below (by have := h.size; omega) (by simp <;> omega)), by simpa [World.setCell] using h.size,
    by rw [heap_setCell_other W _ _ _ (by simp <;> omega)]; exact h.arg, by rw [heap_setCell_other W _ _ _ (by simp <;> omega)]; exact h.res, heap_setCell_same W _ i _ _ _ h.out⟩
theorem FSt.push {w W W' : World} {bk cs : Array Value} {e size n : Nat} {v : Value} {xs : List Value} (h : FSt w W bk cs) (ho : W.ownsRow w.heap.size e size v n xs) (h1 : e ≠ 37) (h3 : e ≠ 26) (hg : W.grownBy W' v.ownBlock) : FSt w W' bk cs := by
  have hk : Kept v.ownBlock.toList W W' := Kept.grown hg (fun k hk => by rw [hk]; simp)
  have key : ∀ (g t : Nat) (cs : Array Value), W.heap[g]? = some (.cells cs t (0, 0)) → e ≠ t → g ∉ v.ownBlock.toList := fun g t cs hg' hne hm =>
    hne ((own_ty ho (show v.ownBlock = some g by simpa using hm)).1.uniq ⟨cs, hg'⟩)
  exact ⟨h.below.trans (hk.below (by have := h.size; omega) (fun x hx => (own_ty ho (show v.ownBlock = some x by simpa using hx)).2)), Nat.le_trans h.size hk.size, hk.at h.arg (key _ _ _ h.arg h3), hk.at h.res (key _ _ _ h.res h1), hk.at h.out (key _ _ _ h.out h1)⟩
theorem FSt.cell {w W : World} {bk cs : Array Value} (h : FSt w W bk cs) (i : Nat) {x : Value} (hx : cs[i]? = some x) : W.cell? ⟨w.heap.size + 1 + 1, i, none⟩ = some x := by rw [Lib.cell_of_heap h.out]; exact hx
theorem FSt.fz {w W : World} {bk cs : Array Value} (h : FSt w W bk cs) (i : Nat) : W.frozen? ⟨w.heap.size + 1 + 1, i, none⟩ = false := Lib.frozen_of_heap h.out i
theorem FSt.start (w : World) (bk cs : Array Value) : FSt w (((w.alloc (.cells bk 26)).alloc (.cells zeroCells 37)).alloc (.cells cs 37)) bk cs := by
  refine ⟨(((Below.refl _ _).alloc (Nat.le_refl _) _).alloc (by simp) _).alloc (by simp; omega) _, by simp, ?_, ?_, ?_⟩
  · rw [Below.heap_alloc _ _ _ (by simp; omega), Below.heap_alloc _ _ _ (by simp)]
    exact heap_alloc_new w _
  · rw [Below.heap_alloc _ _ _ (by simp)]
    have := heap_alloc_new (w.alloc (.cells bk 26)) (.cells zeroCells 37)
    simpa using this
  · have := heap_alloc_new ((w.alloc (.cells bk 26)).alloc (.cells zeroCells 37)) (.cells cs 37)
    simpa using this
theorem fown_set {w W : World} {bk cs : Array Value} {e size n i : Nat} {v u : Value} {xs : List Value} (h : FSt w W bk cs) (ho : W.ownsRow w.heap.size e size v n xs) (h1 : e ≠ 37) : (W.setCell ⟨w.heap.size + 1 + 1, i, none⟩ u).ownsRow w.heap.size e size v n xs :=
  ((Kept.refl [w.heap.size + 1 + 1] W).set _ _ _ (.inl (by simp))).own ho (fun g hg hm => by
    have := (own_ty ho hg).1
    simp only [List.mem_cons, List.not_mem_nil, or_false] at hm
    subst hm
    exact h1 (this.uniq ⟨_, h.out⟩))
theorem fres_store {w W : World} {bk cs : Array Value} (x0 x1 x2 x3 x4 x5 x6 : Value) (h : FSt w W bk cs) :
    let Z := (((((((W.setCell ⟨w.heap.size + 1, 0, none⟩ x0).setCell ⟨w.heap.size + 1, 1, none⟩ x1).setCell ⟨w.heap.size + 1, 2, none⟩ x2).setCell ⟨w.heap.size + 1, 3, none⟩ x3).setCell ⟨w.heap.size + 1, 4, none⟩ x4).setCell ⟨w.heap.size + 1, 5, none⟩ x5).setCell ⟨w.heap.size + 1, 6, none⟩ x6)
    Z.heap[w.heap.size + 1]? = some (.cells #[x0, x1, x2, x3, x4, x5, x6] 37 (0, 0)) ∧ Kept [w.heap.size + 1] W Z ∧ Below w.heap.size w Z := by
  intro Z
  have hz := heap_setCell_same _ (w.heap.size + 1) 6 _ _ x6 (heap_setCell_same _ (w.heap.size + 1) 5 _ _ x5 (heap_setCell_same _ (w.heap.size + 1) 4 _ _ x4 (heap_setCell_same _ (w.heap.size + 1) 3 _ _ x3 (heap_setCell_same _ (w.heap.size + 1) 2 _ _ x2 (heap_setCell_same _ (w.heap.size + 1) 1 _ _ x1 (heap_setCell_same _ (w.heap.size + 1) 0 _ _ x0 h.res))))))
  simp only [List.setIfInBounds_toArray, List.set_cons_zero, List.set_cons_succ] at hz
  have hk : Kept [w.heap.size + 1] W Z := (((((((Kept.refl [w.heap.size + 1] W).set _ _ _ (.inl (by simp))).set _ _ _ (.inl (by simp))).set _ _ _ (.inl (by simp))).set _ _ _ (.inl (by simp))).set _ _ _ (.inl (by simp))).set _ _ _ (.inl (by simp))).set _ _ _ (.inl (by simp))
  exact ⟨hz, hk, h.below.trans (hk.below h.below.size (by simp))⟩
theorem results_ref (bb : Nat) (x0 x1 x2 x3 x4 x5 x6 : Value) (w : World) (tmps : Array Value) (h2 : tmps[2]?.getD undef = .pointer (some ⟨bb, 0, none⟩))
    (hb : w.heap[bb]? = some (.cells #[x0, x1, x2, x3, x4, x5, x6] 37 (0, 0))) :
    (results Try.f12 tmps).run Try.prog w = .ok (.agg #[x0, x1, x2, x3, x4, x5, x6]) w := by
  have b0 : w.cell? ⟨bb, 0, none⟩ = some x0 := by rw [Lib.cell_of_heap hb]; rfl
  have b1 : w.cell? ⟨bb, 1, none⟩ = some x1 := by rw [Lib.cell_of_heap hb]; rfl
  have b2 : w.cell? ⟨bb, 2, none⟩ = some x2 := by rw [Lib.cell_of_heap hb]; rfl
  have b3 : w.cell? ⟨bb, 3, none⟩ = some x3 := by rw [Lib.cell_of_heap hb]; rfl
  have b4 : w.cell? ⟨bb, 4, none⟩ = some x4 := by rw [Lib.cell_of_heap hb]; rfl
  have b5 : w.cell? ⟨bb, 5, none⟩ = some x5 := by rw [Lib.cell_of_heap hb]; rfl
  have b6 : w.cell? ⟨bb, 6, none⟩ = some x6 := by rw [Lib.cell_of_heap hb]; rfl
  simp [results, Try.results12, go_sem, h2, b0, b1, b2, b3, b4, b5, b6]
theorem index_0 (v0 v1 v2 v3 : Value) (w : World) : (Instr.index 24 (.agg #[v0, v1, v2, v3]) (.int .i64 0)).run Try.prog w = .ok v0 w := by
  kernel_rfl
theorem index_1 (v0 v1 v2 v3 : Value) (w : World) : (Instr.index 24 (.agg #[v0, v1, v2, v3]) (.int .i64 1)).run Try.prog w = .ok v1 w := by
  kernel_rfl
theorem index_2 (v0 v1 v2 v3 : Value) (w : World) : (Instr.index 24 (.agg #[v0, v1, v2, v3]) (.int .i64 2)).run Try.prog w = .ok v2 w := by
  kernel_rfl
theorem index_3 (v0 v1 v2 v3 : Value) (w : World) : (Instr.index 24 (.agg #[v0, v1, v2, v3]) (.int .i64 3)).run Try.prog w = .ok v3 w := by
  kernel_rfl
set_option maxHeartbeats 8000000 in
set_option maxRecDepth 100000 in
theorem ref_any (n : Int) (t : ByteArray) (rs : List Rp) (As : List (List St)) (vr v0 v1 v2 v3 : Value) (w : World) (hrv : RepsAt w vr rs) (hl : As.length = 4)
    (hv : SecP w (fun _ => True) [v0, v1, v2, v3] As) (hrl : rs.length ≤ 4398046510976) (hAl : ∀ A ∈ As, A.length ≤ 4398046510976 ∧ ∀ x ∈ A, x.2.length ≤ 8796093021952) :
    Calls Try.prog 12 #[.agg #[.int .i64 n, .string t, vr, v0, v1, v2, v3]] w fun e w' => ∃ ur u0 u1 u2 u3, e = .returned (.agg #[.int .i64 n, .string t, ur, u0, u1, u2, u3]) ∧ Below w.heap.size w w' ∧ RepsAt w' ur rs ∧ SecP w' (fun g => w.heap.size ≤ g) [u0, u1, u2, u3] As := by
  obtain ⟨i0, hi, hz0, hz1, hz2⟩ := info_parts rrep_info
  obtain ⟨X1, cap1, rfl, hr1⟩ := hrv.row
  have H1 := Lib.hid hr1
  obtain ⟨W0, hW0⟩ : ∃ W0, (((w.alloc (.cells #[.int .i64 n, .string t, .slice X1 rs.length cap1, v0, v1, v2, v3] 26)).alloc (.cells zeroCells 37)).alloc (.cells #[.int .i64 n, .string t, .slice none 0 0, .slice none 0 0, .slice none 0 0, .slice none 0 0, .slice none 0 0] 37)) = W0 := ⟨_, rfl⟩
  have HF0 : Hid (FSt w W0 #[.int .i64 n, .string t, .slice X1 rs.length cap1, v0, v1, v2, v3] #[.int .i64 n, .string t, .slice none 0 0, .slice none 0 0, .slice none 0 0, .slice none 0 0, .slice none 0 0]) := Lib.hid (by rw [← hW0]; exact FSt.start _ _ _)
  have HW0 := Lib.hid hW0
  have HV := Lib.hid hv
  have HL := Lib.hid hl
  have HA := Lib.hid hAl
  have hrli : (rs.length : Int) ≤ 4398046510976 := by omega
  clear hrv hr1 hW0 hv hl hAl hrl
  go_enter Try.func12, Try.ntmps12
  go_wp2_with fail
  rw [HW0.out]
  go_loopw [5, 16] (fun _ i W => ∃ (k : Nat) (fs : List Rp) (ur : Value), k ≤ rs.length ∧ i = .int .i64 k ∧ Hid (fs.length = k ∧ fs = rs.take k) ∧ Hid (FSt w W #[.int .i64 n, .string t, .slice X1 rs.length cap1, v0, v1, v2, v3] #[.int .i64 n, .string t, ur, .slice none 0 0, .slice none 0 0, .slice none 0 0, .slice none 0 0]) ∧ Hid (W.ownsRow w.heap.size 77 2 ur fs.length (repCells fs))) (fun _ i _ => rs.length - (intOf i).toNat)
  case atStart => exact ⟨0, [], _, Nat.zero_le _, rfl, Lib.hid ⟨rfl, rfl⟩, HF0, Lib.hid (World.ownsRow_nil _ _ _ _)⟩
  case round =>
    obtain ⟨k, fs, ur, hk, rfl, HK, HF, HO⟩ := hrel
    obtain ⟨X, cap, hX⟩ := own_form HO.out
    subst hX
    by_cases hlt : k < rs.length
    · obtain ⟨g, o, hX1, hg, c0', c1'⟩ := H1.out k hlt
      subst hX1
      have c0 := (HF.out.below.cell (p := ⟨g, o + k * 2, none⟩) hg).trans c0'
      have c1 := (HF.out.below.cell (p := ⟨g, o + k * 2 + 1, none⟩) hg).trans c1'
      obtain ⟨⟨f, to⟩, hy⟩ : ∃ x, rs[k] = x := ⟨_, rfl⟩
      have hTk : rs.take (k + 1) = rs.take k ++ [(f, to)] := by rw [List.take_succ_eq_append_getElem hlt, hy]
      rw [hy] at c0 c1
      dsimp only at c0 c1
      have hki : (k : Int) < (rs.length : Int) := by omega
      have hfl : (fs.length : Int) ≤ 4398046510976 := by have := HK.out.1; omega
      have HLt : Hid (True → k + 1 ≤ rs.length) := Lib.hid (fun _ => hlt)
      have HTk := Lib.hid hTk
      have d2 : ∀ ob, (wr.alloc ob).cell? ⟨w.heap.size + 1 + 1, 2, none⟩ = some (.slice X fs.length cap) := fun ob => (HF.out.call ((Kept.refl [] _).alloc ob)).cell 2 rfl
      clear c0' c1' hy hTk hlt
      go_wp2_with (at_builtin; refine wpList_push_at rfl _ _ 33 rfl w.heap.size 77 i0 _ 2 32 Try.underlying33 hi hz0 hz1 hz2 rfl (by decide) _ fs.length (repCells fs) rfl (HO.out.alloc _) _ rfl (by intro x hx; simp at hx; rcases hx with rfl | rfl <;> rfl) _ rfl (by simp) (by unfold maxLen; omega) (by omega) (by have := HF.out.below.size; simp; omega) ?_; intro gg cc w9 hown hg9; have HF9 := Lib.hid ((HF.out.call ((Kept.refl [] _).alloc _)).push (HO.out.alloc _) (by decide) (by decide) hg9); have HO9 := Lib.hid hown; clear hown hg9; have e2 := HF9.out.cell 2 rfl; have f2 := HF9.out.fz 2)
      refine ⟨⟨k + 1, fs ++ [(f, to)], .slice (some ⟨gg, 0, none⟩) (fs.length + 1) cc, HLt.out trivial, rfl, Lib.hid ⟨by rw [List.length_append, HK.out.1]; rfl, by rw [HTk.out, HK.out.2]⟩, Lib.hid (HF9.out.set 2 _), Lib.hid ?_⟩, by have := HLt.out trivial; simp [intOf]; omega⟩
      rw [← repCells_snoc, List.length_append, List.length_singleton]
      exact fown_set HF9.out HO9.out (by decide)
    · obtain rfl : k = rs.length := by omega
      have hfe : fs = rs := by rw [HK.out.2, List.take_of_length_le (Nat.le_refl _)]
      subst hfe
      have a3 : wr.cell? ⟨w.heap.size, 3, none⟩ = some v0 := by rw [Lib.cell_of_heap HF.out.arg]; rfl
      have a4 : wr.cell? ⟨w.heap.size, 4, none⟩ = some v1 := by rw [Lib.cell_of_heap HF.out.arg]; rfl
      have a5 : wr.cell? ⟨w.heap.size, 5, none⟩ = some v2 := by rw [Lib.cell_of_heap HF.out.arg]; rfl
      have a6 : wr.cell? ⟨w.heap.size, 6, none⟩ = some v3 := by rw [Lib.cell_of_heap HF.out.arg]; rfl
      go_wp2_with fail
      go_loopw [6, 7, 33] (fun _ _ i W => ∃ (j : Nat) (u0 u1 u2 u3 : Value), j ≤ 4 ∧ i = .int .i64 j ∧ Hid (FSt w W #[.int .i64 n, .string t, .slice X1 fs.length cap1, v0, v1, v2, v3] #[.int .i64 n, .string t, .slice X fs.length cap, u0, u1, u2, u3]) ∧ Hid (W.ownsRow w.heap.size 77 2 (.slice X fs.length cap) fs.length (repCells fs)) ∧ Hid (SecP W (fun g => w.heap.size + 1 + 1 < g) [u0, u1, u2, u3] (As.take j))) (fun _ _ i _ => 4 - (intOf i).toNat)
      case atStart => exact ⟨0, _, _, _, _, by omega, rfl, HF, HO, Lib.hid (fun _ h => by cases h)⟩
      case round =>
        clear a3 a4 a5 a6
        obtain ⟨j, u0, u1, u2, u3, hj, rfl, HF, HO, HS⟩ := hrel
        by_cases hlt2 : j < 4
        · have hj4 : j = 0 ∨ j = 1 ∨ j = 2 ∨ j = 3 := by omega
          have hkw : Kept [] w wr := Kept.of_below HF.out.below
          rcases hj4 with rfl | rfl | rfl | rfl
          · have HSt := Lib.hid (states_any (As[0]'(by have := HL.out; omega)) v0 wr ((HV.out 0 (by have := HL.out; omega)).kept hkw (by simp)) (HA.out _ (List.getElem_mem _)).1 (HA.out _ (List.getElem_mem _)).2)
            have hA0 : As.take (0 + 1) = As.take 0 ++ [As[0]'(by have := HL.out; omega)] := List.take_succ_eq_append_getElem _
            have HTk := Lib.hid hA0
            clear hA0
            have hix := index_0 v0 v1 v2 v3 wr
            go_wp2_with fail
            clear hix
            refine HSt.out.mono ?_
            rintro e w10 ⟨v, rfl, hb, hA⟩
            obtain ⟨AX, capX, rfl, _⟩ := id hA
            have hk10 : Kept [] wr w10 := Kept.of_below hb
            have HF10 := Lib.hid (HF.out.call hk10)
            have HO10 := Lib.hid (hk10.own HO.out (fun _ _ h => by cases h))
            have HS10 : Hid (SecP w10 (fun g => w.heap.size + 1 + 1 < g) [u0, u1, u2, u3] (As.take 0)) := Lib.hid (fun j h => (HS.out j h).kept hk10 (by simp))
            have HA10 := Lib.hid (hA.mono (q := fun g => w.heap.size + 1 + 1 < g) (fun g hg => by have := HF.out.size; omega))
            clear hb hA hk10
            have d3 := HF10.out.cell 3 rfl
            have d4 := HF10.out.cell 4 rfl
            have d5 := HF10.out.cell 5 rfl
            have d6 := HF10.out.cell 6 rfl
            have g3 := HF10.out.fz
            go_wp2_with fail
            refine ⟨⟨0 + 1, _, _, _, _, by omega, rfl, Lib.hid (HF10.out.set _ _), Lib.hid (fown_set HF10.out HO10.out (by decide)), Lib.hid (by rw [HTk.out]; exact SecP.snoc (fun j hj => (HS10.out j hj).kept ((Kept.refl [w.heap.size + 1 + 1] w10).set _ _ _ (.inl (by simp))) (by simp <;> omega)) (HA10.out.kept ((Kept.refl [w.heap.size + 1 + 1] w10).set _ _ _ (.inl (by simp))) (by simp <;> omega)) (by rw [show (As.take 0).length = 0 by simp]; rfl) (fun j h => by rw [List.length_take, HL.out] at h; rcases j with _ | _ | _ | j <;> first | rfl | omega))⟩, by simp [intOf]⟩
          · have HSt := Lib.hid (states_any (As[1]'(by have := HL.out; omega)) v1 wr ((HV.out 1 (by have := HL.out; omega)).kept hkw (by simp)) (HA.out _ (List.getElem_mem _)).1 (HA.out _ (List.getElem_mem _)).2)
            have hA1 : As.take (1 + 1) = As.take 1 ++ [As[1]'(by have := HL.out; omega)] := List.take_succ_eq_append_getElem _
            have HTk := Lib.hid hA1
            clear hA1
            have hix := index_1 v0 v1 v2 v3 wr
            go_wp2_with fail
            clear hix
            refine HSt.out.mono ?_
            rintro e w10 ⟨v, rfl, hb, hA⟩
            obtain ⟨AX, capX, rfl, _⟩ := id hA
            have hk10 : Kept [] wr w10 := Kept.of_below hb
            have HF10 := Lib.hid (HF.out.call hk10)
            have HO10 := Lib.hid (hk10.own HO.out (fun _ _ h => by cases h))
            have HS10 : Hid (SecP w10 (fun g => w.heap.size + 1 + 1 < g) [u0, u1, u2, u3] (As.take 1)) := Lib.hid (fun j h => (HS.out j h).kept hk10 (by simp))
            have HA10 := Lib.hid (hA.mono (q := fun g => w.heap.size + 1 + 1 < g) (fun g hg => by have := HF.out.size; omega))
            clear hb hA hk10
            have d3 := HF10.out.cell 3 rfl
            have d4 := HF10.out.cell 4 rfl
            have d5 := HF10.out.cell 5 rfl
            have d6 := HF10.out.cell 6 rfl
            have g3 := HF10.out.fz
            go_wp2_with fail
            refine ⟨⟨1 + 1, _, _, _, _, by omega, rfl, Lib.hid (HF10.out.set _ _), Lib.hid (fown_set HF10.out HO10.out (by decide)), Lib.hid (by rw [HTk.out]; exact SecP.snoc (fun j hj => (HS10.out j hj).kept ((Kept.refl [w.heap.size + 1 + 1] w10).set _ _ _ (.inl (by simp))) (by simp <;> omega)) (HA10.out.kept ((Kept.refl [w.heap.size + 1 + 1] w10).set _ _ _ (.inl (by simp))) (by simp <;> omega)) (by rw [show (As.take 1).length = 1 by simp [List.length_take, HL.out]]; rfl) (fun j h => by rw [List.length_take, HL.out] at h; rcases j with _ | _ | _ | j <;> first | rfl | omega))⟩, by simp [intOf]⟩
          · have HSt := Lib.hid (states_any (As[2]'(by have := HL.out; omega)) v2 wr ((HV.out 2 (by have := HL.out; omega)).kept hkw (by simp)) (HA.out _ (List.getElem_mem _)).1 (HA.out _ (List.getElem_mem _)).2)
            have hA2 : As.take (2 + 1) = As.take 2 ++ [As[2]'(by have := HL.out; omega)] := List.take_succ_eq_append_getElem _
            have HTk := Lib.hid hA2
            clear hA2
            have hix := index_2 v0 v1 v2 v3 wr
            go_wp2_with fail
            clear hix
            refine HSt.out.mono ?_
            rintro e w10 ⟨v, rfl, hb, hA⟩
            obtain ⟨AX, capX, rfl, _⟩ := id hA
            have hk10 : Kept [] wr w10 := Kept.of_below hb
            have HF10 := Lib.hid (HF.out.call hk10)
            have HO10 := Lib.hid (hk10.own HO.out (fun _ _ h => by cases h))
            have HS10 : Hid (SecP w10 (fun g => w.heap.size + 1 + 1 < g) [u0, u1, u2, u3] (As.take 2)) := Lib.hid (fun j h => (HS.out j h).kept hk10 (by simp))
            have HA10 := Lib.hid (hA.mono (q := fun g => w.heap.size + 1 + 1 < g) (fun g hg => by have := HF.out.size; omega))
            clear hb hA hk10
            have d3 := HF10.out.cell 3 rfl
            have d4 := HF10.out.cell 4 rfl
            have d5 := HF10.out.cell 5 rfl
            have d6 := HF10.out.cell 6 rfl
            have g3 := HF10.out.fz
            go_wp2_with fail
            refine ⟨⟨2 + 1, _, _, _, _, by omega, rfl, Lib.hid (HF10.out.set _ _), Lib.hid (fown_set HF10.out HO10.out (by decide)), Lib.hid (by rw [HTk.out]; exact SecP.snoc (fun j hj => (HS10.out j hj).kept ((Kept.refl [w.heap.size + 1 + 1] w10).set _ _ _ (.inl (by simp))) (by simp <;> omega)) (HA10.out.kept ((Kept.refl [w.heap.size + 1 + 1] w10).set _ _ _ (.inl (by simp))) (by simp <;> omega)) (by rw [show (As.take 2).length = 2 by simp [List.length_take, HL.out]]; rfl) (fun j h => by rw [List.length_take, HL.out] at h; rcases j with _ | _ | _ | j <;> first | rfl | omega))⟩, by simp [intOf]⟩
          · have HSt := Lib.hid (states_any (As[3]'(by have := HL.out; omega)) v3 wr ((HV.out 3 (by have := HL.out; omega)).kept hkw (by simp)) (HA.out _ (List.getElem_mem _)).1 (HA.out _ (List.getElem_mem _)).2)
            have hA3 : As.take (3 + 1) = As.take 3 ++ [As[3]'(by have := HL.out; omega)] := List.take_succ_eq_append_getElem _
            have HTk := Lib.hid hA3
            clear hA3
            have hix := index_3 v0 v1 v2 v3 wr
            go_wp2_with fail
            clear hix
            refine HSt.out.mono ?_
            rintro e w10 ⟨v, rfl, hb, hA⟩
            obtain ⟨AX, capX, rfl, _⟩ := id hA
            have hk10 : Kept [] wr w10 := Kept.of_below hb
            have HF10 := Lib.hid (HF.out.call hk10)
            have HO10 := Lib.hid (hk10.own HO.out (fun _ _ h => by cases h))
            have HS10 : Hid (SecP w10 (fun g => w.heap.size + 1 + 1 < g) [u0, u1, u2, u3] (As.take 3)) := Lib.hid (fun j h => (HS.out j h).kept hk10 (by simp))
            have HA10 := Lib.hid (hA.mono (q := fun g => w.heap.size + 1 + 1 < g) (fun g hg => by have := HF.out.size; omega))
            clear hb hA hk10
            have d3 := HF10.out.cell 3 rfl
            have d4 := HF10.out.cell 4 rfl
            have d5 := HF10.out.cell 5 rfl
            have d6 := HF10.out.cell 6 rfl
            have g3 := HF10.out.fz
            go_wp2_with fail
            refine ⟨⟨3 + 1, _, _, _, _, by omega, rfl, Lib.hid (HF10.out.set _ _), Lib.hid (fown_set HF10.out HO10.out (by decide)), Lib.hid (by rw [HTk.out]; exact SecP.snoc (fun j hj => (HS10.out j hj).kept ((Kept.refl [w.heap.size + 1 + 1] w10).set _ _ _ (.inl (by simp))) (by simp <;> omega)) (HA10.out.kept ((Kept.refl [w.heap.size + 1 + 1] w10).set _ _ _ (.inl (by simp))) (by simp <;> omega)) (by rw [show (As.take 3).length = 3 by simp [List.length_take, HL.out]]; rfl) (fun j h => by rw [List.length_take, HL.out] at h; rcases j with _ | _ | _ | j <;> first | rfl | omega))⟩, by simp [intOf]⟩
        · obtain rfl : j = 4 := by omega
          have HSl : Hid (∀ v, v ∈ [u0, u1, u2, u3] → ∃ A n cap, v = .slice A n cap) := Lib.hid (by
            have key : ∀ j, j < 4 → ∃ A n cap, [u0, u1, u2, u3].getD j undef = .slice A n cap := fun j h => by
              obtain ⟨A, cap, e, _⟩ := HS.out j (by rw [List.length_take, HL.out]; omega)
              exact ⟨_, _, _, e⟩
            intro v hv
            simp only [List.mem_cons, List.not_mem_nil, or_false] at hv
            rcases hv with rfl | rfl | rfl | rfl
            · exact key 0 (by omega)
            · exact key 1 (by omega)
            · exact key 2 (by omega)
            · exact key 3 (by omega))
          obtain ⟨yA, yn, yc, hy⟩ := HSl.out u0 (by simp)
          obtain ⟨zA, zn, zc, hz⟩ := HSl.out u1 (by simp)
          obtain ⟨uA, un, uc, hu⟩ := HSl.out u2 (by simp)
          obtain ⟨tA, tn, tc, ht⟩ := HSl.out u3 (by simp)
          subst hy hz hu ht
          have HZ := Lib.hid (fres_store (.int .i64 n) (.string t) (.slice X fs.length cap) (.slice yA yn yc) (.slice zA zn zc) (.slice uA un uc) (.slice tA tn tc) HF.out)
          have HFin := Lib.hid (And.intro (reps_of_own (HZ.out.2.1.own HO.out (fun g hg hm => by
            simp only [List.mem_cons, List.not_mem_nil, or_false] at hm
            subst hm
            exact absurd ((own_ty HO.out hg).1.uniq ⟨_, HF.out.res⟩) (by decide)))) (show SecP _ (fun g => w.heap.size ≤ g) [_, _, _, _] (As.take 4) from fun j hj => ((HS.out j hj).kept HZ.out.2.1 (by simp <;> omega)).mono (fun g hg => by omega)))
          have HT4 : Hid (As.take 4 = As) := Lib.hid (List.take_of_length_le (by have := HL.out; omega))
          clear HSl
          have c0 := HF.out.cell 0 rfl
          have r0 : wr.cell? ⟨w.heap.size + 1, 0, none⟩ = zeroCells[0]? := by rw [Lib.cell_of_heap HF.out.res]
          have c1 := HF.out.cell 1 rfl
          have r1 : wr.cell? ⟨w.heap.size + 1, 1, none⟩ = zeroCells[1]? := by rw [Lib.cell_of_heap HF.out.res]
          have c2 := HF.out.cell 2 rfl
          have r2 : wr.cell? ⟨w.heap.size + 1, 2, none⟩ = zeroCells[2]? := by rw [Lib.cell_of_heap HF.out.res]
          have c3 := HF.out.cell 3 rfl
          have r3 : wr.cell? ⟨w.heap.size + 1, 3, none⟩ = zeroCells[3]? := by rw [Lib.cell_of_heap HF.out.res]
          have c4 := HF.out.cell 4 rfl
          have r4 : wr.cell? ⟨w.heap.size + 1, 4, none⟩ = zeroCells[4]? := by rw [Lib.cell_of_heap HF.out.res]
          have c5 := HF.out.cell 5 rfl
          have r5 : wr.cell? ⟨w.heap.size + 1, 5, none⟩ = zeroCells[5]? := by rw [Lib.cell_of_heap HF.out.res]
          have c6 := HF.out.cell 6 rfl
          have r6 : wr.cell? ⟨w.heap.size + 1, 6, none⟩ = zeroCells[6]? := by rw [Lib.cell_of_heap HF.out.res]
          have rf : ∀ i, wr.frozen? ⟨w.heap.size + 1, i, none⟩ = false := Lib.frozen_of_heap HF.out.res
          go_wp2_with fail
          exact ⟨rfl, _, results_ref (w.heap.size + 1) _ _ _ _ _ _ _ _ _ rfl HZ.out.1, _, _, _, _, _, rfl, HZ.out.2.2, HFin.out.1, by have := HFin.out.2; rw [HT4.out] at this; exact this⟩
end

section
open Go.RowKit

theorem edgesR_len {s : ByteArray} {n : Nat} : ∀ (k a p : Nat) (es : List Ed), edgesR s n k a = .ok (es, p) → es.length = k
  | 0, a, p, es, h => by
    rw [edgesR] at h
    injection h with h
    injection h with h1 _
    rw [← h1]; rfl
  | k + 1, a, p, es, h => by
    rw [edgesR] at h
    split at h
    · cases h
    · split at h
      · cases h
      · rename_i es' p' hes
        injection h with h
        injection h with h1 _
        rw [← h1, List.length_cons, edgesR_len k _ _ _ hes]
theorem staR_len {s : ByteArray} {n a p : Nat} {x : St} (h : staR s n a = .ok (x, p)) : x.2.length ≤ 256 := by
  unfold staR at h
  split at h
  · cases h
  · split at h
    · cases h
    · rename_i hv
      split at h
      · cases h
      · rename_i es p' hes
        injection h with h
        injection h with h1 _
        rw [← h1]
        have := edgesR_len _ _ _ _ hes
        simp only
        omega
theorem statesR_len {s : ByteArray} {n : Nat} : ∀ (k a p : Nat) (xs : List St), statesR s n k a = .ok (xs, p) → xs.length = k ∧ ∀ x ∈ xs, x.2.length ≤ 256
  | 0, a, p, xs, h => by
    rw [statesR] at h
    injection h with h
    injection h with h1 _
    rw [← h1]; exact ⟨rfl, fun _ h => by cases h⟩
  | k + 1, a, p, xs, h => by
    rw [statesR] at h
    split at h
    · cases h
    · rename_i x q hx
      split at h
      · cases h
      · rename_i xs' p' hxs
        injection h with h
        injection h with h1 _
        have ih := statesR_len k _ _ _ hxs
        rw [← h1]
        refine ⟨by rw [List.length_cons, ih.1], fun y hy => ?_⟩
        rcases List.mem_cons.1 hy with rfl | hy
        · exact staR_len hx
        · exact ih.2 y hy
theorem secR_len {s : ByteArray} {a p : Nat} {A : List St} (h : secR s a = .ok (A, p)) : shapeB A = true ∧ A.length ≤ 1048576 ∧ ∀ x ∈ A, x.2.length ≤ 256 := by
  unfold secR at h
  split at h
  · cases h
  · split at h
    · cases h
    · rename_i hn
      split at h
      · cases h
      · rename_i A' p' hA
        split at h
        · rename_i hs
          injection h with h
          injection h with h1 _
          subst h1
          have := statesR_len _ _ _ _ hA
          exact ⟨hs, by omega, this.2⟩
        · cases h
theorem manyR_len {α : Type} {P : α → Prop} {f : Nat → Except Nat (α × Nat)} (hf : ∀ a x p, f a = .ok (x, p) → P x) : ∀ (k a p : Nat) (xs : List α), manyR f k a = .ok (xs, p) → xs.length = k ∧ ∀ x ∈ xs, P x
  | 0, a, p, xs, h => by
    rw [manyR] at h
    injection h with h
    injection h with h1 _
    rw [← h1]; exact ⟨rfl, fun _ h => by cases h⟩
  | k + 1, a, p, xs, h => by
    rw [manyR] at h
    split at h
    · cases h
    · rename_i x q hx
      split at h
      · cases h
      · rename_i xs' p' hxs
        injection h with h
        injection h with h1 _
        have ih := manyR_len hf k _ _ _ hxs
        rw [← h1]
        refine ⟨by rw [List.length_cons, ih.1], fun y hy => ?_⟩
        rcases List.mem_cons.1 hy with rfl | hy
        · exact hf _ _ _ hx
        · exact ih.2 y hy
/-- A book that was read: its settings hold, its four sections are in shape. -/
theorem decR_bounds {s : ByteArray} {b : Bk} (h : decR s = .ok b) : b.reps.length ≤ 256 ∧ settingsB (b.least : Int) b.tryT b.reps = true ∧ b.secs.length = 4 ∧ ∀ A ∈ b.secs, shapeB A = true ∧ A.length ≤ 1048576 ∧ ∀ x ∈ A, x.2.length ≤ 256 := by
  unfold decR at h
  split at h
  · unfold bookR at h
    split at h
    · cases h
    · split at h
      · cases h
      · unfold repsR at h
        split at h
        · cases h
        · split at h
          · cases h
          · rename_i hn
            split at h
            · cases h
            · rename_i rs p hrs
              unfold secsR at h
              split at h
              · cases h
              · rename_i hset
                split at h
                · cases h
                · rename_i As p2 hAs
                  unfold endR at h
                  split at h
                  · injection h with h
                    subst h
                    have h1 := manyR_len (P := fun _ => True) (fun _ _ _ _ => trivial) _ _ _ _ hrs
                    have h2 := manyR_len (P := fun A => shapeB A = true ∧ A.length ≤ 1048576 ∧ ∀ x ∈ A, x.2.length ≤ 256) (fun _ _ _ h => secR_len h) _ _ _ _ hAs
                    exact ⟨by rw [h1.1]; omega, by simpa using hset, h2.1, h2.2⟩
                  · cases h
  · cases h
end
end Go.Proofs.Ytehbjfjhalpgaaa
