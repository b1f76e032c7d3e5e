/-
  The law's twin: a copy of the book.
-/
import Derived.Test.YtehbjfjhalpgaaaRows
import Derived.Test.YtehbjfjhalpgaaaIJ
import Derived.Deep.DeepCutAuto
import Derived.Deep.CutRange
namespace Go.Proofs.Ytehbjfjhalpgaaa
open Go.RowKit

/-- A book's cells: three, and the sections'. -/
def twC (n : Int) (t : ByteArray) (vr : Value) (us : List Value) : Array Value := #[.int .i64 n, .string t, vr] ++ us.toArray
theorem twC_four (n : Int) (t : ByteArray) (vr u0 u1 u2 u3 : Value) : twC n t vr [u0, u1, u2, u3] = #[.int .i64 n, .string t, vr, u0, u1, u2, u3] := rfl
theorem twC_at (n : Int) (t : ByteArray) (vr : Value) (us : List Value) (j : Nat) (h : j < us.length) : (twC n t vr us)[3 + j]? = some us[j] := by
  unfold twC
  rw [Array.getElem?_append_right (by simp)]
  simp [h]
theorem twC_set (n : Int) (t : ByteArray) (vr v : Value) (us : List Value) (j : Nat) (h : j < us.length) : (twC n t vr us).setIfInBounds (3 + j) v = twC n t vr (us.set j v) := by
  unfold twC
  apply Array.ext_getElem?
  intro i
  rw [Array.getElem?_setIfInBounds]
  by_cases hi : 3 + j = i
  · subst hi
    rw [if_pos rfl, if_pos (by simp; omega), Array.getElem?_append_right (by simp)]
    simp [h]
  · rw [if_neg hi]
    by_cases h3 : i < 3
    · rw [Array.getElem?_append_left (by simpa using h3), Array.getElem?_append_left (by simpa using h3)]
    · rw [Array.getElem?_append_right (by simp; omega), Array.getElem?_append_right (by simp; omega)]
      simp only [List.size_toArray, List.length_cons, List.length_nil, List.getElem?_toArray]
      rw [List.getElem?_set_ne (by omega)]

structure TwSt (w W : World) (o3 : Nat) (bk cs : Array Value) : Prop where
  below : Below w.heap.size w W
  arg : W.heap[w.heap.size]? = some (.cells bk 26 (0, 0))
  res : W.heap[w.heap.size + 1]? = some (.cells zeroCells 26 (0, 0))
  out : W.heap[o3]? = some (.cells cs 26 (0, 0))
  lt : w.heap.size + 1 < o3
theorem TwSt.call {w W W' : World} {o3 : Nat} {bk cs : Array Value} (h : TwSt w W o3 bk cs) (hk : Kept [] W W') : TwSt w W' o3 bk cs :=
  ⟨h.below.trans (hk.below h.below.size (by simp)), hk.at h.arg (by simp), hk.at h.res (by simp), hk.at h.out (by simp), h.lt⟩
theorem TwSt.set {w W : World} {o3 : Nat} {bk cs : Array Value} (h : TwSt w W o3 bk cs) (i : Nat) (v : Value) : TwSt w (W.setCell ⟨o3, i, none⟩ v) o3 bk (cs.setIfInBounds i v) := by
  have hlt := h.lt
  have hk : Kept [o3] W (W.setCell ⟨o3, i, none⟩ v) := (Kept.refl _ _).set _ _ _ (.inl (by simp))
  exact ⟨h.below.trans (hk.below h.below.size (by simp; omega)), hk.at h.arg (by simp; omega), hk.at h.res (by simp; omega), heap_setCell_same W _ i _ _ _ h.out, h.lt⟩
theorem TwSt.push {w W W' : World} {o3 : Nat} {bk cs : Array Value} {B e size n : Nat} {v : Value} {xs : List Value} (h : TwSt w W o3 bk cs) (ho : W.ownsRow B e size v n xs) (hB : w.heap.size ≤ B) (h3 : e ≠ 26) (hg : W.grownBy W' v.ownBlock) : TwSt w W' o3 bk cs := by
  have hk : Kept v.ownBlock.toList W W' := Kept.grown hg (fun k hk => by rw [hk]; simp)
  have key : ∀ (g : Nat) (cs : Array Value), W.heap[g]? = some (.cells cs 26 (0, 0)) → g ∉ v.ownBlock.toList := fun g cs hg' hm =>
    h3 ((own_ty ho (show v.ownBlock = some g by simpa using hm)).1.uniq ⟨cs, hg'⟩)
  exact ⟨h.below.trans (hk.below h.below.size (fun x hx => by have := (own_ty ho (show v.ownBlock = some x by simpa using hx)).2; omega)), hk.at h.arg (key _ _ h.arg), hk.at h.res (key _ _ h.res), hk.at h.out (key _ _ h.out), h.lt⟩
theorem TwSt.cell {w W : World} {o3 : Nat} {bk cs : Array Value} (h : TwSt w W o3 bk cs) (i : Nat) {x : Value} (hx : cs[i]? = some x) : W.cell? ⟨o3, i, none⟩ = some x := by rw [Lib.cell_of_heap h.out]; exact hx
theorem TwSt.fz {w W : World} {o3 : Nat} {bk cs : Array Value} (h : TwSt w W o3 bk cs) (i : Nat) : W.frozen? ⟨o3, i, none⟩ = false := Lib.frozen_of_heap h.out i
theorem twres_store {w W : World} {o3 : Nat} {bk cs : Array Value} (x0 x1 x2 x3 x4 x5 x6 : Value) (h : TwSt w W o3 bk cs) :
    let Z := (((((((W.setCell ⟨w.heap.size + 1, 0, none⟩ x0).setCell ⟨w.heap.size + 1, 1, none⟩ x1).setCell ⟨w.heap.size + 1, 2, none⟩ x2).setCell ⟨w.heap.size + 1, 3, none⟩ x3).setCell ⟨w.heap.size + 1, 4, none⟩ x4).setCell ⟨w.heap.size + 1, 5, none⟩ x5).setCell ⟨w.heap.size + 1, 6, none⟩ x6)
    Z.heap[w.heap.size + 1]? = some (.cells #[x0, x1, x2, x3, x4, x5, x6] 26 (0, 0)) ∧ Kept [w.heap.size + 1] W Z ∧ Below w.heap.size w Z := by
  intro Z
  have hz := heap_setCell_same _ (w.heap.size + 1) 6 _ _ x6 (heap_setCell_same _ (w.heap.size + 1) 5 _ _ x5 (heap_setCell_same _ (w.heap.size + 1) 4 _ _ x4 (heap_setCell_same _ (w.heap.size + 1) 3 _ _ x3 (heap_setCell_same _ (w.heap.size + 1) 2 _ _ x2 (heap_setCell_same _ (w.heap.size + 1) 1 _ _ x1 (heap_setCell_same _ (w.heap.size + 1) 0 _ _ x0 h.res))))))
  simp only [List.setIfInBounds_toArray, List.set_cons_zero, List.set_cons_succ] at hz
  have hk : Kept [w.heap.size + 1] W Z := (((((((Kept.refl [w.heap.size + 1] W).set _ _ _ (.inl (by simp))).set _ _ _ (.inl (by simp))).set _ _ _ (.inl (by simp))).set _ _ _ (.inl (by simp))).set _ _ _ (.inl (by simp))).set _ _ _ (.inl (by simp))).set _ _ _ (.inl (by simp))
  exact ⟨hz, hk, h.below.trans (hk.below h.below.size (by simp))⟩
theorem results_twin (bb : Nat) (x0 x1 x2 x3 x4 x5 x6 : Value) (w : World) (tmps : Array Value) (h2 : tmps[2]?.getD undef = .pointer (some ⟨bb, 0, none⟩))
    (hb : w.heap[bb]? = some (.cells #[x0, x1, x2, x3, x4, x5, x6] 26 (0, 0))) :
    (results Try.f9 tmps).run Try.prog w = .ok (.agg #[x0, x1, x2, x3, x4, x5, x6]) w := by
  have b0 : w.cell? ⟨bb, 0, none⟩ = some x0 := by rw [Lib.cell_of_heap hb]; rfl
  have b1 : w.cell? ⟨bb, 1, none⟩ = some x1 := by rw [Lib.cell_of_heap hb]; rfl
  have b2 : w.cell? ⟨bb, 2, none⟩ = some x2 := by rw [Lib.cell_of_heap hb]; rfl
  have b3 : w.cell? ⟨bb, 3, none⟩ = some x3 := by rw [Lib.cell_of_heap hb]; rfl
  have b4 : w.cell? ⟨bb, 4, none⟩ = some x4 := by rw [Lib.cell_of_heap hb]; rfl
  have b5 : w.cell? ⟨bb, 5, none⟩ = some x5 := by rw [Lib.cell_of_heap hb]; rfl
  have b6 : w.cell? ⟨bb, 6, none⟩ = some x6 := by rw [Lib.cell_of_heap hb]; rfl
  simp [results, Try.results9, go_sem, h2, b0, b1, b2, b3, b4, b5, b6]
/-- The cells that a slice of two-celled elements reads as. -/
theorem two_src {α : Type} (f g : α → Value) (l : List α) (W : World) (b o : Nat) (h : ∀ k (h : k < l.length), W.cell? ⟨b, o + k * 2, none⟩ = some (f l[k]) ∧ W.cell? ⟨b, o + k * 2 + 1, none⟩ = some (g l[k])) :
    ∀ j u, (l.flatMap fun x => [f x, g x])[j]? = some u → W.cell? ((⟨b, o, none⟩ : Addr).add j) = some u := by
  intro j u hj
  have hl := two_len f g l
  have hjl : j < l.length * 2 := by
    rcases Nat.lt_or_ge j (l.length * 2) with h' | h'
    · exact h'
    · rw [List.getElem?_eq_none (by rw [hl]; exact h')] at hj; cases hj
  have hk : j / 2 < l.length := by omega
  have h2 := two_get f g l (j / 2) hk
  have hc := h (j / 2) hk
  have hadd : (⟨b, o, none⟩ : Addr).add j = ⟨b, o + j, none⟩ := by unfold Addr.add; split <;> simp_all
  rw [hadd]
  rcases Nat.mod_two_eq_zero_or_one j with hm | hm
  · have e : j = j / 2 * 2 := by omega
    rw [e, h2.1] at hj
    injection hj with hj
    rw [show o + j = o + j / 2 * 2 by omega, hc.1, hj]
  · have e : j = j / 2 * 2 + 1 := by omega
    rw [e, h2.2] at hj
    injection hj with hj
    rw [show o + j = o + j / 2 * 2 + 1 by omega, hc.2, hj]
theorem RepsAt.src {w : World} {A : Option Addr} {k c : Nat} {rs : List Rp} (h : RepsAt w (.slice A k c) rs) : k = rs.length ∧ (rs.length = 0 ∨ ∃ ad, A = some ad ∧ ∀ j u, (repCells rs)[j]? = some u → w.cell? (ad.add j) = some u) := by
  obtain ⟨A', cap, hv, h0⟩ := h
  injection hv with hA hk hc
  subst hA
  refine ⟨hk, h0.imp id fun ⟨g, o, hA, hg, hcs⟩ => ⟨_, hA, two_src _ _ _ _ _ _ hcs⟩⟩
theorem EdsAt.src {w : World} {p : Nat → Prop} {A : Option Addr} {k c : Nat} {es : List Ed} (h : EdsAt w p (.slice A k c) es) : es.length = 0 ∨ ∃ ad, A = some ad ∧ ∀ j u, (edCells es)[j]? = some u → w.cell? (ad.add j) = some u := by
  obtain ⟨A', cap, hv, _, h0⟩ := h
  injection hv with hA hk hc
  subst hA
  exact h0.imp id fun ⟨g, o, hA, hg, hp, hcs⟩ => ⟨_, hA, two_src _ _ _ _ _ _ hcs⟩
theorem rep_info' : (Try.prog.info? 50).map (fun i => (i.zero, i.size, i.bytes)) = some (some (.agg #[.string ⟨#[]⟩, .string ⟨#[]⟩]), 2, 32) := rep_info

set_option maxHeartbeats 8000000 in
set_option maxRecDepth 100000 in
theorem twin_any (n : Int) (t : ByteArray) (rs : List Rp) (As : List (List St)) (vr v0 v1 v2 v3 : Value) (w : World) (h : BkAt w (fun _ => True) vr v0 v1 v2 v3 rs As) (hs : Small rs As) :
    Calls Try.prog 9 #[.agg #[.int .i64 n, .string t, vr, v0, v1, v2, v3]] w fun e w' => ∃ ur u0 u1 u2 u3, e = .returned (.agg #[.int .i64 n, .string t, ur, u0, u1, u2, u3]) ∧ Below w.heap.size w w' ∧ BkAt w' (fun _ => True) ur u0 u1 u2 u3 rs As := by
  obtain ⟨i0, hi, hz0, hz1, hz2⟩ := info_parts rep_info
  obtain ⟨i1, hj, hy0, hy1, hy2⟩ := info_parts state_info
  obtain ⟨i2, hk, hx0, hx1, hx2⟩ := info_parts edge_info
  obtain ⟨X, kr, X0, n0, k0, X1, n1, k1, X2, n2, k2, X3, n3, k3, rfl, rfl, rfl, rfl, rfl⟩ := h.form
  obtain ⟨W0, hW0⟩ : ∃ W0, ((w.alloc (.cells #[.int .i64 n, .string t, .slice X rs.length kr, .slice X0 n0 k0, .slice X1 n1 k1, .slice X2 n2 k2, .slice X3 n3 k3] 26)).alloc (.cells zeroCells 26)) = W0 := ⟨_, rfl⟩
  have hb0 : Below w.heap.size w W0 := by rw [← hW0]; exact ((Below.refl _ _).alloc (Nat.le_refl _) _).alloc (by simp) _
  have ha0 : W0.heap[w.heap.size]? = some (.cells #[.int .i64 n, .string t, .slice X rs.length kr, .slice X0 n0 k0, .slice X1 n1 k1, .slice X2 n2 k2, .slice X3 n3 k3] 26 (0, 0)) := by
    rw [← hW0, Below.heap_alloc _ _ _ (by simp)]; exact heap_alloc_new w _
  have hr0 : W0.heap[w.heap.size + 1]? = some (.cells zeroCells 26 (0, 0)) := by
    rw [← hW0]
    have := heap_alloc_new (w.alloc (.cells #[.int .i64 n, .string t, .slice X rs.length kr, .slice X0 n0 k0, .slice X1 n1 k1, .slice X2 n2 k2, .slice X3 n3 k3] 26)) (.cells zeroCells 26)
    simpa using this
  have hsz0 : W0.heap.size = w.heap.size + 1 + 1 := by rw [← hW0]; simp
  have hbk := h.keep hb0
  have hsrc : ∀ W', Below W0.heap.size W0 W' → rs.length = 0 ∨ ∃ ad, X = some ad ∧ ∀ j u, (repCells rs)[j]? = some u → W'.cell? (ad.add j) = some u := fun W' hB => (RepsAt.src (hbk.reps.kept hB)).2
  have HX : Hid (∀ W', Below W0.heap.size W0 W' → W'.cell? ⟨w.heap.size, 0, none⟩ = some (.int .i64 n) ∧ W'.cell? ⟨w.heap.size, 1, none⟩ = some (.string t) ∧ W'.cell? ⟨w.heap.size, 2, none⟩ = some (.slice X rs.length kr)) := Lib.hid (fun W' hB => by
    have hx : W'.heap[w.heap.size]? = _ := (hB.block _ (block_lt ha0)).trans ha0
    exact ⟨by rw [Lib.cell_of_heap hx]; rfl, by rw [Lib.cell_of_heap hx]; rfl, by rw [Lib.cell_of_heap hx]; rfl⟩)
  have HW0 := Lib.hid hW0
  have HB0 := Lib.hid hb0
  have HA0 := Lib.hid ha0
  have HR0 := Lib.hid hr0
  have HS0 := Lib.hid hsz0
  have HSr := Lib.hid hsrc
  have HH := Lib.hid h
  have HSm := Lib.hid hs
  have hrl : (rs.length : Int) ≤ 4398046510976 := by have := hs.1; omega
  clear hW0 hb0 ha0 hr0 hsz0 hbk hsrc h hs
  go_enter Try.func9, Try.ntmps9
  go_wp2_with fail
  rw [HW0.out]
  go_upto_region 1 with fail
  go_cut [3] from 8 to 15 (fun s3 wx => ∃ (o3 : Nat) (Y : Option Addr) (yc : Nat), s3 = .pointer (some ⟨o3, 0, none⟩) ∧ Hid (TwSt w wx o3 #[.int .i64 n, .string t, .slice X rs.length kr, .slice X0 n0 k0, .slice X1 n1 k1, .slice X2 n2 k2, .slice X3 n3 k3] #[.int .i64 n, .string t, .slice Y rs.length yc, .slice none 0 0, .slice none 0 0, .slice none 0 0, .slice none 0 0]) ∧ Hid (wx.ownsRow w.heap.size 50 2 (.slice Y rs.length yc) rs.length (repCells rs)))
  case first =>
    refine wp_region_held_drew (S := fun W' => W'.cell? ⟨w.heap.size, 0, none⟩ = some (.int .i64 n) ∧ W'.cell? ⟨w.heap.size, 1, none⟩ = some (.string t) ∧ W'.cell? ⟨w.heap.size, 2, none⟩ = some (.slice X rs.length kr)) (by kernel_rfl) ?_ (fun hHeld => ?_)
    · exact HX.out _ (Below.refl _ _).drew
    refine takeH (i := 0) (d := some 8) (v := ?_) rfl rfl (by kernel_rfl) (by kernel_rfl) (by kernel_rfl) (fun _ _ _ h => h) (Or.inl ⟨by kernel_rfl, ?_⟩) hHeld ?_
    rotate_left
    · intro w hSw; (try dsimp only at hSw); go_simp; try with_reducible rfl
    try simp only [put_norm]
    refine takeH (i := 1) (d := some 9) (v := ?_) rfl rfl (by kernel_rfl) (by kernel_rfl) (by kernel_rfl) (fun _ _ _ h => h) (Or.inl ⟨by kernel_rfl, ?_⟩) hHeld ?_
    rotate_left
    · intro w hSw; (try dsimp only at hSw); go_simp; try with_reducible rfl
    try simp only [put_norm]
    refine takeH (i := 2) (d := some 10) (v := ?_) rfl rfl (by kernel_rfl) (by kernel_rfl) (by kernel_rfl) (fun _ _ _ h => h) (Or.inl ⟨by kernel_rfl, ?_⟩) hHeld ?_
    rotate_left
    · intro w hSw; (try dsimp only at hSw); go_simp; try with_reducible rfl
    try simp only [put_norm]
    refine takeH (i := 3) (d := some 11) (v := ?_) rfl rfl (by kernel_rfl) (by kernel_rfl) (by kernel_rfl) (fun _ _ _ h => h) (Or.inl ⟨by kernel_rfl, ?_⟩) hHeld ?_
    rotate_left
    · intro w hSw; (try dsimp only at hSw); go_simp; try with_reducible rfl
    try simp only [put_norm]
    refine takeH (i := 4) (d := some 12) (v := ?_) rfl rfl (by kernel_rfl) (by kernel_rfl) (by kernel_rfl) (fun _ _ _ h => h) (Or.inl ⟨by kernel_rfl, ?_⟩) hHeld ?_
    rotate_left
    · intro w hSw; (try dsimp only at hSw); go_simp; try with_reducible rfl
    try simp only [put_norm]
    refine takeH (i := 5) (d := some 13) (v := ?_) rfl rfl (by kernel_rfl) (by kernel_rfl) (by kernel_rfl) (fun _ _ _ h => h) (Or.inl ⟨by kernel_rfl, ?_⟩) hHeld ?_
    rotate_left
    · intro w hSw; (try dsimp only at hSw); go_simp; try with_reducible rfl
    try simp only [put_norm]
    refine wpAnyH_ready (rs := [6, 8]) (by kernel_rfl) (by simp) ?_
    refine AllReadyH.cons rfl (fun K hK => ?_) ?_
    · refine step_append_src (by rfl) _ _ 22 (by rfl) w.heap.size 50 i0 _ 2 32 Try.underlying22 hi hz0 hz1 hz2 rfl (by decide) (.slice none 0 0) 0 [] (by rfl) (World.ownsRow_nil _ _ _ _) X rs.length kr (repCells rs) (by rfl) (by rw [repCells, two_len]) (HSr.out _ (Below.refl _ _).drew) (by intro u hu; simp only [repCells, List.mem_flatMap] at hu; obtain ⟨x, _, hu⟩ := hu; simp at hu; rcases hu with rfl | rfl <;> rfl) (by unfold maxLen; omega) (by omega) HB0.out.size ?_
      intro v5 w5 hown hg5 _
      rw [Nat.zero_add, List.nil_append] at hown
      obtain ⟨Y, yc, hv5⟩ := own_form hown
      subst hv5
      have HB5 : Hid (Below W0.heap.size W0 w5) := Lib.hid ((Below.refl _ _).drew.grown hg5 (Nat.le_refl _) (fun k hk => by cases hk))
      have HO5 := Lib.hid hown
      clear hown hg5
      refine hK.out _ _ ?_ (fun hHeld => ?_)
      · exact HX.out _ HB5.out
      clear hK K
      refine takeH (i := 7) (d := some 15) (v := ?_) rfl rfl (by kernel_rfl) (by kernel_rfl) (by kernel_rfl) (fun _ _ _ h => h) (Or.inl ⟨by kernel_rfl, ?_⟩) hHeld ?_
      rotate_left
      · intro w hSw; (try dsimp only at hSw); go_simp; try with_reducible rfl
      try simp only [put_norm]
      refine wpAnyH_ready (rs := [8]) (by kernel_rfl) (by simp) ?_
      refine AllReadyH.cons rfl (fun K hK => ?_) AllReadyH.nil
      go_simp
      refine hK.out _ _ ?_ (fun hHeld => ?_)
      · exact HX.out _ (HB5.out.alloc HB5.out.size _)
      clear hK K
      refine wpAnyH_ready (rs := [9]) (by kernel_rfl) (by simp) ?_
      refine AllReadyH.cons rfl (fun K hK => ?_) AllReadyH.nil
      go_simp
      refine hK.out _ _ ?_ (fun hHeld => ?_)
      · exact HX.out _ (HB5.out.alloc HB5.out.size _)
      clear hK K
      refine wpAnyH_done (by kernel_rfl) ?_ _
      have hb5 := HB0.out.trans (HB5.out.mono HB0.out.size)
      have hs0 := HS0.out
      go_wp2_with fail
      go_meet
      exact ⟨w5.heap.size, Y, yc, rfl, Lib.hid ⟨hb5.alloc hb5.size _, by rw [Below.heap_alloc _ _ _ (by have := HB5.out.size; omega), HB5.out.block _ (by omega)]; exact HA0.out, by rw [Below.heap_alloc _ _ _ (by have := HB5.out.size; omega), HB5.out.block _ (by omega)]; exact HR0.out, heap_alloc_new w5 _, by have := HB5.out.size; omega⟩, Lib.hid (HO5.out.alloc _)⟩
    refine AllReadyH.cons rfl (fun K hK => ?_) ?_
    · go_simp
      refine hK.out _ _ ?_ (fun hHeld => ?_)
      · exact HX.out _ ((Below.refl _ _).alloc (Nat.le_refl _) _).drew
      clear hK K
      refine wpAnyH_ready (rs := [6]) (by kernel_rfl) (by simp) ?_
      refine AllReadyH.cons rfl (fun K hK => ?_) AllReadyH.nil
      refine step_append_src (by rfl) _ _ 22 (by rfl) w.heap.size 50 i0 _ 2 32 Try.underlying22 hi hz0 hz1 hz2 rfl (by decide) (.slice none 0 0) 0 [] (by rfl) (World.ownsRow_nil _ _ _ _) X rs.length kr (repCells rs) (by rfl) (by rw [repCells, two_len]) (HSr.out _ ((Below.refl _ _).alloc (Nat.le_refl _) _).drew) (by intro u hu; simp only [repCells, List.mem_flatMap] at hu; obtain ⟨x, _, hu⟩ := hu; simp at hu; rcases hu with rfl | rfl <;> rfl) (by unfold maxLen; omega) (by omega) (Nat.le_trans HB0.out.size ((Below.refl W0.heap.size W0).alloc (Nat.le_refl _) _).size) ?_
      intro v5 w5 hown hg5 _
      rw [Nat.zero_add, List.nil_append] at hown
      obtain ⟨Y, yc, hv5⟩ := own_form hown
      subst hv5
      have HB5 : Hid (Below W0.heap.size W0 w5) := Lib.hid (((Below.refl _ _).alloc (Nat.le_refl _) _).drew.grown hg5 (by simp) (fun k hk => by cases hk))
      have HO5 := Lib.hid hown
      have HZ5 : Hid (w5.heap[W0.heap.size]? = some (.cells zeroCells 26 (0, 0))) := Lib.hid (by
        rw [hg5.block _ (by simp) (fun e => by cases e)]
        exact heap_alloc_new W0 _)
      clear hown hg5
      have z0 : w5.cell? ⟨W0.heap.size, 0, none⟩ = zeroCells[0]? := by rw [Lib.cell_of_heap HZ5.out]
      have z1 : w5.cell? ⟨W0.heap.size, 1, none⟩ = zeroCells[1]? := by rw [Lib.cell_of_heap HZ5.out]
      have z2 : w5.cell? ⟨W0.heap.size, 2, none⟩ = zeroCells[2]? := by rw [Lib.cell_of_heap HZ5.out]
      have z3 : w5.cell? ⟨W0.heap.size, 3, none⟩ = zeroCells[3]? := by rw [Lib.cell_of_heap HZ5.out]
      have z4 : w5.cell? ⟨W0.heap.size, 4, none⟩ = zeroCells[4]? := by rw [Lib.cell_of_heap HZ5.out]
      have z5 : w5.cell? ⟨W0.heap.size, 5, none⟩ = zeroCells[5]? := by rw [Lib.cell_of_heap HZ5.out]
      have z6 : w5.cell? ⟨W0.heap.size, 6, none⟩ = zeroCells[6]? := by rw [Lib.cell_of_heap HZ5.out]
      have zf : ∀ i, w5.frozen? ⟨W0.heap.size, i, none⟩ = false := Lib.frozen_of_heap HZ5.out
      refine hK.out _ _ ?_ (fun hHeld => ?_)
      · exact HX.out _ HB5.out
      clear hK K
      refine takeH (i := 7) (d := some 15) (v := ?_) rfl rfl (by kernel_rfl) (by kernel_rfl) (by kernel_rfl) (fun _ _ _ h => h) (Or.inl ⟨by kernel_rfl, ?_⟩) hHeld ?_
      rotate_left
      · intro w hSw; (try dsimp only at hSw); go_simp; try with_reducible rfl
      try simp only [put_norm]
      refine wpAnyH_ready (rs := [9]) (by kernel_rfl) (by simp) ?_
      refine AllReadyH.cons rfl (fun K hK => ?_) AllReadyH.nil
      go_simp
      refine hK.out _ _ ?_ (fun hHeld => ?_)
      · exact HX.out _ (((((((HB5.out.setCell (p := ⟨W0.heap.size, 0, none⟩) (Nat.le_refl _) _).setCell (p := ⟨W0.heap.size, 1, none⟩) (Nat.le_refl _) _).setCell (p := ⟨W0.heap.size, 2, none⟩) (Nat.le_refl _) _).setCell (p := ⟨W0.heap.size, 3, none⟩) (Nat.le_refl _) _).setCell (p := ⟨W0.heap.size, 4, none⟩) (Nat.le_refl _) _).setCell (p := ⟨W0.heap.size, 5, none⟩) (Nat.le_refl _) _).setCell (p := ⟨W0.heap.size, 6, none⟩) (Nat.le_refl _) _)
      clear hK K z0 z1 z2 z3 z4 z5 z6 zf
      refine wpAnyH_done (by kernel_rfl) ?_ _
      have hb5 := HB0.out.trans (HB5.out.mono HB0.out.size)
      have hs0 := HS0.out
      have ht5 : TwSt w w5 W0.heap.size _ zeroCells := ⟨hb5, (HB5.out.block _ (by omega)).trans HA0.out, (HB5.out.block _ (by omega)).trans HR0.out, HZ5.out, by omega⟩
      have HT5 := Lib.hid (((((((ht5.set 0 (.int .i64 n)).set 1 (.string t)).set 2 (.slice Y rs.length yc)).set 3 (.slice none 0 0)).set 4 (.slice none 0 0)).set 5 (.slice none 0 0)).set 6 (.slice none 0 0))
      have HOx : Hid (∀ W', Kept [W0.heap.size] w5 W' → W'.ownsRow w.heap.size 50 2 (.slice Y rs.length yc) rs.length (repCells rs)) := Lib.hid (fun W' hk => hk.own HO5.out (fun g hg hm => by
        have := (own_ty HO5.out hg).1
        simp only [List.mem_cons, List.not_mem_nil, or_false] at hm
        subst hm
        exact absurd (this.uniq ⟨_, HZ5.out⟩) (by decide)))
      clear hb5 hs0 ht5
      go_wp2_with fail
      go_meet
      exact ⟨W0.heap.size, Y, yc, rfl, HT5, Lib.hid (HOx.out _ ((((((((Kept.refl _ _).set _ _ _ (.inl (by simp))).set _ _ _ (.inl (by simp))).set _ _ _ (.inl (by simp))).set _ _ _ (.inl (by simp))).set _ _ _ (.inl (by simp))).set _ _ _ (.inl (by simp))).set _ _ _ (.inl (by simp))))⟩
    exact AllReadyH.nil
  case rest =>
    obtain ⟨o3, Y, yc, rfl, HT, HO⟩ := hcut
    obtain ⟨bk, hbk⟩ : ∃ bk : Array Value, #[.int .i64 n, .string t, .slice X rs.length kr, .slice X0 n0 k0, .slice X1 n1 k1, .slice X2 n2 k2, .slice X3 n3 k3] = bk := ⟨_, rfl⟩
    have d3 : wc.cell? ⟨w.heap.size, 3, none⟩ = some (.slice X0 n0 k0) := by rw [Lib.cell_of_heap HT.out.arg]; rfl
    have d4 : wc.cell? ⟨w.heap.size, 4, none⟩ = some (.slice X1 n1 k1) := by rw [Lib.cell_of_heap HT.out.arg]; rfl
    have d5 : wc.cell? ⟨w.heap.size, 5, none⟩ = some (.slice X2 n2 k2) := by rw [Lib.cell_of_heap HT.out.arg]; rfl
    have d6 : wc.cell? ⟨w.heap.size, 6, none⟩ = some (.slice X3 n3 k3) := by rw [Lib.cell_of_heap HT.out.arg]; rfl
    rw [hbk, ← twC_four] at HT
    have HB := Lib.hid hbk
    clear hbk
    go_wp2_with fail
    clear d3 d4 d5 d6
    go_loopw [4, 5, 7, 18] (fun _ _ _ i W => ∃ (j : Nat) (us : List Value), j ≤ 4 ∧ i = .int .i64 j ∧ Hid (us.length = 4) ∧ Hid (TwSt w W o3 bk (twC n t (.slice Y rs.length yc) us)) ∧ Hid (W.ownsRow w.heap.size 50 2 (.slice Y rs.length yc) rs.length (repCells rs)) ∧ Hid (SecP W (fun g => o3 < g) us (As.take j)) ∧ Hid (∀ k, j ≤ k → k < 4 → us.getD k undef = .slice none 0 0)) (fun _ _ _ i _ => 4 - (intOf i).toNat)
    case atStart => exact ⟨0, _, by omega, rfl, Lib.hid (by rfl), HT, HO, Lib.hid (fun _ h => by simp at h), Lib.hid (fun k _ hk => by rcases k with _ | _ | _ | _ | k <;> first | rfl | omega)⟩
    case round =>
      clear HT HO
      obtain ⟨j, us, hj4, rfl, HUl, HT, HO, HS, HN⟩ := hrel
      rename World => wo
      have HTw := HT
      by_cases hlt : j < 4
      · have hjl : j < As.length := by have := HH.out.len; omega
        have hAj := HH.out.secs j hjl
        have hix := fun W => index_j (.slice X0 n0 k0) (.slice X1 n1 k1) (.slice X2 n2 k2) (.slice X3 n3 k3) j hlt W
        have hTk : As.take (j + 1) = As.take j ++ [As[j]] := List.take_succ_eq_append_getElem hjl
        have hSmA := HSm.out.2 As[j] (List.getElem_mem hjl)
        obtain ⟨A, hA⟩ : ∃ A, As[j] = A := ⟨_, rfl⟩
        rw [hA] at hAj hTk hSmA
        obtain ⟨AX, acap, hvj, hac, hA0⟩ := id hAj
        rw [hvj] at hix
        have HA0 := Lib.hid hA0
        have HTk := Lib.hid hTk
        have HSmA := Lib.hid hSmA.2
        have hAl : (A.length : Int) ≤ 4398046510976 := by have := hSmA.1; omega
        have HLt : Hid (True → j + 1 ≤ 4) := Lib.hid (fun _ => hlt)
        have hji : (j : Int) < 4 := by omega
        have hjn : us.getD j undef = .slice none 0 0 := HN.out j (Nat.le_refl _) hlt
        have HT0 : Hid (TwSt w wo o3 bk (twC n t (.slice Y rs.length yc) (us.set j (.slice none 0 0)))) := Lib.hid (by
          have hj' : j < us.length := by have := HUl.out; omega
          rw [show us.getD j undef = us[j] by simp [List.getD, List.getElem?_eq_getElem hj']] at hjn
          rw [← hjn, List.set_getElem_self]
          exact HT.out)
        have HJl : Hid (j < us.length) := Lib.hid (by have := HUl.out; omega)
        clear hjl hAj hA0 hTk hSmA hA hvj hac hlt hjn
        go_wp2_with fail
        clear hix
        go_loopw [7, 24] (fun _ i W => ∃ (k : Nat) (L : List (St × Value)) (uj : Value), k ≤ A.length ∧ i = .int .i64 k ∧ Hid (L.length = k ∧ L.map (·.1) = A.take k) ∧ Hid (TwSt w W o3 bk (twC n t (.slice Y rs.length yc) (us.set j uj))) ∧ Hid (OutAt W wo.heap.size 53 55 uj L) ∧ Hid (Kept [o3] wo W)) (fun _ i _ => A.length - (intOf i).toNat)
        case atStart => exact ⟨0, [], _, Nat.zero_le _, rfl, Lib.hid ⟨rfl, rfl⟩, HT0, Lib.hid (OutAt.nil_ _ _ _ _), Lib.hid (Kept.refl _ _)⟩
        case round =>
          clear HT0
          obtain ⟨k, L, uj, hkl, rfl, HLk, HTk2, HOk, HKk⟩ := hrel
          by_cases hlk : k < A.length
          · obtain ⟨g, o, hAX, hg, hp, hcs⟩ := HA0.out.resolve_left (by omega)
            subst hAX
            obtain ⟨a0, ev, a1, hEv⟩ := hcs k hlk
            obtain ⟨⟨fin, es⟩, hx⟩ : ∃ x, A[k] = x := ⟨_, rfl⟩
            have hTk : A.take (k + 1) = A.take k ++ [(fin, es)] := by rw [List.take_succ_eq_append_getElem hlk, hx]
            have hEl := HSmA.out A[k] (List.getElem_mem hlk)
            rw [hx] at a0 hEv hEl
            dsimp only at a0 hEv hEl
            have hbw := HTk2.out.below
            have hEv' := hEv.kept (Kept.of_below (E := []) hbw) (by simp)
            obtain ⟨EX, ecap, rfl, hec, hE1⟩ := id hEv'
            have x0 := (hbw.cell (p := ⟨g, o + k * 2, none⟩) hg).trans a0
            have x1 := (hbw.cell (p := ⟨g, o + k * 2 + 1, none⟩) hg).trans a1
            obtain ⟨UX, ucap, rfl⟩ := HOk.out.form
            have HLt2 : Hid (True → k + 1 ≤ A.length) := Lib.hid (fun _ => hlk)
            have HTk3 := Lib.hid hTk
            have hki : (k : Int) < (A.length : Int) := by omega
            have hLl : L.length ≤ 4398046510976 := by have := HLk.out.1; omega
            obtain ⟨q, hq⟩ : ∃ q, wr.heap.size = q := ⟨_, rfl⟩
            obtain ⟨W7, hW7⟩ : ∃ W7, wr.alloc (.cells #[.bool fin, .slice EX es.length ecap] 53) = W7 := ⟨_, rfl⟩
            have h7q : W7.heap[q]? = some (.cells #[.bool fin, .slice EX es.length ecap] 53 (0, 0)) := by rw [← hW7, ← hq]; exact heap_alloc_new wr _
            have hb7 : Below wr.heap.size wr W7 := by rw [← hW7]; exact (Below.refl _ _).alloc (Nat.le_refl _) _
            have hkt7 := HTk2.out.call (Kept.of_below hb7)
            have hUj : (twC n t (.slice Y rs.length yc) (us.set j (.slice UX L.length ucap)))[3 + j]? = some (.slice UX L.length ucap) := by
              have h1 : j < (us.set j (.slice UX L.length ucap)).length := by rw [List.length_set]; exact HJl.out
              rw [twC_at _ _ _ _ j h1, List.getElem_set_self]
            have HUj := Lib.hid hUj
            have c32 := hkt7.cell (3 + j) hUj
            have HO3 : Hid (o3 < W7.heap.size) := Lib.hid (block_lt hkt7.out)
            have HEs : Hid (es.length = 0 ∨ ∃ ad, EX = some ad ∧ ∀ j u, (edCells es)[j]? = some u → W7.drew.cell? (ad.add j) = some u) := Lib.hid (EdsAt.src (hEv'.kept ((Kept.of_below (E := []) hb7).drew) (by simp)))
            have HXq : Hid (∀ W', Below W7.heap.size W7 W' → W'.cell? ⟨q, 0, none⟩ = some (.bool fin) ∧ W'.cell? ⟨q, 1, none⟩ = some (.slice EX es.length ecap)) := Lib.hid (fun W' hB => by
              have hx : W'.heap[q]? = _ := (hB.block _ (block_lt h7q)).trans h7q
              exact ⟨by rw [Lib.cell_of_heap hx]; rfl, by rw [Lib.cell_of_heap hx]; rfl⟩)
            have HOu := HOk.out
            have HRow : Hid (∀ W', Below W7.heap.size W7 W' → W'.ownsRow wo.heap.size 53 2 (.slice UX L.length ucap) L.length (stCells L)) := Lib.hid (fun W' hB => own_below (own_below HOu.own hb7) hB)
            have HWo : Hid (∀ W', Below W7.heap.size W7 W' → wo.heap.size ≤ W'.heap.size) := Lib.hid (fun W' hB => Nat.le_trans HKk.out.size (Nat.le_trans hb7.size hB.size))
            have HXr : Hid (∀ W5 W9 : World, Below W7.heap.size W7 W5 → W5.grownBy W9 (Value.slice UX L.length ucap).ownBlock → (W9.cell? ⟨q, 0, none⟩ = some (.bool fin) ∧ W9.cell? ⟨q, 1, none⟩ = some (.slice EX es.length ecap)) ∧ ∀ v, (W9.setCell ⟨o3, 3 + j, none⟩ v).cell? ⟨q, 0, none⟩ = some (.bool fin) ∧ (W9.setCell ⟨o3, 3 + j, none⟩ v).cell? ⟨q, 1, none⟩ = some (.slice EX es.length ecap)) := Lib.hid (fun W5 W9 hB hg => by
              have h5 : W5.heap[q]? = _ := (hB.block _ (block_lt h7q)).trans h7q
              have h9 : W9.heap[q]? = some (.cells #[.bool fin, .slice EX es.length ecap] 53 (0, 0)) := by
                rw [hg.block q (block_lt h5) (fun e => by
                  obtain ⟨⟨cs, h1⟩, _⟩ := own_ty HOu.own e.symm
                  have := block_lt h1
                  omega)]
                exact h5
              have hne : o3 ≠ q := by have := block_lt HTk2.out.out; omega
              refine ⟨⟨by rw [Lib.cell_of_heap h9]; rfl, by rw [Lib.cell_of_heap h9]; rfl⟩, fun v => ?_⟩
              have h9' : (W9.setCell ⟨o3, 3 + j, none⟩ v).heap[q]? = _ := (heap_setCell_other W9 ⟨o3, 3 + j, none⟩ q v (fun e => hne e.symm)).trans h9
              exact ⟨by rw [Lib.cell_of_heap h9']; rfl, by rw [Lib.cell_of_heap h9']; rfl⟩)
            have HPush : Hid (∀ W5 W9 gg cc SX scap, Below W7.heap.size W7 W5 → W5.ownsRow W7.heap.size 55 2 (.slice SX es.length scap) es.length (edCells es) → W9.ownsRow wo.heap.size 53 2 (.slice (some ⟨gg, 0, none⟩) (L.length + 1) cc) (L.length + 1) (stCells L ++ (#[.bool fin, .slice SX es.length scap] : Array Value).toList) → W5.grownBy W9 (Value.slice UX L.length ucap).ownBlock →
                TwSt w W9 o3 bk (twC n t (.slice Y rs.length yc) (us.set j (.slice UX L.length ucap))) ∧ OutAt W9 wo.heap.size 53 55 (.slice (some ⟨gg, 0, none⟩) (L.length + 1) cc) (L ++ [((fin, es), .slice SX es.length scap)]) ∧ Kept [o3] wo W9) := Lib.hid (fun W5 W9 gg cc SX scap hB h5 h9 hg => by
              have hk7 : Kept [] wr W5 := (Kept.of_below (E := []) hb7).trans (Kept.of_below hB)
              have ho5 := own_below (own_below HOu.own hb7) hB
              refine ⟨(HTk2.out.call hk7).push ho5 HTw.out.below.size (by decide) hg, ?_, ?_⟩
              · refine (HOu.kept hk7 (by simp)).push (by decide) ((eds_of_own h5).base ?_) (x := ((fin, es), .slice SX es.length scap)) h9 hg
                exact Nat.le_trans HKk.out.size hb7.size
              · exact Kept.push (HKk.out.trans (hk7.mono (by simp))) ho5 (Nat.le_refl _) hg)
            have HW7 := Lib.hid hW7
            have HQ := Lib.hid hq
            clear hcs hEv hEv' hE1 hTk a0 a1 hx hec hbw hq hW7 h7q hb7 hkt7 hUj HOu
            go_wp2_with fail
            clear x0 x1
            rw [HW7.out, HQ.out]
            refine wp_region_held_drew (S := fun W' => W'.cell? ⟨q, 0, none⟩ = some (.bool fin) ∧ W'.cell? ⟨q, 1, none⟩ = some (.slice EX es.length ecap)) (by kernel_rfl) ?_ (fun hHeld => ?_)
            · exact HXq.out _ (Below.refl _ _).drew
            refine takeH (i := 0) (d := some 28) (v := ?_) rfl rfl (by kernel_rfl) (by kernel_rfl) (by kernel_rfl) (fun _ _ _ h => h) (Or.inl ⟨by kernel_rfl, ?_⟩) hHeld ?_
            rotate_left
            · intro w hSw; (try dsimp only at hSw); go_simp; try with_reducible rfl
            try simp only [put_norm]
            refine takeH (i := 1) (d := some 29) (v := ?_) rfl rfl (by kernel_rfl) (by kernel_rfl) (by kernel_rfl) (fun _ _ _ h => h) (Or.inl ⟨by kernel_rfl, ?_⟩) hHeld ?_
            rotate_left
            · intro w hSw; (try dsimp only at hSw); go_simp; try with_reducible rfl
            try simp only [put_norm]
            refine takeH (i := 2) (d := some 30) (v := ?_) rfl rfl (by kernel_rfl) (by kernel_rfl) (by kernel_rfl) (fun _ _ _ h => h) (Or.inl ⟨by kernel_rfl, ?_⟩) hHeld ?_
            rotate_left
            · intro w hSw; (try dsimp only at hSw); go_simp; try with_reducible rfl
            try simp only [put_norm]
            refine takeH (i := 3) (d := some 31) (v := ?_) rfl rfl (by kernel_rfl) (by kernel_rfl) (by kernel_rfl) (fun _ _ _ h => h) (Or.inl ⟨by kernel_rfl, ?_⟩) hHeld ?_
            rotate_left
            · intro w hSw; (try dsimp only at hSw); go_simp; try with_reducible rfl
            try simp only [put_norm]
            refine takeH (i := 5) (d := some 33) (v := ?_) rfl rfl (by kernel_rfl) (by kernel_rfl) (by kernel_rfl) (fun _ _ _ h => h) (Or.inl ⟨by kernel_rfl, ?_⟩) hHeld ?_
            rotate_left
            · intro w hSw; (try dsimp only at hSw); go_simp; try with_reducible rfl
            try simp only [put_norm]
            refine takeH (i := 6) (d := some 34) (v := ?_) rfl rfl (by kernel_rfl) (by kernel_rfl) (by kernel_rfl) (fun _ _ _ h => h) (Or.inl ⟨by kernel_rfl, ?_⟩) hHeld ?_
            rotate_left
            · intro w hSw; (try dsimp only at hSw); go_simp; try with_reducible rfl
            try simp only [put_norm]
            refine takeH (i := 7) (d := some 35) (v := ?_) rfl rfl (by kernel_rfl) (by kernel_rfl) (by kernel_rfl) (fun _ _ _ h => h) (Or.inl ⟨by kernel_rfl, ?_⟩) hHeld ?_
            rotate_left
            · intro w hSw; (try dsimp only at hSw); go_simp; try with_reducible rfl
            try simp only [put_norm]
            refine takeH (i := 8) (d := some 36) (v := ?_) rfl rfl (by kernel_rfl) (by kernel_rfl) (by kernel_rfl) (fun _ _ _ h => h) (Or.inl ⟨by kernel_rfl, ?_⟩) hHeld ?_
            rotate_left
            · intro w hSw; (try dsimp only at hSw); go_simp; try with_reducible rfl
            try simp only [put_norm]
            refine takeH (i := 13) (d := some 41) (v := ?_) rfl rfl (by kernel_rfl) (by kernel_rfl) (by kernel_rfl) (fun _ _ _ h => h) (Or.inl ⟨by kernel_rfl, ?_⟩) hHeld ?_
            rotate_left
            · intro w hSw; (try dsimp only at hSw); go_simp; try with_reducible rfl
            try simp only [put_norm]
            refine wpAnyH_ready (rs := [4, 9]) (by kernel_rfl) (by simp) ?_
            refine AllReadyH.cons rfl (fun K hK => ?_) ?_
            · go_simp
              refine hK.out _ _ ?_ (fun hHeld => ?_)
              · first | exact HXq.out _ (Below.refl _ _).drew | exact HXq.out _ HB5.out | exact HXq.out _ (HB5.out.alloc HB5.out.size _) | exact HQ9.out.2 _
              clear hK K
              refine wpAnyH_ready (rs := [9]) (by kernel_rfl) (by simp) ?_
              refine AllReadyH.cons rfl (fun K hK => ?_) AllReadyH.nil
              refine step_append_src (by rfl) _ _ 51 (by rfl) W7.heap.size 55 i2 _ 2 16 Try.underlying51 hk hx0 hx1 hx2 rfl (by decide) (.slice none 0 0) 0 [] (by rfl) (World.ownsRow_nil _ _ _ _) EX es.length ecap (edCells es) (by rfl) (by rw [edCells, two_len]) HEs.out (by intro u hu; simp only [edCells, List.mem_flatMap] at hu; obtain ⟨x, _, hu⟩ := hu; simp at hu; rcases hu with rfl | rfl <;> rfl) (by unfold maxLen; omega) (by omega) (Nat.le_refl _) ?_
              intro v5 w5 hown hg5 _
              rw [Nat.zero_add, List.nil_append] at hown
              obtain ⟨SX, scap, hv5⟩ := own_form hown
              subst hv5
              have hb5 : Below W7.heap.size W7 w5 := (Below.refl _ _).drew.grown hg5 (Nat.le_refl _) (fun k hk => by cases hk)
              have HB5 := Lib.hid hb5
              have HO5 := Lib.hid hown
              have c5 : w5.cell? ⟨o3, 3 + j, none⟩ = some (.slice UX L.length ucap) := (hb5.cell (p := ⟨o3, 3 + j, none⟩) HO3.out).trans c32
              have c6 : ∀ ob, (w5.alloc ob).cell? ⟨o3, 3 + j, none⟩ = some (.slice UX L.length ucap) := fun ob => ((hb5.alloc hb5.size ob).cell (p := ⟨o3, 3 + j, none⟩) HO3.out).trans c32
              clear hown hg5 hb5
              refine hK.out _ _ ?_ (fun hHeld => ?_)
              · exact HXq.out _ HB5.out
              clear hK K
              refine takeH (i := 10) (d := some 38) (v := ?_) rfl rfl (by kernel_rfl) (by kernel_rfl) (by kernel_rfl) (fun _ _ _ h => h) (Or.inl ⟨by kernel_rfl, ?_⟩) hHeld ?_
              rotate_left
              · intro w hSw; (try dsimp only at hSw); go_simp; try with_reducible rfl
              try simp only [put_norm]
              refine wpAnyH_ready (rs := [11]) (by kernel_rfl) (by simp) ?_
              refine AllReadyH.cons rfl (fun K hK => ?_) AllReadyH.nil
              go_simp
              refine hK.out _ _ ?_ (fun hHeld => ?_)
              · first | exact HXq.out _ (Below.refl _ _).drew | exact HXq.out _ HB5.out | exact HXq.out _ (HB5.out.alloc HB5.out.size _) | exact HQ9.out.2 _
              clear hK K
              refine wpAnyH_ready (rs := [12]) (by kernel_rfl) (by simp) ?_
              refine AllReadyH.cons rfl (fun K hK => ?_) AllReadyH.nil
              refine step_push (by rfl) _ _ 23 (by rfl) wo.heap.size 53 i1 _ 2 32 Try.underlying23 hj hy0 hy1 hy2 rfl (by decide) (.slice UX L.length ucap) L.length (stCells L) (by rfl) (HRow.out _ HB5.out) #[.bool fin, .slice SX es.length scap] (by rfl) (by intro x hx; simp at hx; rcases hx with rfl | rfl <;> rfl) (by rfl) (by unfold maxLen; omega) (by omega) (HWo.out _ HB5.out) ?_
              intro gg cc w9 hown9 hg9
              have HP9 : Hid (TwSt w w9 o3 bk (twC n t (.slice Y rs.length yc) (us.set j (.slice UX L.length ucap))) ∧ OutAt w9 wo.heap.size 53 55 (.slice (some ⟨gg, 0, none⟩) (L.length + 1) cc) (L ++ [((fin, es), .slice SX es.length scap)]) ∧ Kept [o3] wo w9) := Lib.hid (HPush.out w5 w9 _ _ _ _ HB5.out HO5.out hown9 hg9)
              have c9 : w9.cell? ⟨o3, 3 + j, none⟩ = some (.slice UX L.length ucap) := HP9.out.1.cell (3 + j) HUj.out
              have f9 : w9.frozen? ⟨o3, 3 + j, none⟩ = false := HP9.out.1.fz (3 + j)
              have HQ9 := Lib.hid (HXr.out _ _ HB5.out (hg9))
              clear hown9 hg9
              refine hK.out _ _ ?_ (fun hHeld => ?_)
              · exact HQ9.out.1
              clear hK K
              refine takeH (i := 14) (d := some 42) (v := ?_) rfl rfl (by kernel_rfl) (by kernel_rfl) (by kernel_rfl) (fun _ _ _ h => h) (Or.inl ⟨by kernel_rfl, ?_⟩) hHeld ?_
              rotate_left
              · intro w hSw; (try dsimp only at hSw); go_simp; try with_reducible rfl
              try simp only [put_norm]
              refine wpAnyH_ready (rs := [15]) (by kernel_rfl) (by simp) ?_
              refine AllReadyH.cons rfl (fun K hK => ?_) AllReadyH.nil
              go_simp
              refine hK.out _ _ ?_ (fun hHeld => ?_)
              · first | exact HXq.out _ (Below.refl _ _).drew | exact HXq.out _ HB5.out | exact HXq.out _ (HB5.out.alloc HB5.out.size _) | exact HQ9.out.2 _
              clear hK K
              refine wpAnyH_done (by kernel_rfl) ?_ _
              have HS9 : Hid (TwSt w (w9.setCell ⟨o3, 3 + j, none⟩ (.slice (some ⟨gg, 0, none⟩) (L.length + 1) cc)) o3 bk (twC n t (.slice Y rs.length yc) (us.set j (.slice (some ⟨gg, 0, none⟩) (L.length + 1) cc)))) := Lib.hid (by
                have h1 := HP9.out.1.set (3 + j) (.slice (some ⟨gg, 0, none⟩) (L.length + 1) cc)
                rw [twC_set _ _ _ _ _ j (by rw [List.length_set]; exact HJl.out), List.set_set] at h1
                exact h1)
              have HO9 : Hid (OutAt (w9.setCell ⟨o3, 3 + j, none⟩ (.slice (some ⟨gg, 0, none⟩) (L.length + 1) cc)) wo.heap.size 53 55 (.slice (some ⟨gg, 0, none⟩) (L.length + 1) cc) (L ++ [((fin, es), .slice SX es.length scap)])) := Lib.hid (HP9.out.2.1.kept ((Kept.refl [o3] w9).set _ _ _ (.inl (by simp))) (by intro g hg; simp at hg; subst hg; exact block_lt HTw.out.out))
              have HK9 : Hid (Kept [o3] wo (w9.setCell ⟨o3, 3 + j, none⟩ (.slice (some ⟨gg, 0, none⟩) (L.length + 1) cc))) := Lib.hid (HP9.out.2.2.trans ((Kept.refl [o3] w9).set _ _ _ (.inl (by simp))))
              clear c5 c6 c9 f9 c32
              go_wp2_with fail
              refine ⟨⟨k + 1, L ++ [((fin, es), .slice SX es.length scap)], _, HLt2.out trivial, by go_num, Lib.hid ⟨by rw [List.length_append, HLk.out.1]; rfl, by rw [HTk3.out, List.map_append, HLk.out.2]; rfl⟩, HS9, HO9, HK9⟩, by have := HLt2.out trivial; simp [intOf]; omega⟩
            refine AllReadyH.cons rfl (fun K hK => ?_) ?_
            · refine step_append_src (by rfl) _ _ 51 (by rfl) W7.heap.size 55 i2 _ 2 16 Try.underlying51 hk hx0 hx1 hx2 rfl (by decide) (.slice none 0 0) 0 [] (by rfl) (World.ownsRow_nil _ _ _ _) EX es.length ecap (edCells es) (by rfl) (by rw [edCells, two_len]) HEs.out (by intro u hu; simp only [edCells, List.mem_flatMap] at hu; obtain ⟨x, _, hu⟩ := hu; simp at hu; rcases hu with rfl | rfl <;> rfl) (by unfold maxLen; omega) (by omega) (Nat.le_refl _) ?_
              intro v5 w5 hown hg5 _
              rw [Nat.zero_add, List.nil_append] at hown
              obtain ⟨SX, scap, hv5⟩ := own_form hown
              subst hv5
              have hb5 : Below W7.heap.size W7 w5 := (Below.refl _ _).drew.grown hg5 (Nat.le_refl _) (fun k hk => by cases hk)
              have HB5 := Lib.hid hb5
              have HO5 := Lib.hid hown
              have c5 : w5.cell? ⟨o3, 3 + j, none⟩ = some (.slice UX L.length ucap) := (hb5.cell (p := ⟨o3, 3 + j, none⟩) HO3.out).trans c32
              have c6 : ∀ ob, (w5.alloc ob).cell? ⟨o3, 3 + j, none⟩ = some (.slice UX L.length ucap) := fun ob => ((hb5.alloc hb5.size ob).cell (p := ⟨o3, 3 + j, none⟩) HO3.out).trans c32
              clear hown hg5 hb5
              refine hK.out _ _ ?_ (fun hHeld => ?_)
              · exact HXq.out _ HB5.out
              refine takeH (i := 10) (d := some 38) (v := ?_) rfl rfl (by kernel_rfl) (by kernel_rfl) (by kernel_rfl) (fun _ _ _ h => h) (Or.inl ⟨by kernel_rfl, ?_⟩) hHeld ?_
              rotate_left
              · intro w hSw; (try dsimp only at hSw); go_simp; try with_reducible rfl
              try simp only [put_norm]
              refine wpAnyH_ready (rs := [4, 11]) (by kernel_rfl) (by simp) ?_
              refine AllReadyH.cons rfl (fun K hK => ?_) ?_
              · go_simp
                refine hK.out _ _ ?_ (fun hHeld => ?_)
                · first | exact HXq.out _ (Below.refl _ _).drew | exact HXq.out _ HB5.out | exact HXq.out _ (HB5.out.alloc HB5.out.size _) | exact HQ9.out.2 _
                clear hK K
                refine wpAnyH_ready (rs := [11]) (by kernel_rfl) (by simp) ?_
                refine AllReadyH.cons rfl (fun K hK => ?_) AllReadyH.nil
                go_simp
                refine hK.out _ _ ?_ (fun hHeld => ?_)
                · first | exact HXq.out _ (Below.refl _ _).drew | exact HXq.out _ HB5.out | exact HXq.out _ (HB5.out.alloc HB5.out.size _) | exact HQ9.out.2 _
                clear hK K
                refine wpAnyH_ready (rs := [12]) (by kernel_rfl) (by simp) ?_
                refine AllReadyH.cons rfl (fun K hK => ?_) AllReadyH.nil
                refine step_push (by rfl) _ _ 23 (by rfl) wo.heap.size 53 i1 _ 2 32 Try.underlying23 hj hy0 hy1 hy2 rfl (by decide) (.slice UX L.length ucap) L.length (stCells L) (by rfl) (HRow.out _ HB5.out) #[.bool fin, .slice SX es.length scap] (by rfl) (by intro x hx; simp at hx; rcases hx with rfl | rfl <;> rfl) (by rfl) (by unfold maxLen; omega) (by omega) (HWo.out _ HB5.out) ?_
                intro gg cc w9 hown9 hg9
                have HP9 : Hid (TwSt w w9 o3 bk (twC n t (.slice Y rs.length yc) (us.set j (.slice UX L.length ucap))) ∧ OutAt w9 wo.heap.size 53 55 (.slice (some ⟨gg, 0, none⟩) (L.length + 1) cc) (L ++ [((fin, es), .slice SX es.length scap)]) ∧ Kept [o3] wo w9) := Lib.hid (HPush.out w5 w9 _ _ _ _ HB5.out HO5.out hown9 hg9)
                have c9 : w9.cell? ⟨o3, 3 + j, none⟩ = some (.slice UX L.length ucap) := HP9.out.1.cell (3 + j) HUj.out
                have f9 : w9.frozen? ⟨o3, 3 + j, none⟩ = false := HP9.out.1.fz (3 + j)
                have HQ9 := Lib.hid (HXr.out _ _ HB5.out (hg9))
                clear hown9 hg9
                refine hK.out _ _ ?_ (fun hHeld => ?_)
                · exact HQ9.out.1
                clear hK K
                refine takeH (i := 14) (d := some 42) (v := ?_) rfl rfl (by kernel_rfl) (by kernel_rfl) (by kernel_rfl) (fun _ _ _ h => h) (Or.inl ⟨by kernel_rfl, ?_⟩) hHeld ?_
                rotate_left
                · intro w hSw; (try dsimp only at hSw); go_simp; try with_reducible rfl
                try simp only [put_norm]
                refine wpAnyH_ready (rs := [15]) (by kernel_rfl) (by simp) ?_
                refine AllReadyH.cons rfl (fun K hK => ?_) AllReadyH.nil
                go_simp
                refine hK.out _ _ ?_ (fun hHeld => ?_)
                · first | exact HXq.out _ (Below.refl _ _).drew | exact HXq.out _ HB5.out | exact HXq.out _ (HB5.out.alloc HB5.out.size _) | exact HQ9.out.2 _
                clear hK K
                refine wpAnyH_done (by kernel_rfl) ?_ _
                have HS9 : Hid (TwSt w (w9.setCell ⟨o3, 3 + j, none⟩ (.slice (some ⟨gg, 0, none⟩) (L.length + 1) cc)) o3 bk (twC n t (.slice Y rs.length yc) (us.set j (.slice (some ⟨gg, 0, none⟩) (L.length + 1) cc)))) := Lib.hid (by
                  have h1 := HP9.out.1.set (3 + j) (.slice (some ⟨gg, 0, none⟩) (L.length + 1) cc)
                  rw [twC_set _ _ _ _ _ j (by rw [List.length_set]; exact HJl.out), List.set_set] at h1
                  exact h1)
                have HO9 : Hid (OutAt (w9.setCell ⟨o3, 3 + j, none⟩ (.slice (some ⟨gg, 0, none⟩) (L.length + 1) cc)) wo.heap.size 53 55 (.slice (some ⟨gg, 0, none⟩) (L.length + 1) cc) (L ++ [((fin, es), .slice SX es.length scap)])) := Lib.hid (HP9.out.2.1.kept ((Kept.refl [o3] w9).set _ _ _ (.inl (by simp))) (by intro g hg; simp at hg; subst hg; exact block_lt HTw.out.out))
                have HK9 : Hid (Kept [o3] wo (w9.setCell ⟨o3, 3 + j, none⟩ (.slice (some ⟨gg, 0, none⟩) (L.length + 1) cc))) := Lib.hid (HP9.out.2.2.trans ((Kept.refl [o3] w9).set _ _ _ (.inl (by simp))))
                clear c5 c6 c9 f9 c32
                go_wp2_with fail
                refine ⟨⟨k + 1, L ++ [((fin, es), .slice SX es.length scap)], _, HLt2.out trivial, by go_num, Lib.hid ⟨by rw [List.length_append, HLk.out.1]; rfl, by rw [HTk3.out, List.map_append, HLk.out.2]; rfl⟩, HS9, HO9, HK9⟩, by have := HLt2.out trivial; simp [intOf]; omega⟩
              refine AllReadyH.cons rfl (fun K hK => ?_) ?_
              · go_simp
                refine hK.out _ _ ?_ (fun hHeld => ?_)
                · first | exact HXq.out _ (Below.refl _ _).drew | exact HXq.out _ HB5.out | exact HXq.out _ (HB5.out.alloc HB5.out.size _) | exact HQ9.out.2 _
                clear hK K
                refine wpAnyH_ready (rs := [4]) (by kernel_rfl) (by simp) ?_
                refine AllReadyH.cons rfl (fun K hK => ?_) AllReadyH.nil
                go_simp
                refine hK.out _ _ ?_ (fun hHeld => ?_)
                · first | exact HXq.out _ (Below.refl _ _).drew | exact HXq.out _ HB5.out | exact HXq.out _ (HB5.out.alloc HB5.out.size _) | exact HQ9.out.2 _
                clear hK K
                refine wpAnyH_ready (rs := [12]) (by kernel_rfl) (by simp) ?_
                refine AllReadyH.cons rfl (fun K hK => ?_) AllReadyH.nil
                refine step_push (by rfl) _ _ 23 (by rfl) wo.heap.size 53 i1 _ 2 32 Try.underlying23 hj hy0 hy1 hy2 rfl (by decide) (.slice UX L.length ucap) L.length (stCells L) (by rfl) (HRow.out _ HB5.out) #[.bool fin, .slice SX es.length scap] (by rfl) (by intro x hx; simp at hx; rcases hx with rfl | rfl <;> rfl) (by rfl) (by unfold maxLen; omega) (by omega) (HWo.out _ HB5.out) ?_
                intro gg cc w9 hown9 hg9
                have HP9 : Hid (TwSt w w9 o3 bk (twC n t (.slice Y rs.length yc) (us.set j (.slice UX L.length ucap))) ∧ OutAt w9 wo.heap.size 53 55 (.slice (some ⟨gg, 0, none⟩) (L.length + 1) cc) (L ++ [((fin, es), .slice SX es.length scap)]) ∧ Kept [o3] wo w9) := Lib.hid (HPush.out w5 w9 _ _ _ _ HB5.out HO5.out hown9 hg9)
                have c9 : w9.cell? ⟨o3, 3 + j, none⟩ = some (.slice UX L.length ucap) := HP9.out.1.cell (3 + j) HUj.out
                have f9 : w9.frozen? ⟨o3, 3 + j, none⟩ = false := HP9.out.1.fz (3 + j)
                have HQ9 := Lib.hid (HXr.out _ _ HB5.out (hg9))
                clear hown9 hg9
                refine hK.out _ _ ?_ (fun hHeld => ?_)
                · exact HQ9.out.1
                clear hK K
                refine takeH (i := 14) (d := some 42) (v := ?_) rfl rfl (by kernel_rfl) (by kernel_rfl) (by kernel_rfl) (fun _ _ _ h => h) (Or.inl ⟨by kernel_rfl, ?_⟩) hHeld ?_
                rotate_left
                · intro w hSw; (try dsimp only at hSw); go_simp; try with_reducible rfl
                try simp only [put_norm]
                refine wpAnyH_ready (rs := [15]) (by kernel_rfl) (by simp) ?_
                refine AllReadyH.cons rfl (fun K hK => ?_) AllReadyH.nil
                go_simp
                refine hK.out _ _ ?_ (fun hHeld => ?_)
                · first | exact HXq.out _ (Below.refl _ _).drew | exact HXq.out _ HB5.out | exact HXq.out _ (HB5.out.alloc HB5.out.size _) | exact HQ9.out.2 _
                clear hK K
                refine wpAnyH_done (by kernel_rfl) ?_ _
                have HS9 : Hid (TwSt w (w9.setCell ⟨o3, 3 + j, none⟩ (.slice (some ⟨gg, 0, none⟩) (L.length + 1) cc)) o3 bk (twC n t (.slice Y rs.length yc) (us.set j (.slice (some ⟨gg, 0, none⟩) (L.length + 1) cc)))) := Lib.hid (by
                  have h1 := HP9.out.1.set (3 + j) (.slice (some ⟨gg, 0, none⟩) (L.length + 1) cc)
                  rw [twC_set _ _ _ _ _ j (by rw [List.length_set]; exact HJl.out), List.set_set] at h1
                  exact h1)
                have HO9 : Hid (OutAt (w9.setCell ⟨o3, 3 + j, none⟩ (.slice (some ⟨gg, 0, none⟩) (L.length + 1) cc)) wo.heap.size 53 55 (.slice (some ⟨gg, 0, none⟩) (L.length + 1) cc) (L ++ [((fin, es), .slice SX es.length scap)])) := Lib.hid (HP9.out.2.1.kept ((Kept.refl [o3] w9).set _ _ _ (.inl (by simp))) (by intro g hg; simp at hg; subst hg; exact block_lt HTw.out.out))
                have HK9 : Hid (Kept [o3] wo (w9.setCell ⟨o3, 3 + j, none⟩ (.slice (some ⟨gg, 0, none⟩) (L.length + 1) cc))) := Lib.hid (HP9.out.2.2.trans ((Kept.refl [o3] w9).set _ _ _ (.inl (by simp))))
                clear c5 c6 c9 f9 c32
                go_wp2_with fail
                refine ⟨⟨k + 1, L ++ [((fin, es), .slice SX es.length scap)], _, HLt2.out trivial, by go_num, Lib.hid ⟨by rw [List.length_append, HLk.out.1]; rfl, by rw [HTk3.out, List.map_append, HLk.out.2]; rfl⟩, HS9, HO9, HK9⟩, by have := HLt2.out trivial; simp [intOf]; omega⟩
              exact AllReadyH.nil
            exact AllReadyH.nil
          · obtain rfl : k = A.length := by omega
            have hT : L.map (·.1) = A := by rw [HLk.out.2, List.take_of_length_le (Nat.le_refl _)]
            have HA2 : Hid (AutAt wr (fun g => o3 < g) uj A) := Lib.hid (by
              have := HOk.out.aut
              rw [hT] at this
              exact this.mono (fun g hg => by have := block_lt HTw.out.out; omega))
            have HOr : Hid (wr.ownsRow w.heap.size 50 2 (.slice Y rs.length yc) rs.length (repCells rs)) := Lib.hid (HKk.out.own HO.out (fun g hg hm => by
              simp only [List.mem_cons, List.not_mem_nil, or_false] at hm
              subst hm
              exact absurd ((own_ty HO.out hg).1.uniq ⟨_, HTw.out.out⟩) (by decide)))
            have hjt : (As.take j).length = j := by rw [List.length_take]; have := HH.out.len; omega
            have HS2 : Hid (SecP wr (fun g => o3 < g) (us.set j uj) (As.take (j + 1))) := Lib.hid (by
              rw [HTk.out]
              have hjl := HJl.out
              refine SecP.snoc (vs := us) (fun i hi => (HS.out i hi).kept HKk.out (by simp)) HA2.out ?_ (fun i hi => ?_)
              · rw [hjt]
                simp [List.getD, hjl]
              · rw [hjt] at hi
                simp only [List.getD]
                rw [List.getElem?_set_ne (by omega)])
            have HN2 : Hid (∀ k, j + 1 ≤ k → k < 4 → (us.set j uj).getD k undef = .slice none 0 0) := Lib.hid (fun k h1 h2 => by
              have := HN.out k (by omega) h2
              simp only [List.getD] at this ⊢
              rw [List.getElem?_set_ne (by omega)]
              exact this)
            clear hlk hT hjt hkl
            go_wp2_with fail
            refine ⟨⟨j + 1, us.set j uj, HLt.out trivial, by go_num, Lib.hid (by rw [List.length_set]; exact HUl.out), HTk2, HOr, HS2, HN2⟩, by have := HLt.out trivial; simp [intOf]; omega⟩
      · obtain rfl : j = 4 := by omega
        have hT4 : As.take 4 = As := List.take_of_length_le (by rw [HH.out.len]; omega)
        have hS4 := HS.out
        rw [hT4] at hS4
        obtain ⟨u0, u1, u2, u3, hus⟩ : ∃ u0 u1 u2 u3, us = [u0, u1, u2, u3] := by
          have := HUl.out
          match us, this with
          | [u0, u1, u2, u3], _ => exact ⟨u0, u1, u2, u3, rfl⟩
        subst hus
        obtain ⟨_, _, yA, yn, yc', zA, zn, zc', uA, un, uc', tA, tn, tc', -, hy, hz, hu, ht⟩ := (BkAt.mk (w := wo) (reps_of_own HO.out) HH.out.len hS4).form
        subst hy hz hu ht
        have HTf := HT
        rw [twC_four] at HTf
        have HZ := Lib.hid (twres_store (.int .i64 n) (.string t) (.slice Y rs.length yc) (.slice yA yn yc') (.slice zA zn zc') (.slice uA un uc') (.slice tA tn tc') HTf.out)
        have HFin := Lib.hid (And.intro (reps_of_own (HZ.out.2.1.own HO.out (fun g hg hm => by
          simp only [List.mem_cons, List.not_mem_nil, or_false] at hm
          subst hm
          exact absurd ((own_ty HO.out hg).1.uniq ⟨_, HTf.out.res⟩) (by decide)))) (show SecP _ (fun _ => True) _ As from fun j hj => ((hS4 j hj).kept HZ.out.2.1 (by have := HTf.out.lt; simp; omega)).mono (fun _ _ => trivial)))
        have HL4 := Lib.hid HH.out.len
        have c0 := HTf.out.cell 0 rfl
        have r0 : wo.cell? ⟨w.heap.size + 1, 0, none⟩ = zeroCells[0]? := by rw [Lib.cell_of_heap HTf.out.res]
        have c1 := HTf.out.cell 1 rfl
        have r1 : wo.cell? ⟨w.heap.size + 1, 1, none⟩ = zeroCells[1]? := by rw [Lib.cell_of_heap HTf.out.res]
        have c2 := HTf.out.cell 2 rfl
        have r2 : wo.cell? ⟨w.heap.size + 1, 2, none⟩ = zeroCells[2]? := by rw [Lib.cell_of_heap HTf.out.res]
        have c3 := HTf.out.cell 3 rfl
        have r3 : wo.cell? ⟨w.heap.size + 1, 3, none⟩ = zeroCells[3]? := by rw [Lib.cell_of_heap HTf.out.res]
        have c4 := HTf.out.cell 4 rfl
        have r4 : wo.cell? ⟨w.heap.size + 1, 4, none⟩ = zeroCells[4]? := by rw [Lib.cell_of_heap HTf.out.res]
        have c5 := HTf.out.cell 5 rfl
        have r5 : wo.cell? ⟨w.heap.size + 1, 5, none⟩ = zeroCells[5]? := by rw [Lib.cell_of_heap HTf.out.res]
        have c6 := HTf.out.cell 6 rfl
        have r6 : wo.cell? ⟨w.heap.size + 1, 6, none⟩ = zeroCells[6]? := by rw [Lib.cell_of_heap HTf.out.res]
        have rf : ∀ i, wo.frozen? ⟨w.heap.size + 1, i, none⟩ = false := Lib.frozen_of_heap HTf.out.res
        clear hS4 hT4 hlt hj4
        go_wp2_with fail
        exact ⟨rfl, _, results_twin (w.heap.size + 1) _ _ _ _ _ _ _ _ _ rfl HZ.out.1, _, _, _, _, _, rfl, HZ.out.2.2, HFin.out.1, HL4.out, HFin.out.2⟩
end Go.Proofs.Ytehbjfjhalpgaaa
