/-
  A checker's Book: copies of all its sections.
-/
import Derived.Test.YthfndmpigpphoaaGreatRows
import Derived.Test.YthfndmpigpphoaaGreatJb2
import Derived.Test.YthfndmpigpphoaaGreatJn2
namespace Go.Proofs.YthfndmpigpphoaaGreat
open Go.RowKit

/-- The book that is being copied. -/
def BoxAt (W : World) (b : Nat) (n t r : Value) (us : List Value) : Prop := W.heap[b]? = some (.cells (n :: t :: r :: us).toArray 49 (0, 0))
theorem BoxAt.lt {W : World} {b : Nat} {n t r : Value} {us : List Value} (h : BoxAt W b n t r us) : b < W.heap.size := block_lt h
theorem BoxAt.cell {W : World} {b : Nat} {n t r : Value} {us : List Value} (h : BoxAt W b n t r us) (j : Nat) (hj : j < us.length) : W.cell? ⟨b, 3 + j, none⟩ = some us[j] := by
  rw [Lib.cell_of_heap h]
  simp [Nat.add_comm 3 j, hj]
theorem BoxAt.fz {W : World} {b : Nat} {n t r : Value} {us : List Value} (h : BoxAt W b n t r us) (j : Nat) : W.frozen? ⟨b, j, none⟩ = false := Lib.frozen_of_heap h j
theorem BoxAt.keep {W W' : World} {b : Nat} {n t r : Value} {us : List Value} (h : BoxAt W b n t r us) (hb : Below W.heap.size W W') : BoxAt W' b n t r us := (hb.block b h.lt).trans h
theorem BoxAt.other {W : World} {b g : Nat} {n t r : Value} {us : List Value} (h : BoxAt W b n t r us) (hne : g ≠ b) (i : Nat) (u : Value) : BoxAt (W.setCell ⟨g, i, none⟩ u) b n t r us :=
  (heap_setCell_other W ⟨g, i, none⟩ b u (fun e => hne e.symm)).trans h
theorem BoxAt.set {W : World} {b : Nat} {n t r : Value} {us : List Value} (h : BoxAt W b n t r us) (j : Nat) (hj : j < us.length) (u : Value) : BoxAt (W.setCell ⟨b, 3 + j, none⟩ u) b n t r (us.set j u) := by
  have h' : W.heap[b]? = some (.cells (n :: t :: r :: us).toArray 49 (0, 0)) := h
  have e : (n :: t :: r :: us).toArray.setIfInBounds (3 + j) u = (n :: t :: r :: us.set j u).toArray := by
    rw [List.setIfInBounds_toArray]
    simp [Nat.add_comm 3 j]
  unfold BoxAt
  rw [← e]
  simp [World.setCell, Array.getElem?_modify, h']
theorem BoxAt.setR {W : World} {b : Nat} {n t r : Value} {us : List Value} (h : BoxAt W b n t r us) (u : Value) : BoxAt (W.setCell ⟨b, 2, none⟩ u) b n t u us := by
  have h' : W.heap[b]? = some (.cells (n :: t :: r :: us).toArray 49 (0, 0)) := h
  have e : (n :: t :: r :: us).toArray.setIfInBounds 2 u = (n :: t :: u :: us).toArray := by
    rw [List.setIfInBounds_toArray]; rfl
  unfold BoxAt
  rw [← e]
  simp [World.setCell, Array.getElem?_modify, h']
theorem BoxAt.cell2 {W : World} {b : Nat} {n t r : Value} {us : List Value} (h : BoxAt W b n t r us) : W.cell? ⟨b, 2, none⟩ = some r := by
  rw [Lib.cell_of_heap h]; rfl
theorem AutAt.live {w : World} {p : Nat → Prop} {v : Value} {a : List St} (h : AutAt w p v a) (B : Nat) (hB : w.heap.size ≤ B) : AutAt w (fun b => p b ∧ b ≠ B) v a := by
  obtain ⟨A, cap, hv, hc, h0⟩ := h
  exact ⟨A, cap, hv, hc, h0.imp id fun ⟨g, o, hA, hg, hp, hcs⟩ => ⟨g, o, hA, hg, ⟨hp, by omega⟩, fun k hk => by
    obtain ⟨c0, ev, c1, he⟩ := hcs k hk
    exact ⟨c0, ev, c1, he.live B hB⟩⟩⟩
theorem AutAt.form {w : World} {p : Nat → Prop} {v : Value} {a : List St} (h : AutAt w p v a) : ∃ U n d, v = .slice U n d := by
  obtain ⟨U, d, hv, -⟩ := h
  exact ⟨U, _, d, hv⟩
/-- Neither the copy's block nor the answer's. -/
def NB (w : World) (b : Nat) : Prop := b ≠ w.heap.size + 1 ∧ b ≠ w.heap.size
theorem getD_get {us : List Value} {j : Nat} (hj : j < us.length) : us.getD j undef = us[j] := by simp [List.getD, hj]

theorem bk_store {W : World} (b : Nat) (x0 x1 x2 x3 x4 x5 x6 : Value) {y0 y1 y2 y3 y4 y5 y6 : Value} (h : W.heap[b]? = some (.cells #[y0, y1, y2, y3, y4, y5, y6] 49 (0, 0))) :
    let Z := (((((((W.setCell ⟨b, 0, none⟩ x0).setCell ⟨b, 1, none⟩ x1).setCell ⟨b, 2, none⟩ x2).setCell ⟨b, 3, none⟩ x3).setCell ⟨b, 4, none⟩ x4).setCell ⟨b, 5, none⟩ x5).setCell ⟨b, 6, none⟩ x6)
    Z.heap[b]? = some (.cells #[x0, x1, x2, x3, x4, x5, x6] 49 (0, 0)) ∧ Kept [b] W Z := by
  intro Z
  have hz := heap_setCell_same _ b 6 _ _ x6 (heap_setCell_same _ b 5 _ _ x5 (heap_setCell_same _ b 4 _ _ x4 (heap_setCell_same _ b 3 _ _ x3 (heap_setCell_same _ b 2 _ _ x2 (heap_setCell_same _ b 1 _ _ x1 (heap_setCell_same _ b 0 _ _ x0 h))))))
  simp only [List.setIfInBounds_toArray, List.set_cons_zero, List.set_cons_succ] at hz
  have hk : Kept [b] W Z := (((((((Kept.refl [b] W).set _ _ _ (.inl (by simp))).set _ _ _ (.inl (by simp))).set _ _ _ (.inl (by simp))).set _ _ _ (.inl (by simp))).set _ _ _ (.inl (by simp))).set _ _ _ (.inl (by simp))).set _ _ _ (.inl (by simp))
  exact ⟨hz, hk⟩
theorem results_bk (bb : Nat) (x0 x1 x2 x3 x4 x5 x6 : Value) (w : World) (tmps : Array Value) (h2 : tmps[2]?.getD undef = .pointer (some ⟨bb, 0, none⟩))
    (hb : w.heap[bb]? = some (.cells #[x0, x1, x2, x3, x4, x5, x6] 49 (0, 0))) :
    (results Tryz.f87 tmps).run Tryz.prog w = .ok (.agg #[x0, x1, x2, x3, x4, x5, x6]) w := by
  obtain ⟨b0, b1, b2, b3, b4, b5, b6⟩ := cells_seven hb
  simp [results, Tryz.results87, go_sem, h2, b0, b1, b2, b3, b4, b5, b6]
set_option maxHeartbeats 8000000 in
set_option maxRecDepth 100000 in
theorem so_Book (c : Value) (least : Int) (rs : List (ByteArray × ByteArray)) (As : List (List St)) (w : World) (h : CkL w c least rs As) :
    Calls Tryz.prog 87 #[c] w fun e w' => ∃ t R m k U0 a0 d0 U1 a1 d1 U2 a2 d2 U3 a3 d3, e = .returned (.agg #[.int .i64 least, .string t, .slice R m k, .slice U0 a0 d0, .slice U1 a1 d1, .slice U2 a2 d2, .slice U3 a3 d3]) ∧ Below w.heap.size w w' ∧ SecP w' AllB [.slice U0 a0 d0, .slice U1 a1 d1, .slice U2 a2 d2, .slice U3 a3 d3] As := by
  obtain ⟨cb, t, vr, v0, v1, v2, v3, s, rfl, hh, hs, hrl, ha⟩ := h
  have hcb := block_lt hh
  have HH := Lib.hid hh
  have HS := Lib.hid hs
  have HA := Lib.hid ha
  obtain ⟨X, k, X0, n0, k0, X1, n1, k1, X2, n2, k2, X3, n3, k3, rfl, rfl, rfl, rfl, rfl⟩ := hs.form
  have e0 : w.cell? ⟨cb, 0, none⟩ = some (.int .i64 least) := by rw [Lib.cell_of_heap hh]; rfl
  have e1 : w.cell? ⟨cb, 1, none⟩ = some (.string t) := by rw [Lib.cell_of_heap hh]; rfl
  have e2 : w.cell? ⟨cb, 2, none⟩ = some (.slice X rs.length k) := by rw [Lib.cell_of_heap hh]; rfl
  have e3 : w.cell? ⟨cb, 3, none⟩ = some (.slice X0 n0 k0) := by rw [Lib.cell_of_heap hh]; rfl
  have e4 : w.cell? ⟨cb, 4, none⟩ = some (.slice X1 n1 k1) := by rw [Lib.cell_of_heap hh]; rfl
  have e5 : w.cell? ⟨cb, 5, none⟩ = some (.slice X2 n2 k2) := by rw [Lib.cell_of_heap hh]; rfl
  have e6 : w.cell? ⟨cb, 6, none⟩ = some (.slice X3 n3 k3) := by rw [Lib.cell_of_heap hh]; rfl
  have hne : w.heap.size ≠ cb := by omega
  obtain ⟨W2, hW2⟩ : ∃ W2, (w.alloc (.cells #[.int .i64 0, .string ⟨#[]⟩, .slice none 0 0, .slice none 0 0, .slice none 0 0, .slice none 0 0, .slice none 0 0] 49)).alloc (.cells #[.int .i64 least, .string t, .slice X rs.length k, .slice X0 n0 k0, .slice X1 n1 k1, .slice X2 n2 k2, .slice X3 n3 k3] 49) = W2 := ⟨_, rfl⟩
  have HW2 := Lib.hid hW2
  have HB2 : Hid (Below w.heap.size w W2) := Lib.hid (by rw [← hW2]; exact ((Below.refl _ _).alloc (Nat.le_refl _) _).alloc (by simp) _)
  have HBox : Hid (BoxAt W2 (w.heap.size + 1) (.int .i64 least) (.string t) (.slice X rs.length k) [.slice X0 n0 k0, .slice X1 n1 k1, .slice X2 n2 k2, .slice X3 n3 k3]) := Lib.hid (by
    rw [← hW2]
    have := heap_alloc_new (w.alloc (.cells #[.int .i64 0, .string ⟨#[]⟩, .slice none 0 0, .slice none 0 0, .slice none 0 0, .slice none 0 0, .slice none 0 0] 49)) (.cells #[.int .i64 least, .string t, .slice X rs.length k, .slice X0 n0 k0, .slice X1 n1 k1, .slice X2 n2 k2, .slice X3 n3 k3] 49)
    rw [World.size_alloc] at this
    exact this)
  have HZ : Hid (W2.heap[w.heap.size]? = some (.cells #[.int .i64 0, .string ⟨#[]⟩, .slice none 0 0, .slice none 0 0, .slice none 0 0, .slice none 0 0, .slice none 0 0] 49 (0, 0))) := Lib.hid (by
    rw [← hW2]
    exact ((below_alloc _ _).block w.heap.size (by simp)).trans (heap_alloc_new w _))
  have HBk2 := Lib.hid (HS.out.keep HB2.out)
  have hsz2 : W2.heap.size = w.heap.size + 2 := by rw [← hW2]; simp
  have HSz2 := Lib.hid hsz2
  clear hW2 hsz2
  clear hh hs ha
  go_enter Tryz.func87, Tryz.ntmps87
  go_wp2_with fail
  rw [HW2.out]
  clear e0 e1 e2 e3 e4 e5 e6 hne
  refine (so_CloneR _ rs W2 HBk2.out.reps hrl).mono ?_
  rintro e w3 ⟨Y, ky, rfl, b3⟩
  have HB3 := Lib.hid b3
  have HBox3 := Lib.hid (HBox.out.keep b3)
  have c2 := HBox3.out.cell2
  have f2 := HBox3.out.fz 2
  clear b3
  obtain ⟨W4, hW4⟩ : ∃ W4, w3.setCell ⟨w.heap.size + 1, 2, none⟩ (.slice Y rs.length ky) = W4 := ⟨_, rfl⟩
  have HBox4 := Lib.hid (HBox3.out.setR (.slice Y rs.length ky))
  have HK4 : Hid (Kept [w.heap.size + 1] W2 W4) := Lib.hid (by rw [← hW4]; exact (Kept.of_below HB3.out).set _ _ _ (.inl (by simp)))
  rw [hW4] at HBox4
  have HW4 := Lib.hid hW4
  have HS4 : Hid (∀ j (h' : j < [Value.slice X0 n0 k0, .slice X1 n1 k1, .slice X2 n2 k2, .slice X3 n3 k3].length) (h2 : j < As.length), AutAt W4 (NB w) [Value.slice X0 n0 k0, .slice X1 n1 k1, .slice X2 n2 k2, .slice X3 n3 k3][j] As[j]) := Lib.hid (by
    intro j h' h2
    have h4 : AutAt W2 _ _ _ := ((HS.out.secs j h2 |>.live w.heap.size (Nat.le_refl _)).live (w.heap.size + 1) (by omega)).kept (E := []) (Kept.of_below HB2.out) (by simp)
    rw [getD_get h'] at h4
    exact (h4.kept HK4.out (by intro k hk hh; simp at hk; exact hh.2 hk)).mono (fun _ h => ⟨h.2, h.1.2⟩))
  have HAl := Lib.hid HS.out.len
  clear hW4
  go_wp2_with fail
  rw [HW4.out]
  clear c2 f2
  go_loopw [17] (fun i W => ∃ (i' : Nat) (us : List Value), i' ≤ 4 ∧ i = .int .i64 i' ∧ us.length = 4 ∧ Hid (BoxAt W (w.heap.size + 1) (.int .i64 least) (.string t) (.slice Y rs.length ky) us) ∧ Hid (∀ j (h' : j < us.length) (h2 : j < As.length), AutAt W (NB w) us[j] As[j]) ∧ Hid (Kept [w.heap.size + 1] W2 W)) (fun i _ => 4 - (intOf i).toNat)
  case atStart => exact ⟨0, _, by omega, rfl, rfl, HBox4, HS4, HK4⟩
  case round =>
    obtain ⟨i, us, hi, rfl, hul, HBx, HSc, HK⟩ := hrel
    by_cases hlt : i < 4
    · have hia : i < As.length := by rw [HAl.out]; exact hlt
      have hiu : i < us.length := by omega
      have HAut := Lib.hid (HSc.out i hiu hia)
      obtain ⟨hsh, hsl⟩ := HA.out As[i] (List.getElem_mem _)
      have hal := (shape_low hsh).2.2
      have HSl := Lib.hid hsl
      have c3 := HBx.out.cell i hiu
      obtain ⟨A, hAe⟩ : ∃ A, As[i]'hia = A := ⟨_, rfl⟩
      rw [hAe] at HAut HSl hal
      obtain ⟨U, cu, hu, -⟩ := HAut.out
      rw [hu] at c3 HAut
      have HAe := Lib.hid hAe
      have HUl := Lib.hid hul
      clear hsh hsl hAe hu
      obtain ⟨wo, hwo⟩ : ∃ wo : World, wr = wo := ⟨_, rfl⟩
      simp only [hwo] at c3 HBx HSc HK HAut ⊢
      clear hwo
      go_wp2_with fail
      refine (so_CloneS _ _ A wo HAut.out hal).mono ?_
      rintro e w5 ⟨U5, c5, rfl, b5, hc5, hrow⟩
      have HB5 := Lib.hid b5
      have HBx5 := Lib.hid (HBx.out.keep b5)
      have c35 := HBx5.out.cell i hiu
      have f35 := HBx5.out.fz (3 + i)
      have HRow := Lib.hid hrow
      have HC5 := Lib.hid hc5
      obtain ⟨W6, hW6⟩ : ∃ W6, w5.setCell ⟨w.heap.size + 1, 3 + i, none⟩ (.slice U5 A.length c5) = W6 := ⟨_, rfl⟩
      have HBx6 := Lib.hid (HBx5.out.set i hiu (.slice U5 A.length c5))
      have HK6 : Hid (Kept [w.heap.size + 1] W2 W6) := Lib.hid (by rw [← hW6]; exact (HK.out.trans (Kept.of_below b5)).set _ _ _ (.inl (by simp)))
      rw [hW6] at HBx6
      have HW6 := Lib.hid hW6
      have c36 : (w5.setCell ⟨w.heap.size + 1, 3 + i, none⟩ (.slice U5 A.length c5)).cell? ⟨w.heap.size + 1, 3 + i, none⟩ = some (.slice U5 A.length c5) := by
        rw [hW6]
        have := HBx6.out.cell i (by rw [List.length_set]; exact hiu)
        rw [this]; simp
      clear b5 hc5 hrow hW6
      go_wp2_with fail
      rw [HW6.out]
      clear c3 c35 f35 c36
      obtain ⟨g, hg1, HRw, HU⟩ : ∃ g, wo.heap.size ≤ g ∧ Hid (A.length = 0 ∨ StRow W6 (NB w) g A) ∧ Hid (A.length = 0 ∨ U5 = some ⟨g, 0, none⟩) := by
        rcases HRow.out with h0 | ⟨g, h1, h2, h3⟩
        · exact ⟨wo.heap.size, Nat.le_refl _, Lib.hid (.inl h0), Lib.hid (.inl h0)⟩
        · refine ⟨g, h2, Lib.hid (.inr ?_), Lib.hid (.inr h1)⟩
          rw [← HW6.out]
          exact h3.other (by have := HBx.out.lt; omega) (fun h => h.1 rfl) _ _
      have HG1 : Hid (W2.heap.size ≤ g ∧ g ≠ w.heap.size + 1) := Lib.hid ⟨Nat.le_trans HK.out.size hg1, by have := HBx.out.lt; omega⟩
      have HSc6 : Hid (∀ j (h' : j < us.length) (h2 : j < As.length), j ≠ i → AutAt W6 (fun b => NB w b ∧ b ≠ g) us[j] As[j]) := Lib.hid (by
        intro j h' h2 _
        have h4 := ((HSc.out j h' h2).live g hg1).kept (E := []) (Kept.of_below HB5.out) (by simp)
        rw [← HW6.out]
        exact h4.kept ((Kept.refl [w.heap.size + 1] w5).set _ _ _ (.inl (by simp))) (by intro k hk hh; simp at hk; exact hh.1.1 hk))
      clear hg1
      go_loopw [33] (fun kk W => ∃ k : Nat, k ≤ A.length ∧ kk = .int .i64 k ∧ Hid (BoxAt W (w.heap.size + 1) (.int .i64 least) (.string t) (.slice Y rs.length ky) (us.set i (.slice U5 A.length c5))) ∧ Hid (A.length = 0 ∨ StRow W (NB w) g A) ∧
        Hid (∀ j (h' : j < us.length) (h2 : j < As.length), j ≠ i → AutAt W (fun b => NB w b ∧ b ≠ g) us[j] As[j]) ∧ Hid (Kept [w.heap.size + 1] W2 W)) (fun kk _ => A.length - (intOf kk).toNat)
      case atStart => exact ⟨0, Nat.zero_le _, rfl, HBx6, HRw, HSc6, HK6⟩
      case round =>
        obtain ⟨k, hk, rfl, HBx, HRw, HSc, HK⟩ := hrel
        have HIu : Hid (i < (us.set i (.slice U5 A.length c5)).length) := Lib.hid (by rw [List.length_set]; exact hiu)
        by_cases hlk : k < A.length
        · have hrow := HRw.out.resolve_left (by omega)
          have hU := HU.out.resolve_left (by omega)
          subst hU
          obtain ⟨ev, cg, hev⟩ := hrow.cell k hlk
          have fg := hrow.fz (k * 2 + 1)
          have HRow2 := Lib.hid hrow
          have hel : A[k].2.length ≤ 256 := HSl.out _ (List.getElem_mem hlk)
          obtain ⟨es, hes⟩ : ∃ es, (A[k]'hlk).2 = es := ⟨_, rfl⟩
          rw [hes] at hev hel
          obtain ⟨E0, ec0, hev0, -⟩ := id hev
          subst hev0
          have HEv := Lib.hid hev
          have HEs := Lib.hid hes
          have cbx : wr.cell? ⟨w.heap.size + 1, 3 + i, none⟩ = some (.slice (some ⟨g, 0, none⟩) A.length c5) := by
            rw [HBx.out.cell i HIu.out]; simp
          have HX : Hid (∀ W', Below wr.heap.size wr W' → W'.cell? ⟨w.heap.size + 1, 3 + i, none⟩ = some (.slice (some ⟨g, 0, none⟩) A.length c5)) := Lib.hid fun W' hb => (hb.cell (p := ⟨w.heap.size + 1, 3 + i, none⟩) HBx.out.lt).trans cbx
          have HIu2 := Lib.hid hiu
          have HLt := Lib.hid hlt
          have HLk := Lib.hid hlk
          have hkc : (k : Int) < (A.length : Int) := by omega
          have hic : (i : Int) < 4 := by omega
          clear hrow hev hes HRw HU
          go_wp2_with fail
          refine wp_region_held_drew (S := fun W' => W'.cell? ⟨w.heap.size + 1, 3 + i, none⟩ = some (.slice (some ⟨g, 0, none⟩) A.length c5)) (by kernel_rfl) ?_ (fun hHeld => ?_)
          · exact HX.out _ (Below.refl _ _).drew
          refine takeH (i := 0) (d := some 36) (v := ?_) rfl rfl (by kernel_rfl) (by kernel_rfl) (by kernel_rfl) (fun _ _ _ h => h) (Or.inl ⟨by kernel_rfl, ?_⟩) hHeld ?_
          rotate_left
          · intro w hSw; (try dsimp only at hSw); go_simp; try with_reducible rfl
          try simp only [put_norm]
          refine takeH (i := 1) (d := some 37) (v := ?_) rfl rfl (by kernel_rfl) (by kernel_rfl) (by kernel_rfl) (fun _ _ _ h => h) (Or.inl ⟨by kernel_rfl, ?_⟩) hHeld ?_
          rotate_left
          · intro w hSw; (try dsimp only at hSw); go_simp; try with_reducible rfl
          try simp only [put_norm]
          refine takeH (i := 2) (d := some 38) (v := ?_) rfl rfl (by kernel_rfl) (by kernel_rfl) (by kernel_rfl) (fun _ _ _ h => h) (Or.inl ⟨by kernel_rfl, ?_⟩) hHeld ?_
          rotate_left
          · intro w hSw; (try dsimp only at hSw); go_simp; try with_reducible rfl
          try simp only [put_norm]
          refine takeH (i := 3) (d := some 39) (v := ?_) rfl rfl (by kernel_rfl) (by kernel_rfl) (by kernel_rfl) (fun _ _ _ h => h) (Or.inl ⟨by kernel_rfl, ?_⟩) hHeld ?_
          rotate_left
          · intro w hSw; (try dsimp only at hSw); go_simp; try with_reducible rfl
          try simp only [put_norm]
          refine takeH (i := 4) (d := some 40) (v := ?_) rfl rfl (by kernel_rfl) (by kernel_rfl) (by kernel_rfl) (fun _ _ _ h => h) (Or.inl ⟨by kernel_rfl, ?_⟩) hHeld ?_
          rotate_left
          · intro w hSw; (try dsimp only at hSw); go_simp; try with_reducible rfl
          try simp only [put_norm]
          refine takeH (i := 5) (d := some 41) (v := ?_) rfl rfl (by kernel_rfl) (by kernel_rfl) (by kernel_rfl) (fun _ _ _ h => h) (Or.inl ⟨by kernel_rfl, ?_⟩) hHeld ?_
          rotate_left
          · intro w hSw; (try dsimp only at hSw); go_simp; try with_reducible rfl
          try simp only [put_norm]
          refine takeH (i := 6) (d := some 42) (v := ?_) rfl rfl (by kernel_rfl) (by kernel_rfl) (by kernel_rfl) (fun _ _ _ h => h) (Or.inl ⟨by kernel_rfl, ?_⟩) hHeld ?_
          rotate_left
          · intro w hSw; (try dsimp only at hSw); go_simp; try with_reducible rfl
          try simp only [put_norm]
          refine takeH (i := 7) (d := some 43) (v := ?_) rfl rfl (by kernel_rfl) (by kernel_rfl) (by kernel_rfl) (fun _ _ _ h => h) (Or.inl ⟨by kernel_rfl, ?_⟩) hHeld ?_
          rotate_left
          · intro w hSw; (try dsimp only at hSw); go_simp; try with_reducible rfl
          try simp only [put_norm]
          refine takeH (i := 8) (d := some 44) (v := ?_) rfl rfl (by kernel_rfl) (by kernel_rfl) (by kernel_rfl) (fun _ _ _ h => h) (Or.inl ⟨by kernel_rfl, ?_⟩) hHeld ?_
          rotate_left
          · intro w hSw; (try dsimp only at hSw); go_simp; try with_reducible rfl
          try simp only [put_norm]
          refine takeH (i := 9) (d := some 45) (v := ?_) rfl rfl (by kernel_rfl) (by kernel_rfl) (by kernel_rfl) (fun _ _ _ h => h) (Or.inl ⟨by kernel_rfl, ?_⟩) hHeld ?_
          rotate_left
          · intro w hSw; (try dsimp only at hSw); go_simp; try with_reducible rfl
          try simp only [put_norm]
          refine takeH (i := 10) (d := some 46) (v := ?_) rfl rfl (by kernel_rfl) (by kernel_rfl) (by kernel_rfl) (fun _ _ _ h => h) (Or.inl ⟨by kernel_rfl, ?_⟩) hHeld ?_
          rotate_left
          · intro w hSw; (try dsimp only at hSw); go_simp; try with_reducible rfl
          try simp only [put_norm]
          refine takeH (i := 11) (d := some 47) (v := ?_) rfl rfl (by kernel_rfl) (by kernel_rfl) (by kernel_rfl) (fun _ _ _ h => h) (Or.inl ⟨by kernel_rfl, ?_⟩) hHeld ?_
          rotate_left
          · intro w hSw; (try dsimp only at hSw); go_simp; try with_reducible rfl
          try simp only [put_norm]
          refine wpAnyH_ready (rs := [12]) (by kernel_rfl) (by simp) ?_
          refine AllReadyH.cons rfl (fun K hK => ?_) AllReadyH.nil
          go_simp
          refine hK.out _ _ ?_ (fun hHeld => ?_)
          · first | exact HX.out _ (Below.refl _ _).drew | exact HQ7.out _
          clear hK K
          refine wpAnyH_ready (rs := [13]) (by kernel_rfl) (by simp) ?_
          refine AllReadyH.cons rfl (fun K hK => ?_) AllReadyH.nil
          go_simp
          refine (so_CloneE _ es wr.drew (show EdsAt wr.drew AllB _ es from HEv.out) (by omega)).mono ?_
          rintro e w7 ⟨E7, c7, rfl, h7, b7⟩
          have HB7 : Hid (Below wr.heap.size wr w7) := Lib.hid ((Below.refl _ _).drew.trans b7)
          have HE7 := Lib.hid h7
          have cg7 := (HB7.out.cell (p := ⟨g, k * 2 + 1, none⟩) HRow2.out.lt).trans cg
          have fg7 := (HRow2.out.keep HB7.out).fz (k * 2 + 1)
          have HQ7 : Hid (∀ u, (w7.setCell ⟨g, k * 2 + 1, none⟩ u).cell? ⟨w.heap.size + 1, 3 + i, none⟩ = some (.slice (some ⟨g, 0, none⟩) A.length c5)) := Lib.hid fun u => by
            have := ((HBx.out.keep HB7.out).other (g := g) HG1.out.2 (k * 2 + 1) u).cell i HIu.out
            rw [this]; simp
          clear b7 h7
          refine hK.out _ _ ?_ (fun hHeld => ?_)
          · exact HX.out w7 HB7.out
          clear hK K
          refine takeH (i := 14) (d := some 50) (v := ?_) rfl rfl (by kernel_rfl) (by kernel_rfl) (by kernel_rfl) (fun _ _ _ h => h) (Or.inl ⟨by kernel_rfl, ?_⟩) hHeld ?_
          rotate_left
          · intro w hSw; (try dsimp only at hSw); go_simp; try with_reducible rfl
          try simp only [put_norm]
          refine takeH (i := 15) (d := some 51) (v := ?_) rfl rfl (by kernel_rfl) (by kernel_rfl) (by kernel_rfl) (fun _ _ _ h => h) (Or.inl ⟨by kernel_rfl, ?_⟩) hHeld ?_
          rotate_left
          · intro w hSw; (try dsimp only at hSw); go_simp; try with_reducible rfl
          try simp only [put_norm]
          refine wpAnyH_ready (rs := [16]) (by kernel_rfl) (by simp) ?_
          refine AllReadyH.cons rfl (fun K hK => ?_) AllReadyH.nil
          go_simp
          refine hK.out _ _ ?_ (fun hHeld => ?_)
          · first | exact HX.out _ (Below.refl _ _).drew | exact HQ7.out _
          clear hK K
          refine wpAnyH_done (by kernel_rfl) ?_ _
          go_wp2_with fail
          refine ⟨⟨k + 1, HLk.out, by go_num, Lib.hid ((HBx.out.keep HB7.out).other (g := g) HG1.out.2 (k * 2 + 1) _), Lib.hid (.inr ((HRow2.out.keep HB7.out).set k HLk.out _ (by rw [HEs.out]; exact HE7.out.mono (fun b hb => ⟨⟨by have := HBx.out.lt; have hb : wr.heap.size ≤ b := hb; omega, by have := HBx.out.lt; have hb : wr.heap.size ≤ b := hb; omega⟩, by have := HRow2.out.lt; have hb : wr.heap.size ≤ b := hb; omega⟩)))), Lib.hid (fun j h' h2 hne => ((HSc.out j h' h2 hne).kept (E := []) (Kept.of_below HB7.out) (by simp)).kept ((Kept.refl [g] w7).set _ _ _ (.inl (by simp))) (by intro k hk hh; simp at hk; exact hh.2 hk)), Lib.hid ((HK.out.trans (Kept.of_below HB7.out)).set _ _ _ (.inr HG1.out.1))⟩, ?_⟩
          have := HLk.out
          simp [intOf]
          omega
        · obtain rfl : k = A.length := by omega
          have HFin : Hid (∀ j (h' : j < (us.set i (.slice U5 A.length c5)).length) (h2 : j < As.length), AutAt wr (NB w) (us.set i (.slice U5 A.length c5))[j] As[j]) := Lib.hid (by
            intro j h' h2
            by_cases e : j = i
            · subst e
              rw [List.getElem_set_self, HAe.out]
              rcases HU.out with h0 | h1
              · exact ⟨U5, c5, rfl, HC5.out, .inl h0⟩
              · rcases HRw.out with h0 | h2
                · exact ⟨U5, c5, rfl, HC5.out, .inl h0⟩
                · rw [h1]; exact h2.aut ⟨HG1.out.2, by have := HSz2.out; have := HG1.out.1; omega⟩ HC5.out
            · rw [List.getElem_set_ne (fun h => e h.symm)]
              exact (HSc.out j (by simpa using h') h2 e).mono (fun _ h => h.1))
          go_wp2_with fail
          go_roundw
          case rel => exact ⟨i + 1, us.set i (.slice U5 A.length c5), by omega, by go_num, by rw [List.length_set]; exact HUl.out, HBx, HFin, HK⟩
          case measure => simp [intOf]; omega
    · obtain rfl : i = 4 := by omega
      obtain ⟨u0, u1, u2, u3, rfl⟩ : ∃ u0 u1 u2 u3, us = [u0, u1, u2, u3] := by
        match us, hul with
        | [a, b, c, d], _ => exact ⟨a, b, c, d, rfl⟩
      obtain ⟨U0, a0, d0, hu0⟩ := (HSc.out 0 (by simp) (by rw [HAl.out]; omega)).form
      obtain ⟨U1, a1, d1, hu1⟩ := (HSc.out 1 (by simp) (by rw [HAl.out]; omega)).form
      obtain ⟨U2, a2, d2, hu2⟩ := (HSc.out 2 (by simp) (by rw [HAl.out]; omega)).form
      obtain ⟨U3, a3, d3, hu3⟩ := (HSc.out 3 (by simp) (by rw [HAl.out]; omega)).form
      simp only [List.getElem_cons_zero, List.getElem_cons_succ] at hu0 hu1 hu2 hu3
      subst hu0 hu1 hu2 hu3
      have hz := HK.out.at HZ.out (by simp)
      have hbx : wr.heap[w.heap.size + 1]? = _ := HBx.out
      have HBl : Hid (Below w.heap.size w wr) := Lib.hid (HB2.out.trans (HK.out.below HB2.out.size (by intro x hx; simp at hx; omega)))
      have HZ6 := Lib.hid (bk_store w.heap.size (.int .i64 least) (.string t) (.slice Y rs.length ky) (.slice U0 a0 d0) (.slice U1 a1 d1) (.slice U2 a2 d2) (.slice U3 a3 d3) hz)
      have HBl6 := Lib.hid (HBl.out.trans (HZ6.out.2.below HBl.out.size (by simp)))
      have HFin := Lib.hid (show SecP _ AllB [.slice U0 a0 d0, .slice U1 a1 d1, .slice U2 a2 d2, .slice U3 a3 d3] As from fun j h => by
        have h' : j < [Value.slice U0 a0 d0, .slice U1 a1 d1, .slice U2 a2 d2, .slice U3 a3 d3].length := by have := HAl.out; simp; omega
        rw [getD_get h']
        exact ((HSc.out j h' h).kept HZ6.out.2 (by intro k hk hh; simp at hk; exact hh.2 hk)).mono (fun _ _ => trivial))
      obtain ⟨b0, b1, b2, b3, b4, b5, b6⟩ := cells_seven hbx
      obtain ⟨z0, z1, z2, z3, z4, z5, z6⟩ := cells_seven hz
      have f0 : ∀ j, wr.frozen? ⟨w.heap.size, j, none⟩ = false := fun j => Lib.frozen_of_heap hz j
      clear hul
      go_wp2_with fail
      exact ⟨rfl, _, results_bk w.heap.size _ _ _ _ _ _ _ _ _ rfl HZ6.out.1, _, _, _, _, _, _, _, _, _, _, _, _, _, _, _, _, rfl, HBl6.out, HFin.out⟩
end Go.Proofs.YthfndmpigpphoaaGreat
