/-
  The law's walk: every Encode.
-/
import Derived.Test.YtehbjfjhalpgaaaRows
import Derived.Test.YtehbjfjhalpgaaaEnc7
namespace Go.Proofs.Ytehbjfjhalpgaaa
open Go.RowKit

/-- Two boxed books in memory: what is loaded of them. -/
theorem two_boxes {W : World} {b1 b2 : Nat} {t1 t2 : TypeId} {x0 x1 x2 x3 x4 x5 x6 y0 y1 y2 y3 y4 y5 y6 : Value} (h1 : W.heap[b1]? = some (.cells #[x0, x1, x2, x3, x4, x5, x6] t1 (0, 0))) (h2 : W.heap[b2]? = some (.cells #[y0, y1, y2, y3, y4, y5, y6] t2 (0, 0))) :
    (W.cell? ⟨b1, 0, none⟩ = some x0 ∧ W.cell? ⟨b1, 1, none⟩ = some x1 ∧ W.cell? ⟨b1, 2, none⟩ = some x2 ∧ W.cell? ⟨b1, 3, none⟩ = some x3 ∧ W.cell? ⟨b1, 4, none⟩ = some x4 ∧ W.cell? ⟨b1, 5, none⟩ = some x5 ∧ W.cell? ⟨b1, 6, none⟩ = some x6) ∧
    (W.cell? ⟨b2, 0, none⟩ = some y0 ∧ W.cell? ⟨b2, 1, none⟩ = some y1 ∧ W.cell? ⟨b2, 2, none⟩ = some y2 ∧ W.cell? ⟨b2, 3, none⟩ = some y3 ∧ W.cell? ⟨b2, 4, none⟩ = some y4 ∧ W.cell? ⟨b2, 5, none⟩ = some y5 ∧ W.cell? ⟨b2, 6, none⟩ = some y6) := by
  refine ⟨⟨?_, ?_, ?_, ?_, ?_, ?_, ?_⟩, ?_, ?_, ?_, ?_, ?_, ?_, ?_⟩
  all_goals first | (rw [Lib.cell_of_heap h1]; rfl) | (rw [Lib.cell_of_heap h2]; rfl)
/-- The bounds of a book's texts. -/
def Texts (t : ByteArray) (rs : List Rp) : Prop := t.size ≤ 140737488351232 ∧ ∀ k (h : k < rs.length), rs[k].1.size ≤ 140737488351232 ∧ rs[k].2.size ≤ 140737488351232
theorem Encode_b (n : Int) (t : ByteArray) (rs : List Rp) (As : List (List St)) (vr v0 v1 v2 v3 : Value) (w : World) (h : BkAt w (fun _ => True) vr v0 v1 v2 v3 rs As) (ht : Texts t rs) :
    Calls Try.prog 10 #[.agg #[.int .i64 n, .string t, vr, v0, v1, v2, v3]] w fun e w' => e = .returned (.tuple #[.string (encV n t rs As).1, .int .i64 (encV n t rs As).2]) ∧ Below w.heap.size w w' :=
  Encode_any n t rs As vr v0 v1 v2 v3 w h.reps h.len h.secs (by have := ht.1; omega) (fun k hk => by have := ht.2 k hk; omega)
theorem rEncode_b (n : Int) (t : ByteArray) (rs : List Rp) (As : List (List St)) (vr v0 v1 v2 v3 : Value) (w : World) (h : BkAt w (fun _ => True) vr v0 v1 v2 v3 rs As) (ht : Texts t rs) :
    Calls Try.prog 11 #[.agg #[.int .i64 n, .string t, vr, v0, v1, v2, v3]] w fun e w' => e = .returned (.tuple #[.string (encV n t rs As).1, .int .i64 (encV n t rs As).2]) ∧ Below w.heap.size w w' :=
  rEncode_any n t rs As vr v0 v1 v2 v3 w h.reps h.len h.secs (by have := ht.1; omega) (fun k hk => by have := ht.2 k hk; omega)

set_option maxHeartbeats 8000000 in
set_option maxRecDepth 100000 in
theorem encodes_walk (n : Int) (t : ByteArray) (rs : List Rp) (As : List (List St)) (vr v0 v1 v2 v3 : Value) (w : World) (h : BkAt w (fun _ => True) vr v0 v1 v2 v3 rs As) (hs : Small rs As) (ht : Texts t rs) :
    Calls Try.prog 3 #[.agg #[.int .i64 n, .string t, vr, v0, v1, v2, v3]] w fun e w' => e = .returned (.bool true) ∧ Below w.heap.size w w' := by
  have hE := fun vr v0 v1 v2 v3 W h => Encode_b n t rs As vr v0 v1 v2 v3 W h ht
  have hR := fun vr v0 v1 v2 v3 W h => rEncode_b n t rs As vr v0 v1 v2 v3 W h ht
  obtain ⟨⟨s, c⟩, hsc⟩ : ∃ p, encV n t rs As = p := ⟨_, rfl⟩
  rw [hsc] at hE hR
  dsimp only at hE hR
  have HE := Lib.hid hE
  have HR := Lib.hid hR
  have HS := Lib.hid hs
  obtain ⟨X, k, X0, n0, k0, X1, n1, k1, X2, n2, k2, X3, n3, k3, rfl, rfl, rfl, rfl, rfl⟩ := h.form
  obtain ⟨b1, hb1⟩ : ∃ b, w.heap.size = b := ⟨_, rfl⟩
  obtain ⟨W0, hW0⟩ : ∃ W0, w.alloc (.cells #[.int .i64 n, .string t, .slice X rs.length k, .slice X0 n0 k0, .slice X1 n1 k1, .slice X2 n2 k2, .slice X3 n3 k3] 26) = W0 := ⟨_, rfl⟩
  have hz0 : W0.heap[b1]? = some (.cells #[.int .i64 n, .string t, .slice X rs.length k, .slice X0 n0 k0, .slice X1 n1 k1, .slice X2 n2 k2, .slice X3 n3 k3] 26 (0, 0)) := by rw [← hW0, ← hb1]; exact heap_alloc_new w _
  have hbw : Below b1 w W0 := by rw [← hW0]; exact (Below.refl _ _).alloc (by omega) _
  have hbw' : Below w.heap.size w W0 := by rw [hb1]; exact hbw
  have HA : Hid (∀ W', Below W0.heap.size W0 W' → BkAt W' (fun _ => True) (.slice X rs.length k) (.slice X0 n0 k0) (.slice X1 n1 k1) (.slice X2 n2 k2) (.slice X3 n3 k3) rs As) := Lib.hid (fun W' hB => (h.keep hbw').keep hB)
  have HC : Hid (∀ W', Below W0.heap.size W0 W' → W'.heap[b1]? = some (.cells #[.int .i64 n, .string t, .slice X rs.length k, .slice X0 n0 k0, .slice X1 n1 k1, .slice X2 n2 k2, .slice X3 n3 k3] 26 (0, 0))) := Lib.hid (fun W' hB => (hB.block _ (block_lt hz0)).trans hz0)
  have HBW := Lib.hid hbw
  have HW0 := Lib.hid hW0
  have HB1 := Lib.hid hb1
  clear hsc hE hR hs h hW0 hz0 hbw hbw' hb1 ht
  go_enter Try.func3, Try.ntmps3
  go_wp2_with fail
  rw [HW0.out, HB1.out]
  have c := two_boxes (HC.out W0 (Below.refl _ _)) (HC.out W0 (Below.refl _ _))
  go_wp2_with fail
  clear c
  refine (twin_any n t rs As _ _ _ _ _ W0 (HA.out W0 (Below.refl _ _)) HS.out).mono ?_
  rintro e w1 ⟨ur, u0, u1, u2, u3, rfl, hb1, hk1⟩
  obtain ⟨Y, l, Y0, m0, l0, Y1, m1, l1, Y2, m2, l2, Y3, m3, l3, rfl, rfl, rfl, rfl, rfl⟩ := hk1.form
  obtain ⟨b2, hb2⟩ : ∃ b, w1.heap.size = b := ⟨_, rfl⟩
  obtain ⟨W1, hW1⟩ : ∃ W, w1.alloc (.cells #[.int .i64 n, .string t, .slice Y rs.length l, .slice Y0 m0 l0, .slice Y1 m1 l1, .slice Y2 m2 l2, .slice Y3 m3 l3] 26) = W := ⟨_, rfl⟩
  have hz1 : W1.heap[b2]? = some (.cells #[.int .i64 n, .string t, .slice Y rs.length l, .slice Y0 m0 l0, .slice Y1 m1 l1, .slice Y2 m2 l2, .slice Y3 m3 l3] 26 (0, 0)) := by rw [← hW1, ← hb2]; exact heap_alloc_new w1 _
  have hb11 : Below w1.heap.size w1 W1 := by rw [← hW1]; exact (Below.refl _ _).alloc (Nat.le_refl _) _
  have hb01 : Below W0.heap.size W0 W1 := hb1.trans (hb11.mono hb1.size)
  have HB01 := Lib.hid hb01
  have HK : Hid (∀ W', Below W1.heap.size W1 W' → BkAt W' (fun _ => True) (.slice Y rs.length l) (.slice Y0 m0 l0) (.slice Y1 m1 l1) (.slice Y2 m2 l2) (.slice Y3 m3 l3) rs As) := Lib.hid (fun W' hB => (hk1.keep hb11).keep hB)
  have HX : Hid (∀ W', Below W1.heap.size W1 W' → (W'.cell? ⟨b1, 0, none⟩ = some (.int .i64 n) ∧ W'.cell? ⟨b1, 1, none⟩ = some (.string t) ∧ W'.cell? ⟨b1, 2, none⟩ = some (.slice X rs.length k) ∧ W'.cell? ⟨b1, 3, none⟩ = some (.slice X0 n0 k0) ∧ W'.cell? ⟨b1, 4, none⟩ = some (.slice X1 n1 k1) ∧ W'.cell? ⟨b1, 5, none⟩ = some (.slice X2 n2 k2) ∧ W'.cell? ⟨b1, 6, none⟩ = some (.slice X3 n3 k3)) ∧ (W'.cell? ⟨b2, 0, none⟩ = some (.int .i64 n) ∧ W'.cell? ⟨b2, 1, none⟩ = some (.string t) ∧ W'.cell? ⟨b2, 2, none⟩ = some (.slice Y rs.length l) ∧ W'.cell? ⟨b2, 3, none⟩ = some (.slice Y0 m0 l0) ∧ W'.cell? ⟨b2, 4, none⟩ = some (.slice Y1 m1 l1) ∧ W'.cell? ⟨b2, 5, none⟩ = some (.slice Y2 m2 l2) ∧ W'.cell? ⟨b2, 6, none⟩ = some (.slice Y3 m3 l3))) := Lib.hid (fun W' hB => two_boxes (HC.out W' (hb01.trans (hB.mono hb01.size))) ((hB.block _ (block_lt hz1)).trans hz1))
  have HW1 := Lib.hid hW1
  have HB2 := Lib.hid hb2
  clear hb1 hk1 hb2 hW1 hz1 hb11 hb01
  go_wp2_with fail
  rw [HW1.out, HB2.out]
  have c := HX.out W1 (Below.refl _ _)
  go_wp2_with fail
  clear c
  refine (HE.out _ _ _ _ _ W1 (HK.out W1 (Below.refl _ _))).mono ?_
  rintro e w2 ⟨rfl, hb2⟩
  have HB2' := Lib.hid hb2
  clear hb2
  have c := HX.out w2 HB2'.out
  go_wp2_with fail
  clear c
  refine (ref_b n t rs As _ _ _ _ _ w2 (HA.out w2 (HB01.out.trans (HB2'.out.mono HB01.out.size))) HS.out).mono ?_
  rintro e w3 ⟨zr, z0, z1, z2, z3, rfl, hb3, hk3⟩
  have HB3 := Lib.hid (HB2'.out.trans (hb3.mono HB2'.out.size))
  have HK3 := Lib.hid hk3
  clear hb3 hk3
  go_wp2_with fail
  refine (HR.out _ _ _ _ _ w3 HK3.out).mono ?_
  rintro e w4 ⟨rfl, hb4⟩
  have HB4 := Lib.hid (HB3.out.trans (hb4.mono HB3.out.size))
  clear hb4
  go_wp2_with fail
  refine wp_region_held_drew (S := fun W' => (W'.cell? ⟨b1, 0, none⟩ = some (.int .i64 n) ∧ W'.cell? ⟨b1, 1, none⟩ = some (.string t) ∧ W'.cell? ⟨b1, 2, none⟩ = some (.slice X rs.length k) ∧ W'.cell? ⟨b1, 3, none⟩ = some (.slice X0 n0 k0) ∧ W'.cell? ⟨b1, 4, none⟩ = some (.slice X1 n1 k1) ∧ W'.cell? ⟨b1, 5, none⟩ = some (.slice X2 n2 k2) ∧ W'.cell? ⟨b1, 6, none⟩ = some (.slice X3 n3 k3)) ∧ (W'.cell? ⟨b2, 0, none⟩ = some (.int .i64 n) ∧ W'.cell? ⟨b2, 1, none⟩ = some (.string t) ∧ W'.cell? ⟨b2, 2, none⟩ = some (.slice Y rs.length l) ∧ W'.cell? ⟨b2, 3, none⟩ = some (.slice Y0 m0 l0) ∧ W'.cell? ⟨b2, 4, none⟩ = some (.slice Y1 m1 l1) ∧ W'.cell? ⟨b2, 5, none⟩ = some (.slice Y2 m2 l2) ∧ W'.cell? ⟨b2, 6, none⟩ = some (.slice Y3 m3 l3))) (by kernel_rfl) ?_ (fun hHeld => ?_)
  · exact HX.out _ HB4.out.drew
  refine wpAnyH_ready (rs := [0]) (by kernel_rfl) (by simp) ?_
  refine AllReadyH.cons rfl (fun K hK => ?_) AllReadyH.nil
  go_simp
  refine (wakes_any _).mono ?_
  rintro e w5 ⟨rfl, hb5⟩
  have HB5 : Hid (Below W1.heap.size W1 w5) := Lib.hid (HB4.out.drew.trans (hb5.mono HB4.out.size))
  refine hK.out _ _ ?_ (fun hHeld => ?_)
  · exact HX.out w5 HB5.out
  clear hb5
  clear hK K
  refine takeH (i := 1) (d := some 22) (v := ?_) rfl rfl (by kernel_rfl) (by kernel_rfl) (by kernel_rfl) (fun _ _ _ h => h) (Or.inl ⟨by kernel_rfl, ?_⟩) hHeld ?_
  rotate_left
  · intro w hSw; (try dsimp only at hSw); go_simp; try with_reducible rfl
  try simp only [put_norm]
  refine takeH (i := 2) (d := some 23) (v := ?_) rfl rfl (by kernel_rfl) (by kernel_rfl) (by kernel_rfl) (fun _ _ _ h => h) (Or.inl ⟨by kernel_rfl, ?_⟩) hHeld ?_
  rotate_left
  · intro w hSw; (try dsimp only at hSw); go_simp; try with_reducible rfl
  try simp only [put_norm]
  refine takeH (i := 3) (d := some 24) (v := ?_) rfl rfl (by kernel_rfl) (by kernel_rfl) (by kernel_rfl) (fun _ _ _ h => h) (Or.inl ⟨by kernel_rfl, ?_⟩) hHeld ?_
  rotate_left
  · intro w hSw; (try dsimp only at hSw); go_simp; try with_reducible rfl
  try simp only [put_norm]
  refine takeH (i := 4) (d := some 25) (v := ?_) rfl rfl (by kernel_rfl) (by kernel_rfl) (by kernel_rfl) (fun _ _ _ h => h) (Or.inl ⟨by kernel_rfl, ?_⟩) hHeld ?_
  rotate_left
  · intro w hSw; (try dsimp only at hSw); go_simp; try with_reducible rfl
  try simp only [put_norm]
  refine takeH (i := 5) (d := some 26) (v := ?_) rfl rfl (by kernel_rfl) (by kernel_rfl) (by kernel_rfl) (fun _ _ _ h => h) (Or.inl ⟨by kernel_rfl, ?_⟩) hHeld ?_
  rotate_left
  · intro w hSw; (try dsimp only at hSw); go_simp; try with_reducible rfl
  try simp only [put_norm]
  refine takeH (i := 6) (d := some 27) (v := ?_) rfl rfl (by kernel_rfl) (by kernel_rfl) (by kernel_rfl) (fun _ _ _ h => h) (Or.inl ⟨by kernel_rfl, ?_⟩) hHeld ?_
  rotate_left
  · intro w hSw; (try dsimp only at hSw); go_simp; try with_reducible rfl
  try simp only [put_norm]
  refine takeH (i := 7) (d := some 28) (v := ?_) rfl rfl (by kernel_rfl) (by kernel_rfl) (by kernel_rfl) (fun _ _ _ h => h) (Or.inl ⟨by kernel_rfl, ?_⟩) hHeld ?_
  rotate_left
  · intro w hSw; (try dsimp only at hSw); go_simp; try with_reducible rfl
  try simp only [put_norm]
  refine takeH (i := 8) (d := some 29) (v := ?_) rfl rfl (by kernel_rfl) (by kernel_rfl) (by kernel_rfl) (fun _ _ _ h => h) (Or.inl ⟨by kernel_rfl, ?_⟩) hHeld ?_
  rotate_left
  · intro w hSw; (try dsimp only at hSw); go_simp; try with_reducible rfl
  try simp only [put_norm]
  refine takeH (i := 9) (d := some 30) (v := ?_) rfl rfl (by kernel_rfl) (by kernel_rfl) (by kernel_rfl) (fun _ _ _ h => h) (Or.inl ⟨by kernel_rfl, ?_⟩) hHeld ?_
  rotate_left
  · intro w hSw; (try dsimp only at hSw); go_simp; try with_reducible rfl
  try simp only [put_norm]
  refine takeH (i := 10) (d := some 31) (v := ?_) rfl rfl (by kernel_rfl) (by kernel_rfl) (by kernel_rfl) (fun _ _ _ h => h) (Or.inl ⟨by kernel_rfl, ?_⟩) hHeld ?_
  rotate_left
  · intro w hSw; (try dsimp only at hSw); go_simp; try with_reducible rfl
  try simp only [put_norm]
  refine takeH (i := 11) (d := some 32) (v := ?_) rfl rfl (by kernel_rfl) (by kernel_rfl) (by kernel_rfl) (fun _ _ _ h => h) (Or.inl ⟨by kernel_rfl, ?_⟩) hHeld ?_
  rotate_left
  · intro w hSw; (try dsimp only at hSw); go_simp; try with_reducible rfl
  try simp only [put_norm]
  refine takeH (i := 12) (d := some 33) (v := ?_) rfl rfl (by kernel_rfl) (by kernel_rfl) (by kernel_rfl) (fun _ _ _ h => h) (Or.inl ⟨by kernel_rfl, ?_⟩) hHeld ?_
  rotate_left
  · intro w hSw; (try dsimp only at hSw); go_simp; try with_reducible rfl
  try simp only [put_norm]
  refine takeH (i := 14) (d := some 35) (v := ?_) rfl rfl (by kernel_rfl) (by kernel_rfl) (by kernel_rfl) (fun _ _ _ h => h) (Or.inl ⟨by kernel_rfl, ?_⟩) hHeld ?_
  rotate_left
  · intro w hSw; (try dsimp only at hSw); go_simp; try with_reducible rfl
  try simp only [put_norm]
  refine wpAnyH_ready (rs := [13]) (by kernel_rfl) (by simp) ?_
  refine AllReadyH.cons rfl (fun K hK => ?_) AllReadyH.nil
  go_simp
  refine (ref_b n t rs As _ _ _ _ _ w5 (HK.out _ HB5.out) HS.out).mono ?_
  rintro e w6 ⟨ur, u0, u1, u2, u3, rfl, hb6, hku⟩
  have HB6 : Hid (Below W1.heap.size W1 w6) := Lib.hid (HB5.out.trans (hb6.mono HB5.out.size))
  have HKU := Lib.hid hku
  refine hK.out _ _ ?_ (fun hHeld => ?_)
  · exact HX.out w6 HB6.out
  clear hb6 hku
  clear hK K
  refine wpAnyH_ready (rs := [15]) (by kernel_rfl) (by simp) ?_
  refine AllReadyH.cons rfl (fun K hK => ?_) AllReadyH.nil
  go_simp
  refine (ref_b n t rs As _ _ _ _ _ w6 (HA.out _ (HB01.out.trans (HB6.out.mono HB01.out.size))) HS.out).mono ?_
  rintro e w7 ⟨yr, y0, y1, y2, y3, rfl, hb7, hky⟩
  have HB7 : Hid (Below W1.heap.size W1 w7) := Lib.hid (HB6.out.trans (hb7.mono HB6.out.size))
  have HKU7 := Lib.hid (HKU.out.keep hb7)
  have HKY := Lib.hid hky
  refine hK.out _ _ ?_ (fun hHeld => ?_)
  · exact HX.out w7 HB7.out
  clear hb7 hky
  clear hK K
  refine wpAnyH_ready (rs := [16]) (by kernel_rfl) (by simp) ?_
  refine AllReadyH.cons rfl (fun K hK => ?_) AllReadyH.nil
  go_simp
  refine (alike_b n t rs As _ _ _ _ _ _ _ _ _ _ w7 HKU7.out HKY.out HS.out).mono ?_
  rintro e w8 ⟨rfl, hb8⟩
  have HB8 : Hid (Below W1.heap.size W1 w8) := Lib.hid (HB7.out.trans (hb8.mono HB7.out.size))
  refine hK.out _ _ ?_ (fun hHeld => ?_)
  · exact HX.out w8 HB8.out
  clear hb8
  clear hK K
  refine takeH (i := 17) (d := some 38) (v := ?_) rfl rfl (by kernel_rfl) (by kernel_rfl) (by kernel_rfl) (fun _ _ _ h => h) (Or.inl ⟨by kernel_rfl, ?_⟩) hHeld ?_
  rotate_left
  · intro w hSw; (try dsimp only at hSw); go_simp; try with_reducible rfl
  try simp only [put_norm]
  refine takeH (i := 18) (d := some 2) (v := ?_) rfl rfl (by kernel_rfl) (by kernel_rfl) (by kernel_rfl) (fun _ _ _ h => h) (Or.inl ⟨by kernel_rfl, ?_⟩) hHeld ?_
  rotate_left
  · intro w hSw; (try dsimp only at hSw); go_simp; try with_reducible rfl
  try simp only [put_norm]
  refine wpAnyH_done (by kernel_rfl) ?_ _
  go_wp2_with fail
  go_ret
  exact ⟨rfl, by have h1 := HBW.out; have h2 := HB01.out.trans (HB8.out.mono HB01.out.size); have h3 := h1.trans (h2.mono (by have := h1.size; have := HB1.out; omega)); rw [HB1.out]; exact h3⟩
end Go.Proofs.Ytehbjfjhalpgaaa
