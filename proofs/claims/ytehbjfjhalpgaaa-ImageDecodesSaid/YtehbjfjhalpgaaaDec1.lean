/-
  The law's walk: every Decode.
-/
import Derived.Test.YtehbjfjhalpgaaaRows
import Derived.Test.YtehbjfjhalpgaaaEnc5
import Derived.Test.YtehbjfjhalpgaaaEnc6
namespace Go.Proofs.Ytehbjfjhalpgaaa
open Go.RowKit

/-- The book and the fault of what Decode answers. -/
def decB (r : Except Nat Bk) : Bk × Nat := match r with | .ok b => (b, 0) | .error c => (⟨0, ⟨#[]⟩, [], [[], [], [], []]⟩, c)
/-- A book's slices in memory. -/
structure BkAt (w : World) (p : Nat → Prop) (vr v0 v1 v2 v3 : Value) (rs : List Rp) (As : List (List St)) : Prop where
  reps : RepsAt w vr rs
  len : As.length = 4
  secs : SecP w p [v0, v1, v2, v3] As
theorem RepsAt.kept {w w' : World} {v : Value} {rs : List Rp} (h : RepsAt w v rs) (hk : Below w.heap.size w w') : RepsAt w' v rs := by
  obtain ⟨A, cap, hv, hA⟩ := h
  refine ⟨A, cap, hv, ?_⟩
  rcases hA with hA | ⟨g, o, hA, hg, hcs⟩
  · exact .inl hA
  · exact .inr ⟨g, o, hA, Nat.lt_of_lt_of_le hg hk.size, fun k h => ⟨(hk.cell (p := ⟨g, _, none⟩) hg).trans (hcs k h).1, (hk.cell (p := ⟨g, _, none⟩) hg).trans (hcs k h).2⟩⟩
theorem SecP.keep {w w' : World} {p : Nat → Prop} {vs : List Value} {As : List (List St)} (h : SecP w p vs As) (hk : Below w.heap.size w w') : SecP w' p vs As := fun j hj => (h j hj).kept (Kept.of_below (E := []) hk) (by simp)
theorem SecP.mono' {w : World} {p q : Nat → Prop} {vs : List Value} {As : List (List St)} (h : SecP w p vs As) (hq : ∀ k, p k → q k) : SecP w q vs As := fun j hj => (h j hj).mono hq
theorem BkAt.keep {w w' : World} {p : Nat → Prop} {vr v0 v1 v2 v3 : Value} {rs : List Rp} {As : List (List St)} (h : BkAt w p vr v0 v1 v2 v3 rs As) (hk : Below w.heap.size w w') : BkAt w' p vr v0 v1 v2 v3 rs As :=
  ⟨h.reps.kept hk, h.len, h.secs.keep hk⟩
theorem BkAt.any {w : World} {p : Nat → Prop} {vr v0 v1 v2 v3 : Value} {rs : List Rp} {As : List (List St)} (h : BkAt w p vr v0 v1 v2 v3 rs As) : BkAt w (fun _ => True) vr v0 v1 v2 v3 rs As :=
  ⟨h.reps, h.len, h.secs.mono' (fun _ _ => trivial)⟩
/-- Each of its values is a slice. -/
theorem BkAt.form {w : World} {p : Nat → Prop} {vr v0 v1 v2 v3 : Value} {rs : List Rp} {As : List (List St)} (h : BkAt w p vr v0 v1 v2 v3 rs As) :
    ∃ X k X0 n0 k0 X1 n1 k1 X2 n2 k2 X3 n3 k3, vr = .slice X rs.length k ∧ v0 = .slice X0 n0 k0 ∧ v1 = .slice X1 n1 k1 ∧ v2 = .slice X2 n2 k2 ∧ v3 = .slice X3 n3 k3 := by
  obtain ⟨X, k, hvr, _⟩ := h.reps
  have hl := h.len
  obtain ⟨X0, k0, h0, _⟩ := h.secs 0 (by omega)
  obtain ⟨X1, k1, h1, _⟩ := h.secs 1 (by omega)
  obtain ⟨X2, k2, h2, _⟩ := h.secs 2 (by omega)
  obtain ⟨X3, k3, h3, _⟩ := h.secs 3 (by omega)
  exact ⟨_, _, _, _, _, _, _, _, _, _, _, _, _, _, hvr, h0, h1, h2, h3⟩
theorem zero_at (w : World) : BkAt w (fun _ => True) (.slice none 0 0) (.slice none 0 0) (.slice none 0 0) (.slice none 0 0) (.slice none 0 0) [] [[], [], [], []] := by
  refine ⟨⟨none, 0, rfl, .inl rfl⟩, rfl, fun j hj => ?_⟩
  have h0 : AutAt w (fun _ => True) (.slice none 0 0) [] := ⟨none, 0, rfl, by unfold maxLen; exact ⟨Nat.le_refl _, by omega⟩, .inl rfl⟩
  rcases j with _ | _ | _ | _ | j
  · exact h0
  · exact h0
  · exact h0
  · exact h0
  · simp at hj; omega
/-- What is bounded so is copied and compared. -/
def Small (rs : List Rp) (As : List (List St)) : Prop := rs.length ≤ 1099511627776 ∧ ∀ A ∈ As, A.length ≤ 1099511627776 ∧ ∀ x ∈ A, x.2.length ≤ 1099511627776

theorem Decode_b (s : ByteArray) (w : World) (hs : s.size ≤ 140737488355327) :
    Calls Try.prog 15 #[.string s] w fun e w' => ∃ vr v0 v1 v2 v3, e = .returned (.tuple #[.agg #[.int .i64 ((decB (decR s)).1.least : Int), .string (decB (decR s)).1.tryT, vr, v0, v1, v2, v3], .int .i64 ((decB (decR s)).2 : Int)]) ∧
      Below w.heap.size w w' ∧ BkAt w' (fun _ => True) vr v0 v1 v2 v3 (decB (decR s)).1.reps (decB (decR s)).1.secs := by
  refine (Decode_any s w hs).mono ?_
  intro e w' h
  cases hr : decR s with
  | error c =>
    rw [hr] at h
    obtain ⟨he, hb⟩ := h
    exact ⟨_, _, _, _, _, he, hb, zero_at w'⟩
  | ok b =>
    rw [hr] at h
    obtain ⟨vr, v0, v1, v2, v3, he, hb, h1, h2, h3⟩ := h
    exact ⟨vr, v0, v1, v2, v3, he, hb, h1, h2, h3.mono' (fun _ _ => trivial)⟩
theorem rDecode_b (s : ByteArray) (w : World) (hs : s.size ≤ 140737488355327) :
    Calls Try.prog 16 #[.string s] w fun e w' => ∃ vr v0 v1 v2 v3, e = .returned (.tuple #[.agg #[.int .i64 ((decB (decR s)).1.least : Int), .string (decB (decR s)).1.tryT, vr, v0, v1, v2, v3], .int .i64 ((decB (decR s)).2 : Int)]) ∧
      Below w.heap.size w w' ∧ BkAt w' (fun _ => True) vr v0 v1 v2 v3 (decB (decR s)).1.reps (decB (decR s)).1.secs := by
  refine (rDecode_any s w hs).mono ?_
  intro e w' h
  cases hr : decR s with
  | error c =>
    rw [hr] at h
    obtain ⟨he, hb⟩ := h
    exact ⟨_, _, _, _, _, he, hb, zero_at w'⟩
  | ok b =>
    rw [hr] at h
    obtain ⟨vr, v0, v1, v2, v3, he, hb, h1, h2, h3⟩ := h
    exact ⟨vr, v0, v1, v2, v3, he, hb, h1, h2, h3.mono' (fun _ _ => trivial)⟩
theorem decB_small (s : ByteArray) : Small (decB (decR s)).1.reps (decB (decR s)).1.secs := by
  cases hr : decR s with
  | error c =>
    refine ⟨Nat.zero_le _, fun A hA => ?_⟩
    have : A = [] := by simpa [decB] using hA
    subst this
    exact ⟨Nat.zero_le _, fun x hx => by cases hx⟩
  | ok b =>
    obtain ⟨h1, h2, h3, h4⟩ := decR_bounds hr
    refine ⟨Nat.le_trans h1 (by omega), fun A hA => ?_⟩
    have := h4 A hA
    exact ⟨Nat.le_trans this.2.1 (by omega), fun x hx => Nat.le_trans (this.2.2 x hx) (by omega)⟩
/-- ref of a book, alike of two readings of a book: in these words. -/
theorem ref_b (n : Int) (t : ByteArray) (rs : List Rp) (As : List (List St)) (vr v0 v1 v2 v3 : Value) (w : World) (h : BkAt w (fun _ => True) vr v0 v1 v2 v3 rs As) (hs : Small rs As) :
    Calls Try.prog 12 #[.agg #[.int .i64 n, .string t, vr, v0, v1, v2, v3]] w fun e w' => ∃ ur u0 u1 u2 u3, e = .returned (.agg #[.int .i64 n, .string t, ur, u0, u1, u2, u3]) ∧ Below w.heap.size w w' ∧ BkAt w' (fun _ => True) ur u0 u1 u2 u3 rs As := by
  refine (ref_any n t rs As vr v0 v1 v2 v3 w h.reps h.len h.secs hs.1 hs.2).mono ?_
  rintro e w' ⟨ur, u0, u1, u2, u3, he, hb, h1, h2⟩
  exact ⟨ur, u0, u1, u2, u3, he, hb, h1, h.len, h2.mono' (fun _ _ => trivial)⟩
theorem alike_b (n : Int) (t : ByteArray) (rs : List Rp) (As : List (List St)) (vr v0 v1 v2 v3 ur u0 u1 u2 u3 : Value) (w : World) (h : BkAt w (fun _ => True) vr v0 v1 v2 v3 rs As) (k : BkAt w (fun _ => True) ur u0 u1 u2 u3 rs As) (hs : Small rs As) :
    Calls Try.prog 14 #[.agg #[.int .i64 n, .string t, vr, v0, v1, v2, v3], .agg #[.int .i64 n, .string t, ur, u0, u1, u2, u3]] w fun e w' => e = .returned (.bool true) ∧ Below w.heap.size w w' :=
  alike_same n t rs As vr v0 v1 v2 v3 ur u0 u1 u2 u3 w h.reps k.reps h.len h.secs k.secs hs.1 hs.2

set_option maxHeartbeats 8000000 in
set_option maxRecDepth 100000 in
theorem decodes_walk (s : ByteArray) (w : World) (hs : s.size ≤ 140737488355327) :
    Calls Try.prog 4 #[.string s] w fun e w' => e = .returned (.bool true) ∧ Below w.heap.size w w' := by
  have hD := fun W => Decode_b s W hs
  have hR := fun W => rDecode_b s W hs
  have hsm := decB_small s
  obtain ⟨⟨⟨n, t, rs, As⟩, c⟩, hb⟩ : ∃ b, decB (decR s) = b := ⟨_, rfl⟩
  rw [hb] at hD hR hsm
  dsimp only at hD hR hsm
  have HD := Lib.hid hD
  have HR := Lib.hid hR
  have HS := Lib.hid hsm
  clear hb hD hR hsm
  go_enter Try.func4, Try.ntmps4
  go_wp2_with fail
  refine (HD.out w).mono ?_
  rintro e w1 ⟨vr, v0, v1, v2, v3, rfl, hb1, hk1⟩
  obtain ⟨X, k, X0, n0, k0, X1, n1, k1, X2, n2, k2, X3, n3, k3, rfl, rfl, rfl, rfl, rfl⟩ := hk1.form
  have HB1 := Lib.hid hb1
  have HK1 := Lib.hid hk1
  clear hb1 hk1
  go_wp2_with fail
  refine (HR.out _).mono ?_
  rintro e w2 ⟨vr, v0, v1, v2, v3, rfl, hb2, hk2⟩
  obtain ⟨Y, l, Y0, m0, l0, Y1, m1, l1, Y2, m2, l2, Y3, m3, l3, rfl, rfl, rfl, rfl, rfl⟩ := hk2.form
  obtain ⟨W1, hW1⟩ : ∃ W, w1.alloc (.cells #[.int .i64 n, .string t, .slice X rs.length k, .slice X0 n0 k0, .slice X1 n1 k1, .slice X2 n2 k2, .slice X3 n3 k3] 26) = W := ⟨_, rfl⟩
  rw [hW1] at hb2
  obtain ⟨W2, hW2⟩ : ∃ W, w2.alloc (.cells #[.int .i64 n, .string t, .slice Y rs.length l, .slice Y0 m0 l0, .slice Y1 m1 l1, .slice Y2 m2 l2, .slice Y3 m3 l3] 37) = W := ⟨_, rfl⟩
  have hbx : W1.heap[w1.heap.size]? = some (.cells #[.int .i64 n, .string t, .slice X rs.length k, .slice X0 n0 k0, .slice X1 n1 k1, .slice X2 n2 k2, .slice X3 n3 k3] 26 (0, 0)) := by rw [← hW1]; exact heap_alloc_new w1 _
  have hbr : W2.heap[w2.heap.size]? = some (.cells #[.int .i64 n, .string t, .slice Y rs.length l, .slice Y0 m0 l0, .slice Y1 m1 l1, .slice Y2 m2 l2, .slice Y3 m3 l3] 37 (0, 0)) := by rw [← hW2]; exact heap_alloc_new w2 _
  have hb12 : Below w1.heap.size w1 W1 := by rw [← hW1]; exact (Below.refl _ _).alloc (Nat.le_refl _) _
  have hb22 : Below w2.heap.size w2 W2 := by rw [← hW2]; exact (Below.refl _ _).alloc (Nat.le_refl _) _
  have hbx2 : W2.heap[w1.heap.size]? = some (.cells #[.int .i64 n, .string t, .slice X rs.length k, .slice X0 n0 k0, .slice X1 n1 k1, .slice X2 n2 k2, .slice X3 n3 k3] 26 (0, 0)) := by
    rw [hb22.block _ (Nat.lt_of_lt_of_le (block_lt hbx) hb2.size), hb2.block _ (block_lt hbx)]
    exact hbx
  have HBW : Hid (Below w.heap.size w W2) := Lib.hid (((HB1.out.trans (hb12.mono HB1.out.size)).trans (hb2.mono (Nat.le_trans HB1.out.size hb12.size))).trans (hb22.mono (by have := HB1.out.size; have := hb12.size; have := hb2.size; omega)))
  have HKA : Hid (∀ W', Below W2.heap.size W2 W' → BkAt W' (fun _ => True) (.slice X rs.length k) (.slice X0 n0 k0) (.slice X1 n1 k1) (.slice X2 n2 k2) (.slice X3 n3 k3) rs As) := Lib.hid (fun W' hB => (((HK1.out.keep hb12).keep hb2).keep hb22).keep hB)
  have HKR : Hid (∀ W', Below W2.heap.size W2 W' → BkAt W' (fun _ => True) (.slice Y rs.length l) (.slice Y0 m0 l0) (.slice Y1 m1 l1) (.slice Y2 m2 l2) (.slice Y3 m3 l3) rs As) := Lib.hid (fun W' hB => (hk2.keep hb22).keep hB)
  have HX : Hid (∀ W', Below W2.heap.size W2 W' → (W'.cell? ⟨w1.heap.size, 0, none⟩ = some (.int .i64 n) ∧ W'.cell? ⟨w1.heap.size, 1, none⟩ = some (.string t) ∧ W'.cell? ⟨w1.heap.size, 2, none⟩ = some (.slice X rs.length k) ∧ W'.cell? ⟨w1.heap.size, 3, none⟩ = some (.slice X0 n0 k0) ∧ W'.cell? ⟨w1.heap.size, 4, none⟩ = some (.slice X1 n1 k1) ∧ W'.cell? ⟨w1.heap.size, 5, none⟩ = some (.slice X2 n2 k2) ∧ W'.cell? ⟨w1.heap.size, 6, none⟩ = some (.slice X3 n3 k3)) ∧ (W'.cell? ⟨w2.heap.size, 0, none⟩ = some (.int .i64 n) ∧ W'.cell? ⟨w2.heap.size, 1, none⟩ = some (.string t) ∧ W'.cell? ⟨w2.heap.size, 2, none⟩ = some (.slice Y rs.length l) ∧ W'.cell? ⟨w2.heap.size, 3, none⟩ = some (.slice Y0 m0 l0) ∧ W'.cell? ⟨w2.heap.size, 4, none⟩ = some (.slice Y1 m1 l1) ∧ W'.cell? ⟨w2.heap.size, 5, none⟩ = some (.slice Y2 m2 l2) ∧ W'.cell? ⟨w2.heap.size, 6, none⟩ = some (.slice Y3 m3 l3))) := Lib.hid (fun W' hB => by
    have hx : W'.heap[w1.heap.size]? = _ := (hB.block _ (block_lt hbx2)).trans hbx2
    have hy : W'.heap[w2.heap.size]? = _ := (hB.block _ (block_lt hbr)).trans hbr
    refine ⟨⟨?_, ?_, ?_, ?_, ?_, ?_, ?_⟩, ?_, ?_, ?_, ?_, ?_, ?_, ?_⟩
    all_goals first | (rw [Lib.cell_of_heap hx]; rfl) | (rw [Lib.cell_of_heap hy]; rfl))
  have HW1 := Lib.hid hW1
  have HW2 := Lib.hid hW2
  clear hb2 hk2 hbx hbr hb12 hb22 hbx2 hW1 hW2
  go_wp2_with fail
  rw [HW2.out]
  refine wp_region_held_drew (S := fun W' => (W'.cell? ⟨w1.heap.size, 0, none⟩ = some (.int .i64 n) ∧ W'.cell? ⟨w1.heap.size, 1, none⟩ = some (.string t) ∧ W'.cell? ⟨w1.heap.size, 2, none⟩ = some (.slice X rs.length k) ∧ W'.cell? ⟨w1.heap.size, 3, none⟩ = some (.slice X0 n0 k0) ∧ W'.cell? ⟨w1.heap.size, 4, none⟩ = some (.slice X1 n1 k1) ∧ W'.cell? ⟨w1.heap.size, 5, none⟩ = some (.slice X2 n2 k2) ∧ W'.cell? ⟨w1.heap.size, 6, none⟩ = some (.slice X3 n3 k3)) ∧ (W'.cell? ⟨w2.heap.size, 0, none⟩ = some (.int .i64 n) ∧ W'.cell? ⟨w2.heap.size, 1, none⟩ = some (.string t) ∧ W'.cell? ⟨w2.heap.size, 2, none⟩ = some (.slice Y rs.length l) ∧ W'.cell? ⟨w2.heap.size, 3, none⟩ = some (.slice Y0 m0 l0) ∧ W'.cell? ⟨w2.heap.size, 4, none⟩ = some (.slice Y1 m1 l1) ∧ W'.cell? ⟨w2.heap.size, 5, none⟩ = some (.slice Y2 m2 l2) ∧ W'.cell? ⟨w2.heap.size, 6, none⟩ = some (.slice Y3 m3 l3))) (by kernel_rfl) ?_ (fun hHeld => ?_)
  · exact HX.out _ (Below.refl _ _).drew
  refine wpAnyH_ready (rs := [0]) (by kernel_rfl) (by simp) ?_
  refine AllReadyH.cons rfl (fun K hK => ?_) AllReadyH.nil
  go_simp
  refine (wakes_any _).mono ?_
  rintro e w4 ⟨rfl, hb4⟩
  have HB4 : Hid (Below W2.heap.size W2 w4) := Lib.hid ((Below.refl _ _).drew.trans hb4)
  refine hK.out _ _ ?_ (fun hHeld => ?_)
  · exact HX.out w4 HB4.out
  clear hb4
  clear hK K
  refine takeH (i := 1) (d := some 18) (v := ?_) rfl rfl (by kernel_rfl) (by kernel_rfl) (by kernel_rfl) (fun _ _ _ h => h) (Or.inl ⟨by kernel_rfl, ?_⟩) hHeld ?_
  rotate_left
  · intro w hSw; (try dsimp only at hSw); go_simp; try with_reducible rfl
  try simp only [Act.put, List.setIfInBounds_toArray, List.set_cons_zero, List.set_cons_succ]
  refine takeH (i := 2) (d := some 19) (v := ?_) rfl rfl (by kernel_rfl) (by kernel_rfl) (by kernel_rfl) (fun _ _ _ h => h) (Or.inl ⟨by kernel_rfl, ?_⟩) hHeld ?_
  rotate_left
  · intro w hSw; (try dsimp only at hSw); go_simp; try with_reducible rfl
  try simp only [Act.put, List.setIfInBounds_toArray, List.set_cons_zero, List.set_cons_succ]
  refine takeH (i := 3) (d := some 20) (v := ?_) rfl rfl (by kernel_rfl) (by kernel_rfl) (by kernel_rfl) (fun _ _ _ h => h) (Or.inl ⟨by kernel_rfl, ?_⟩) hHeld ?_
  rotate_left
  · intro w hSw; (try dsimp only at hSw); go_simp; try with_reducible rfl
  try simp only [Act.put, List.setIfInBounds_toArray, List.set_cons_zero, List.set_cons_succ]
  refine takeH (i := 4) (d := some 21) (v := ?_) rfl rfl (by kernel_rfl) (by kernel_rfl) (by kernel_rfl) (fun _ _ _ h => h) (Or.inl ⟨by kernel_rfl, ?_⟩) hHeld ?_
  rotate_left
  · intro w hSw; (try dsimp only at hSw); go_simp; try with_reducible rfl
  try simp only [Act.put, List.setIfInBounds_toArray, List.set_cons_zero, List.set_cons_succ]
  refine takeH (i := 5) (d := some 22) (v := ?_) rfl rfl (by kernel_rfl) (by kernel_rfl) (by kernel_rfl) (fun _ _ _ h => h) (Or.inl ⟨by kernel_rfl, ?_⟩) hHeld ?_
  rotate_left
  · intro w hSw; (try dsimp only at hSw); go_simp; try with_reducible rfl
  try simp only [Act.put, List.setIfInBounds_toArray, List.set_cons_zero, List.set_cons_succ]
  refine takeH (i := 6) (d := some 23) (v := ?_) rfl rfl (by kernel_rfl) (by kernel_rfl) (by kernel_rfl) (fun _ _ _ h => h) (Or.inl ⟨by kernel_rfl, ?_⟩) hHeld ?_
  rotate_left
  · intro w hSw; (try dsimp only at hSw); go_simp; try with_reducible rfl
  try simp only [Act.put, List.setIfInBounds_toArray, List.set_cons_zero, List.set_cons_succ]
  refine takeH (i := 7) (d := some 24) (v := ?_) rfl rfl (by kernel_rfl) (by kernel_rfl) (by kernel_rfl) (fun _ _ _ h => h) (Or.inl ⟨by kernel_rfl, ?_⟩) hHeld ?_
  rotate_left
  · intro w hSw; (try dsimp only at hSw); go_simp; try with_reducible rfl
  try simp only [Act.put, List.setIfInBounds_toArray, List.set_cons_zero, List.set_cons_succ]
  refine takeH (i := 9) (d := some 26) (v := ?_) rfl rfl (by kernel_rfl) (by kernel_rfl) (by kernel_rfl) (fun _ _ _ h => h) (Or.inl ⟨by kernel_rfl, ?_⟩) hHeld ?_
  rotate_left
  · intro w hSw; (try dsimp only at hSw); go_simp; try with_reducible rfl
  try simp only [Act.put, List.setIfInBounds_toArray, List.set_cons_zero, List.set_cons_succ]
  refine wpAnyH_ready (rs := [8]) (by kernel_rfl) (by simp) ?_
  refine AllReadyH.cons rfl (fun K hK => ?_) AllReadyH.nil
  go_simp
  refine (ref_b _ _ rs As _ _ _ _ _ w4 (HKA.out _ HB4.out) HS.out).mono ?_
  rintro e w5 ⟨ur, u0, u1, u2, u3, rfl, hb5, hku⟩
  have HB5 : Hid (Below W2.heap.size W2 w5) := Lib.hid (HB4.out.trans (hb5.mono HB4.out.size))
  have HKU := Lib.hid hku
  refine hK.out _ _ ?_ (fun hHeld => ?_)
  · exact HX.out w5 HB5.out
  clear hb5 hku
  clear hK K
  refine wpAnyH_ready (rs := [10]) (by kernel_rfl) (by simp) ?_
  refine AllReadyH.cons rfl (fun K hK => ?_) AllReadyH.nil
  go_simp
  refine (alike_b _ _ rs As _ _ _ _ _ _ _ _ _ _ w5 HKU.out (HKR.out _ HB5.out) HS.out).mono ?_
  rintro e w6 ⟨rfl, hb6⟩
  have HB6 : Hid (Below W2.heap.size W2 w6) := Lib.hid (HB5.out.trans (hb6.mono HB5.out.size))
  refine hK.out _ _ ?_ (fun hHeld => ?_)
  · exact HX.out w6 HB6.out
  clear hb6
  clear hK K
  refine takeH (i := 11) (d := some 28) (v := ?_) rfl rfl (by kernel_rfl) (by kernel_rfl) (by kernel_rfl) (fun _ _ _ h => h) (Or.inl ⟨by kernel_rfl, ?_⟩) hHeld ?_
  rotate_left
  · intro w hSw; (try dsimp only at hSw); go_simp; try with_reducible rfl
  try simp only [Act.put, List.setIfInBounds_toArray, List.set_cons_zero, List.set_cons_succ]
  refine takeH (i := 12) (d := some 2) (v := ?_) rfl rfl (by kernel_rfl) (by kernel_rfl) (by kernel_rfl) (fun _ _ _ h => h) (Or.inl ⟨by kernel_rfl, ?_⟩) hHeld ?_
  rotate_left
  · intro w hSw; (try dsimp only at hSw); go_simp; try with_reducible rfl
  try simp only [Act.put, List.setIfInBounds_toArray, List.set_cons_zero, List.set_cons_succ]
  refine wpAnyH_done (by kernel_rfl) ?_ _
  go_wp2_with fail
  go_ret
  exact ⟨rfl, HBW.out.trans (HB6.out.mono HBW.out.size)⟩
end Go.Proofs.Ytehbjfjhalpgaaa
