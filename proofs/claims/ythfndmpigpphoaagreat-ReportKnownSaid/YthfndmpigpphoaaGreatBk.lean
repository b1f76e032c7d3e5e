/-
  What Decode answers on both sides, in one form for bytes that are taken and for bytes that are not.
-/
import Derived.Test.YthfndmpigpphoaaGreatRows
import Derived.Test.YthfndmpigpphoaaGreatKG
import Derived.Test.YthfndmpigpphoaaGreatKH
namespace Go.Proofs.YthfndmpigpphoaaGreat
open Go.RowKit

/-- The book and the fault of what Decode answers. -/
def decB (r : Except Nat Bk) : Bk × Nat := match r with | .ok b => (b, 0) | .error c => (⟨0, ⟨#[]⟩, [], [[], [], [], []]⟩, c)
/-- A book's slices in memory. -/
structure BkAt (w : World) (p : Nat → Prop) (vr v0 v1 v2 v3 : Value) (rs : List Rp) (As : List (List St)) : Prop where
  reps : RepsAt w vr rs
  len : As.length = 4
  secs : SecP w p [v0, v1, v2, v3] As
theorem RepsAt.kept {w w' : World} {v : Value} {rs : List Rp} (h : RepsAt w v rs) (hk : Below w.heap.size w w') : RepsAt w' v rs := by
  obtain ⟨A, cap, hv, hA⟩ := h
  refine ⟨A, cap, hv, ?_⟩
  rcases hA with hA | ⟨g, o, hA, hg, hcs⟩
  · exact .inl hA
  · exact .inr ⟨g, o, hA, Nat.lt_of_lt_of_le hg hk.size, fun k h => ⟨(hk.cell (p := ⟨g, _, none⟩) hg).trans (hcs k h).1, (hk.cell (p := ⟨g, _, none⟩) hg).trans (hcs k h).2⟩⟩
theorem SecP.keep {w w' : World} {p : Nat → Prop} {vs : List Value} {As : List (List St)} (h : SecP w p vs As) (hk : Below w.heap.size w w') : SecP w' p vs As := fun j hj => (h j hj).kept (Kept.of_below (E := []) hk) (by simp)
theorem SecP.mono' {w : World} {p q : Nat → Prop} {vs : List Value} {As : List (List St)} (h : SecP w p vs As) (hq : ∀ k, p k → q k) : SecP w q vs As := fun j hj => (h j hj).mono hq
theorem BkAt.keep {w w' : World} {p : Nat → Prop} {vr v0 v1 v2 v3 : Value} {rs : List Rp} {As : List (List St)} (h : BkAt w p vr v0 v1 v2 v3 rs As) (hk : Below w.heap.size w w') : BkAt w' p vr v0 v1 v2 v3 rs As :=
  ⟨h.reps.kept hk, h.len, h.secs.keep hk⟩
theorem BkAt.any {w : World} {p : Nat → Prop} {vr v0 v1 v2 v3 : Value} {rs : List Rp} {As : List (List St)} (h : BkAt w p vr v0 v1 v2 v3 rs As) : BkAt w (fun _ => True) vr v0 v1 v2 v3 rs As :=
  ⟨h.reps, h.len, h.secs.mono' (fun _ _ => trivial)⟩
/-- Each of its values is a slice. -/
theorem BkAt.form {w : World} {p : Nat → Prop} {vr v0 v1 v2 v3 : Value} {rs : List Rp} {As : List (List St)} (h : BkAt w p vr v0 v1 v2 v3 rs As) :
    ∃ X k X0 n0 k0 X1 n1 k1 X2 n2 k2 X3 n3 k3, vr = .slice X rs.length k ∧ v0 = .slice X0 n0 k0 ∧ v1 = .slice X1 n1 k1 ∧ v2 = .slice X2 n2 k2 ∧ v3 = .slice X3 n3 k3 := by
  obtain ⟨X, k, hvr, _⟩ := h.reps
  have hl := h.len
  obtain ⟨X0, k0, h0, _⟩ := h.secs 0 (by omega)
  obtain ⟨X1, k1, h1, _⟩ := h.secs 1 (by omega)
  obtain ⟨X2, k2, h2, _⟩ := h.secs 2 (by omega)
  obtain ⟨X3, k3, h3, _⟩ := h.secs 3 (by omega)
  exact ⟨_, _, _, _, _, _, _, _, _, _, _, _, _, _, hvr, h0, h1, h2, h3⟩
theorem zero_at (w : World) : BkAt w (fun _ => True) (.slice none 0 0) (.slice none 0 0) (.slice none 0 0) (.slice none 0 0) (.slice none 0 0) [] [[], [], [], []] := by
  refine ⟨⟨none, 0, rfl, .inl rfl⟩, rfl, fun j hj => ?_⟩
  have h0 : AutAt w (fun _ => True) (.slice none 0 0) [] := ⟨none, 0, rfl, by unfold maxLen; exact ⟨Nat.le_refl _, by omega⟩, .inl rfl⟩
  rcases j with _ | _ | _ | _ | j
  · exact h0
  · exact h0
  · exact h0
  · exact h0
  · simp at hj; omega
/-- What is bounded so is copied and compared. -/
def Small (rs : List Rp) (As : List (List St)) : Prop := rs.length ≤ 4398046510976 ∧ ∀ A ∈ As, A.length ≤ 4398046510976 ∧ ∀ x ∈ A, x.2.length ≤ 8796093021952

theorem Decode_b (s : ByteArray) (w : World) (hs : s.size ≤ 562949953421311) :
    Calls Tryz.prog 10 #[.string s] w fun e w' => ∃ vr v0 v1 v2 v3, e = .returned (.tuple #[.agg #[.int .i64 ((decB (decR s)).1.least : Int), .string (decB (decR s)).1.tryT, vr, v0, v1, v2, v3], .int .i64 ((decB (decR s)).2 : Int)]) ∧
      Below w.heap.size w w' ∧ BkAt w' (fun _ => True) vr v0 v1 v2 v3 (decB (decR s)).1.reps (decB (decR s)).1.secs := by
  refine (Decode_any s w hs).mono ?_
  intro e w' h
  cases hr : decR s with
  | error c =>
    rw [hr] at h
    obtain ⟨he, hb⟩ := h
    exact ⟨_, _, _, _, _, he, hb, zero_at w'⟩
  | ok b =>
    rw [hr] at h
    obtain ⟨vr, v0, v1, v2, v3, he, hb, h1, h2, h3⟩ := h
    exact ⟨vr, v0, v1, v2, v3, he, hb, reps_of_own h1, h2, h3.secP.mono' (fun _ _ => trivial)⟩
theorem rDecode_b (s : ByteArray) (w : World) (hs : s.size ≤ 140737488355327) :
    Calls Tryz.prog 6 #[.string s] w fun e w' => ∃ vr v0 v1 v2 v3, e = .returned (.tuple #[.agg #[.int .i64 ((decB (decR s)).1.least : Int), .string (decB (decR s)).1.tryT, vr, v0, v1, v2, v3], .int .i64 ((decB (decR s)).2 : Int)]) ∧
      Below w.heap.size w w' ∧ BkAt w' (fun _ => True) vr v0 v1 v2 v3 (decB (decR s)).1.reps (decB (decR s)).1.secs := by
  refine (rDecode_any s w hs).mono ?_
  intro e w' h
  cases hr : decR s with
  | error c =>
    rw [hr] at h
    obtain ⟨he, hb⟩ := h
    exact ⟨_, _, _, _, _, he, hb, zero_at w'⟩
  | ok b =>
    rw [hr] at h
    obtain ⟨vr, v0, v1, v2, v3, he, hb, h1, h2, h3⟩ := h
    exact ⟨vr, v0, v1, v2, v3, he, hb, h1, h2, h3.mono' (fun _ _ => trivial)⟩
theorem decB_small (s : ByteArray) : Small (decB (decR s)).1.reps (decB (decR s)).1.secs := by
  cases hr : decR s with
  | error c =>
    refine ⟨Nat.zero_le _, fun A hA => ?_⟩
    have : A = [] := by simpa [decB] using hA
    subst this
    exact ⟨Nat.zero_le _, fun x hx => by cases hx⟩
  | ok b =>
    obtain ⟨h1, h2, h3, h4⟩ := decR_bounds hr
    refine ⟨Nat.le_trans h1 (by omega), fun A hA => ?_⟩
    have := h4 A hA
    exact ⟨Nat.le_trans this.2.1 (by omega), fun x hx => Nat.le_trans (this.2.2 x hx) (by omega)⟩
end Go.Proofs.YthfndmpigpphoaaGreat
