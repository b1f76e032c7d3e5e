/-
  The reader: must.
  The reader: number.
  The reader: take and frame.
  The reader: take where there is too little.
  What a call keeps of the memory; the reader's number, take and frame once more, in these words.
  Regions that draw their order, walked by hand: an operation taken first, its slot written out.
  An automaton's one shape: the plain law, and the program's visit.
  An automaton's one shape: the program's Shape.
-/
import Derived.Test.YtehbjfjhalpgaaaRows
import Derived.Test.YtehbjfjhalpgaaaIB
import Derived.Deep.DrawnRows
import Derived.Deep.RegionHeld3
import Derived.Deep.OwnRows
namespace Go.Proofs.Ytehbjfjhalpgaaa
section
open Go.RowKit

set_option maxHeartbeats 400000 in
theorem must_true (r : Value) (e : Int) (w : World) :
    Calls Try.prog 39 #[r, .bool true, .int .i64 e] w fun e w' => e = .returned (.tuple #[]) ∧ w = w' := by
  go_enter Try.func39, Try.ntmps39
  go_wp2_with fail
  go_end0
  exact ⟨rfl, rfl⟩
set_option maxHeartbeats 400000 in
theorem must_false (r : Value) (n : Int) (w : World) :
    Calls Try.prog 39 #[r, .bool false, .int .i64 n] w fun e w' => e = .panicked [{ v := .iface 28 (.int .i64 n), recovered := false }] ∧ w = w' := by
  go_enter Try.func39, Try.ntmps39
  go_wp2_with fail
  exact ⟨rfl, rfl, rfl⟩
end

section
open Go.RowKit

/-- A reader at a place, in a block of its own. -/
def RdrAt (w : World) (b : Nat) (s : ByteArray) (a : Nat) : Prop := w.heap[b]? = some (.cells #[.string s, .int .i64 a] 86 (0, 0))
theorem RdrAt.cells {w : World} {b a : Nat} {s : ByteArray} (h : RdrAt w b s a) : w.cell? ⟨b, 0, none⟩ = some (.string s) ∧ w.cell? ⟨b, 1, none⟩ = some (.int .i64 a) ∧ w.frozen? ⟨b, 1, none⟩ = false :=
  ⟨by rw [Lib.cell_of_heap h]; rfl, by rw [Lib.cell_of_heap h]; rfl, Lib.frozen_of_heap h 1⟩

set_option maxHeartbeats 4000000 in
set_option maxRecDepth 100000 in
theorem readerNumber_any (b : Nat) (s : ByteArray) (a : Nat) (w : World) (hr : RdrAt w b s a) (hs : s.size ≤ 562949953421312) (ha : a ≤ 562949953421312) :
    Calls Try.prog 37 #[.pointer (some ⟨b, 0, none⟩)] w fun e w' =>
      if (rdU s.data.toList a).2.2 = 0 then e = .returned (.int .u64 ((rdU s.data.toList a).1 : Nat)) ∧ ∃ m, w' = (w.drewN m).setCell ⟨b, 1, none⟩ (.int .i64 ((rdU s.data.toList a).2.1 : Nat))
      else e = .panicked [{ v := .iface 28 (.int .i64 ((rdU s.data.toList a).2.2 : Nat)), recovered := false }] ∧ ∃ m, w' = w.drewN m := by
  obtain ⟨c0, c1, f1⟩ := hr.cells
  have hq : ∀ (x : Nat), Calls Try.prog 53 #[.string s, .int .i64 a] (w.drewN x) fun e w' => e = .returned (rdV (rdU s.data.toList a)) ∧ ∃ n, w' = w.drewN n := fun x => (ReadUint_any s a _ hs ha).mono fun _ _ ⟨he, hn⟩ => ⟨he, x, hn.symm⟩
  obtain ⟨⟨n, p, e⟩, hR⟩ : ∃ r, rdU s.data.toList a = r := ⟨_, rfl⟩
  rw [hR] at hq ⊢
  have HQ := Lib.hid hq
  clear hq hR hr
  dsimp only
  unfold rdV at HQ
  dsimp only at HQ
  by_cases he : e = 0
  · subst he
    simp only [↓reduceIte]
    go_enter Try.func37, Try.ntmps37
    go_wp2_with fail
    go_quiet (first | (go_at_call 53; exact HQ.out _))
    go_wp2_with fail
    refine (must_true _ _ _).mono ?_
    rintro e w' ⟨rfl, rfl⟩
    go_wp2_with fail
    go_ret
    exact ⟨rfl, _, rfl⟩
  · have hei : ((e : Int) == 0) = false := by rw [beq_eq_false_iff_ne]; omega
    simp only [he, ↓reduceIte]
    go_enter Try.func37, Try.ntmps37
    go_wp2_with fail
    go_quiet (first | (go_at_call 53; exact HQ.out _))
    go_wp2_with fail
    refine (must_false _ _ _).mono ?_
    rintro e' w' ⟨rfl, rfl⟩
    exact ⟨rfl, rfl, _, rfl⟩
end

section
open Go.RowKit

theorem RdrAt.put {w : World} {b a : Nat} {s : ByteArray} (h : RdrAt w b s a) (m p : Nat) : RdrAt ((w.drewN m).setCell ⟨b, 1, none⟩ (.int .i64 p)) b s p := by
  have h' : RdrAt (w.drewN m) b s a := h
  exact Go.heap_setCell_same (w.drewN m) b 1 _ _ _ h'

set_option maxHeartbeats 4000000 in
set_option maxRecDepth 100000 in
theorem take_ok (b : Nat) (s : ByteArray) (a n : Nat) (w : World) (hr : RdrAt w b s a) (hs : s.size ≤ 562949953421312) (hn : a + n ≤ s.size) :
    Calls Try.prog 54 #[.pointer (some ⟨b, 0, none⟩), .int .i64 n] w fun e w' =>
      e = .returned (.string (s.extract a (a + n))) ∧ ∃ m k, w' = ((w.drewN m).setCell ⟨b, 1, none⟩ (.int .i64 ((a : Int) + (n : Int)))).drewN k := by
  obtain ⟨c0, c1, f1⟩ := hr.cells
  have HD : Hid (∀ m, ((w.drewN m).setCell ⟨b, 1, none⟩ (.int .i64 ((a : Int) + (n : Int)))).cell? ⟨b, 0, none⟩ = some (.string s) ∧ ((w.drewN m).setCell ⟨b, 1, none⟩ (.int .i64 ((a : Int) + (n : Int)))).cell? ⟨b, 1, none⟩ = some (.int .i64 ((a : Int) + (n : Int)))) := Lib.hid (fun m => by
    have h := (hr.put m (a + n)).cells
    rw [Int.natCast_add] at h
    exact ⟨h.1, h.2.1⟩)
  have hle : (n : Int) ≤ (s.size : Int) - (a : Int) := by omega
  have hm : ∀ (x : Nat), Calls Try.prog 39 #[.pointer (some ⟨b, 0, none⟩), .bool true, .int .i64 60] (w.drewN x) fun e w' => e = .returned (.tuple #[]) ∧ ∃ n, w' = w.drewN n := fun x => (must_true _ _ _).mono fun _ _ ⟨he, hn⟩ => ⟨he, x, hn.symm⟩
  have HM := Lib.hid hm
  clear hm hr
  go_enter Try.func54, Try.ntmps54
  go_wp2_with fail
  go_quiet (first | (go_at_call 39; exact HM.out _))
  go_wp2_with fail
  obtain ⟨d0, d1⟩ := HD.out nq
  obtain ⟨W2, hW⟩ : ∃ W2, (w.drewN nq).setCell ⟨b, 1, none⟩ (.int .i64 ((a : Int) + (n : Int))) = W2 := ⟨_, rfl⟩
  rw [hW] at d0 d1 ⊢
  have HW := Lib.hid hW
  clear hW
  go_quiet (fail)
  go_wp2_with fail
  go_ret
  exact ⟨rfl, _, _, congrArg (World.drewN · _) HW.out.symm⟩
end

section
open Go.RowKit
attribute [local go_sem ↓] Go.wp_at_zero Go.wp_at_succ

theorem must_any (r : Value) (c : Bool) (n : Int) (w : World) :
    Calls Try.prog 39 #[r, .bool c, .int .i64 n] w fun e w' => ((c = true ∧ e = .returned (.tuple #[])) ∨ (c = false ∧ e = .panicked [{ v := .iface 28 (.int .i64 n), recovered := false }])) ∧ w = w' := by
  cases c
  · exact (must_false r n w).mono fun _ _ ⟨h1, h2⟩ => ⟨.inr ⟨rfl, h1⟩, h2⟩
  · exact (must_true r n w).mono fun _ _ ⟨h1, h2⟩ => ⟨.inl ⟨rfl, h1⟩, h2⟩

set_option maxHeartbeats 4000000 in
set_option maxRecDepth 100000 in
theorem take_short (b : Nat) (s : ByteArray) (a n : Nat) (w : World) (hr : RdrAt w b s a) (hs : s.size ≤ 562949953421312) (ha : a ≤ 562949953421312) (hn : n ≤ 1000) (hlt : s.size < a + n) :
    Calls Try.prog 54 #[.pointer (some ⟨b, 0, none⟩), .int .i64 n] w fun e w' =>
      e = .panicked [{ v := .iface 28 (.int .i64 60), recovered := false }] ∧ ∃ m, w' = w.drewN m := by
  obtain ⟨c0, c1, f1⟩ := hr.cells
  have hle : IntKind.i64.wrap ((s.size : Int) - (a : Int)) = (s.size : Int) - (a : Int) := by rw [IntKind.wrap_i64]; omega
  have hle2 : decide ((n : Int) ≤ (s.size : Int) - (a : Int)) = false := by rw [decide_eq_false_iff_not]; omega
  clear hr
  go_enter Try.func54, Try.ntmps54
  go_wp2_with fail
  refine wp_region_any (by kernel_rfl) ?_
  try (change wpAny _ _ _ _ _ _ _ (World.drew _))
  refine wpAny_take (i := 0) (v := ?_) rfl (by kernel_rfl) (by kernel_rfl) (by kernel_rfl) (fun _ _ _ h => h) (Or.inl ⟨by rfl, ?_⟩) ?_
  rotate_left
  · intro w; go_simp; try with_reducible rfl
  refine wpAny_take (i := 1) (v := ?_) rfl (by kernel_rfl) (by kernel_rfl) (by kernel_rfl) (fun _ _ _ h => h) (Or.inl ⟨by rfl, ?_⟩) ?_
  rotate_left
  · intro w; go_simp; try with_reducible rfl
  refine wpAny_take (i := 2) (v := ?_) rfl (by kernel_rfl) (by kernel_rfl) (by kernel_rfl) (fun _ _ _ h => h) (Or.inl ⟨by rfl, ?_⟩) ?_
  rotate_left
  · intro w; go_simp; try with_reducible rfl
  refine wpAny_take (i := 3) (v := ?_) rfl (by kernel_rfl) (by kernel_rfl) (by kernel_rfl) (fun _ _ _ h => h) (Or.inl ⟨by rfl, ?_⟩) ?_
  rotate_left
  · intro w; go_simp; try with_reducible rfl
  refine wpAny_take (i := 4) (v := ?_) rfl (by kernel_rfl) (by kernel_rfl) (by kernel_rfl) (fun _ _ _ h => h) (Or.inl ⟨by rfl, ?_⟩) ?_
  rotate_left
  · intro w; go_simp; try with_reducible rfl
  refine wpAny_take (i := 7) (v := ?_) rfl (by kernel_rfl) (by kernel_rfl) (by kernel_rfl) (fun _ _ _ h => h) (Or.inl ⟨by rfl, ?_⟩) ?_
  rotate_left
  · intro w; go_simp; try with_reducible rfl
  refine wpAny_take (i := 8) (v := ?_) rfl (by kernel_rfl) (by kernel_rfl) (by kernel_rfl) (fun _ _ _ h => h) (Or.inl ⟨by rfl, ?_⟩) ?_
  rotate_left
  · intro w; go_simp; try with_reducible rfl
  refine wpAny_take (i := 9) (v := ?_) rfl (by kernel_rfl) (by kernel_rfl) (by kernel_rfl) (fun _ _ _ h => h) (Or.inl ⟨by rfl, ?_⟩) ?_
  rotate_left
  · intro w; go_simp; try with_reducible rfl
  refine wpAny_ready (rs := [5, 10]) (by kernel_rfl) (by simp) ?_
  refine AllReady.cons rfl (fun K hK => ?_) ?_
  · go_simp
    refine hK _ _ ?_
    clear hK K
    refine wpAny_ready (rs := [6, 10]) (by kernel_rfl) (by simp) ?_
    refine AllReady.cons rfl (fun K hK => ?_) ?_
    · go_simp
      refine hK _ _ ?_
      clear hK K
      refine wpAny_ready (rs := [10]) (by kernel_rfl) (by simp) ?_
      refine AllReady.cons rfl (fun K hK => ?_) ?_
      · go_simp
        refine hK _ _ ?_
        clear hK K
        refine wpAny_take (i := 11) (v := ?_) rfl (by kernel_rfl) (by kernel_rfl) (by kernel_rfl) (fun _ _ _ h => h) (Or.inl ⟨by rfl, ?_⟩) ?_
        rotate_left
        · intro w; go_simp; try with_reducible rfl
        refine wpAny_take (i := 12) (v := ?_) rfl (by kernel_rfl) (by kernel_rfl) (by kernel_rfl) (fun _ _ _ h => h) (Or.inl ⟨by rfl, ?_⟩) ?_
        rotate_left
        · intro w; go_simp; try with_reducible rfl
        refine wpAny_ready (rs := [13]) (by kernel_rfl) (by simp) ?_
        refine AllReady.cons rfl (fun K hK => ?_) ?_
        · go_simp
          refine (must_any _ _ _ _).mono ?_
          rintro e w' ⟨⟨hc, rfl⟩ | ⟨hc, rfl⟩, rfl⟩
          · cases hc
          · exact ⟨rfl, rfl, 1, rfl⟩
        exact AllReady.nil
      exact AllReady.nil
    refine AllReady.cons rfl (fun K hK => ?_) ?_
    · go_simp
      refine hK _ _ ?_
      clear hK K
      refine wpAny_ready (rs := [6]) (by kernel_rfl) (by simp) ?_
      refine AllReady.cons rfl (fun K hK => ?_) ?_
      · go_simp
        refine hK _ _ ?_
        clear hK K
        refine wpAny_take (i := 11) (v := ?_) rfl (by kernel_rfl) (by kernel_rfl) (by kernel_rfl) (fun _ _ _ h => h) (Or.inl ⟨by rfl, ?_⟩) ?_
        rotate_left
        · intro w; go_simp; try with_reducible rfl
        refine wpAny_take (i := 12) (v := ?_) rfl (by kernel_rfl) (by kernel_rfl) (by kernel_rfl) (fun _ _ _ h => h) (Or.inl ⟨by rfl, ?_⟩) ?_
        rotate_left
        · intro w; go_simp; try with_reducible rfl
        refine wpAny_ready (rs := [13]) (by kernel_rfl) (by simp) ?_
        refine AllReady.cons rfl (fun K hK => ?_) ?_
        · go_simp
          refine (must_any _ _ _ _).mono ?_
          rintro e w' ⟨⟨hc, rfl⟩ | ⟨hc, rfl⟩, rfl⟩
          · cases hc
          · exact ⟨rfl, rfl, 1, rfl⟩
        exact AllReady.nil
      exact AllReady.nil
    exact AllReady.nil
  refine AllReady.cons rfl (fun K hK => ?_) ?_
  · go_simp
    refine hK _ _ ?_
    clear hK K
    refine wpAny_ready (rs := [5]) (by kernel_rfl) (by simp) ?_
    refine AllReady.cons rfl (fun K hK => ?_) ?_
    · go_simp
      refine hK _ _ ?_
      clear hK K
      refine wpAny_ready (rs := [6]) (by kernel_rfl) (by simp) ?_
      refine AllReady.cons rfl (fun K hK => ?_) ?_
      · go_simp
        refine hK _ _ ?_
        clear hK K
        refine wpAny_take (i := 11) (v := ?_) rfl (by kernel_rfl) (by kernel_rfl) (by kernel_rfl) (fun _ _ _ h => h) (Or.inl ⟨by rfl, ?_⟩) ?_
        rotate_left
        · intro w; go_simp; try with_reducible rfl
        refine wpAny_take (i := 12) (v := ?_) rfl (by kernel_rfl) (by kernel_rfl) (by kernel_rfl) (fun _ _ _ h => h) (Or.inl ⟨by rfl, ?_⟩) ?_
        rotate_left
        · intro w; go_simp; try with_reducible rfl
        refine wpAny_ready (rs := [13]) (by kernel_rfl) (by simp) ?_
        refine AllReady.cons rfl (fun K hK => ?_) ?_
        · go_simp
          refine (must_any _ _ _ _).mono ?_
          rintro e w' ⟨⟨hc, rfl⟩ | ⟨hc, rfl⟩, rfl⟩
          · cases hc
          · exact ⟨rfl, rfl, 1, rfl⟩
        exact AllReady.nil
      exact AllReady.nil
    exact AllReady.nil
  exact AllReady.nil
end

section
open Go.RowKit

/-- From w to w' nothing has turned but the blocks of E, and what is new. -/
structure Kept (E : List Nat) (w w' : World) : Prop where
  os : w'.os = w.os
  tape : w'.tape = w.tape
  output : w'.output = w.output
  size : w.heap.size ≤ w'.heap.size
  block : ∀ k, k < w.heap.size → k ∉ E → w'.heap[k]? = w.heap[k]?
theorem Kept.refl (E : List Nat) (w : World) : Kept E w w := ⟨rfl, rfl, rfl, Nat.le_refl _, fun _ _ _ => rfl⟩
theorem Kept.trans' {E F : List Nat} {a b c : World} (h : Kept E a b) (k : Kept F b c) (hF : ∀ x ∈ F, x ∈ E ∨ a.heap.size ≤ x) : Kept E a c :=
  ⟨k.os.trans h.os, k.tape.trans h.tape, k.output.trans h.output, Nat.le_trans h.size k.size, fun i hi he =>
    (k.block i (Nat.lt_of_lt_of_le hi h.size) (fun hm => by rcases hF i hm with h1 | h1; exact he h1; omega)).trans (h.block i hi he)⟩
theorem Kept.trans {E : List Nat} {a b c : World} (h : Kept E a b) (k : Kept E b c) : Kept E a c := h.trans' k (fun _ hx => .inl hx)
theorem Kept.mono {E F : List Nat} {a b : World} (h : Kept E a b) (hF : ∀ x ∈ E, x ∈ F) : Kept F a b := ⟨h.os, h.tape, h.output, h.size, fun i hi he => h.block i hi (fun hm => he (hF i hm))⟩
theorem Kept.of_below {E : List Nat} {w w' : World} (h : Below w.heap.size w w') : Kept E w w' := ⟨h.os, h.tape, h.output, h.size, fun k hk _ => h.block k hk⟩
theorem Kept.below {E : List Nat} {w w' : World} {B : Nat} (h : Kept E w w') (hB : B ≤ w.heap.size) (hE : ∀ x ∈ E, B ≤ x) : Below B w w' :=
  ⟨h.os, h.tape, h.output, h.size, fun k hk => h.block k (by omega) (fun hm => by have := hE k hm; omega)⟩
theorem Kept.grown {w w' : World} {r : Option Nat} {E : List Nat} (h : w.grownBy w' r) (hr : ∀ k, r = some k → k ∈ E) : Kept E w w' :=
  ⟨h.os, h.tape, h.output, h.size, fun k hk he => h.block k hk (fun e => he (hr k e.symm))⟩
theorem Kept.drewN {E : List Nat} {w w' : World} (h : Kept E w w') (n : Nat) : Kept E w (w'.drewN n) := ⟨h.os, h.tape, h.output, h.size, h.block⟩
theorem Kept.drew {E : List Nat} {w w' : World} (h : Kept E w w') : Kept E w w'.drew := ⟨h.os, h.tape, h.output, h.size, h.block⟩
theorem Kept.alloc {E : List Nat} {w w' : World} (h : Kept E w w') (o : Obj) : Kept E w (w'.alloc o) :=
  h.trans' (F := []) (Kept.of_below ((Below.refl _ _).alloc (Nat.le_refl _) _)) (fun _ hx => by cases hx)
theorem Kept.set {E : List Nat} {w w' : World} (h : Kept E w w') (b i : Nat) (v : Value) (hb : b ∈ E ∨ w.heap.size ≤ b) : Kept E w (w'.setCell ⟨b, i, none⟩ v) :=
  h.trans' (F := [b]) ⟨rfl, rfl, rfl, by simp [World.setCell], fun k _ he => heap_setCell_other w' ⟨b, i, none⟩ k v (fun e => he (by simp [e]))⟩ (fun x hx => by simp at hx; subst hx; exact hb)
theorem Kept.cell {E : List Nat} {w w' : World} (h : Kept E w w') {p : Addr} (hp : p.block < w.heap.size) (he : p.block ∉ E) : w'.cell? p = w.cell? p := World.cell?_of_block (h.block _ hp he)
theorem Kept.own {E : List Nat} {w w' : World} {B e size n : Nat} {v : Value} {xs : List Value} (h : Kept E w w') (ho : w.ownsRow B e size v n xs) (hne : ∀ g, v.ownBlock = some g → g ∉ E) : w'.ownsRow B e size v n xs := by
  refine ⟨ho.1, ?_⟩
  rcases ho.2 with hn | ⟨g, cap, cur, rfl, hb, hgg, rest⟩
  · exact .inl hn
  · refine .inr ⟨g, cap, cur, rfl, hb, ?_, rest⟩
    rw [h.block g (Array.getElem?_eq_some_iff.1 hgg).1 (hne g rfl)]
    exact hgg
theorem Kept.at {E : List Nat} {w w' : World} (h : Kept E w w') {k : Nat} {o : Obj} (hk : w.heap[k]? = some o) (he : k ∉ E) : w'.heap[k]? = some o := (h.block k (block_lt hk) he).trans hk

/-! ### Automata in memory -/
abbrev Ed := UInt8 × Int
abbrev St := Bool × List Ed
/-- The edges of a state, in blocks of p. -/
def EdsAt (w : World) (p : Nat → Prop) (v : Value) (es : List Ed) : Prop :=
  ∃ A cap, v = .slice A es.length cap ∧ (es.length ≤ cap ∧ cap ≤ maxLen) ∧ (es.length = 0 ∨ ∃ g o, A = some ⟨g, o, none⟩ ∧ g < w.heap.size ∧ p g ∧ ∀ k (h : k < es.length), w.cell? ⟨g, o + k * 2, none⟩ = some (.int .u8 (es[k].1.toNat : Int)) ∧ w.cell? ⟨g, o + k * 2 + 1, none⟩ = some (.int .i64 es[k].2))
/-- An automaton, in blocks of p. -/
def AutAt (w : World) (p : Nat → Prop) (v : Value) (a : List St) : Prop :=
  ∃ A cap, v = .slice A a.length cap ∧ (a.length ≤ cap ∧ cap ≤ maxLen) ∧ (a.length = 0 ∨ ∃ g o, A = some ⟨g, o, none⟩ ∧ g < w.heap.size ∧ p g ∧ ∀ k (h : k < a.length), w.cell? ⟨g, o + k * 2, none⟩ = some (.bool a[k].1) ∧ ∃ ev, w.cell? ⟨g, o + k * 2 + 1, none⟩ = some ev ∧ EdsAt w p ev a[k].2)
theorem EdsAt.kept {E : List Nat} {w w' : World} {p : Nat → Prop} {v : Value} {es : List Ed} (h : EdsAt w p v es) (hk : Kept E w w') (hE : ∀ k ∈ E, ¬ p k) : EdsAt w' p v es := by
  obtain ⟨A, cap, hv, hc, h0⟩ := h
  refine ⟨A, cap, hv, hc, ?_⟩
  rcases h0 with h0 | ⟨g, o, hA, hg, hp, hcs⟩
  · exact .inl h0
  · have hne : g ∉ E := fun hm => hE g hm hp
    exact .inr ⟨g, o, hA, Nat.lt_of_lt_of_le hg hk.size, hp, fun k h => ⟨(hk.cell (p := ⟨g, _, none⟩) hg hne).trans (hcs k h).1, (hk.cell (p := ⟨g, _, none⟩) hg hne).trans (hcs k h).2⟩⟩
theorem AutAt.kept {E : List Nat} {w w' : World} {p : Nat → Prop} {v : Value} {a : List St} (h : AutAt w p v a) (hk : Kept E w w') (hE : ∀ k ∈ E, ¬ p k) : AutAt w' p v a := by
  obtain ⟨A, cap, hv, hc, h0⟩ := h
  refine ⟨A, cap, hv, hc, ?_⟩
  rcases h0 with h0 | ⟨g, o, hA, hg, hp, hcs⟩
  · exact .inl h0
  · have hne : g ∉ E := fun hm => hE g hm hp
    refine .inr ⟨g, o, hA, Nat.lt_of_lt_of_le hg hk.size, hp, fun k h => ⟨(hk.cell (p := ⟨g, _, none⟩) hg hne).trans (hcs k h).1, ?_⟩⟩
    obtain ⟨ev, h1, h2⟩ := (hcs k h).2
    exact ⟨ev, (hk.cell (p := ⟨g, _, none⟩) hg hne).trans h1, h2.kept hk hE⟩
theorem EdsAt.mono {w : World} {p q : Nat → Prop} {v : Value} {es : List Ed} (h : EdsAt w p v es) (hq : ∀ k, p k → q k) : EdsAt w q v es := by
  obtain ⟨A, cap, hv, hc, h0⟩ := h
  exact ⟨A, cap, hv, hc, h0.imp id fun ⟨g, o, hA, hg, hp, hcs⟩ => ⟨g, o, hA, hg, hq g hp, hcs⟩⟩
theorem AutAt.mono {w : World} {p q : Nat → Prop} {v : Value} {a : List St} (h : AutAt w p v a) (hq : ∀ k, p k → q k) : AutAt w q v a := by
  obtain ⟨A, cap, hv, hc, h0⟩ := h
  exact ⟨A, cap, hv, hc, h0.imp id fun ⟨g, o, hA, hg, hp, hcs⟩ => ⟨g, o, hA, hg, hq g hp, fun k h => ⟨(hcs k h).1, by
    obtain ⟨ev, h1, h2⟩ := (hcs k h).2
    exact ⟨ev, h1, h2.mono hq⟩⟩⟩⟩

/-! ### What the reader answers -/
abbrev flt (c : Nat) : PanicEntry := { v := .iface 28 (.int .i64 (c : Int)), recovered := false }
def PostR {α : Type} (b : Nat) (s : ByteArray) (w : World) (mk : α → Value) (r : Except Nat (α × Nat)) (e : Ending) (w' : World) : Prop :=
  match r with
  | .ok (x, p) => e = .returned (mk x) ∧ Kept [b] w w' ∧ RdrAt w' b s p
  | .error c => e = .panicked [flt c] ∧ Kept [b] w w'
def numR (s : ByteArray) (a : Nat) : Except Nat (Nat × Nat) :=
  if (rdU s.data.toList a).2.2 = 0 then .ok ((rdU s.data.toList a).1, (rdU s.data.toList a).2.1) else .error (rdU s.data.toList a).2.2
def frmR (s : ByteArray) (a : Nat) : Except Nat (ByteArray × Nat) :=
  match numR s a with
  | .error c => .error c
  | .ok (n, q) => if 255 < n then .error 62 else if s.size < q + n then .error 60 else .ok (s.extract q (q + n), q + n)
theorem rdGo_le (L : List UInt8) (a : Nat) : ∀ (f i acc : Nat), (rdGo L a f i acc).2.2 = 0 → a < (rdGo L a f i acc).2.1 ∧ (rdGo L a f i acc).2.1 ≤ L.length
  | 0, i, acc, h => by rw [rdGo] at h; cases h
  | f + 1, i, acc, h => by
    rw [rdGo] at h ⊢
    split at h
    · cases h
    · rename_i h1
      split at h
      · rename_i h2
        rw [if_neg h1, if_pos h2]
        exact rdGo_le L a f _ _ h
      · rename_i h2
        split at h
        · cases h
        · rename_i h3
          rw [if_neg h1, if_neg h2, if_neg h3]
          simp only
          omega
theorem numR_le {s : ByteArray} {a n p : Nat} (h : numR s a = .ok (n, p)) : a < p ∧ p ≤ s.size := by
  unfold numR at h
  split at h
  · rename_i h0
    injection h with h
    injection h with h1 h2
    subst h2
    unfold rdU at h0 ⊢
    split at h0
    · cases h0
    · rename_i h1
      rw [if_neg h1]
      have := rdGo_le _ _ _ _ _ h0
      rw [len_toList] at this
      exact this
  · cases h
theorem frmR_le {s : ByteArray} {a p : Nat} {t : ByteArray} (h : frmR s a = .ok (t, p)) : a < p ∧ p ≤ s.size := by
  unfold frmR at h
  split at h
  · cases h
  · rename_i n q hn
    have := numR_le hn
    split at h
    · cases h
    · split at h
      · cases h
      · injection h with h
        injection h with h1 h2
        omega

theorem num_any (b : Nat) (s : ByteArray) (a : Nat) (w : World) (hr : RdrAt w b s a) (hs : s.size ≤ 562949953421312) (ha : a ≤ s.size) :
    Calls Try.prog 37 #[.pointer (some ⟨b, 0, none⟩)] w (PostR b s w (fun n : Nat => .int .u64 (n : Int)) (numR s a)) := by
  refine (readerNumber_any b s a w hr hs (by omega)).mono fun e w' h => ?_
  unfold numR
  split at h
  · rename_i h0
    rw [if_pos h0]
    obtain ⟨he, m, rfl⟩ := h
    exact ⟨he, ((Kept.refl _ _).drewN m).set _ _ _ (.inl (by simp)), hr.put m _⟩
  · rename_i h0
    rw [if_neg h0]
    obtain ⟨he, m, rfl⟩ := h
    exact ⟨he, (Kept.refl _ _).drewN m⟩
theorem take_any (b : Nat) (s : ByteArray) (a n : Nat) (w : World) (hr : RdrAt w b s a) (hs : s.size ≤ 562949953421312) (ha : a ≤ s.size) (hn : n ≤ 1000) :
    Calls Try.prog 54 #[.pointer (some ⟨b, 0, none⟩), .int .i64 n] w (PostR b s w Value.string (if s.size < a + n then .error 60 else .ok (s.extract a (a + n), a + n))) := by
  split
  · rename_i h
    refine (take_short b s a n w hr hs (by omega) hn h).mono fun e w' h => ?_
    obtain ⟨he, m, rfl⟩ := h
    exact ⟨he, (Kept.refl _ _).drewN m⟩
  · rename_i h
    refine (take_ok b s a n w hr hs (by omega)).mono fun e w' h => ?_
    obtain ⟨he, m, k, rfl⟩ := h
    refine ⟨he, (((Kept.refl _ _).drewN m).set _ _ _ (.inl (by simp))).drewN k, ?_⟩
    have := hr.put m (a + n)
    rw [Int.natCast_add] at this
    exact this

set_option maxHeartbeats 4000000 in
set_option maxRecDepth 100000 in
theorem frame_any (b : Nat) (s : ByteArray) (a : Nat) (w : World) (hr : RdrAt w b s a) (hs : s.size ≤ 562949953421312) (ha : a ≤ s.size) :
    Calls Try.prog 38 #[.pointer (some ⟨b, 0, none⟩)] w (PostR b s w Value.string (frmR s a)) := by
  have hN := num_any b s a w hr hs ha
  unfold frmR
  cases hn : numR s a with
  | error c =>
    rw [hn] at hN
    have HN := Lib.hid hN
    clear hN hn
    go_enter Try.func38, Try.ntmps38
    go_wp2_with fail
    refine HN.out.mono ?_
    rintro e w' ⟨rfl, hk⟩
    exact ⟨rfl, rfl, hk⟩
  | ok r =>
    obtain ⟨n, q⟩ := r
    rw [hn] at hN
    have hq := numR_le hn
    have HN := Lib.hid hN
    clear hN hn
    dsimp only
    have HT : Hid (∀ W, RdrAt W b s q → n ≤ 255 → Calls Try.prog 54 #[.pointer (some ⟨b, 0, none⟩), .int .i64 n] W (PostR b s W Value.string (if s.size < q + n then .error 60 else .ok (s.extract q (q + n), q + n)))) := Lib.hid (fun W h hn => take_any b s q n W h hs hq.2 (by omega))
    by_cases h255 : 255 < n
    · rw [if_pos h255]
      go_enter Try.func38, Try.ntmps38
      go_wp2_with fail
      refine HN.out.mono ?_
      rintro e w1 ⟨rfl, hk1, hr1⟩
      have HK1 := Lib.hid hk1
      have HR1 := Lib.hid hr1
      clear hk1 hr1
      go_wp2_with fail
      refine (must_any _ _ _ _).mono ?_
      rintro e w' ⟨⟨hc, rfl⟩ | ⟨hc, rfl⟩, rfl⟩
      · exact absurd hc (by simp; omega)
      · exact ⟨rfl, rfl, HK1.out⟩
    · rw [if_neg h255]
      by_cases hsh : s.size < q + n
      all_goals
        first | rw [if_pos hsh] at HT ⊢ | rw [if_neg hsh] at HT ⊢
        go_enter Try.func38, Try.ntmps38
        go_wp2_with fail
        refine HN.out.mono ?_
        rintro e w1 ⟨rfl, hk1, hr1⟩
        have HK1 := Lib.hid hk1
        have HR1 := Lib.hid hr1
        clear hk1 hr1
        go_wp2_with fail
        refine (must_any _ _ _ _).mono ?_
        rintro e w' ⟨⟨hc, rfl⟩ | ⟨hc, rfl⟩, rfl⟩
        · clear hc
          have hc : (IntKind.i64.wrap (n : Int)) = (n : Int) := by rw [IntKind.wrap_i64]; omega
          go_wp2_with fail
          refine (HT.out _ HR1.out (by omega)).mono ?_
          first
            | (rintro e w' ⟨rfl, hk, hr⟩
               have HK := Lib.hid (HK1.out.trans hk)
               have HR := Lib.hid hr
               clear hk hr
               go_wp2_with fail
               go_ret
               exact ⟨rfl, HK.out, HR.out⟩)
            | (rintro e w' ⟨rfl, hk⟩
               exact ⟨rfl, rfl, HK1.out.trans hk⟩)
        · exact absurd hc (by simp; omega)
end

section
open Go

theorem takeH {P : Program} {md : Region.Mode} {ops : Array Oper} {Q : Exit → Act → World → Prop} {S : World → Prop} {i : Nat} {d : Option Tmp} {oi : Oper} {v : Value} {fuel : Nat} {listed : Array Bool} {a : Act} {w : World} (hi : ops[i]? = some oi) (hd : oi.dst = d)
    (hs : Region.noSelect ops = true) (hf : Region.free md ops listed i = true) (hr : (Region.ready md ops listed).contains i = true)
    (hQ : ∀ c a w, Q (.panic c) (a.put d v) w → Q (.panic c) a w) (hy : YieldsIf P ops S oi v a) (hS : S w)
    (h : wpAnyH P md ops Q S fuel (listed.setIfInBounds i true) (a.put d v) w) : wpAnyH P md ops Q S (fuel + 1) listed a w := by
  subst hd
  exact wpAnyH_take hi hs hf hr hQ hy hS h
theorem takeA {P : Program} {md : Region.Mode} {ops : Array Oper} {Q : Exit → Act → World → Prop} {i : Nat} {d : Option Tmp} {oi : Oper} {v : Value} {fuel : Nat} {listed : Array Bool} {a : Act} {w : World} (hi : ops[i]? = some oi) (hd : oi.dst = d)
    (hs : Region.noSelect ops = true) (hf : Region.free md ops listed i = true) (hr : (Region.ready md ops listed).contains i = true)
    (hQ : ∀ c a w, Q (.panic c) (a.put d v) w → Q (.panic c) a w) (hy : Yields P ops oi v a)
    (h : wpAny P md ops Q fuel (listed.setIfInBounds i true) (a.put d v) w) : wpAny P md ops Q (fuel + 1) listed a w := by
  subst hd
  exact wpAny_take hi hs hf hr hQ hy h
theorem tkH {P : Program} {md : Region.Mode} {ops : Array Oper} {Q : Exit → Act → World → Prop} {S : World → Prop} (i : Nat) (d : Option Tmp) {oi : Oper} (v : Value) {fuel : Nat} {listed : Array Bool} {a : Act} {w : World}
    (hy : ∀ w, S w → (execOp a.eval oi).run P w = .ok (.value v) w) (hS : S w) (h : wpAnyH P md ops Q S fuel (listed.setIfInBounds i true) (a.put d v) w)
    (hi : ops[i]? = some oi := by rfl) (hd : oi.dst = d := by rfl) (hs : Region.noSelect ops = true := by kernel_rfl) (hf : Region.free md ops listed i = true := by kernel_rfl) (hr : (Region.ready md ops listed).contains i = true := by kernel_rfl)
    (hg : Region.wanted oi (yielded ops a.tmps) = true := by kernel_rfl) (hQ : ∀ c a w, Q (.panic c) (a.put d v) w → Q (.panic c) a w := by exact fun _ _ _ h => h) : wpAnyH P md ops Q S (fuel + 1) listed a w :=
  takeH hi hd hs hf hr hQ (.inl ⟨hg, hy⟩) hS h
theorem tkU {P : Program} {md : Region.Mode} {ops : Array Oper} {Q : Exit → Act → World → Prop} {S : World → Prop} (i : Nat) (d : Option Tmp) {oi : Oper} {fuel : Nat} {listed : Array Bool} {a : Act} {w : World}
    (hS : S w) (h : wpAnyH P md ops Q S fuel (listed.setIfInBounds i true) (a.put d undef) w)
    (hi : ops[i]? = some oi := by rfl) (hd : oi.dst = d := by rfl) (hs : Region.noSelect ops = true := by kernel_rfl) (hf : Region.free md ops listed i = true := by kernel_rfl) (hr : (Region.ready md ops listed).contains i = true := by kernel_rfl)
    (hg : Region.wanted oi (yielded ops a.tmps) = false := by kernel_rfl) (hQ : ∀ c a w, Q (.panic c) (a.put d undef) w → Q (.panic c) a w := by exact fun _ _ _ h => h) : wpAnyH P md ops Q S (fuel + 1) listed a w :=
  takeH hi hd hs hf hr hQ (.inr ⟨hg, rfl⟩) hS h
/-- How a state is laid out behind a put. -/
theorem put_norm : (∀ (a : Act) (t : Tmp) (v : Value), a.put (some t) v = { a with tmps := a.tmps.setIfInBounds t v }) ∧ (∀ (a : Act) (v : Value), a.put none v = a) ∧ (∀ (l : List Value) (i : Nat) (v : Value), l.toArray.setIfInBounds i v = (l.set i v).toArray) ∧
    (∀ (x v : Value) (l : List Value), (x :: l).set 0 v = v :: l) ∧ (∀ (x v : Value) (l : List Value) (i : Nat), (x :: l).set (i + 1) v = x :: l.set i v) :=
  ⟨fun _ _ _ => rfl, fun _ _ => rfl, fun _ _ _ => List.setIfInBounds_toArray .., fun _ _ _ => rfl, fun _ _ _ _ => rfl⟩
end

section
open Go.RowKit
attribute [local go_sem ↓] Go.wp_at_zero Go.wp_at_succ

abbrev Dn := Nat → Bool
def updD (d : Dn) (n : Nat) (b : Bool) : Dn := fun k => if k = n then b else d k
def visEs (rec : Int → Nat → Dn → Option (Nat × Dn)) : Option UInt8 → List Ed → Nat → Dn → Option (Nat × Dn)
  | _, [], m, d => some (m, d)
  | prev, e :: es, m, d =>
    if (match prev with | none => false | some p => decide (e.1.toNat ≤ p.toNat)) then none
    else match rec e.2 m d with
      | none => none
      | some (m', d') => visEs rec (some e.1) es m' d'
theorem visEs_cons (rec : Int → Nat → Dn → Option (Nat × Dn)) (prev : Option UInt8) (e : Ed) (es : List Ed) (m : Nat) (d : Dn) :
    visEs rec prev (e :: es) m d = if (match prev with | none => false | some p => decide (e.1.toNat ≤ p.toNat)) then none else match rec e.2 m d with | none => none | some (m', d') => visEs rec (some e.1) es m' d' := by
  conv => lhs; unfold visEs
/-- From the state n on: m states were met, d tells which are done. -/
def vis (A : List St) : Nat → Int → Nat → Dn → Option (Nat × Dn)
  | 0, _, _, _ => none
  | f + 1, n, m, d =>
    if n ≠ (m : Int) then (if 0 ≤ n ∧ n < (m : Int) ∧ d n.toNat = true then some (m, d) else none)
    else match A[m]? with
      | none => none
      | some x => if x.2.length = 0 ∧ x.1 = false ∧ A.length ≠ 1 then none
        else match visEs (vis A f) none x.2 (m + 1) (updD d m false) with
          | none => none
          | some (m', d') => some (m', updD d' m true)
def shapeB (A : List St) : Bool :=
  decide (0 < A.length) && decide (A.length ≤ 1048576) && (match vis A (A.length + 1) 0 0 (fun _ => false) with | none => false | some (m, _) => decide (m = A.length))

structure LookP (w : World) (lb sb : Nat) (av : Value) (N m : Nat) (d : Dn) : Prop where
  hd : ∃ cap, w.heap[lb]? = some (.cells #[av, .int .i64 (m : Int), .slice (some ⟨sb, 0, none⟩) N cap] 98 (0, 0))
  st : ∃ cs, w.heap[sb]? = some (.cells cs 5 (0, 0)) ∧ cs.size = N ∧ ∀ k, k < N → ∃ x : Int, cs[k]? = some (.int .u8 x) ∧ (x = 2 ↔ d k = true)
  ne : lb ≠ sb
theorem LookP.head {w : World} {l sb : Nat} {av : Value} {N m : Nat} {d : Dn} (h : LookP w l sb av N m d) :
    ∃ cap, w.cell? ⟨l, 0, none⟩ = some av ∧ w.cell? ⟨l, 1, none⟩ = some (.int .i64 (m : Int)) ∧ w.cell? ⟨l, 2, none⟩ = some (.slice (some ⟨sb, 0, none⟩) N cap) ∧ w.frozen? ⟨l, 1, none⟩ = false := by
  obtain ⟨cap, hc⟩ := h.hd
  exact ⟨cap, by rw [Lib.cell_of_heap hc]; rfl, by rw [Lib.cell_of_heap hc]; rfl, by rw [Lib.cell_of_heap hc]; rfl, Lib.frozen_of_heap hc 1⟩
theorem LookP.at_ {w : World} {l sb : Nat} {av : Value} {N m : Nat} {d : Dn} (h : LookP w l sb av N m d) (k : Nat) (hk : k < N) :
    ∃ x : Int, w.cell? ⟨sb, k, none⟩ = some (.int .u8 x) ∧ (x = 2 ↔ d k = true) ∧ w.frozen? ⟨sb, k, none⟩ = false := by
  obtain ⟨cs, hc, hn, hx⟩ := h.st
  obtain ⟨x, h1, h2⟩ := hx k hk
  exact ⟨x, by rw [Lib.cell_of_heap hc]; exact h1, h2, Lib.frozen_of_heap hc k⟩
theorem LookP.lt {w : World} {l sb : Nat} {av : Value} {N m : Nat} {d : Dn} (h : LookP w l sb av N m d) : l < w.heap.size ∧ sb < w.heap.size := by
  obtain ⟨⟨cap, hc⟩, ⟨cs, hs, _⟩, _⟩ := h
  exact ⟨block_lt hc, block_lt hs⟩
theorem LookP.kept {E : List Nat} {w w' : World} {l sb : Nat} {av : Value} {N m : Nat} {d : Dn} (h : LookP w l sb av N m d) (hk : Kept E w w') (h1 : l ∉ E) (h2 : sb ∉ E) : LookP w' l sb av N m d := by
  obtain ⟨⟨cap, hc⟩, ⟨cs, hs, r⟩, hne⟩ := h
  exact ⟨⟨cap, hk.at hc h1⟩, ⟨cs, hk.at hs h2, r⟩, hne⟩
theorem LookP.setMet {w : World} {l sb : Nat} {av : Value} {N m : Nat} {d : Dn} (h : LookP w l sb av N m d) (p : Nat) : LookP (w.setCell ⟨l, 1, none⟩ (.int .i64 (p : Int))) l sb av N p d := by
  obtain ⟨⟨cap, hc⟩, ⟨cs, hs, r⟩, hne⟩ := h
  refine ⟨⟨cap, ?_⟩, ⟨cs, ?_, r⟩, hne⟩
  · exact Go.heap_setCell_same w l 1 _ _ _ hc
  · rw [heap_setCell_other w ⟨l, 1, none⟩ sb _ (fun e => hne e.symm)]; exact hs
theorem LookP.setSt {w : World} {l sb : Nat} {av : Value} {N m : Nat} {d : Dn} (h : LookP w l sb av N m d) (n : Nat) (x : Int) (b : Bool) (hb : x = 2 ↔ b = true) : LookP (w.setCell ⟨sb, n, none⟩ (.int .u8 x)) l sb av N m (updD d n b) := by
  obtain ⟨⟨cap, hc⟩, ⟨cs, hs, hn, hx⟩, hne⟩ := h
  refine ⟨⟨cap, ?_⟩, ⟨_, Go.heap_setCell_same w sb n _ _ _ hs, by simp [hn], fun k hk => ?_⟩, hne⟩
  · rw [heap_setCell_other w ⟨sb, n, none⟩ l _ hne]; exact hc
  · by_cases e : k = n
    · subst e
      exact ⟨x, by simp [hn, hk], by simp [updD, hb]⟩
    · obtain ⟨y, h1, h2⟩ := hx k hk
      exact ⟨y, by rw [Array.getElem?_setIfInBounds_ne (Ne.symm e)]; exact h1, by simp [updD, e, h2]⟩

def prevAt (es : List Ed) (k : Nat) : Option UInt8 := if k = 0 then none else (es[k - 1]?).map (·.1)
def badAt (es : List Ed) (k : Nat) : Bool := match prevAt es k, es[k]? with | some p, some e => decide (e.1.toNat ≤ p.toNat) | _, _ => false
theorem visEs_bad (rec : Int → Nat → Dn → Option (Nat × Dn)) (es : List Ed) (k m : Nat) (d : Dn) (hk : k < es.length) (hb : badAt es k = true) : visEs rec (prevAt es k) (es.drop k) m d = none := by
  unfold badAt at hb
  rw [List.drop_eq_getElem_cons hk, visEs_cons]
  rw [List.getElem?_eq_getElem hk] at hb
  cases hp : prevAt es k with
  | none => rw [hp] at hb; cases hb
  | some p => rw [hp] at hb; simp only at hb ⊢; rw [if_pos hb]
theorem visEs_step (rec : Int → Nat → Dn → Option (Nat × Dn)) (es : List Ed) (k m : Nat) (d : Dn) (hk : k < es.length) (hb : badAt es k = false) :
    visEs rec (prevAt es k) (es.drop k) m d = match rec es[k].2 m d with | none => none | some (m', d') => visEs rec (prevAt es (k + 1)) (es.drop (k + 1)) m' d' := by
  unfold badAt at hb
  rw [List.drop_eq_getElem_cons hk, visEs_cons]
  rw [List.getElem?_eq_getElem hk] at hb
  have hn : prevAt es (k + 1) = some es[k].1 := by simp [prevAt, List.getElem?_eq_getElem hk]
  rw [hn]
  cases hp : prevAt es k with
  | none => simp only [Bool.false_eq_true, if_false]
  | some p => rw [hp] at hb; simp only at hb ⊢; rw [if_neg (by simp only [hb]; simp)]
theorem badAt_0 (es : List Ed) : badAt es 0 = false := by simp [badAt, prevAt]
theorem badAt_s (es : List Ed) (k : Nat) (hk : k < es.length) (h0 : 0 < k) : badAt es k = decide (es[k].1.toNat ≤ (es[k - 1]'(by omega)).1.toNat) := by
  unfold badAt prevAt
  rw [if_neg (by omega), List.getElem?_eq_getElem (show k - 1 < es.length by omega), List.getElem?_eq_getElem hk]
  rfl

theorem wrap64_up2 (j n c : Nat) (h1 : n ≤ c) (h2 : c ≤ maxLen) (h3 : j + 1 + 1 ≤ n) : wrap64 ((j : Int) + 1 + 1) = (j : Int) + 1 + 1 := by
  unfold maxLen at h2; unfold wrap64; omega
theorem val_up2 (j n c : Nat) (h1 : n ≤ c) (h2 : c ≤ maxLen) (h3 : j + 1 + 1 ≤ n) : Value.int .i64 (wrap64 ((j : Int) + 1 + 1)) = Value.int .i64 ((j + 1 + 1 : Nat) : Int) := by
  rw [wrap64_up2 j n c h1 h2 h3]; rfl
theorem meas_up2 (j n c : Nat) (h1 : n ≤ c) (h2 : c ≤ maxLen) (h3 : j + 1 + 1 ≤ n) : n - (intOf (Value.int .i64 (wrap64 ((j : Int) + 1 + 1)))).toNat < n - (intOf (Value.int .i64 ((j : Int) + 1))).toNat := by
  rw [wrap64_up2 j n c h1 h2 h3]
  show n - ((j : Int) + 1 + 1).toNat < n - ((j : Int) + 1).toNat
  omega
/-- What a visit answers. -/
def PostV (w : World) (lb sb : Nat) (av : Value) (N m : Nat) (r : Option (Nat × Dn)) (e : Ending) (w' : World) : Prop :=
  match r with
  | none => e = .returned (.bool false) ∧ Kept [lb, sb] w w'
  | some (m', d') => e = .returned (.bool true) ∧ Kept [lb, sb] w w' ∧ LookP w' lb sb av N m' d' ∧ m ≤ m' ∧ m' ≤ N

set_option maxHeartbeats 4000000 in
set_option maxRecDepth 100000 in
theorem visit_any (A : List St) (lb sb : Nat) (av : Value) (hA1 : A.length ≤ 1048576) : ∀ (f : Nat) (n : Int) (m : Nat) (d : Dn) (w : World), A.length + 1 ≤ f + m → m ≤ A.length → LookP w lb sb av A.length m d → AutAt w (fun k => k ∉ [lb, sb]) av A →
    Calls Try.prog 44 #[.pointer (some ⟨lb, 0, none⟩), .int .i64 n] w (PostV w lb sb av A.length m (vis A f n m d)) := by
  intro f
  induction f with
  | zero => intro n m d w hf hm; omega
  | succ f ih =>
    intro n m d w hf hm hL hA
    have HIH := Lib.hid ih
    clear ih
    obtain ⟨cap, c0, c1, c2, f1⟩ := hL.head
    have HL := Lib.hid hL
    have HA := Lib.hid hA
    by_cases hnm : n = (m : Int)
    · subst hnm
      by_cases hmN : m < A.length
      · obtain ⟨⟨fin, es⟩, hx⟩ : ∃ x, A[m] = x := ⟨_, rfl⟩
        have hx? : A[m]? = some (fin, es) := by rw [List.getElem?_eq_getElem hmN, hx]
        obtain ⟨Ax, cap0, rfl, hc0, hA0⟩ := hA
        obtain ⟨g, o, rfl, hg, hp, hcs⟩ := hA0.resolve_left (by omega)
        obtain ⟨e0, ev, e1, hE⟩ := hcs m hmN
        rw [hx] at e0 hE
        dsimp only at e0 hE
        have hE0 := hE
        obtain ⟨Ex, cap1, rfl, hc1, hE1⟩ := hE
        have HE := Lib.hid hE0
        have HC1 := Lib.hid hc1
        clear hc1
        obtain ⟨sx, cs0, _, fs0⟩ := hL.at_ m hmN
        have hgl : g ≠ lb := fun e => hp (by simp [e])
        have hgs : g ≠ sb := fun e => hp (by simp [e])
        have hls := hL.ne
        have hlg := Ne.symm hgl
        have hsg := Ne.symm hgs
        have hsl := Ne.symm hls
        clear hL hcs hA0 hE0 hE1 hx
        have HV : Hid (vis A (f + 1) (m : Int) m d = if es.length = 0 ∧ fin = false ∧ A.length ≠ 1 then none else match visEs (vis A f) none es (m + 1) (updD d m false) with | none => none | some (m', d') => some (m', updD d' m true)) := Lib.hid (by
          rw [vis, if_neg (by simp), hx?])
        have HW0 : Hid (∀ W0, ((w.setCell ⟨lb, 1, none⟩ (Value.int .i64 ((m : Int) + 1))).setCell ⟨sb, m, none⟩ (Value.int .u8 1)).alloc (Obj.cells #[Value.bool fin, Value.slice Ex es.length cap1] 53) = W0 →
            LookP W0 lb sb (Value.slice (some ⟨g, o, none⟩) A.length cap0) A.length (m + 1) (updD d m false) ∧ Kept [lb, sb] w W0 ∧ W0.heap[w.heap.size]? = some (.cells #[Value.bool fin, Value.slice Ex es.length cap1] 53)) := Lib.hid (by
          rintro W0 rfl
          have h1 := (HL.out.setMet (m + 1)).setSt m 1 false (by simp)
          rw [Int.natCast_add] at h1
          refine ⟨h1.kept ((Kept.refl [] _).alloc _) (by simp) (by simp), (((Kept.refl _ _).set _ _ _ (.inl (by simp))).set _ _ _ (.inl (by simp))).alloc _, ?_⟩
          have := heap_alloc_new ((w.setCell ⟨lb, 1, none⟩ (Value.int .i64 ((m : Int) + 1))).setCell ⟨sb, m, none⟩ (Value.int .u8 1)) (Obj.cells #[Value.bool fin, Value.slice Ex es.length cap1] 53)
          simpa [World.setCell] using this)
        clear hx?
        go_enter Try.func44, Try.ntmps44
        go_wp2_with fail
        obtain ⟨W0, hW0⟩ : ∃ W0, ((w.setCell ⟨lb, 1, none⟩ (Value.int .i64 ((m : Int) + 1))).setCell ⟨sb, m, none⟩ (Value.int .u8 1)).alloc (Obj.cells #[Value.bool fin, Value.slice Ex es.length cap1] 53) = W0 := ⟨_, rfl⟩
        obtain ⟨hL0, hK0, hB0⟩ := HW0.out W0 hW0
        rw [hW0]
        clear hW0
        have HL0 := Lib.hid hL0
        have HK0 := Lib.hid hK0
        have HB0 := Lib.hid hB0
        clear hL0 hK0 hB0 HW0 c0 c1 c2 f1 e0 e1 cs0 fs0
        simp only [show decide (A.length ≤ m) = false from decide_eq_false (by omega)]
        go_loopw [6, 7, 64] (fun _ _ i W => ∃ (k m' : Nat) (d' : Dn), k ≤ es.length ∧ i = .int .i64 k ∧ Hid (m + 1 ≤ m' ∧ m' ≤ A.length) ∧ Hid (Kept [lb, sb] W0 W) ∧ Hid (LookP W lb sb (Value.slice (some ⟨g, o, none⟩) A.length cap0) A.length m' d') ∧ Hid (visEs (vis A f) none es (m + 1) (updD d m false) = visEs (vis A f) (prevAt es k) (es.drop k) m' d')) (fun _ _ i _ => es.length - (intOf i).toNat)
        case atStart => exact ⟨0, m + 1, updD d m false, Nat.zero_le _, rfl, Lib.hid ⟨Nat.le_refl _, hmN⟩, Lib.hid (Kept.refl _ _), HL0, Lib.hid rfl⟩
        case round =>
          obtain ⟨k, m', d', hk, rfl, HM, HK, HLW, HVs⟩ := hrel
          by_cases hlt : k < es.length
          · obtain ⟨Ex', cap1', hEq, _, hE1⟩ := HE.out
            obtain ⟨eg, eo, rfl, heg, hep, hec⟩ := hE1.resolve_left (by omega)
            injection hEq with hq1 hq2 hq3
            subst hq1 hq3
            have hce : ∀ j, W0.cell? ⟨eg, j, none⟩ = w.cell? ⟨eg, j, none⟩ := fun j => HK0.out.cell (p := ⟨eg, j, none⟩) heg hep
            have hcw : ∀ j, wr.cell? ⟨eg, j, none⟩ = w.cell? ⟨eg, j, none⟩ := fun j => (HK.out.cell (p := ⟨eg, j, none⟩) (Nat.lt_of_lt_of_le heg HK0.out.size) hep).trans (hce j)
            have b0 := (hcw _).trans (hec k hlt).1
            have b1 := (hcw _).trans (hec k hlt).2
            have hwr := HK.out.at HB0.out (by have := HL.out.lt; simp only [List.mem_cons, List.not_mem_nil, or_false]; omega)
            have t1 : wr.cell? ⟨w.heap.size, 1, none⟩ = some (Value.slice (some ⟨eg, eo, none⟩) es.length cap1) := by rw [Lib.cell_of_heap hwr]; rfl
            have HLt : Hid (True → k + 1 ≤ es.length) := Lib.hid (fun _ => hlt)
            have HPrev : Hid (0 < k → wr.cell? ⟨eg, eo + (k - 1) * 2, none⟩ = some (.int .u8 ((es[k - 1]'(by omega)).1.toNat : Int))) := Lib.hid (fun h0 => (hcw _).trans (hec (k - 1) (by omega)).1)
            have HN : Hid (∀ r, vis A f es[k].2 m' d' = r → badAt es k = false → visEs (vis A f) none es (m + 1) (updD d m false) = match r with | none => none | some (m', d') => visEs (vis A f) (prevAt es (k + 1)) (es.drop (k + 1)) m' d') := Lib.hid (fun r hr hb => by
              rw [HVs.out, visEs_step _ _ _ _ _ hlt hb, hr])
            have HBad : Hid (badAt es k = true → visEs (vis A f) none es (m + 1) (updD d m false) = none) := Lib.hid (fun hb => by rw [HVs.out, visEs_bad _ _ _ _ _ hlt hb])
            have HCall : Hid (∀ W', Kept [] wr W' → Calls Try.prog 44 #[.pointer (some ⟨lb, 0, none⟩), .int .i64 es[k].2] W' (PostV W' lb sb (Value.slice (some ⟨g, o, none⟩) A.length cap0) A.length m' (vis A f es[k].2 m' d'))) := Lib.hid (fun W' hW' => by
              have := HM.out
              exact HIH.out _ m' d' W' (by omega) this.2 (HLW.out.kept hW' (by simp) (by simp)) ((((HA.out.kept HK0.out (by simp)).kept HK.out (by simp)).kept hW' (by simp))))
            have HBs : Hid (0 < k → badAt es k = decide (es[k].1.toNat ≤ (es[k - 1]'(by omega)).1.toNat)) := Lib.hid (badAt_s es k hlt)
            have HB0k : Hid (k = 0 → badAt es k = false) := Lib.hid (by rintro rfl; exact badAt_0 es)
            obtain ⟨⟨eb, et⟩, hek⟩ : ∃ x, es[k] = x := ⟨_, rfl⟩
            rw [hek] at b0 b1 HN HCall HBs
            dsimp only at b0 b1 HN HCall HBs
            clear hek hec hcw hce hE1 hwr HVs HIH
            by_cases h0 : 0 < k
            · obtain ⟨j, rfl⟩ : ∃ j, k = j + 1 := ⟨k - 1, by omega⟩
              have pc := HPrev.out h0
              have hbs := HBs.out h0
              simp only [Nat.add_sub_cancel] at pc hbs
              obtain ⟨⟨pb, pt⟩, hpk⟩ : ∃ x, es[j]'(by omega) = x := ⟨_, rfl⟩
              rw [hpk] at pc hbs
              dsimp only at pc hbs
              clear hpk
              have hw1 : IntKind.i64.wrap (j : Int) = (j : Int) := by have := HC1.out.1; have := HC1.out.2; unfold maxLen at this; rw [IntKind.wrap_i64]; omega
              have hjl : (j : Int) < (es.length : Int) := by omega
              have HKp : Hid (∀ W', Kept [lb, sb] (wr.alloc (.cells #[.int .u8 (eb.toNat : Int), .int .i64 et] 55)).drew W' → W'.cell? ⟨w.heap.size, 1, none⟩ = some (Value.slice (some ⟨eg, eo, none⟩) es.length cap1) ∧ W'.cell? ⟨eg, eo + j * 2, none⟩ = some (.int .u8 (pb.toNat : Int)) ∧ W'.cell? ⟨wr.heap.size, 0, none⟩ = some (.int .u8 (eb.toNat : Int)) ∧ W'.cell? ⟨wr.heap.size, 1, none⟩ = some (.int .i64 et)) := Lib.hid (fun W' h => by
                have hlt1 := HLW.out.lt
                have hlt2 := HL.out.lt
                have hsz := HK.out.size
                have hsz0 := HK0.out.size
                have hbl := block_lt (HK.out.at HB0.out (by simp only [List.mem_cons, List.not_mem_nil, or_false]; omega))
                have h1 : (wr.alloc (.cells #[.int .u8 (eb.toNat : Int), .int .i64 et] 55)).drew.heap[wr.heap.size]? = some (.cells #[.int .u8 (eb.toNat : Int), .int .i64 et] 55) := heap_alloc_new wr _
                have h2 := h.at h1 (by simp only [List.mem_cons, List.not_mem_nil, or_false]; omega)
                have hkk : Kept [lb, sb] wr W' := (((Kept.refl _ _).alloc _).drew).trans h
                refine ⟨?_, ?_, ?_, ?_⟩
                · rw [hkk.cell (p := ⟨w.heap.size, 1, none⟩) hbl (by simp only [List.mem_cons, List.not_mem_nil, or_false]; omega)]; exact t1
                · rw [hkk.cell (p := ⟨eg, eo + j * 2, none⟩) (by show eg < _; omega) hep]; exact pc
                · rw [Lib.cell_of_heap h2]; rfl
                · rw [Lib.cell_of_heap h2]; rfl)
              by_cases hb : eb.toNat ≤ pb.toNat
              · have HNb := Lib.hid (HBad.out (hbs.trans (decide_eq_true hb)))
                have hb1 : decide ((eb.toNat : Int) ≤ (pb.toNat : Int)) = true := by simpa using hb
                clear HN HBad HPrev HBs HB0k HCall hbs
                go_wp2_with fail
                refine wp_region_held_drew (S := fun w' => w'.cell? ⟨w.heap.size, 1, none⟩ = some (Value.slice (some ⟨eg, eo, none⟩) es.length cap1) ∧ w'.cell? ⟨eg, eo + j * 2, none⟩ = some (.int .u8 (pb.toNat : Int)) ∧ w'.cell? ⟨wr.heap.size, 0, none⟩ = some (.int .u8 (eb.toNat : Int)) ∧ w'.cell? ⟨wr.heap.size, 1, none⟩ = some (.int .i64 et)) (by kernel_rfl) ?_ (fun hHeld => ?_)
                · exact HKp.out _ (Kept.refl _ _)
                refine takeH (i := 0) (d := some 69) (v := ?_) rfl rfl (by kernel_rfl) (by kernel_rfl) (by kernel_rfl) (fun _ _ _ h => h) (Or.inl ⟨by kernel_rfl, ?_⟩) hHeld ?_
                rotate_left
                · intro w hSw; (try dsimp only at hSw); go_simp; try with_reducible rfl
                try simp only [Act.put, List.setIfInBounds_toArray, List.set_cons_zero, List.set_cons_succ]
                refine takeH (i := 1) (d := some 70) (v := ?_) rfl rfl (by kernel_rfl) (by kernel_rfl) (by kernel_rfl) (fun _ _ _ h => h) (Or.inl ⟨by kernel_rfl, ?_⟩) hHeld ?_
                rotate_left
                · intro w hSw; (try dsimp only at hSw); go_simp; try with_reducible rfl
                try simp only [Act.put, List.setIfInBounds_toArray, List.set_cons_zero, List.set_cons_succ]
                refine takeH (i := 2) (d := some 71) (v := ?_) rfl rfl (by kernel_rfl) (by kernel_rfl) (by kernel_rfl) (fun _ _ _ h => h) (Or.inl ⟨by kernel_rfl, ?_⟩) hHeld ?_
                rotate_left
                · intro w hSw; (try dsimp only at hSw); go_simp; try with_reducible rfl
                try simp only [Act.put, List.setIfInBounds_toArray, List.set_cons_zero, List.set_cons_succ]
                refine takeH (i := 3) (d := some 72) (v := ?_) rfl rfl (by kernel_rfl) (by kernel_rfl) (by kernel_rfl) (fun _ _ _ h => h) (Or.inl ⟨by kernel_rfl, ?_⟩) hHeld ?_
                rotate_left
                · intro w hSw; (try dsimp only at hSw); go_simp; try with_reducible rfl
                try simp only [Act.put, List.setIfInBounds_toArray, List.set_cons_zero, List.set_cons_succ]
                refine takeH (i := 4) (d := some 73) (v := ?_) rfl rfl (by kernel_rfl) (by kernel_rfl) (by kernel_rfl) (fun _ _ _ h => h) (Or.inl ⟨by kernel_rfl, ?_⟩) hHeld ?_
                rotate_left
                · intro w hSw; (try dsimp only at hSw); go_simp; try with_reducible rfl
                try simp only [Act.put, List.setIfInBounds_toArray, List.set_cons_zero, List.set_cons_succ]
                refine takeH (i := 5) (d := some 74) (v := ?_) rfl rfl (by kernel_rfl) (by kernel_rfl) (by kernel_rfl) (fun _ _ _ h => h) (Or.inl ⟨by kernel_rfl, ?_⟩) hHeld ?_
                rotate_left
                · intro w hSw; (try dsimp only at hSw); go_simp; try with_reducible rfl
                try simp only [Act.put, List.setIfInBounds_toArray, List.set_cons_zero, List.set_cons_succ]
                refine takeH (i := 6) (d := some 75) (v := ?_) rfl rfl (by kernel_rfl) (by kernel_rfl) (by kernel_rfl) (fun _ _ _ h => h) (Or.inl ⟨by kernel_rfl, ?_⟩) hHeld ?_
                rotate_left
                · intro w hSw; (try dsimp only at hSw); go_simp; try with_reducible rfl
                try simp only [Act.put, List.setIfInBounds_toArray, List.set_cons_zero, List.set_cons_succ]
                refine takeH (i := 7) (d := some 76) (v := ?_) rfl rfl (by kernel_rfl) (by kernel_rfl) (by kernel_rfl) (fun _ _ _ h => h) (Or.inl ⟨by kernel_rfl, ?_⟩) hHeld ?_
                rotate_left
                · intro w hSw; (try dsimp only at hSw); go_simp; try with_reducible rfl
                try simp only [Act.put, List.setIfInBounds_toArray, List.set_cons_zero, List.set_cons_succ]
                refine takeH (i := 8) (d := some 77) (v := ?_) rfl rfl (by kernel_rfl) (by kernel_rfl) (by kernel_rfl) (fun _ _ _ h => h) (Or.inl ⟨by kernel_rfl, ?_⟩) hHeld ?_
                rotate_left
                · intro w hSw; (try dsimp only at hSw); go_simp; try with_reducible rfl
                try simp only [Act.put, List.setIfInBounds_toArray, List.set_cons_zero, List.set_cons_succ]
                refine takeH (i := 9) (d := some 78) (v := ?_) rfl rfl (by kernel_rfl) (by kernel_rfl) (by kernel_rfl) (fun _ _ _ h => h) (Or.inl ⟨by kernel_rfl, ?_⟩) hHeld ?_
                rotate_left
                · intro w hSw; (try dsimp only at hSw); go_simp; try with_reducible rfl
                try simp only [Act.put, List.setIfInBounds_toArray, List.set_cons_zero, List.set_cons_succ]
                refine takeH (i := 10) (d := some 79) (v := ?_) rfl rfl (by kernel_rfl) (by kernel_rfl) (by kernel_rfl) (fun _ _ _ h => h) (Or.inl ⟨by kernel_rfl, ?_⟩) hHeld ?_
                rotate_left
                · intro w hSw; (try dsimp only at hSw); go_simp; try with_reducible rfl
                try simp only [Act.put, List.setIfInBounds_toArray, List.set_cons_zero, List.set_cons_succ]
                refine takeH (i := 11) (d := some 80) (v := ?_) rfl rfl (by kernel_rfl) (by kernel_rfl) (by kernel_rfl) (fun _ _ _ h => h) (Or.inl ⟨by kernel_rfl, ?_⟩) hHeld ?_
                rotate_left
                · intro w hSw; (try dsimp only at hSw); go_simp; try with_reducible rfl
                try simp only [Act.put, List.setIfInBounds_toArray, List.set_cons_zero, List.set_cons_succ]
                refine takeH (i := 12) (d := some 81) (v := ?_) rfl rfl (by kernel_rfl) (by kernel_rfl) (by kernel_rfl) (fun _ _ _ h => h) (Or.inl ⟨by kernel_rfl, ?_⟩) hHeld ?_
                rotate_left
                · intro w hSw; (try dsimp only at hSw); go_simp; try with_reducible rfl
                try simp only [Act.put, List.setIfInBounds_toArray, List.set_cons_zero, List.set_cons_succ]
                refine takeH (i := 13) (d := some 82) (v := ?_) rfl rfl (by kernel_rfl) (by kernel_rfl) (by kernel_rfl) (fun _ _ _ h => h) (Or.inl ⟨by kernel_rfl, ?_⟩) hHeld ?_
                rotate_left
                · intro w hSw; (try dsimp only at hSw); go_simp; try with_reducible rfl
                try simp only [Act.put, List.setIfInBounds_toArray, List.set_cons_zero, List.set_cons_succ]
                refine takeH (i := 14) (d := some 83) (v := ?_) rfl rfl (by kernel_rfl) (by kernel_rfl) (by kernel_rfl) (fun _ _ _ h => h) (Or.inl ⟨by kernel_rfl, ?_⟩) hHeld ?_
                rotate_left
                · intro w hSw; (try dsimp only at hSw); go_simp; try with_reducible rfl
                try simp only [Act.put, List.setIfInBounds_toArray, List.set_cons_zero, List.set_cons_succ]
                refine takeH (i := 15) (d := some 84) (v := undef) rfl rfl (by kernel_rfl) (by kernel_rfl) (by kernel_rfl) (fun _ _ _ h => h) (Or.inr ⟨by kernel_rfl, rfl⟩) hHeld ?_
                try simp only [Act.put, List.setIfInBounds_toArray, List.set_cons_zero, List.set_cons_succ]
                refine takeH (i := 16) (d := some 85) (v := undef) rfl rfl (by kernel_rfl) (by kernel_rfl) (by kernel_rfl) (fun _ _ _ h => h) (Or.inr ⟨by kernel_rfl, rfl⟩) hHeld ?_
                try simp only [Act.put, List.setIfInBounds_toArray, List.set_cons_zero, List.set_cons_succ]
                refine takeH (i := 17) (d := some 86) (v := undef) rfl rfl (by kernel_rfl) (by kernel_rfl) (by kernel_rfl) (fun _ _ _ h => h) (Or.inr ⟨by kernel_rfl, rfl⟩) hHeld ?_
                try simp only [Act.put, List.setIfInBounds_toArray, List.set_cons_zero, List.set_cons_succ]
                refine takeH (i := 18) (d := some 87) (v := undef) rfl rfl (by kernel_rfl) (by kernel_rfl) (by kernel_rfl) (fun _ _ _ h => h) (Or.inr ⟨by kernel_rfl, rfl⟩) hHeld ?_
                try simp only [Act.put, List.setIfInBounds_toArray, List.set_cons_zero, List.set_cons_succ]
                refine takeH (i := 19) (d := some 88) (v := undef) rfl rfl (by kernel_rfl) (by kernel_rfl) (by kernel_rfl) (fun _ _ _ h => h) (Or.inr ⟨by kernel_rfl, rfl⟩) hHeld ?_
                try simp only [Act.put, List.setIfInBounds_toArray, List.set_cons_zero, List.set_cons_succ]
                refine takeH (i := 20) (d := some 89) (v := ?_) rfl rfl (by kernel_rfl) (by kernel_rfl) (by kernel_rfl) (fun _ _ _ h => h) (Or.inl ⟨by kernel_rfl, ?_⟩) hHeld ?_
                rotate_left
                · intro w hSw; (try dsimp only at hSw); go_simp; try with_reducible rfl
                try simp only [Act.put, List.setIfInBounds_toArray, List.set_cons_zero, List.set_cons_succ]
                refine wpAnyH_done (by kernel_rfl) ?_ _
                go_wp2_with fail
                go_ret
                rw [HV.out, HNb.out, ite_self]
                exact ⟨rfl, HK0.out.trans (HK.out.trans (((Kept.refl _ _).alloc _).drew))⟩
              · have hb1 : decide ((eb.toNat : Int) ≤ (pb.toNat : Int)) = false := by simpa using hb
                have HNb := Lib.hid (hbs.trans (decide_eq_false hb))
                obtain ⟨r, hr⟩ : ∃ r, vis A f et m' d' = r := ⟨_, rfl⟩
                have HN2 := Lib.hid (HN.out r hr HNb.out)
                rw [hr] at HCall
                clear hr HN HBad HPrev HBs HB0k hbs
                rcases r with _ | ⟨m2, d2⟩
                · go_wp2_with fail
                  refine wp_region_held_drew (S := fun w' => w'.cell? ⟨w.heap.size, 1, none⟩ = some (Value.slice (some ⟨eg, eo, none⟩) es.length cap1) ∧ w'.cell? ⟨eg, eo + j * 2, none⟩ = some (.int .u8 (pb.toNat : Int)) ∧ w'.cell? ⟨wr.heap.size, 0, none⟩ = some (.int .u8 (eb.toNat : Int)) ∧ w'.cell? ⟨wr.heap.size, 1, none⟩ = some (.int .i64 et)) (by kernel_rfl) ?_ (fun hHeld => ?_)
                  · exact HKp.out _ (Kept.refl _ _)
                  refine takeH (i := 0) (d := some 69) (v := ?_) rfl rfl (by kernel_rfl) (by kernel_rfl) (by kernel_rfl) (fun _ _ _ h => h) (Or.inl ⟨by kernel_rfl, ?_⟩) hHeld ?_
                  rotate_left
                  · intro w hSw; (try dsimp only at hSw); go_simp; try with_reducible rfl
                  try simp only [Act.put, List.setIfInBounds_toArray, List.set_cons_zero, List.set_cons_succ]
                  refine takeH (i := 1) (d := some 70) (v := ?_) rfl rfl (by kernel_rfl) (by kernel_rfl) (by kernel_rfl) (fun _ _ _ h => h) (Or.inl ⟨by kernel_rfl, ?_⟩) hHeld ?_
                  rotate_left
                  · intro w hSw; (try dsimp only at hSw); go_simp; try with_reducible rfl
                  try simp only [Act.put, List.setIfInBounds_toArray, List.set_cons_zero, List.set_cons_succ]
                  refine takeH (i := 2) (d := some 71) (v := ?_) rfl rfl (by kernel_rfl) (by kernel_rfl) (by kernel_rfl) (fun _ _ _ h => h) (Or.inl ⟨by kernel_rfl, ?_⟩) hHeld ?_
                  rotate_left
                  · intro w hSw; (try dsimp only at hSw); go_simp; try with_reducible rfl
                  try simp only [Act.put, List.setIfInBounds_toArray, List.set_cons_zero, List.set_cons_succ]
                  refine takeH (i := 3) (d := some 72) (v := ?_) rfl rfl (by kernel_rfl) (by kernel_rfl) (by kernel_rfl) (fun _ _ _ h => h) (Or.inl ⟨by kernel_rfl, ?_⟩) hHeld ?_
                  rotate_left
                  · intro w hSw; (try dsimp only at hSw); go_simp; try with_reducible rfl
                  try simp only [Act.put, List.setIfInBounds_toArray, List.set_cons_zero, List.set_cons_succ]
                  refine takeH (i := 4) (d := some 73) (v := ?_) rfl rfl (by kernel_rfl) (by kernel_rfl) (by kernel_rfl) (fun _ _ _ h => h) (Or.inl ⟨by kernel_rfl, ?_⟩) hHeld ?_
                  rotate_left
                  · intro w hSw; (try dsimp only at hSw); go_simp; try with_reducible rfl
                  try simp only [Act.put, List.setIfInBounds_toArray, List.set_cons_zero, List.set_cons_succ]
                  refine takeH (i := 5) (d := some 74) (v := ?_) rfl rfl (by kernel_rfl) (by kernel_rfl) (by kernel_rfl) (fun _ _ _ h => h) (Or.inl ⟨by kernel_rfl, ?_⟩) hHeld ?_
                  rotate_left
                  · intro w hSw; (try dsimp only at hSw); go_simp; try with_reducible rfl
                  try simp only [Act.put, List.setIfInBounds_toArray, List.set_cons_zero, List.set_cons_succ]
                  refine takeH (i := 6) (d := some 75) (v := ?_) rfl rfl (by kernel_rfl) (by kernel_rfl) (by kernel_rfl) (fun _ _ _ h => h) (Or.inl ⟨by kernel_rfl, ?_⟩) hHeld ?_
                  rotate_left
                  · intro w hSw; (try dsimp only at hSw); go_simp; try with_reducible rfl
                  try simp only [Act.put, List.setIfInBounds_toArray, List.set_cons_zero, List.set_cons_succ]
                  refine takeH (i := 7) (d := some 76) (v := ?_) rfl rfl (by kernel_rfl) (by kernel_rfl) (by kernel_rfl) (fun _ _ _ h => h) (Or.inl ⟨by kernel_rfl, ?_⟩) hHeld ?_
                  rotate_left
                  · intro w hSw; (try dsimp only at hSw); go_simp; try with_reducible rfl
                  try simp only [Act.put, List.setIfInBounds_toArray, List.set_cons_zero, List.set_cons_succ]
                  refine takeH (i := 8) (d := some 77) (v := ?_) rfl rfl (by kernel_rfl) (by kernel_rfl) (by kernel_rfl) (fun _ _ _ h => h) (Or.inl ⟨by kernel_rfl, ?_⟩) hHeld ?_
                  rotate_left
                  · intro w hSw; (try dsimp only at hSw); go_simp; try with_reducible rfl
                  try simp only [Act.put, List.setIfInBounds_toArray, List.set_cons_zero, List.set_cons_succ]
                  refine takeH (i := 9) (d := some 78) (v := ?_) rfl rfl (by kernel_rfl) (by kernel_rfl) (by kernel_rfl) (fun _ _ _ h => h) (Or.inl ⟨by kernel_rfl, ?_⟩) hHeld ?_
                  rotate_left
                  · intro w hSw; (try dsimp only at hSw); go_simp; try with_reducible rfl
                  try simp only [Act.put, List.setIfInBounds_toArray, List.set_cons_zero, List.set_cons_succ]
                  refine takeH (i := 10) (d := some 79) (v := ?_) rfl rfl (by kernel_rfl) (by kernel_rfl) (by kernel_rfl) (fun _ _ _ h => h) (Or.inl ⟨by kernel_rfl, ?_⟩) hHeld ?_
                  rotate_left
                  · intro w hSw; (try dsimp only at hSw); go_simp; try with_reducible rfl
                  try simp only [Act.put, List.setIfInBounds_toArray, List.set_cons_zero, List.set_cons_succ]
                  refine takeH (i := 11) (d := some 80) (v := ?_) rfl rfl (by kernel_rfl) (by kernel_rfl) (by kernel_rfl) (fun _ _ _ h => h) (Or.inl ⟨by kernel_rfl, ?_⟩) hHeld ?_
                  rotate_left
                  · intro w hSw; (try dsimp only at hSw); go_simp; try with_reducible rfl
                  try simp only [Act.put, List.setIfInBounds_toArray, List.set_cons_zero, List.set_cons_succ]
                  refine takeH (i := 12) (d := some 81) (v := ?_) rfl rfl (by kernel_rfl) (by kernel_rfl) (by kernel_rfl) (fun _ _ _ h => h) (Or.inl ⟨by kernel_rfl, ?_⟩) hHeld ?_
                  rotate_left
                  · intro w hSw; (try dsimp only at hSw); go_simp; try with_reducible rfl
                  try simp only [Act.put, List.setIfInBounds_toArray, List.set_cons_zero, List.set_cons_succ]
                  refine takeH (i := 13) (d := some 82) (v := ?_) rfl rfl (by kernel_rfl) (by kernel_rfl) (by kernel_rfl) (fun _ _ _ h => h) (Or.inl ⟨by kernel_rfl, ?_⟩) hHeld ?_
                  rotate_left
                  · intro w hSw; (try dsimp only at hSw); go_simp; try with_reducible rfl
                  try simp only [Act.put, List.setIfInBounds_toArray, List.set_cons_zero, List.set_cons_succ]
                  refine takeH (i := 14) (d := some 83) (v := ?_) rfl rfl (by kernel_rfl) (by kernel_rfl) (by kernel_rfl) (fun _ _ _ h => h) (Or.inl ⟨by kernel_rfl, ?_⟩) hHeld ?_
                  rotate_left
                  · intro w hSw; (try dsimp only at hSw); go_simp; try with_reducible rfl
                  try simp only [Act.put, List.setIfInBounds_toArray, List.set_cons_zero, List.set_cons_succ]
                  refine takeH (i := 15) (d := some 84) (v := ?_) rfl rfl (by kernel_rfl) (by kernel_rfl) (by kernel_rfl) (fun _ _ _ h => h) (Or.inl ⟨by kernel_rfl, ?_⟩) hHeld ?_
                  rotate_left
                  · intro w hSw; (try dsimp only at hSw); go_simp; try with_reducible rfl
                  try simp only [Act.put, List.setIfInBounds_toArray, List.set_cons_zero, List.set_cons_succ]
                  refine takeH (i := 16) (d := some 85) (v := ?_) rfl rfl (by kernel_rfl) (by kernel_rfl) (by kernel_rfl) (fun _ _ _ h => h) (Or.inl ⟨by kernel_rfl, ?_⟩) hHeld ?_
                  rotate_left
                  · intro w hSw; (try dsimp only at hSw); go_simp; try with_reducible rfl
                  try simp only [Act.put, List.setIfInBounds_toArray, List.set_cons_zero, List.set_cons_succ]
                  refine takeH (i := 17) (d := some 86) (v := ?_) rfl rfl (by kernel_rfl) (by kernel_rfl) (by kernel_rfl) (fun _ _ _ h => h) (Or.inl ⟨by kernel_rfl, ?_⟩) hHeld ?_
                  rotate_left
                  · intro w hSw; (try dsimp only at hSw); go_simp; try with_reducible rfl
                  try simp only [Act.put, List.setIfInBounds_toArray, List.set_cons_zero, List.set_cons_succ]
                  refine wpAnyH_ready (rs := [18]) (by kernel_rfl) (by simp) ?_
                  refine AllReadyH.cons rfl (fun K hK => ?_) AllReadyH.nil
                  go_simp
                  refine (HCall.out _ (((Kept.refl _ _).alloc _).drew)).mono ?_
                  rintro e w' ⟨rfl, hk⟩
                  refine hK.out _ _ ?_ (fun hHeld => ?_)
                  · exact HKp.out w' hk
                  have HKc := Lib.hid hk
                  clear hk
                  clear hK K
                  refine takeH (i := 19) (d := some 88) (v := ?_) rfl rfl (by kernel_rfl) (by kernel_rfl) (by kernel_rfl) (fun _ _ _ h => h) (Or.inl ⟨by kernel_rfl, ?_⟩) hHeld ?_
                  rotate_left
                  · intro w hSw; (try dsimp only at hSw); go_simp; try with_reducible rfl
                  try simp only [Act.put, List.setIfInBounds_toArray, List.set_cons_zero, List.set_cons_succ]
                  refine takeH (i := 20) (d := some 89) (v := ?_) rfl rfl (by kernel_rfl) (by kernel_rfl) (by kernel_rfl) (fun _ _ _ h => h) (Or.inl ⟨by kernel_rfl, ?_⟩) hHeld ?_
                  rotate_left
                  · intro w hSw; (try dsimp only at hSw); go_simp; try with_reducible rfl
                  try simp only [Act.put, List.setIfInBounds_toArray, List.set_cons_zero, List.set_cons_succ]
                  refine wpAnyH_done (by kernel_rfl) ?_ _
                  go_wp2_with fail
                  go_ret
                  rw [HV.out, HN2.out, ite_self]
                  exact ⟨rfl, HK0.out.trans (HK.out.trans ((((Kept.refl _ _).alloc _).drew).trans HKc.out))⟩
                · go_wp2_with fail
                  refine wp_region_held_drew (S := fun w' => w'.cell? ⟨w.heap.size, 1, none⟩ = some (Value.slice (some ⟨eg, eo, none⟩) es.length cap1) ∧ w'.cell? ⟨eg, eo + j * 2, none⟩ = some (.int .u8 (pb.toNat : Int)) ∧ w'.cell? ⟨wr.heap.size, 0, none⟩ = some (.int .u8 (eb.toNat : Int)) ∧ w'.cell? ⟨wr.heap.size, 1, none⟩ = some (.int .i64 et)) (by kernel_rfl) ?_ (fun hHeld => ?_)
                  · exact HKp.out _ (Kept.refl _ _)
                  refine takeH (i := 0) (d := some 69) (v := ?_) rfl rfl (by kernel_rfl) (by kernel_rfl) (by kernel_rfl) (fun _ _ _ h => h) (Or.inl ⟨by kernel_rfl, ?_⟩) hHeld ?_
                  rotate_left
                  · intro w hSw; (try dsimp only at hSw); go_simp; try with_reducible rfl
                  try simp only [Act.put, List.setIfInBounds_toArray, List.set_cons_zero, List.set_cons_succ]
                  refine takeH (i := 1) (d := some 70) (v := ?_) rfl rfl (by kernel_rfl) (by kernel_rfl) (by kernel_rfl) (fun _ _ _ h => h) (Or.inl ⟨by kernel_rfl, ?_⟩) hHeld ?_
                  rotate_left
                  · intro w hSw; (try dsimp only at hSw); go_simp; try with_reducible rfl
                  try simp only [Act.put, List.setIfInBounds_toArray, List.set_cons_zero, List.set_cons_succ]
                  refine takeH (i := 2) (d := some 71) (v := ?_) rfl rfl (by kernel_rfl) (by kernel_rfl) (by kernel_rfl) (fun _ _ _ h => h) (Or.inl ⟨by kernel_rfl, ?_⟩) hHeld ?_
                  rotate_left
                  · intro w hSw; (try dsimp only at hSw); go_simp; try with_reducible rfl
                  try simp only [Act.put, List.setIfInBounds_toArray, List.set_cons_zero, List.set_cons_succ]
                  refine takeH (i := 3) (d := some 72) (v := ?_) rfl rfl (by kernel_rfl) (by kernel_rfl) (by kernel_rfl) (fun _ _ _ h => h) (Or.inl ⟨by kernel_rfl, ?_⟩) hHeld ?_
                  rotate_left
                  · intro w hSw; (try dsimp only at hSw); go_simp; try with_reducible rfl
                  try simp only [Act.put, List.setIfInBounds_toArray, List.set_cons_zero, List.set_cons_succ]
                  refine takeH (i := 4) (d := some 73) (v := ?_) rfl rfl (by kernel_rfl) (by kernel_rfl) (by kernel_rfl) (fun _ _ _ h => h) (Or.inl ⟨by kernel_rfl, ?_⟩) hHeld ?_
                  rotate_left
                  · intro w hSw; (try dsimp only at hSw); go_simp; try with_reducible rfl
                  try simp only [Act.put, List.setIfInBounds_toArray, List.set_cons_zero, List.set_cons_succ]
                  refine takeH (i := 5) (d := some 74) (v := ?_) rfl rfl (by kernel_rfl) (by kernel_rfl) (by kernel_rfl) (fun _ _ _ h => h) (Or.inl ⟨by kernel_rfl, ?_⟩) hHeld ?_
                  rotate_left
                  · intro w hSw; (try dsimp only at hSw); go_simp; try with_reducible rfl
                  try simp only [Act.put, List.setIfInBounds_toArray, List.set_cons_zero, List.set_cons_succ]
                  refine takeH (i := 6) (d := some 75) (v := ?_) rfl rfl (by kernel_rfl) (by kernel_rfl) (by kernel_rfl) (fun _ _ _ h => h) (Or.inl ⟨by kernel_rfl, ?_⟩) hHeld ?_
                  rotate_left
                  · intro w hSw; (try dsimp only at hSw); go_simp; try with_reducible rfl
                  try simp only [Act.put, List.setIfInBounds_toArray, List.set_cons_zero, List.set_cons_succ]
                  refine takeH (i := 7) (d := some 76) (v := ?_) rfl rfl (by kernel_rfl) (by kernel_rfl) (by kernel_rfl) (fun _ _ _ h => h) (Or.inl ⟨by kernel_rfl, ?_⟩) hHeld ?_
                  rotate_left
                  · intro w hSw; (try dsimp only at hSw); go_simp; try with_reducible rfl
                  try simp only [Act.put, List.setIfInBounds_toArray, List.set_cons_zero, List.set_cons_succ]
                  refine takeH (i := 8) (d := some 77) (v := ?_) rfl rfl (by kernel_rfl) (by kernel_rfl) (by kernel_rfl) (fun _ _ _ h => h) (Or.inl ⟨by kernel_rfl, ?_⟩) hHeld ?_
                  rotate_left
                  · intro w hSw; (try dsimp only at hSw); go_simp; try with_reducible rfl
                  try simp only [Act.put, List.setIfInBounds_toArray, List.set_cons_zero, List.set_cons_succ]
                  refine takeH (i := 9) (d := some 78) (v := ?_) rfl rfl (by kernel_rfl) (by kernel_rfl) (by kernel_rfl) (fun _ _ _ h => h) (Or.inl ⟨by kernel_rfl, ?_⟩) hHeld ?_
                  rotate_left
                  · intro w hSw; (try dsimp only at hSw); go_simp; try with_reducible rfl
                  try simp only [Act.put, List.setIfInBounds_toArray, List.set_cons_zero, List.set_cons_succ]
                  refine takeH (i := 10) (d := some 79) (v := ?_) rfl rfl (by kernel_rfl) (by kernel_rfl) (by kernel_rfl) (fun _ _ _ h => h) (Or.inl ⟨by kernel_rfl, ?_⟩) hHeld ?_
                  rotate_left
                  · intro w hSw; (try dsimp only at hSw); go_simp; try with_reducible rfl
                  try simp only [Act.put, List.setIfInBounds_toArray, List.set_cons_zero, List.set_cons_succ]
                  refine takeH (i := 11) (d := some 80) (v := ?_) rfl rfl (by kernel_rfl) (by kernel_rfl) (by kernel_rfl) (fun _ _ _ h => h) (Or.inl ⟨by kernel_rfl, ?_⟩) hHeld ?_
                  rotate_left
                  · intro w hSw; (try dsimp only at hSw); go_simp; try with_reducible rfl
                  try simp only [Act.put, List.setIfInBounds_toArray, List.set_cons_zero, List.set_cons_succ]
                  refine takeH (i := 12) (d := some 81) (v := ?_) rfl rfl (by kernel_rfl) (by kernel_rfl) (by kernel_rfl) (fun _ _ _ h => h) (Or.inl ⟨by kernel_rfl, ?_⟩) hHeld ?_
                  rotate_left
                  · intro w hSw; (try dsimp only at hSw); go_simp; try with_reducible rfl
                  try simp only [Act.put, List.setIfInBounds_toArray, List.set_cons_zero, List.set_cons_succ]
                  refine takeH (i := 13) (d := some 82) (v := ?_) rfl rfl (by kernel_rfl) (by kernel_rfl) (by kernel_rfl) (fun _ _ _ h => h) (Or.inl ⟨by kernel_rfl, ?_⟩) hHeld ?_
                  rotate_left
                  · intro w hSw; (try dsimp only at hSw); go_simp; try with_reducible rfl
                  try simp only [Act.put, List.setIfInBounds_toArray, List.set_cons_zero, List.set_cons_succ]
                  refine takeH (i := 14) (d := some 83) (v := ?_) rfl rfl (by kernel_rfl) (by kernel_rfl) (by kernel_rfl) (fun _ _ _ h => h) (Or.inl ⟨by kernel_rfl, ?_⟩) hHeld ?_
                  rotate_left
                  · intro w hSw; (try dsimp only at hSw); go_simp; try with_reducible rfl
                  try simp only [Act.put, List.setIfInBounds_toArray, List.set_cons_zero, List.set_cons_succ]
                  refine takeH (i := 15) (d := some 84) (v := ?_) rfl rfl (by kernel_rfl) (by kernel_rfl) (by kernel_rfl) (fun _ _ _ h => h) (Or.inl ⟨by kernel_rfl, ?_⟩) hHeld ?_
                  rotate_left
                  · intro w hSw; (try dsimp only at hSw); go_simp; try with_reducible rfl
                  try simp only [Act.put, List.setIfInBounds_toArray, List.set_cons_zero, List.set_cons_succ]
                  refine takeH (i := 16) (d := some 85) (v := ?_) rfl rfl (by kernel_rfl) (by kernel_rfl) (by kernel_rfl) (fun _ _ _ h => h) (Or.inl ⟨by kernel_rfl, ?_⟩) hHeld ?_
                  rotate_left
                  · intro w hSw; (try dsimp only at hSw); go_simp; try with_reducible rfl
                  try simp only [Act.put, List.setIfInBounds_toArray, List.set_cons_zero, List.set_cons_succ]
                  refine takeH (i := 17) (d := some 86) (v := ?_) rfl rfl (by kernel_rfl) (by kernel_rfl) (by kernel_rfl) (fun _ _ _ h => h) (Or.inl ⟨by kernel_rfl, ?_⟩) hHeld ?_
                  rotate_left
                  · intro w hSw; (try dsimp only at hSw); go_simp; try with_reducible rfl
                  try simp only [Act.put, List.setIfInBounds_toArray, List.set_cons_zero, List.set_cons_succ]
                  refine wpAnyH_ready (rs := [18]) (by kernel_rfl) (by simp) ?_
                  refine AllReadyH.cons rfl (fun K hK => ?_) AllReadyH.nil
                  go_simp
                  refine (HCall.out _ (((Kept.refl _ _).alloc _).drew)).mono ?_
                  rintro e w' ⟨rfl, hk, hl, hm1, hm2⟩
                  refine hK.out _ _ ?_ (fun hHeld => ?_)
                  · exact HKp.out w' hk
                  have HKc := Lib.hid hk
                  clear hk
                  have HLc := Lib.hid hl
                  have HMc := Lib.hid (And.intro hm1 hm2)
                  clear hl hm1 hm2
                  clear hK K
                  refine takeH (i := 19) (d := some 88) (v := ?_) rfl rfl (by kernel_rfl) (by kernel_rfl) (by kernel_rfl) (fun _ _ _ h => h) (Or.inl ⟨by kernel_rfl, ?_⟩) hHeld ?_
                  rotate_left
                  · intro w hSw; (try dsimp only at hSw); go_simp; try with_reducible rfl
                  try simp only [Act.put, List.setIfInBounds_toArray, List.set_cons_zero, List.set_cons_succ]
                  refine takeH (i := 20) (d := some 89) (v := ?_) rfl rfl (by kernel_rfl) (by kernel_rfl) (by kernel_rfl) (fun _ _ _ h => h) (Or.inl ⟨by kernel_rfl, ?_⟩) hHeld ?_
                  rotate_left
                  · intro w hSw; (try dsimp only at hSw); go_simp; try with_reducible rfl
                  try simp only [Act.put, List.setIfInBounds_toArray, List.set_cons_zero, List.set_cons_succ]
                  refine wpAnyH_done (by kernel_rfl) ?_ _
                  go_wp2_with fail
                  go_roundw
                  case rel => exact ⟨j + 1 + 1, m2, d2, HLt.out trivial, val_up2 j es.length cap1 HC1.out.1 HC1.out.2 (HLt.out trivial), Lib.hid (by have := HM.out; have := HMc.out; omega), Lib.hid (HK.out.trans ((((Kept.refl _ _).alloc _).drew).trans HKc.out)), HLc, HN2⟩
                  case measure => exact meas_up2 j es.length cap1 HC1.out.1 HC1.out.2 (HLt.out trivial)
            · obtain rfl : k = 0 := by omega
              simp only [Nat.zero_mul, Nat.add_zero] at b0 b1
              have HKp : Hid (∀ W', Kept [lb, sb] (wr.alloc (.cells #[.int .u8 (eb.toNat : Int), .int .i64 et] 55)).drew W' → W'.cell? ⟨wr.heap.size, 1, none⟩ = some (.int .i64 et)) := Lib.hid (fun W' h => by
                have := HLW.out.lt
                have h1 : (wr.alloc (.cells #[.int .u8 (eb.toNat : Int), .int .i64 et] 55)).drew.heap[wr.heap.size]? = some (.cells #[.int .u8 (eb.toNat : Int), .int .i64 et] 55) := heap_alloc_new wr _
                rw [Lib.cell_of_heap (h.at h1 (by simp only [List.mem_cons, List.not_mem_nil, or_false]; omega))]; rfl)
              have HNb := Lib.hid (HB0k.out rfl)
              obtain ⟨r, hr⟩ : ∃ r, vis A f et m' d' = r := ⟨_, rfl⟩
              have HN2 := Lib.hid (HN.out r hr HNb.out)
              rw [hr] at HCall
              clear hr HN HBad HPrev HBs HB0k
              rcases r with _ | ⟨m2, d2⟩
              · go_wp2_with fail
                refine wp_region_held_drew (S := fun w' => w'.cell? ⟨wr.heap.size, 1, none⟩ = some (.int .i64 et)) (by kernel_rfl) ?_ (fun hHeld => ?_)
                · exact HKp.out _ (Kept.refl _ _)
                refine takeH (i := 0) (d := some 69) (v := ?_) rfl rfl (by kernel_rfl) (by kernel_rfl) (by kernel_rfl) (fun _ _ _ h => h) (Or.inl ⟨by kernel_rfl, ?_⟩) hHeld ?_
                rotate_left
                · intro w hSw; (try dsimp only at hSw); go_simp; try with_reducible rfl
                try simp only [Act.put, List.setIfInBounds_toArray, List.set_cons_zero, List.set_cons_succ]
                refine takeH (i := 1) (d := some 70) (v := ?_) rfl rfl (by kernel_rfl) (by kernel_rfl) (by kernel_rfl) (fun _ _ _ h => h) (Or.inl ⟨by kernel_rfl, ?_⟩) hHeld ?_
                rotate_left
                · intro w hSw; (try dsimp only at hSw); go_simp; try with_reducible rfl
                try simp only [Act.put, List.setIfInBounds_toArray, List.set_cons_zero, List.set_cons_succ]
                refine takeH (i := 2) (d := some 71) (v := ?_) rfl rfl (by kernel_rfl) (by kernel_rfl) (by kernel_rfl) (fun _ _ _ h => h) (Or.inl ⟨by kernel_rfl, ?_⟩) hHeld ?_
                rotate_left
                · intro w hSw; (try dsimp only at hSw); go_simp; try with_reducible rfl
                try simp only [Act.put, List.setIfInBounds_toArray, List.set_cons_zero, List.set_cons_succ]
                refine takeH (i := 3) (d := some 72) (v := undef) rfl rfl (by kernel_rfl) (by kernel_rfl) (by kernel_rfl) (fun _ _ _ h => h) (Or.inr ⟨by kernel_rfl, rfl⟩) hHeld ?_
                try simp only [Act.put, List.setIfInBounds_toArray, List.set_cons_zero, List.set_cons_succ]
                refine takeH (i := 4) (d := some 73) (v := undef) rfl rfl (by kernel_rfl) (by kernel_rfl) (by kernel_rfl) (fun _ _ _ h => h) (Or.inr ⟨by kernel_rfl, rfl⟩) hHeld ?_
                try simp only [Act.put, List.setIfInBounds_toArray, List.set_cons_zero, List.set_cons_succ]
                refine takeH (i := 5) (d := some 74) (v := undef) rfl rfl (by kernel_rfl) (by kernel_rfl) (by kernel_rfl) (fun _ _ _ h => h) (Or.inr ⟨by kernel_rfl, rfl⟩) hHeld ?_
                try simp only [Act.put, List.setIfInBounds_toArray, List.set_cons_zero, List.set_cons_succ]
                refine takeH (i := 6) (d := some 75) (v := undef) rfl rfl (by kernel_rfl) (by kernel_rfl) (by kernel_rfl) (fun _ _ _ h => h) (Or.inr ⟨by kernel_rfl, rfl⟩) hHeld ?_
                try simp only [Act.put, List.setIfInBounds_toArray, List.set_cons_zero, List.set_cons_succ]
                refine takeH (i := 7) (d := some 76) (v := undef) rfl rfl (by kernel_rfl) (by kernel_rfl) (by kernel_rfl) (fun _ _ _ h => h) (Or.inr ⟨by kernel_rfl, rfl⟩) hHeld ?_
                try simp only [Act.put, List.setIfInBounds_toArray, List.set_cons_zero, List.set_cons_succ]
                refine takeH (i := 8) (d := some 77) (v := undef) rfl rfl (by kernel_rfl) (by kernel_rfl) (by kernel_rfl) (fun _ _ _ h => h) (Or.inr ⟨by kernel_rfl, rfl⟩) hHeld ?_
                try simp only [Act.put, List.setIfInBounds_toArray, List.set_cons_zero, List.set_cons_succ]
                refine takeH (i := 9) (d := some 78) (v := undef) rfl rfl (by kernel_rfl) (by kernel_rfl) (by kernel_rfl) (fun _ _ _ h => h) (Or.inr ⟨by kernel_rfl, rfl⟩) hHeld ?_
                try simp only [Act.put, List.setIfInBounds_toArray, List.set_cons_zero, List.set_cons_succ]
                refine takeH (i := 10) (d := some 79) (v := undef) rfl rfl (by kernel_rfl) (by kernel_rfl) (by kernel_rfl) (fun _ _ _ h => h) (Or.inr ⟨by kernel_rfl, rfl⟩) hHeld ?_
                try simp only [Act.put, List.setIfInBounds_toArray, List.set_cons_zero, List.set_cons_succ]
                refine takeH (i := 11) (d := some 80) (v := undef) rfl rfl (by kernel_rfl) (by kernel_rfl) (by kernel_rfl) (fun _ _ _ h => h) (Or.inr ⟨by kernel_rfl, rfl⟩) hHeld ?_
                try simp only [Act.put, List.setIfInBounds_toArray, List.set_cons_zero, List.set_cons_succ]
                refine takeH (i := 12) (d := some 81) (v := undef) rfl rfl (by kernel_rfl) (by kernel_rfl) (by kernel_rfl) (fun _ _ _ h => h) (Or.inr ⟨by kernel_rfl, rfl⟩) hHeld ?_
                try simp only [Act.put, List.setIfInBounds_toArray, List.set_cons_zero, List.set_cons_succ]
                refine takeH (i := 13) (d := some 82) (v := ?_) rfl rfl (by kernel_rfl) (by kernel_rfl) (by kernel_rfl) (fun _ _ _ h => h) (Or.inl ⟨by kernel_rfl, ?_⟩) hHeld ?_
                rotate_left
                · intro w hSw; (try dsimp only at hSw); go_simp; try with_reducible rfl
                try simp only [Act.put, List.setIfInBounds_toArray, List.set_cons_zero, List.set_cons_succ]
                refine takeH (i := 14) (d := some 83) (v := ?_) rfl rfl (by kernel_rfl) (by kernel_rfl) (by kernel_rfl) (fun _ _ _ h => h) (Or.inl ⟨by kernel_rfl, ?_⟩) hHeld ?_
                rotate_left
                · intro w hSw; (try dsimp only at hSw); go_simp; try with_reducible rfl
                try simp only [Act.put, List.setIfInBounds_toArray, List.set_cons_zero, List.set_cons_succ]
                refine takeH (i := 15) (d := some 84) (v := ?_) rfl rfl (by kernel_rfl) (by kernel_rfl) (by kernel_rfl) (fun _ _ _ h => h) (Or.inl ⟨by kernel_rfl, ?_⟩) hHeld ?_
                rotate_left
                · intro w hSw; (try dsimp only at hSw); go_simp; try with_reducible rfl
                try simp only [Act.put, List.setIfInBounds_toArray, List.set_cons_zero, List.set_cons_succ]
                refine takeH (i := 16) (d := some 85) (v := ?_) rfl rfl (by kernel_rfl) (by kernel_rfl) (by kernel_rfl) (fun _ _ _ h => h) (Or.inl ⟨by kernel_rfl, ?_⟩) hHeld ?_
                rotate_left
                · intro w hSw; (try dsimp only at hSw); go_simp; try with_reducible rfl
                try simp only [Act.put, List.setIfInBounds_toArray, List.set_cons_zero, List.set_cons_succ]
                refine takeH (i := 17) (d := some 86) (v := ?_) rfl rfl (by kernel_rfl) (by kernel_rfl) (by kernel_rfl) (fun _ _ _ h => h) (Or.inl ⟨by kernel_rfl, ?_⟩) hHeld ?_
                rotate_left
                · intro w hSw; (try dsimp only at hSw); go_simp; try with_reducible rfl
                try simp only [Act.put, List.setIfInBounds_toArray, List.set_cons_zero, List.set_cons_succ]
                refine wpAnyH_ready (rs := [18]) (by kernel_rfl) (by simp) ?_
                refine AllReadyH.cons rfl (fun K hK => ?_) AllReadyH.nil
                go_simp
                refine (HCall.out _ (((Kept.refl _ _).alloc _).drew)).mono ?_
                rintro e w' ⟨rfl, hk⟩
                refine hK.out _ _ ?_ (fun hHeld => ?_)
                · exact HKp.out w' hk
                have HKc := Lib.hid hk
                clear hk
                clear hK K
                refine takeH (i := 19) (d := some 88) (v := ?_) rfl rfl (by kernel_rfl) (by kernel_rfl) (by kernel_rfl) (fun _ _ _ h => h) (Or.inl ⟨by kernel_rfl, ?_⟩) hHeld ?_
                rotate_left
                · intro w hSw; (try dsimp only at hSw); go_simp; try with_reducible rfl
                try simp only [Act.put, List.setIfInBounds_toArray, List.set_cons_zero, List.set_cons_succ]
                refine takeH (i := 20) (d := some 89) (v := ?_) rfl rfl (by kernel_rfl) (by kernel_rfl) (by kernel_rfl) (fun _ _ _ h => h) (Or.inl ⟨by kernel_rfl, ?_⟩) hHeld ?_
                rotate_left
                · intro w hSw; (try dsimp only at hSw); go_simp; try with_reducible rfl
                try simp only [Act.put, List.setIfInBounds_toArray, List.set_cons_zero, List.set_cons_succ]
                refine wpAnyH_done (by kernel_rfl) ?_ _
                go_wp2_with fail
                go_ret
                rw [HV.out, HN2.out, ite_self]
                exact ⟨rfl, HK0.out.trans (HK.out.trans ((((Kept.refl _ _).alloc _).drew).trans HKc.out))⟩
              · go_wp2_with fail
                refine wp_region_held_drew (S := fun w' => w'.cell? ⟨wr.heap.size, 1, none⟩ = some (.int .i64 et)) (by kernel_rfl) ?_ (fun hHeld => ?_)
                · exact HKp.out _ (Kept.refl _ _)
                refine takeH (i := 0) (d := some 69) (v := ?_) rfl rfl (by kernel_rfl) (by kernel_rfl) (by kernel_rfl) (fun _ _ _ h => h) (Or.inl ⟨by kernel_rfl, ?_⟩) hHeld ?_
                rotate_left
                · intro w hSw; (try dsimp only at hSw); go_simp; try with_reducible rfl
                try simp only [Act.put, List.setIfInBounds_toArray, List.set_cons_zero, List.set_cons_succ]
                refine takeH (i := 1) (d := some 70) (v := ?_) rfl rfl (by kernel_rfl) (by kernel_rfl) (by kernel_rfl) (fun _ _ _ h => h) (Or.inl ⟨by kernel_rfl, ?_⟩) hHeld ?_
                rotate_left
                · intro w hSw; (try dsimp only at hSw); go_simp; try with_reducible rfl
                try simp only [Act.put, List.setIfInBounds_toArray, List.set_cons_zero, List.set_cons_succ]
                refine takeH (i := 2) (d := some 71) (v := ?_) rfl rfl (by kernel_rfl) (by kernel_rfl) (by kernel_rfl) (fun _ _ _ h => h) (Or.inl ⟨by kernel_rfl, ?_⟩) hHeld ?_
                rotate_left
                · intro w hSw; (try dsimp only at hSw); go_simp; try with_reducible rfl
                try simp only [Act.put, List.setIfInBounds_toArray, List.set_cons_zero, List.set_cons_succ]
                refine takeH (i := 3) (d := some 72) (v := undef) rfl rfl (by kernel_rfl) (by kernel_rfl) (by kernel_rfl) (fun _ _ _ h => h) (Or.inr ⟨by kernel_rfl, rfl⟩) hHeld ?_
                try simp only [Act.put, List.setIfInBounds_toArray, List.set_cons_zero, List.set_cons_succ]
                refine takeH (i := 4) (d := some 73) (v := undef) rfl rfl (by kernel_rfl) (by kernel_rfl) (by kernel_rfl) (fun _ _ _ h => h) (Or.inr ⟨by kernel_rfl, rfl⟩) hHeld ?_
                try simp only [Act.put, List.setIfInBounds_toArray, List.set_cons_zero, List.set_cons_succ]
                refine takeH (i := 5) (d := some 74) (v := undef) rfl rfl (by kernel_rfl) (by kernel_rfl) (by kernel_rfl) (fun _ _ _ h => h) (Or.inr ⟨by kernel_rfl, rfl⟩) hHeld ?_
                try simp only [Act.put, List.setIfInBounds_toArray, List.set_cons_zero, List.set_cons_succ]
                refine takeH (i := 6) (d := some 75) (v := undef) rfl rfl (by kernel_rfl) (by kernel_rfl) (by kernel_rfl) (fun _ _ _ h => h) (Or.inr ⟨by kernel_rfl, rfl⟩) hHeld ?_
                try simp only [Act.put, List.setIfInBounds_toArray, List.set_cons_zero, List.set_cons_succ]
                refine takeH (i := 7) (d := some 76) (v := undef) rfl rfl (by kernel_rfl) (by kernel_rfl) (by kernel_rfl) (fun _ _ _ h => h) (Or.inr ⟨by kernel_rfl, rfl⟩) hHeld ?_
                try simp only [Act.put, List.setIfInBounds_toArray, List.set_cons_zero, List.set_cons_succ]
                refine takeH (i := 8) (d := some 77) (v := undef) rfl rfl (by kernel_rfl) (by kernel_rfl) (by kernel_rfl) (fun _ _ _ h => h) (Or.inr ⟨by kernel_rfl, rfl⟩) hHeld ?_
                try simp only [Act.put, List.setIfInBounds_toArray, List.set_cons_zero, List.set_cons_succ]
                refine takeH (i := 9) (d := some 78) (v := undef) rfl rfl (by kernel_rfl) (by kernel_rfl) (by kernel_rfl) (fun _ _ _ h => h) (Or.inr ⟨by kernel_rfl, rfl⟩) hHeld ?_
                try simp only [Act.put, List.setIfInBounds_toArray, List.set_cons_zero, List.set_cons_succ]
                refine takeH (i := 10) (d := some 79) (v := undef) rfl rfl (by kernel_rfl) (by kernel_rfl) (by kernel_rfl) (fun _ _ _ h => h) (Or.inr ⟨by kernel_rfl, rfl⟩) hHeld ?_
                try simp only [Act.put, List.setIfInBounds_toArray, List.set_cons_zero, List.set_cons_succ]
                refine takeH (i := 11) (d := some 80) (v := undef) rfl rfl (by kernel_rfl) (by kernel_rfl) (by kernel_rfl) (fun _ _ _ h => h) (Or.inr ⟨by kernel_rfl, rfl⟩) hHeld ?_
                try simp only [Act.put, List.setIfInBounds_toArray, List.set_cons_zero, List.set_cons_succ]
                refine takeH (i := 12) (d := some 81) (v := undef) rfl rfl (by kernel_rfl) (by kernel_rfl) (by kernel_rfl) (fun _ _ _ h => h) (Or.inr ⟨by kernel_rfl, rfl⟩) hHeld ?_
                try simp only [Act.put, List.setIfInBounds_toArray, List.set_cons_zero, List.set_cons_succ]
                refine takeH (i := 13) (d := some 82) (v := ?_) rfl rfl (by kernel_rfl) (by kernel_rfl) (by kernel_rfl) (fun _ _ _ h => h) (Or.inl ⟨by kernel_rfl, ?_⟩) hHeld ?_
                rotate_left
                · intro w hSw; (try dsimp only at hSw); go_simp; try with_reducible rfl
                try simp only [Act.put, List.setIfInBounds_toArray, List.set_cons_zero, List.set_cons_succ]
                refine takeH (i := 14) (d := some 83) (v := ?_) rfl rfl (by kernel_rfl) (by kernel_rfl) (by kernel_rfl) (fun _ _ _ h => h) (Or.inl ⟨by kernel_rfl, ?_⟩) hHeld ?_
                rotate_left
                · intro w hSw; (try dsimp only at hSw); go_simp; try with_reducible rfl
                try simp only [Act.put, List.setIfInBounds_toArray, List.set_cons_zero, List.set_cons_succ]
                refine takeH (i := 15) (d := some 84) (v := ?_) rfl rfl (by kernel_rfl) (by kernel_rfl) (by kernel_rfl) (fun _ _ _ h => h) (Or.inl ⟨by kernel_rfl, ?_⟩) hHeld ?_
                rotate_left
                · intro w hSw; (try dsimp only at hSw); go_simp; try with_reducible rfl
                try simp only [Act.put, List.setIfInBounds_toArray, List.set_cons_zero, List.set_cons_succ]
                refine takeH (i := 16) (d := some 85) (v := ?_) rfl rfl (by kernel_rfl) (by kernel_rfl) (by kernel_rfl) (fun _ _ _ h => h) (Or.inl ⟨by kernel_rfl, ?_⟩) hHeld ?_
                rotate_left
                · intro w hSw; (try dsimp only at hSw); go_simp; try with_reducible rfl
                try simp only [Act.put, List.setIfInBounds_toArray, List.set_cons_zero, List.set_cons_succ]
                refine takeH (i := 17) (d := some 86) (v := ?_) rfl rfl (by kernel_rfl) (by kernel_rfl) (by kernel_rfl) (fun _ _ _ h => h) (Or.inl ⟨by kernel_rfl, ?_⟩) hHeld ?_
                rotate_left
                · intro w hSw; (try dsimp only at hSw); go_simp; try with_reducible rfl
                try simp only [Act.put, List.setIfInBounds_toArray, List.set_cons_zero, List.set_cons_succ]
                refine wpAnyH_ready (rs := [18]) (by kernel_rfl) (by simp) ?_
                refine AllReadyH.cons rfl (fun K hK => ?_) AllReadyH.nil
                go_simp
                refine (HCall.out _ (((Kept.refl _ _).alloc _).drew)).mono ?_
                rintro e w' ⟨rfl, hk, hl, hm1, hm2⟩
                refine hK.out _ _ ?_ (fun hHeld => ?_)
                · exact HKp.out w' hk
                have HKc := Lib.hid hk
                clear hk
                have HLc := Lib.hid hl
                have HMc := Lib.hid (And.intro hm1 hm2)
                clear hl hm1 hm2
                clear hK K
                refine takeH (i := 19) (d := some 88) (v := ?_) rfl rfl (by kernel_rfl) (by kernel_rfl) (by kernel_rfl) (fun _ _ _ h => h) (Or.inl ⟨by kernel_rfl, ?_⟩) hHeld ?_
                rotate_left
                · intro w hSw; (try dsimp only at hSw); go_simp; try with_reducible rfl
                try simp only [Act.put, List.setIfInBounds_toArray, List.set_cons_zero, List.set_cons_succ]
                refine takeH (i := 20) (d := some 89) (v := ?_) rfl rfl (by kernel_rfl) (by kernel_rfl) (by kernel_rfl) (fun _ _ _ h => h) (Or.inl ⟨by kernel_rfl, ?_⟩) hHeld ?_
                rotate_left
                · intro w hSw; (try dsimp only at hSw); go_simp; try with_reducible rfl
                try simp only [Act.put, List.setIfInBounds_toArray, List.set_cons_zero, List.set_cons_succ]
                refine wpAnyH_done (by kernel_rfl) ?_ _
                go_wp2_with fail
                go_roundw
                case rel => exact ⟨0 + 1, m2, d2, by omega, by go_num, Lib.hid (by have := HM.out; have := HMc.out; omega), Lib.hid (HK.out.trans ((((Kept.refl _ _).alloc _).drew).trans HKc.out)), HLc, HN2⟩
                case measure => simp [intOf]; omega
          · obtain rfl : k = es.length := by omega
            have HVe : Hid (visEs (vis A f) none es (m + 1) (updD d m false) = some (m', d')) := Lib.hid (by rw [HVs.out, List.drop_length]; rfl)
            have hlt1 := HLW.out.lt
            have hlt2 := HL.out.lt
            have hwr := HK.out.at HB0.out (by simp only [List.mem_cons, List.not_mem_nil, or_false]; omega)
            have t0 : wr.cell? ⟨w.heap.size, 0, none⟩ = some (Value.bool fin) := by rw [Lib.cell_of_heap hwr]; rfl
            have t1 : wr.cell? ⟨w.heap.size, 1, none⟩ = some (Value.slice Ex es.length cap1) := by rw [Lib.cell_of_heap hwr]; rfl
            obtain ⟨capw, c0, c1, c2, f1⟩ := HLW.out.head
            obtain ⟨sx, cs0, _, fs0⟩ := HLW.out.at_ m hmN
            have HSt := Lib.hid (HLW.out.setSt m 2 true (by simp))
            have hne1 : w.heap.size ≠ sb := by omega
            have hne2 : sb ≠ w.heap.size := by omega
            have hres : (0 < es.length ∧ Hid (vis A (f + 1) (m : Int) m d = some (m', updD d' m true))) ∨ (es = [] ∧ fin = true ∧ Hid (vis A (f + 1) (m : Int) m d = some (m', updD d' m true))) ∨ (es = [] ∧ fin = false ∧ ((A.length : Int) == 1) = true ∧ Hid (vis A (f + 1) (m : Int) m d = some (m', updD d' m true))) ∨ (es = [] ∧ fin = false ∧ ((A.length : Int) == 1) = false ∧ Hid (vis A (f + 1) (m : Int) m d = none)) := by
              rw [HV.out, HVe.out]
              by_cases h1 : es = []
              · subst h1
                cases fin
                · cases h2 : ((A.length : Int) == 1)
                  · exact .inr (.inr (.inr ⟨rfl, rfl, rfl, Lib.hid (if_pos ⟨rfl, rfl, fun e => by rw [e] at h2; cases h2⟩)⟩))
                  · exact .inr (.inr (.inl ⟨rfl, rfl, rfl, Lib.hid (if_neg (fun h => h.2.2 (by have := beq_iff_eq.1 h2; omega)))⟩))
                · exact .inr (.inl ⟨rfl, rfl, Lib.hid (if_neg (fun h => by cases h.2.1))⟩)
              · exact .inl ⟨List.length_pos_iff.2 h1, Lib.hid (if_neg (fun h => h1 (List.length_eq_zero_iff.1 h.1)))⟩
            clear hlt1 hlt2 hwr HIH HV HVs HVe
            rcases hres with ⟨q1, HR⟩ | ⟨q1, rfl, HR⟩ | ⟨q1, rfl, q3, HR⟩ | ⟨q1, rfl, q3, HR⟩
            · go_wp2_with fail
              go_ret
              rw [HR.out]
              exact ⟨by simp, (HK0.out.trans HK.out).set _ _ _ (.inl (by simp)), HSt.out, by have := HM.out; omega, HM.out.2⟩
            all_goals subst q1
            · go_wp2_with fail
              go_ret
              rw [HR.out]
              exact ⟨rfl, (HK0.out.trans HK.out).set _ _ _ (.inl (by simp)), HSt.out, by have := HM.out; omega, HM.out.2⟩
            · go_wp2_with fail
              go_ret
              rw [HR.out]
              exact ⟨rfl, (HK0.out.trans HK.out).set _ _ _ (.inl (by simp)), HSt.out, by have := HM.out; omega, HM.out.2⟩
            · go_wp2_with fail
              go_ret
              rw [HR.out]
              exact ⟨rfl, (HK0.out.trans HK.out).set _ _ _ (.inl (by simp))⟩
      · have HV : Hid (vis A (f + 1) (m : Int) m d = none) := Lib.hid (by
          rw [vis, if_neg (by simp), List.getElem?_eq_none (by omega)])
        obtain ⟨Ax, cap0, rfl, hc0, hA0⟩ := hA
        clear hL hA0
        go_enter Try.func44, Try.ntmps44
        go_wp2_with fail
        go_ret
        rw [HV.out]
        exact ⟨rfl, Kept.refl _ _⟩
    · have hne : (n != (m : Int)) = true := by simpa using hnm
      by_cases h0 : 0 ≤ n
      · obtain ⟨k, rfl⟩ : ∃ k : Nat, n = (k : Int) := ⟨n.toNat, by omega⟩
        by_cases hk : k < m
        · obtain ⟨x, cx, hx, _⟩ := hL.at_ k (by omega)
          have HX := Lib.hid hx
          have HV : Hid (vis A (f + 1) (k : Int) m d = if d k = true then some (m, d) else none) := Lib.hid (by
            rw [vis, if_pos hnm]
            by_cases e : d k = true
            · rw [if_pos ⟨h0, by omega, by simpa using e⟩, if_pos e]
            · rw [if_neg (fun h => e (by simpa using h.2.2)), if_neg e])
          clear hL hA hx
          by_cases hx2 : (x == 2) = true
          all_goals
            go_enter Try.func44, Try.ntmps44
            go_wp2_with fail
            go_ret
            rw [HV.out]
            first
              | (rw [if_pos (HX.out.1 (by simpa using hx2))]; exact ⟨by simp, Kept.refl _ _, HL.out, Nat.le_refl _, hm⟩)
              | (rw [if_neg (fun e => hx2 (by simpa using HX.out.2 e))]; exact ⟨by simp at hx2; simp, Kept.refl _ _⟩)
        · have HV : Hid (vis A (f + 1) (k : Int) m d = none) := Lib.hid (by
            rw [vis, if_pos hnm, if_neg (fun h => hk (by omega))])
          clear hL hA
          go_enter Try.func44, Try.ntmps44
          go_wp2_with fail
          go_ret
          rw [HV.out]
          exact ⟨rfl, Kept.refl _ _⟩
      · have HV : Hid (vis A (f + 1) n m d = none) := Lib.hid (by
          rw [vis, if_pos hnm, if_neg (fun h => h0 h.1)])
        clear hL hA
        go_enter Try.func44, Try.ntmps44
        go_wp2_with fail
        go_ret
        rw [HV.out]
        exact ⟨rfl, Kept.refl _ _⟩
end

section
open Go.RowKit

theorem EdsAt.lt {w : World} {p : Nat → Prop} {v : Value} {es : List Ed} (h : EdsAt w p v es) : EdsAt w (fun k => p k ∧ k < w.heap.size) v es := by
  obtain ⟨A, cap, hv, hc, h0⟩ := h
  exact ⟨A, cap, hv, hc, h0.imp id fun ⟨g, o, hA, hg, hp, hcs⟩ => ⟨g, o, hA, hg, ⟨hp, hg⟩, hcs⟩⟩
theorem AutAt.lt {w : World} {p : Nat → Prop} {v : Value} {a : List St} (h : AutAt w p v a) : AutAt w (fun k => p k ∧ k < w.heap.size) v a := by
  obtain ⟨A, cap, hv, hc, h0⟩ := h
  exact ⟨A, cap, hv, hc, h0.imp id fun ⟨g, o, hA, hg, hp, hcs⟩ => ⟨g, o, hA, hg, ⟨hp, hg⟩, fun k h => ⟨(hcs k h).1, by
    obtain ⟨ev, h1, h2⟩ := (hcs k h).2
    exact ⟨ev, h1, h2.lt⟩⟩⟩⟩
def shapeV (A : List St) : Int := if shapeB A then 0 else 190
theorem shapeV_len (A : List St) (h : A.length = 0 ∨ 1048576 < A.length) : shapeV A = 190 := by
  unfold shapeV shapeB
  rcases h with h | h
  · rw [decide_eq_false (p := 0 < A.length) (by omega)]; rfl
  · rw [decide_eq_false (p := A.length ≤ 1048576) (by omega)]; simp
theorem shapeV_none (A : List St) (h : vis A (A.length + 1) 0 0 (fun _ => false) = none) : shapeV A = 190 := by
  unfold shapeV shapeB; rw [h]; simp
theorem shapeV_some (A : List St) (h1 : 0 < A.length) (h2 : A.length ≤ 1048576) (m : Nat) (d : Dn) (h : vis A (A.length + 1) 0 0 (fun _ => false) = some (m, d)) : shapeV A = if m = A.length then 0 else 190 := by
  unfold shapeV shapeB
  rw [h, decide_eq_true h1, decide_eq_true h2]
  simp

theorem look_new (w : World) (av : Value) (N : Nat) :
    LookP ((w.alloc (.cells (madeCells #[Value.int .u8 0] N) 5)).alloc (.cells #[av, .int .i64 0, .slice (some ⟨w.heap.size, 0, none⟩) N N] 98)) (w.heap.size + 1) w.heap.size av N 0 (fun _ => false) := by
  refine ⟨⟨N, ?_⟩, ⟨madeCells #[Value.int .u8 0] N, ?_, size_madeCells _ _, fun k hk => ⟨0, ?_, by simp⟩⟩, by omega⟩
  · have := heap_alloc_new (w.alloc (.cells (madeCells #[Value.int .u8 0] N) 5)) (.cells #[av, .int .i64 0, .slice (some ⟨w.heap.size, 0, none⟩) N N] 98)
    simpa using this
  · rw [Below.heap_alloc _ _ _ (by simp)]
    exact heap_alloc_new w _
  · rw [← Array.getElem?_toList, toList_madeCells_one]; simp [hk]

set_option maxHeartbeats 4000000 in
set_option maxRecDepth 100000 in
theorem Shape_any (A : List St) (v : Value) (w : World) (hA : AutAt w (fun _ => True) v A) :
    Calls Try.prog 17 #[v] w fun e w' => e = .returned (.int .i64 (shapeV A)) ∧ Below w.heap.size w w' := by
  have hA' := hA
  obtain ⟨Ax, cap0, rfl, hc0, _⟩ := hA
  have HC0 := Lib.hid hc0
  clear hc0
  by_cases h0 : A.length = 0
  · have HV := Lib.hid (shapeV_len A (.inl h0))
    have h0' : ((A.length : Int) == 0) = true := by simpa using h0
    clear hA' h0
    go_enter Try.func17, Try.ntmps17
    go_wp2_with fail
    go_ret
    exact ⟨by rw [HV.out]; rfl, Below.refl _ _⟩
  · have h0' : ((A.length : Int) == 0) = false := by simpa using h0
    by_cases h1 : 1048576 < A.length
    · have HV := Lib.hid (shapeV_len A (.inr h1))
      clear hA' h0
      go_enter Try.func17, Try.ntmps17
      go_wp2_with fail
      go_ret
      exact ⟨by rw [HV.out]; rfl, Below.refl _ _⟩
    · have hmk := run_make_row' (P := Try.prog) 57 5 (.int .u8 0) 1 Try.underlying57 byte_info rfl .i64 .i64 A.length (by omega) (by omega) w
      have HL := Lib.hid (look_new w (.slice Ax A.length cap0) A.length)
      have HA := Lib.hid hA'
      have H0 := Lib.hid h0
      have H1 := Lib.hid h1
      obtain ⟨r, hr⟩ : ∃ r, vis A (A.length + 1) 0 0 (fun _ => false) = r := ⟨_, rfl⟩
      have HCall : Hid (Calls Try.prog 44 #[.pointer (some ⟨w.heap.size + 1, 0, none⟩), .int .i64 0] ((w.alloc (.cells (madeCells #[Value.int .u8 0] A.length) 5)).alloc (.cells #[.slice Ax A.length cap0, .int .i64 0, .slice (some ⟨w.heap.size, 0, none⟩) A.length A.length] 98))
          (PostV ((w.alloc (.cells (madeCells #[Value.int .u8 0] A.length) 5)).alloc (.cells #[.slice Ax A.length cap0, .int .i64 0, .slice (some ⟨w.heap.size, 0, none⟩) A.length A.length] 98)) (w.heap.size + 1) w.heap.size (.slice Ax A.length cap0) A.length 0 r)) := Lib.hid (by
        rw [← hr]
        refine visit_any A _ _ _ (by omega) (A.length + 1) 0 0 _ _ (by omega) (by omega) HL.out ?_
        refine AutAt.mono ((HA.out.lt).kept ((((Kept.refl [] w).alloc _).alloc _)) (by simp)) (fun k hk => ?_)
        simp only [List.mem_cons, List.not_mem_nil, or_false]
        omega)
      have HKB : Hid (∀ W', Kept [w.heap.size + 1, w.heap.size] ((w.alloc (.cells (madeCells #[Value.int .u8 0] A.length) 5)).alloc (.cells #[.slice Ax A.length cap0, .int .i64 0, .slice (some ⟨w.heap.size, 0, none⟩) A.length A.length] 98)) W' → Below w.heap.size w W') := Lib.hid (fun W' h =>
        ((((Kept.refl [w.heap.size + 1, w.heap.size] w).alloc _).alloc _).trans h).below (Nat.le_refl _) (by simp))
      rcases r with _ | ⟨m, d⟩
      · have HV := Lib.hid (shapeV_none A hr)
        clear hA' h0 hr HL HA
        go_enter Try.func17, Try.ntmps17
        go_wp2_with fail
        refine HCall.out.mono ?_
        rintro e w1 ⟨rfl, hk⟩
        have HB := Lib.hid (HKB.out _ hk)
        clear hk
        go_wp2_with fail
        go_ret
        exact ⟨by rw [HV.out]; rfl, HB.out⟩
      · have HV := Lib.hid (shapeV_some A (by omega) (by omega) m d hr)
        clear hA' h0 hr HL HA
        go_enter Try.func17, Try.ntmps17
        go_wp2_with fail
        refine HCall.out.mono ?_
        rintro e w1 ⟨rfl, hk, hl, hm1, hm2⟩
        have HB := Lib.hid (HKB.out _ hk)
        obtain ⟨cap, _, c1, _, _⟩ := hl.head
        clear hk hl hm1 hm2
        by_cases hm : m = A.length
        · have hm' : ((m : Int) != (A.length : Int)) = false := by simp [hm]
          have HV' := Lib.hid (HV.out.trans (if_pos hm))
          clear hm
          go_wp2_with fail
          go_ret
          exact ⟨by rw [HV'.out]; rfl, HB.out⟩
        · have hm' : ((m : Int) != (A.length : Int)) = true := by simp; omega
          have HV' := Lib.hid (HV.out.trans (if_neg hm))
          clear hm
          go_wp2_with fail
          go_ret
          exact ⟨by rw [HV'.out]; rfl, HB.out⟩
end
end Go.Proofs.Ytehbjfjhalpgaaa
