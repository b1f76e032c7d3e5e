/-
  What a call keeps of the memory; the reader's number, take and frame once more, in these words.
-/
import Derived.Test.YtehbjfjhalpgaaaRows
import Derived.Test.YtehbjfjhalpgaaaImg15
namespace Go.Proofs.Ytehbjfjhalpgaaa
open Go.RowKit

/-- From w to w' nothing has turned but the blocks of E, and what is new. -/
structure Kept (E : List Nat) (w w' : World) : Prop where
  os : w'.os = w.os
  tape : w'.tape = w.tape
  output : w'.output = w.output
  size : w.heap.size ≤ w'.heap.size
  block : ∀ k, k < w.heap.size → k ∉ E → w'.heap[k]? = w.heap[k]?
theorem Kept.refl (E : List Nat) (w : World) : Kept E w w := ⟨rfl, rfl, rfl, Nat.le_refl _, fun _ _ _ => rfl⟩
theorem Kept.trans' {E F : List Nat} {a b c : World} (h : Kept E a b) (k : Kept F b c) (hF : ∀ x ∈ F, x ∈ E ∨ a.heap.size ≤ x) : Kept E a c :=
  ⟨k.os.trans h.os, k.tape.trans h.tape, k.output.trans h.output, Nat.le_trans h.size k.size, fun i hi he =>
    (k.block i (Nat.lt_of_lt_of_le hi h.size) (fun hm => by rcases hF i hm with h1 | h1; exact he h1; omega)).trans (h.block i hi he)⟩
theorem Kept.trans {E : List Nat} {a b c : World} (h : Kept E a b) (k : Kept E b c) : Kept E a c := h.trans' k (fun _ hx => .inl hx)
theorem Kept.mono {E F : List Nat} {a b : World} (h : Kept E a b) (hF : ∀ x ∈ E, x ∈ F) : Kept F a b := ⟨h.os, h.tape, h.output, h.size, fun i hi he => h.block i hi (fun hm => he (hF i hm))⟩
theorem Kept.of_below {E : List Nat} {w w' : World} (h : Below w.heap.size w w') : Kept E w w' := ⟨h.os, h.tape, h.output, h.size, fun k hk _ => h.block k hk⟩
theorem Kept.below {E : List Nat} {w w' : World} {B : Nat} (h : Kept E w w') (hB : B ≤ w.heap.size) (hE : ∀ x ∈ E, B ≤ x) : Below B w w' :=
  ⟨h.os, h.tape, h.output, h.size, fun k hk => h.block k (by omega) (fun hm => by have := hE k hm; omega)⟩
theorem Kept.grown {w w' : World} {r : Option Nat} {E : List Nat} (h : w.grownBy w' r) (hr : ∀ k, r = some k → k ∈ E) : Kept E w w' :=
  ⟨h.os, h.tape, h.output, h.size, fun k hk he => h.block k hk (fun e => he (hr k e.symm))⟩
theorem Kept.drewN {E : List Nat} {w w' : World} (h : Kept E w w') (n : Nat) : Kept E w (w'.drewN n) := ⟨h.os, h.tape, h.output, h.size, h.block⟩
theorem Kept.drew {E : List Nat} {w w' : World} (h : Kept E w w') : Kept E w w'.drew := ⟨h.os, h.tape, h.output, h.size, h.block⟩
theorem Kept.alloc {E : List Nat} {w w' : World} (h : Kept E w w') (o : Obj) : Kept E w (w'.alloc o) :=
  h.trans' (F := []) (Kept.of_below ((Below.refl _ _).alloc (Nat.le_refl _) _)) (fun _ hx => by cases hx)
theorem Kept.set {E : List Nat} {w w' : World} (h : Kept E w w') (b i : Nat) (v : Value) (hb : b ∈ E ∨ w.heap.size ≤ b) : Kept E w (w'.setCell ⟨b, i, none⟩ v) :=
  h.trans' (F := [b]) ⟨rfl, rfl, rfl, by simp [World.setCell], fun k _ he => heap_setCell_other w' ⟨b, i, none⟩ k v (fun e => he (by simp [e]))⟩ (fun x hx => by simp at hx; subst hx; exact hb)
theorem Kept.cell {E : List Nat} {w w' : World} (h : Kept E w w') {p : Addr} (hp : p.block < w.heap.size) (he : p.block ∉ E) : w'.cell? p = w.cell? p := World.cell?_of_block (h.block _ hp he)
theorem Kept.own {E : List Nat} {w w' : World} {B e size n : Nat} {v : Value} {xs : List Value} (h : Kept E w w') (ho : w.ownsRow B e size v n xs) (hne : ∀ g, v.ownBlock = some g → g ∉ E) : w'.ownsRow B e size v n xs := by
  refine ⟨ho.1, ?_⟩
  rcases ho.2 with hn | ⟨g, cap, cur, rfl, hb, hgg, rest⟩
  · exact .inl hn
  · refine .inr ⟨g, cap, cur, rfl, hb, ?_, rest⟩
    rw [h.block g (Array.getElem?_eq_some_iff.1 hgg).1 (hne g rfl)]
    exact hgg
theorem Kept.at {E : List Nat} {w w' : World} (h : Kept E w w') {k : Nat} {o : Obj} (hk : w.heap[k]? = some o) (he : k ∉ E) : w'.heap[k]? = some o := (h.block k (block_lt hk) he).trans hk

/-! ### Automata in memory -/
abbrev Ed := UInt8 × Int
abbrev St := Bool × List Ed
/-- The edges of a state, in blocks of p. -/
def EdsAt (w : World) (p : Nat → Prop) (v : Value) (es : List Ed) : Prop :=
  ∃ A cap, v = .slice A es.length cap ∧ (es.length ≤ cap ∧ cap ≤ maxLen) ∧ (es.length = 0 ∨ ∃ g o, A = some ⟨g, o, none⟩ ∧ g < w.heap.size ∧ p g ∧ ∀ k (h : k < es.length), w.cell? ⟨g, o + k * 2, none⟩ = some (.int .u8 (es[k].1.toNat : Int)) ∧ w.cell? ⟨g, o + k * 2 + 1, none⟩ = some (.int .i64 es[k].2))
/-- An automaton, in blocks of p. -/
def AutAt (w : World) (p : Nat → Prop) (v : Value) (a : List St) : Prop :=
  ∃ A cap, v = .slice A a.length cap ∧ (a.length ≤ cap ∧ cap ≤ maxLen) ∧ (a.length = 0 ∨ ∃ g o, A = some ⟨g, o, none⟩ ∧ g < w.heap.size ∧ p g ∧ ∀ k (h : k < a.length), w.cell? ⟨g, o + k * 2, none⟩ = some (.bool a[k].1) ∧ ∃ ev, w.cell? ⟨g, o + k * 2 + 1, none⟩ = some ev ∧ EdsAt w p ev a[k].2)
theorem EdsAt.kept {E : List Nat} {w w' : World} {p : Nat → Prop} {v : Value} {es : List Ed} (h : EdsAt w p v es) (hk : Kept E w w') (hE : ∀ k ∈ E, ¬ p k) : EdsAt w' p v es := by
  obtain ⟨A, cap, hv, hc, h0⟩ := h
  refine ⟨A, cap, hv, hc, ?_⟩
  rcases h0 with h0 | ⟨g, o, hA, hg, hp, hcs⟩
  · exact .inl h0
  · have hne : g ∉ E := fun hm => hE g hm hp
    exact .inr ⟨g, o, hA, Nat.lt_of_lt_of_le hg hk.size, hp, fun k h => ⟨(hk.cell (p := ⟨g, _, none⟩) hg hne).trans (hcs k h).1, (hk.cell (p := ⟨g, _, none⟩) hg hne).trans (hcs k h).2⟩⟩
theorem AutAt.kept {E : List Nat} {w w' : World} {p : Nat → Prop} {v : Value} {a : List St} (h : AutAt w p v a) (hk : Kept E w w') (hE : ∀ k ∈ E, ¬ p k) : AutAt w' p v a := by
  obtain ⟨A, cap, hv, hc, h0⟩ := h
  refine ⟨A, cap, hv, hc, ?_⟩
  rcases h0 with h0 | ⟨g, o, hA, hg, hp, hcs⟩
  · exact .inl h0
  · have hne : g ∉ E := fun hm => hE g hm hp
    refine .inr ⟨g, o, hA, Nat.lt_of_lt_of_le hg hk.size, hp, fun k h => ⟨(hk.cell (p := ⟨g, _, none⟩) hg hne).trans (hcs k h).1, ?_⟩⟩
    obtain ⟨ev, h1, h2⟩ := (hcs k h).2
    exact ⟨ev, (hk.cell (p := ⟨g, _, none⟩) hg hne).trans h1, h2.kept hk hE⟩
theorem EdsAt.mono {w : World} {p q : Nat → Prop} {v : Value} {es : List Ed} (h : EdsAt w p v es) (hq : ∀ k, p k → q k) : EdsAt w q v es := by
  obtain ⟨A, cap, hv, hc, h0⟩ := h
  exact ⟨A, cap, hv, hc, h0.imp id fun ⟨g, o, hA, hg, hp, hcs⟩ => ⟨g, o, hA, hg, hq g hp, hcs⟩⟩
theorem AutAt.mono {w : World} {p q : Nat → Prop} {v : Value} {a : List St} (h : AutAt w p v a) (hq : ∀ k, p k → q k) : AutAt w q v a := by
  obtain ⟨A, cap, hv, hc, h0⟩ := h
  exact ⟨A, cap, hv, hc, h0.imp id fun ⟨g, o, hA, hg, hp, hcs⟩ => ⟨g, o, hA, hg, hq g hp, fun k h => ⟨(hcs k h).1, by
    obtain ⟨ev, h1, h2⟩ := (hcs k h).2
    exact ⟨ev, h1, h2.mono hq⟩⟩⟩⟩

/-! ### What the reader answers -/
abbrev flt (c : Nat) : PanicEntry := { v := .iface 28 (.int .i64 (c : Int)), recovered := false }
def PostR {α : Type} (b : Nat) (s : ByteArray) (w : World) (mk : α → Value) (r : Except Nat (α × Nat)) (e : Ending) (w' : World) : Prop :=
  match r with
  | .ok (x, p) => e = .returned (mk x) ∧ Kept [b] w w' ∧ RdrAt w' b s p
  | .error c => e = .panicked [flt c] ∧ Kept [b] w w'
def numR (s : ByteArray) (a : Nat) : Except Nat (Nat × Nat) :=
  if (rdU s.data.toList a).2.2 = 0 then .ok ((rdU s.data.toList a).1, (rdU s.data.toList a).2.1) else .error (rdU s.data.toList a).2.2
def frmR (s : ByteArray) (a : Nat) : Except Nat (ByteArray × Nat) :=
  match numR s a with
  | .error c => .error c
  | .ok (n, q) => if 255 < n then .error 62 else if s.size < q + n then .error 60 else .ok (s.extract q (q + n), q + n)
theorem rdGo_le (L : List UInt8) (a : Nat) : ∀ (f i acc : Nat), (rdGo L a f i acc).2.2 = 0 → a < (rdGo L a f i acc).2.1 ∧ (rdGo L a f i acc).2.1 ≤ L.length
  | 0, i, acc, h => by rw [rdGo] at h; cases h
  | f + 1, i, acc, h => by
    rw [rdGo] at h ⊢
    split at h
    · cases h
    · rename_i h1
      split at h
      · rename_i h2
        rw [if_neg h1, if_pos h2]
        exact rdGo_le L a f _ _ h
      · rename_i h2
        split at h
        · cases h
        · rename_i h3
          rw [if_neg h1, if_neg h2, if_neg h3]
          simp only
          omega
theorem numR_le {s : ByteArray} {a n p : Nat} (h : numR s a = .ok (n, p)) : a < p ∧ p ≤ s.size := by
  unfold numR at h
  split at h
  · rename_i h0
    injection h with h
    injection h with h1 h2
    subst h2
    unfold rdU at h0 ⊢
    split at h0
    · cases h0
    · rename_i h1
      rw [if_neg h1]
      have := rdGo_le _ _ _ _ _ h0
      rw [len_toList] at this
      exact this
  · cases h
theorem frmR_le {s : ByteArray} {a p : Nat} {t : ByteArray} (h : frmR s a = .ok (t, p)) : a < p ∧ p ≤ s.size := by
  unfold frmR at h
  split at h
  · cases h
  · rename_i n q hn
    have := numR_le hn
    split at h
    · cases h
    · split at h
      · cases h
      · injection h with h
        injection h with h1 h2
        omega

theorem num_any (b : Nat) (s : ByteArray) (a : Nat) (w : World) (hr : RdrAt w b s a) (hs : s.size ≤ 140737488355328) (ha : a ≤ s.size) :
    Calls Try.prog 37 #[.pointer (some ⟨b, 0, none⟩)] w (PostR b s w (fun n : Nat => .int .u64 (n : Int)) (numR s a)) := by
  refine (readerNumber_any b s a w hr hs (by omega)).mono fun e w' h => ?_
  unfold numR
  split at h
  · rename_i h0
    rw [if_pos h0]
    obtain ⟨he, m, rfl⟩ := h
    exact ⟨he, ((Kept.refl _ _).drewN m).set _ _ _ (.inl (by simp)), hr.put m _⟩
  · rename_i h0
    rw [if_neg h0]
    obtain ⟨he, m, rfl⟩ := h
    exact ⟨he, (Kept.refl _ _).drewN m⟩
theorem take_any (b : Nat) (s : ByteArray) (a n : Nat) (w : World) (hr : RdrAt w b s a) (hs : s.size ≤ 140737488355328) (ha : a ≤ s.size) (hn : n ≤ 1000) :
    Calls Try.prog 54 #[.pointer (some ⟨b, 0, none⟩), .int .i64 n] w (PostR b s w Value.string (if s.size < a + n then .error 60 else .ok (s.extract a (a + n), a + n))) := by
  split
  · rename_i h
    refine (take_short b s a n w hr hs (by omega) hn h).mono fun e w' h => ?_
    obtain ⟨he, m, rfl⟩ := h
    exact ⟨he, (Kept.refl _ _).drewN m⟩
  · rename_i h
    refine (take_ok b s a n w hr hs (by omega)).mono fun e w' h => ?_
    obtain ⟨he, m, k, rfl⟩ := h
    refine ⟨he, (((Kept.refl _ _).drewN m).set _ _ _ (.inl (by simp))).drewN k, ?_⟩
    have := hr.put m (a + n)
    rw [Int.natCast_add] at this
    exact this

set_option maxHeartbeats 4000000 in
set_option maxRecDepth 100000 in
theorem frame_any (b : Nat) (s : ByteArray) (a : Nat) (w : World) (hr : RdrAt w b s a) (hs : s.size ≤ 140737488355328) (ha : a ≤ s.size) :
    Calls Try.prog 38 #[.pointer (some ⟨b, 0, none⟩)] w (PostR b s w Value.string (frmR s a)) := by
  have hN := num_any b s a w hr hs ha
  unfold frmR
  cases hn : numR s a with
  | error c =>
    rw [hn] at hN
    have HN := Lib.hid hN
    clear hN hn
    go_enter Try.func38, Try.ntmps38
    go_wp2_with fail
    refine HN.out.mono ?_
    rintro e w' ⟨rfl, hk⟩
    exact ⟨rfl, rfl, hk⟩
  | ok r =>
    obtain ⟨n, q⟩ := r
    rw [hn] at hN
    have hq := numR_le hn
    have HN := Lib.hid hN
    clear hN hn
    dsimp only
    have HT : Hid (∀ W, RdrAt W b s q → n ≤ 255 → Calls Try.prog 54 #[.pointer (some ⟨b, 0, none⟩), .int .i64 n] W (PostR b s W Value.string (if s.size < q + n then .error 60 else .ok (s.extract q (q + n), q + n)))) := Lib.hid (fun W h hn => take_any b s q n W h hs hq.2 (by omega))
    by_cases h255 : 255 < n
    · rw [if_pos h255]
      go_enter Try.func38, Try.ntmps38
      go_wp2_with fail
      refine HN.out.mono ?_
      rintro e w1 ⟨rfl, hk1, hr1⟩
      have HK1 := Lib.hid hk1
      have HR1 := Lib.hid hr1
      clear hk1 hr1
      go_wp2_with fail
      refine (must_any _ _ _ _).mono ?_
      rintro e w' ⟨⟨hc, rfl⟩ | ⟨hc, rfl⟩, rfl⟩
      · exact absurd hc (by simp; omega)
      · exact ⟨rfl, rfl, HK1.out⟩
    · rw [if_neg h255]
      by_cases hsh : s.size < q + n
      all_goals
        first | rw [if_pos hsh] at HT ⊢ | rw [if_neg hsh] at HT ⊢
        go_enter Try.func38, Try.ntmps38
        go_wp2_with fail
        refine HN.out.mono ?_
        rintro e w1 ⟨rfl, hk1, hr1⟩
        have HK1 := Lib.hid hk1
        have HR1 := Lib.hid hr1
        clear hk1 hr1
        go_wp2_with fail
        refine (must_any _ _ _ _).mono ?_
        rintro e w' ⟨⟨hc, rfl⟩ | ⟨hc, rfl⟩, rfl⟩
        · clear hc
          have hc : (IntKind.i64.wrap (n : Int)) = (n : Int) := by rw [IntKind.wrap_i64]; omega
          go_wp2_with fail
          refine (HT.out _ HR1.out (by omega)).mono ?_
          first
            | (rintro e w' ⟨rfl, hk, hr⟩
               have HK := Lib.hid (HK1.out.trans hk)
               have HR := Lib.hid hr
               clear hk hr
               go_wp2_with fail
               go_ret
               exact ⟨rfl, HK.out, HR.out⟩)
            | (rintro e w' ⟨rfl, hk⟩
               exact ⟨rfl, rfl, HK1.out.trans hk⟩)
        · exact absurd hc (by simp; omega)
end Go.Proofs.Ytehbjfjhalpgaaa
