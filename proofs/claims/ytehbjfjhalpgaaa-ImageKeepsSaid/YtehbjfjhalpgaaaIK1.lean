/-
  What Decode made is marked and appended to: what stands besides.
-/
import Derived.Test.YtehbjfjhalpgaaaRows
import Derived.Test.YtehbjfjhalpgaaaID
import Derived.OneCell
import Derived.Maps.AppendAt
import Derived.Laws.OwnMore
namespace Go.Proofs.Ytehbjfjhalpgaaa
open Go.RowKit

/-- Behind it only blocks between lo and hi are turned, of those that were there. -/
structure Turn (lo hi : Nat) (w w' : World) : Prop where
  os : w'.os = w.os
  tape : w'.tape = w.tape
  output : w'.output = w.output
  size : w.heap.size ≤ w'.heap.size
  block : ∀ k, k < w.heap.size → (k < lo ∨ hi ≤ k) → w'.heap[k]? = w.heap[k]?
theorem Turn.refl (lo hi : Nat) (w : World) : Turn lo hi w w := ⟨rfl, rfl, rfl, Nat.le_refl _, fun _ _ _ => rfl⟩
theorem Turn.trans {lo hi : Nat} {a b c : World} (h : Turn lo hi a b) (k : Turn lo hi b c) : Turn lo hi a c :=
  ⟨k.os.trans h.os, k.tape.trans h.tape, k.output.trans h.output, Nat.le_trans h.size k.size, fun i hi ho => (k.block i (Nat.lt_of_lt_of_le hi h.size) ho).trans (h.block i hi ho)⟩
theorem Turn.of_below {lo hi : Nat} {w w' : World} (h : Below w.heap.size w w') : Turn lo hi w w' := ⟨h.os, h.tape, h.output, h.size, fun k hk _ => h.block k hk⟩
theorem Turn.below {lo hi B : Nat} {W w w' : World} (hb : Below B W w) (hB : B ≤ lo) (hl : lo ≤ w.heap.size) (h : Turn lo hi w w') : Below B W w' :=
  ⟨h.os.trans hb.os, h.tape.trans hb.tape, h.output.trans hb.output, Nat.le_trans hb.size h.size, fun k hk => (h.block k (by omega) (.inl (by omega))).trans (hb.block k hk)⟩
theorem Turn.set {lo hi : Nat} {w w' : World} (h : Turn lo hi w w') (p : Addr) (u : Value) (h1 : lo ≤ p.block) (h2 : p.block < hi) : Turn lo hi w (w'.setCell p u) :=
  ⟨h.os, h.tape, h.output, Nat.le_trans h.size (by simp), fun k hk ho => by rw [Below.heap_setCell _ _ _ _ (by omega)]; exact h.block k hk ho⟩
theorem Turn.drew {lo hi : Nat} {w w' : World} (h : Turn lo hi w w') : Turn lo hi w w'.drew := ⟨h.os, h.tape, h.output, h.size, h.block⟩
theorem Turn.cell {lo hi : Nat} {w w' : World} (h : Turn lo hi w w') {g i : Nat} {v : Value} (hc : w.cell? ⟨g, i, none⟩ = some v) (ho : g < lo ∨ hi ≤ g) : w'.cell? ⟨g, i, none⟩ = some v :=
  (World.cell?_of_block (h.block g (World.block_lt_of_cell? _ _ hc) ho)).trans hc
/-- The blocks that are turned are none of E. -/
theorem Turn.kept {lo hi : Nat} {w w' : World} (h : Turn lo hi w w') : Kept (List.range' lo (hi - lo)) w w' :=
  ⟨h.os, h.tape, h.output, h.size, fun k hk he => h.block k hk (by
    rw [List.mem_range'_1] at he
    omega)⟩
theorem Ty.set {w : World} {t g : Nat} (h : Ty w t g) (b i : Nat) (u : Value) : Ty (w.setCell ⟨b, i, none⟩ u) t g := by
  obtain ⟨cs, h⟩ := h
  by_cases hg : g = b
  · subst hg
    exact ⟨_, heap_setCell_same w g i _ _ _ h⟩
  · exact ⟨cs, (heap_setCell_other w ⟨b, i, none⟩ g u hg).trans h⟩
theorem Ty.grown {w w' : World} {t g : Nat} (h : Ty w t g) (hb : w'.heap[g]? = w.heap[g]?) : Ty w' t g := by
  obtain ⟨cs, h⟩ := h
  exact ⟨cs, hb.trans h⟩
theorem Ty.fz {w : World} {t g : Nat} (h : Ty w t g) (i : Nat) : w.frozen? ⟨g, i, none⟩ = false := by
  obtain ⟨cs, h⟩ := h
  exact Lib.frozen_of_heap h i
theorem Ty.lt {w : World} {t g : Nat} (h : Ty w t g) : g < w.heap.size := by
  obtain ⟨cs, h⟩ := h
  exact block_lt h

/-! ### Rows of one's own -/
theorem own_put {B e size g n c : Nat} {w : World} {xs : List Value} (h : w.ownsRow B e size (.slice (some ⟨g, 0, none⟩) n c) n xs) (k : Nat) (hk : k < n * size) (u : Value) :
    (w.setCell ⟨g, k, none⟩ u).ownsRow B e size (.slice (some ⟨g, 0, none⟩) n c) n (xs.set k u) := by
  rcases h.2 with ⟨hv, _⟩ | ⟨g', cap, cur, hv, hB, hg, hn, hm, hs, ht⟩
  · cases hv
  · cases hv
    refine ⟨by rw [List.length_set]; exact h.1, .inr ⟨g, c, cur.setIfInBounds k u, rfl, hB, ?_, hn, hm, by simp [hs], ?_⟩⟩
    · exact heap_setCell_same w g k _ _ _ hg
    · rw [Array.toList_setIfInBounds, ← ht]
      exact List.take_set
theorem own_other {B e size n : Nat} {w w' : World} {v : Value} {xs : List Value} (h : w.ownsRow B e size v n xs) (hs : ∀ k, v.ownBlock = some k → w'.heap[k]? = w.heap[k]?) : w'.ownsRow B e size v n xs :=
  ⟨h.1, h.2.imp id (by
    rintro ⟨g, cap, cur, hv, hB, hg, r⟩
    exact ⟨g, cap, cur, hv, hB, (hs g (by rw [hv]; rfl)).trans hg, r⟩)⟩
theorem ownrow_form {B e size n : Nat} {w : World} {v : Value} {xs : List Value} (h : w.ownsRow B e size v n xs) : (v = .slice none 0 0 ∧ n = 0) ∨ ∃ g c, v = .slice (some ⟨g, 0, none⟩) n c ∧ B ≤ g ∧ g < w.heap.size ∧ n ≤ c ∧ Ty w e g ∧ ∀ j u, xs[j]? = some u → w.cell? ⟨g, j, none⟩ = some u := by
  rcases h.2 with h0 | ⟨g, cap, cur, hv, hB, hg, hn, hm, hs, ht⟩
  · exact .inl h0
  · refine .inr ⟨g, cap, hv, hB, block_lt hg, hn, ⟨cur, hg⟩, fun j u hj => ?_⟩
    rw [hv] at h
    have := h.cells (g := g) rfl j u hj
    rw [row_addr] at this
    exact this

/-- What an append of one edge does. -/
structure App2 (w w' : World) (v v' : Value) (n : Nat) : Prop where
  os : w'.os = w.os
  tape : w'.tape = w.tape
  output : w'.output = w.output
  size : w.heap.size ≤ w'.heap.size
  block : ∀ k, k < w.heap.size → v.ownBlock ≠ some k → w'.heap[k]? = w.heap[k]?
  fresh : v'.ownBlock = v.ownBlock ∨ ∃ k, v'.ownBlock = some k ∧ w.heap.size ≤ k
  cells : ∀ g m c, v = .slice (some ⟨g, 0, none⟩) m c → ∀ j, j < n * 2 → w'.cell? ⟨g, j, none⟩ = w.cell? ⟨g, j, none⟩

set_option maxRecDepth 100000 in
theorem run_app2 (B : Nat) (w : World) (v : Value) (n : Nat) (xs : List Value) (x y : Int) (h : w.ownsRow B 55 2 v n xs) (hB : B ≤ w.heap.size) (hsz : n + 1 ≤ 16777216) :
    ∃ v' w', (Builtin.append_ #[51, 51] 51 #[v, .slice (some ⟨w.heap.size, 0, none⟩) 1 1]).run Try.prog (w.alloc (.cells #[.int .u8 x, .int .i64 y] 55)) = .ok v' w' ∧ w'.ownsRow B 55 2 v' (n + 1) (xs ++ [.int .u8 x, .int .i64 y]) ∧ App2 w w' v v' n := by
  obtain ⟨i0, hi, hz0, hz1, hz2⟩ := info_parts edge_info
  have h1 : (w.alloc (.cells #[.int .u8 x, .int .i64 y] 55)).ownsRow B 55 2 v n xs := h.alloc _
  have hnews : ∀ j u, [Value.int .u8 x, .int .i64 y][j]? = some u → (w.alloc (.cells #[.int .u8 x, .int .i64 y] 55)).cell? ((⟨w.heap.size, 0, none⟩ : Addr).add j) = some u := by
    intro j u hj
    match j, hj with
    | 0, hj => simp at hj; subst hj; simp [Addr.add]
    | 1, hj => simp at hj; subst hj; simp [Addr.add]
  have hone : ∀ u ∈ [Value.int .u8 x, .int .i64 y], u.oneCell' = true := by
    intro u hu
    simp at hu
    rcases hu with rfl | rfl <;> rfl
  have hbl : ∀ k, k < w.heap.size → (w.alloc (.cells #[.int .u8 x, .int .i64 y] 55)).heap[k]? = w.heap[k]? := fun k hk => Below.heap_alloc w _ k hk
  obtain ⟨v', w', hrun, hown, hg, -, hat⟩ := run_append_own_at (P := Try.prog) (w := w.alloc (.cells #[.int .u8 x, .int .i64 y] 55)) (ty := 51) B 51 55 i0 (.agg #[.int .u8 0, .int .i64 0]) 2 16 Try.underlying51 hi hz0 hz1 hz2 rfl (by decide) v n _ h1 ⟨w.heap.size, 0, none⟩ 1 1 [.int .u8 x, .int .i64 y] rfl hnews
    hone (by unfold maxLen; omega) (by omega) (by simp; omega)
  refine ⟨v', w', hrun, hown, ⟨hg.os, hg.tape, hg.output, Nat.le_trans (by simp) hg.size, fun k hk hne => (hg.block k (by simp; omega) (fun e => hne e.symm)).trans (hbl k hk), ?_, ?_⟩⟩
  · rcases hat with hat | hat
    · exact .inl hat
    · exact .inr ⟨_, hat, by simp⟩
  · rintro g m c rfl j hj
    have hvn : m = n := by
      rcases h.2 with ⟨hv, _⟩ | ⟨g', cap, cur, hv, _⟩
      · cases hv
      · cases hv; rfl
    subst hvn
    have hjl : j < xs.length := by rw [h.1]; exact hj
    have hold : w.cell? ⟨g, j, none⟩ = some xs[j] := by
      have := h.cells (g := g) rfl j xs[j] (List.getElem?_eq_getElem hjl)
      rw [row_addr] at this
      exact this
    rw [hold]
    rcases hat with hat | hat
    · rcases ownrow_form hown with ⟨rfl, _⟩ | ⟨g', c', rfl, _, _, _, _, hc⟩
      · simp [Value.ownBlock] at hat
      · have : g' = g := by simpa [Value.ownBlock] using hat
        subst this
        exact hc j _ (by rw [List.getElem?_append_left hjl]; exact List.getElem?_eq_getElem hjl)
    · have hcap : c < m + 1 := by
        rcases Nat.lt_or_ge c (m + 1) with h' | h'
        · exact h'
        · exfalso
          obtain ⟨w2, hrun2, _⟩ := run_append_fits (P := Try.prog) (w := w.alloc (.cells #[.int .u8 x, .int .i64 y] 55)) (ty := 51) B 51 55 i0 2 Try.underlying51 hi hz1 g m c _ h1 ⟨w.heap.size, 0, none⟩ 1 1 [.int .u8 x, .int .i64 y] rfl hnews hone h'
          rw [hrun] at hrun2
          injection hrun2 with e1 e2
          subst e1
          have hlt := World.block_lt_of_cell? w _ hold
          have hlt2 : g < w.heap.size := hlt
          simp [Value.ownBlock] at hat
          omega
      have hgrow := run_append_grow (P := Try.prog) (w.alloc (.cells #[.int .u8 x, .int .i64 y] 55)) 51 51 55 i0 (.agg #[.int .u8 0, .int .i64 0]) Try.underlying51 hi hz0 ⟨g, 0, none⟩ m c xs (by rw [hz1]; exact h1.1) (h1.cells (g := g) rfl) ⟨w.heap.size, 0, none⟩ 1 1 [.int .u8 x, .int .i64 y] (by rw [hz1]; rfl) hnews hcap (by omega) (growslice_fits (by omega) (by rw [hz2]; omega))
      rw [hrun] at hgrow
      injection hgrow with e1 e2
      subst e2
      have hlt := World.block_lt_of_cell? w _ hold
      have hlt2 : g < w.heap.size := hlt
      rw [World.cell?_of_block (w := w) (a := ⟨g, j, none⟩) ?_, hold]
      show ((w.alloc (.cells #[.int .u8 x, .int .i64 y] 55)).drew.alloc _).heap[g]? = w.heap[g]?
      rw [Below.heap_alloc _ _ g (by show g < (w.alloc _).heap.size; simp; omega)]
      exact hbl g hlt2

/-! ### The book that is marked -/
/-- Where its parts lie: between lo and hi; the sections' headers and their lengths; the states' headers of edges and their lengths. -/
structure XD where
  lo : Nat
  hi : Nat
  v : Nat → Value
  n : Nat → Nat
  h : Nat → Nat → Value
  m : Nat → Nat → Nat
structure XOk (d : XD) : Prop where
  sl : ∀ j, j < 4 → ∃ A c, d.v j = .slice A (d.n j) c
  dist : ∀ j k j' k', j < 4 → k < d.n j → j' < 4 → k' < d.n j' → (j ≠ j' ∨ k ≠ k') → ∀ g, (d.h j k).ownBlock = some g → (d.h j' k').ownBlock ≠ some g
  sm : ∀ j k, j < 4 → k < d.n j → d.m j k ≤ 256
  nm : ∀ j, j < 4 → d.n j ≤ 1048576
  blk : ∀ j k, j < 4 → k < d.n j → ∀ g, (d.h j k).ownBlock = some g → d.lo ≤ g ∧ g < d.hi
/-- The states. -/
def XH (d : XD) (w : World) : Prop := ∀ j, j < 4 → d.n j = 0 ∨ ∃ g c, d.v j = .slice (some ⟨g, 0, none⟩) (d.n j) c ∧ d.lo ≤ g ∧ g < d.hi ∧ Ty w 53 g ∧ ∀ k, k < d.n j → (∃ b, w.cell? ⟨g, k * 2, none⟩ = some (.bool b)) ∧ w.cell? ⟨g, k * 2 + 1, none⟩ = some (d.h j k)
/-- A marked edge among a row's cells. -/
def MkX (xs : List Value) (a i : Nat) : Prop := (∃ c : Int, xs[i * 2]? = some (.int .u8 c)) ∧ xs[i * 2 + 1]? = some (.int .i64 (-5 - (a : Int)))
def XE (d : XD) (w : World) (j k q : Nat) : Prop := ∀ a b, a < 4 → b < d.n a → ∃ xs, w.ownsRow d.lo 55 2 (d.h a b) (d.m a b) xs ∧ ((a < j ∨ a = j ∧ b < k) → ∀ i, i < d.m a b → MkX xs a i) ∧ ((a = j ∧ b = k) → ∀ i, i < q → MkX xs a i)
theorem cell_set {w : World} {p a : Addr} {v : Value} (u : Value) (h : w.cell? a = some v) (hne : a ≠ p) : (w.setCell p u).cell? a = some v := by rw [World.cell?_setCell_other (h := fun e => hne e.symm)]; exact h
theorem XH.other {d : XD} {w w' : World} (h : XH d w) (hb : ∀ g, Ty w 53 g → d.lo ≤ g → g < d.hi → w'.heap[g]? = w.heap[g]?) : XH d w' := fun j hj => (h j hj).imp id (by
  rintro ⟨g, c, h1, h2, h2', h3, h4⟩
  have e := hb g h3 h2 h2'
  exact ⟨g, c, h1, h2, h2', h3.grown e, fun k hk => ⟨(h4 k hk).1.imp fun b hb => (World.cell?_of_block e).trans hb, (World.cell?_of_block e).trans (h4 k hk).2⟩⟩)
theorem XE.other {d : XD} {w w' : World} {j k q : Nat} (h : XE d w j k q) (hb : ∀ g, Ty w 55 g → (∃ a b, a < 4 ∧ b < d.n a ∧ (d.h a b).ownBlock = some g) → w'.heap[g]? = w.heap[g]?) : XE d w' j k q := fun a b ha hb' => by
  obtain ⟨xs, h1, h2⟩ := h a b ha hb'
  exact ⟨xs, own_other h1 (fun g hg => hb g (own_ty h1 hg).1 ⟨a, b, ha, hb', hg⟩), h2⟩
theorem XH.fin {d : XD} {w : World} {g i : Nat} {b : Bool} (h : XH d w) : XH d (w.setCell ⟨g, i * 2, none⟩ (.bool b)) := fun j hj => (h j hj).imp id (by
  rintro ⟨g', c, h1, h2, h2', h3, h4⟩
  refine ⟨g', c, h1, h2, h2', h3.set _ _ _, fun k hk => ⟨?_, cell_set _ (h4 k hk).2 (fun e => by simp only [Addr.mk.injEq] at e; omega)⟩⟩
  obtain ⟨b', hb'⟩ := (h4 k hk).1
  by_cases e : (⟨g', k * 2, none⟩ : Addr) = ⟨g, i * 2, none⟩
  · rw [← e]; exact ⟨b, World.cell?_setCell_same _ _ _ hb'⟩
  · exact ⟨b', cell_set _ hb' e⟩)
theorem XE.fin {d : XD} {w : World} {g i j k q : Nat} {u : Value} {t : Nat} (ht : Ty w t g) (hne : t ≠ 55) (h : XE d w j k q) : XE d (w.setCell ⟨g, i, none⟩ u) j k q :=
  h.other (fun g' h1 _ => Below.heap_setCell _ _ _ _ (fun e => by
    have e : g' = g := e
    subst e
    exact hne (ht.uniq h1)))
theorem XH.fin' {d : XD} {w : World} {g i : Nat} {u : Value} {t : Nat} (ht : Ty w t g) (hne : t ≠ 53) (h : XH d w) : XH d (w.setCell ⟨g, i, none⟩ u) :=
  h.other (fun g' h1 _ _ => Below.heap_setCell _ _ _ _ (fun e => by
    have e : g' = g := e
    subst e
    exact hne (ht.uniq h1)))
/-- A place's header, opened. -/
theorem XE.at {d : XD} {w : World} {j k q a b i : Nat} (h : XE d w j k q) (ha : a < 4) (hb : b < d.n a) (hi : i < d.m a b) : ∃ g c, d.h a b = .slice (some ⟨g, 0, none⟩) (d.m a b) c ∧ Ty w 55 g ∧ d.m a b ≤ c ∧ (∃ u, w.cell? ⟨g, i * 2, none⟩ = some u) ∧ (∃ u, w.cell? ⟨g, i * 2 + 1, none⟩ = some u) := by
  obtain ⟨xs, h1, _⟩ := h a b ha hb
  rcases ownrow_form h1 with ⟨_, h0⟩ | ⟨g, c, hv, _, _, hc, ht, hcs⟩
  · omega
  · have hl := h1.1
    exact ⟨g, c, hv, ht, hc, ⟨_, hcs (i * 2) _ (List.getElem?_eq_getElem (by omega))⟩, ⟨_, hcs (i * 2 + 1) _ (List.getElem?_eq_getElem (by omega))⟩⟩
theorem XE.slice {d : XD} {w : World} {j k q a b : Nat} (h : XE d w j k q) (ha : a < 4) (hb : b < d.n a) : ∃ A c, d.h a b = .slice A (d.m a b) c := by
  obtain ⟨xs, h1, _⟩ := h a b ha hb
  rcases ownrow_form h1 with ⟨h0, h2⟩ | ⟨g, c, hv, _⟩
  · exact ⟨none, 0, by rw [h0, h2]⟩
  · exact ⟨_, c, hv⟩
/-- One edge more is marked. -/
theorem XE.mark {d : XD} (ok : XOk d) {w : World} {j k q g c : Nat} {u : Int} (h : XE d w j k q) (hj : j < 4) (hk : k < d.n j) (hq : q < d.m j k) (hv : d.h j k = .slice (some ⟨g, 0, none⟩) (d.m j k) c) :
    XE d ((w.setCell ⟨g, q * 2, none⟩ (.int .u8 u)).setCell ⟨g, q * 2 + 1, none⟩ (.int .i64 (-5 - (j : Int)))) j k (q + 1) := fun a b ha hb => by
  obtain ⟨xs, h1, h2, h3⟩ := h a b ha hb
  by_cases e : a = j ∧ b = k
  · obtain ⟨rfl, rfl⟩ := e
    rw [hv] at h1 ⊢
    refine ⟨_, own_put (own_put h1 (q * 2) (by omega) (.int .u8 u)) (q * 2 + 1) (by omega) _, fun hlt => absurd hlt (by omega), fun _ i hi => ?_⟩
    have hl := h1.1
    by_cases e2 : i = q
    · subst e2
      refine ⟨⟨u, ?_⟩, ?_⟩
      · rw [List.getElem?_set_ne (by omega), List.getElem?_set_self (by omega)]
      · rw [List.getElem?_set_self (by rw [List.length_set]; omega)]
    · obtain ⟨⟨c', h4⟩, h5⟩ := h3 ⟨rfl, rfl⟩ i (by omega)
      refine ⟨⟨c', ?_⟩, ?_⟩
      · rw [List.getElem?_set_ne (by omega), List.getElem?_set_ne (by omega)]; exact h4
      · rw [List.getElem?_set_ne (by omega), List.getElem?_set_ne (by omega)]; exact h5
  · refine ⟨xs, own_other h1 (fun g' hg' => ?_), h2, fun he => absurd he e⟩
    have hne : g' ≠ g := fun e2 => by
      subst e2
      exact ok.dist j k a b hj hk ha hb (by omega) g' (by rw [hv]; rfl) hg'
    rw [Below.heap_setCell _ _ _ _ (show g' ≠ _ from hne), Below.heap_setCell _ _ _ _ (show g' ≠ _ from hne)]
theorem XE.next {d : XD} {w : World} {j k : Nat} (h : XE d w j k (d.m j k)) : XE d w j (k + 1) 0 := fun a b ha hb => by
  obtain ⟨xs, h1, h2, h3⟩ := h a b ha hb
  refine ⟨xs, h1, fun hlt i hi => ?_, fun _ i hi => absurd hi (Nat.not_lt_zero _)⟩
  by_cases e : a = j ∧ b = k
  · exact h3 e i (by obtain ⟨rfl, rfl⟩ := e; exact hi)
  · exact h2 (by omega) i hi
theorem XE.step {d : XD} {w : World} {j : Nat} (h : XE d w j (d.n j) 0) : XE d w (j + 1) 0 0 := fun a b ha hb => by
  obtain ⟨xs, h1, h2, _⟩ := h a b ha hb
  refine ⟨xs, h1, fun hlt i hi => h2 ?_ i hi, fun _ i hi => absurd hi (Nat.not_lt_zero _)⟩
  by_cases e : a = j
  · subst e; exact .inr ⟨rfl, hb⟩
  · omega

/-! ### What is appended to -/
/-- The marks of all edges are read; the rows from (j, k) on are still one's own. -/
structure XA (d : XD) (w : World) (j k : Nat) : Prop where
  rd : ∀ a b, a < 4 → b < d.n a → (∃ A c, d.h a b = .slice A (d.m a b) c) ∧ ∀ i, i < d.m a b → ∃ g c, d.h a b = .slice (some ⟨g, 0, none⟩) (d.m a b) c ∧ w.cell? ⟨g, i * 2 + 1, none⟩ = some (.int .i64 (-5 - (a : Int))) ∧ (∃ u : Int, w.cell? ⟨g, i * 2, none⟩ = some (.int .u8 u))
  own : ∀ a b, a < 4 → b < d.n a → ¬ (a < j ∨ a = j ∧ b < k) → ∃ xs, w.ownsRow d.lo 55 2 (d.h a b) (d.m a b) xs
theorem XE.xa {d : XD} {w : World} (h : XE d w 4 0 0) : XA d w 0 0 := by
  refine ⟨fun a b ha hb => ⟨h.slice ha hb, fun i hi => ?_⟩, fun a b ha hb _ => ?_⟩
  · obtain ⟨xs, h1, h2, _⟩ := h a b ha hb
    have hl := h1.1
    rcases ownrow_form h1 with ⟨_, h0⟩ | ⟨g, c, hv, _, _, _, _, hcs⟩
    · omega
    · obtain ⟨⟨c', h4⟩, h5⟩ := h2 (.inl ha) i hi
      exact ⟨g, c, hv, hcs _ _ h5, c', hcs _ _ h4⟩
  · obtain ⟨xs, h1, _⟩ := h a b ha hb
    exact ⟨xs, h1⟩
theorem XA.next {d : XD} {w : World} {j k : Nat} (h : XA d w j k) : XA d w j (k + 1) := ⟨h.rd, fun a b ha hb hn => h.own a b ha hb (by omega)⟩
theorem XA.step {d : XD} {w : World} {j : Nat} (h : XA d w j (d.n j)) : XA d w (j + 1) 0 := ⟨h.rd, fun a b ha hb hn => h.own a b ha hb (by omega)⟩
/-- Within the appends to (j, k): l stands for what is appended to by now. -/
structure XI (d : XD) (w0 w : World) (j k t : Nat) (l : Value) : Prop where
  xa : XA d w j (k + 1)
  xh : XH d w
  turn : Turn d.lo d.hi w0 w
  own : ∃ xs, w.ownsRow d.lo 55 2 l (d.m j k + t) xs
  blk : l.ownBlock = (d.h j k).ownBlock ∨ ∃ g, l.ownBlock = some g ∧ w0.heap.size ≤ g
theorem XI.start {d : XD} {w0 w : World} {j k : Nat} (h : XA d w j k) (hh : XH d w) (ht : Turn d.lo d.hi w0 w) (hj : j < 4) (hk : k < d.n j) : XI d w0 w j k 0 (d.h j k) :=
  ⟨h.next, hh, ht, h.own j k hj hk (by omega), .inl rfl⟩
theorem XI.step {d : XD} (ok : XOk d) {w0 w w' : World} {j k t : Nat} {l l' : Value} (h : XI d w0 w j k t l) (hj : j < 4) (hk : k < d.n j) (hhi : d.hi ≤ w0.heap.size) (hn : ∃ xs, w'.ownsRow d.lo 55 2 l' (d.m j k + t + 1) xs) (ha : App2 w w' l l' (d.m j k + t)) :
    XI d w0 w' j k (t + 1) l' := by
  -- a block of another row, or of the states, stays
  have hst : ∀ g, g < w.heap.size → l.ownBlock ≠ some g → w'.heap[g]? = w.heap[g]? := ha.block
  obtain ⟨xl, hxl⟩ := h.own
  refine ⟨⟨fun a b ha' hb => ⟨(h.xa.rd a b ha' hb).1, fun i hi => ?_⟩, fun a b ha' hb hn' => ?_⟩, ?_, ?_, hn, ?_⟩
  · obtain ⟨g, c, h1, h2, u, h3⟩ := (h.xa.rd a b ha' hb).2 i hi
    have hg : g < w.heap.size := World.block_lt_of_cell? _ _ h2
    by_cases e : l.ownBlock = some g
    · -- the row itself, or one like it
      rcases ownrow_form hxl with ⟨hl0, _⟩ | ⟨g', c', hl, _, _, _, _, _⟩
      · rw [hl0] at e; cases e
      · have e' : g' = g := by rw [hl] at e; simpa [Value.ownBlock] using e
        subst e'
        rcases h.blk with hb' | ⟨g2, hb', hlt⟩
        · have hjk : a = j ∧ b = k := Classical.not_not.1 (fun hne => ok.dist a b j k ha' hb hj hk (by omega) g' (by rw [h1]; rfl) (by rw [← hb', e]))
          obtain ⟨rfl, rfl⟩ := hjk
          exact ⟨g', c, h1, (ha.cells g' _ c' hl _ (by omega)).trans h2, u, (ha.cells g' _ c' hl _ (by omega)).trans h3⟩
        · have : g2 = g' := by rw [e] at hb'; cases hb'; rfl
          subst this
          have := (ok.blk a b ha' hb g2 (by rw [h1]; rfl)).2
          omega
    · have hh := hst g hg e
      exact ⟨g, c, h1, (World.cell?_of_block hh).trans h2, u, (World.cell?_of_block hh).trans h3⟩
  · obtain ⟨xs, h1⟩ := h.xa.own a b ha' hb hn'
    refine ⟨xs, own_other h1 (fun g hg => hst g (own_ty h1 hg).1.lt (fun e => ?_))⟩
    rcases h.blk with hb' | ⟨g2, hb', hlt⟩
    · exact ok.dist j k a b hj hk ha' hb (by omega) g (by rw [← hb', e]) hg
    · have : g2 = g := by rw [e] at hb'; cases hb'; rfl
      subst this
      have := (ok.blk a b ha' hb g2 hg).2
      omega
  · refine h.xh.other (fun g h1 _ _ => hst g h1.lt (fun e => ?_))
    exact absurd ((own_ty hxl e).1.uniq h1) (by decide)
  · refine ⟨ha.os.trans h.turn.os, ha.tape.trans h.turn.tape, ha.output.trans h.turn.output, Nat.le_trans h.turn.size ha.size, fun g hg ho => (hst g (Nat.lt_of_lt_of_le hg h.turn.size) (fun e => ?_)).trans (h.turn.block g hg ho)⟩
    rcases h.blk with hb' | ⟨g2, hb', hlt⟩
    · have := ok.blk j k hj hk g (by rw [← hb', e])
      omega
    · have : g2 = g := by rw [e] at hb'; cases hb'; rfl
      omega
  · rcases ha.fresh with e | ⟨g, e, hg⟩
    · rw [e]; exact h.blk
    · exact .inr ⟨g, e, Nat.le_trans h.turn.size hg⟩
theorem own_base {B B' e size n : Nat} {w : World} {v : Value} {xs : List Value} (h : w.ownsRow B e size v n xs) (hB : B' ≤ B) : w.ownsRow B' e size v n xs :=
  ⟨h.1, h.2.imp id (by
    rintro ⟨g, cap, cur, hv, hb, r⟩
    exact ⟨g, cap, cur, hv, Nat.le_trans hB hb, r⟩)⟩
theorem st_at (L : List (St × Value)) (k : Nat) (hk : k < L.length) : (stCells L)[k * 2]? = some (.bool L[k].1.1) ∧ (stCells L)[k * 2 + 1]? = some L[k].2 :=
  two_get (fun x : St × Value => Value.bool x.1.1) (fun x => x.2) L k hk
/-- What Decode made, laid out. -/
theorem SecR.xd {W : World} {lo : Nat} {vs : List Value} {As : List (List St)} (h : SecR W lo vs As) (hl : As.length = 4) (hs : ∀ A ∈ As, A.length ≤ 1048576 ∧ ∀ x ∈ A, x.2.length ≤ 256) :
    ∃ d : XD, d.lo = lo ∧ d.hi = W.heap.size ∧ (∀ j, d.v j = vs.getD j undef) ∧ XOk d ∧ XH d W ∧ XE d W 0 0 0 := by
  obtain ⟨B, Ls, h0, h1, h2, h3⟩ := h
  rw [hl] at h2
  have hB : ∀ i j, i ≤ j → B i ≤ B j := fun i j hij => by
    have := marks_le h1 i (j - i)
    rwa [show i + (j - i) = j by omega] at this
  have hget : ∀ j k (hk : k < (Ls j).length), ((Ls j).map (·.2)).getD k undef = (Ls j)[k].2 ∧ ((Ls j).map (fun x => x.1.2.length)).getD k 0 = (Ls j)[k].1.2.length := fun j k hk => by
    simp [List.getD, List.getElem?_eq_getElem hk]
  have hsec : ∀ j, j < 4 → SecAt W (B j) (B (j + 1)) (vs.getD j undef) (Ls j) := fun j hj => (h3 j (by omega)).1
  have hin : ∀ j, j < 4 → lo ≤ B j ∧ B (j + 1) ≤ W.heap.size := fun j hj => ⟨Nat.le_trans h0 (hB 0 j (Nat.zero_le _)), Nat.le_trans (hB _ _ (by omega)) h2⟩
  have hAj : ∀ j (hj : j < 4), (Ls j).length ≤ 1048576 ∧ ∀ x ∈ Ls j, x.1.2.length ≤ 256 := fun j hj => by
    have e := (h3 j (by omega)).2
    have hm := hs As[j] (List.getElem_mem _)
    rw [← e] at hm
    refine ⟨by simpa using hm.1, fun x hx => hm.2 x.1 (List.mem_map_of_mem hx)⟩
  refine ⟨⟨lo, W.heap.size, fun j => vs.getD j undef, fun j => (Ls j).length, fun j k => ((Ls j).map (·.2)).getD k undef, fun j k => ((Ls j).map (fun x => x.1.2.length)).getD k 0⟩, rfl, rfl, fun _ => rfl, ?_, ?_, ?_⟩
  · refine ⟨fun j hj => ?_, fun j k j' k' hj hk hj' hk' hne g hg => ?_, fun j k hj hk => ?_, fun j hj => (hAj j hj).1, fun j k hj hk g hg => ?_⟩
    · rcases ownrow_form (hsec j hj).out.own with ⟨h4, h5⟩ | ⟨g, c, h4, _⟩
      · exact ⟨none, 0, by dsimp only at *; rw [h4, h5]⟩
      · exact ⟨_, c, h4⟩
    · dsimp only at *
      rw [(hget j k hk).1] at hg
      rw [(hget j' k' hk').1]
      intro hg'
      have a1 := (own_ty ((hsec j hj).rows.rows _ (List.getElem_mem hk)) hg).2
      have a2 := (hsec j hj).rlt _ (List.getElem_mem hk) g hg
      have b1 := (own_ty ((hsec j' hj').rows.rows _ (List.getElem_mem hk')) hg').2
      have b2 := (hsec j' hj').rlt _ (List.getElem_mem hk') g hg'
      by_cases e : j = j'
      · subst e
        have hp := List.pairwise_iff_getElem.1 (hsec j hj).rows.dist
        rcases Nat.lt_or_ge k k' with h6 | h6
        · exact hp k k' hk hk' h6 g hg hg'
        · exact hp k' k hk' hk (by omega) g hg' hg
      · rcases Nat.lt_or_ge j j' with h6 | h6
        · have := hB (j + 1) j' h6; omega
        · have := hB (j' + 1) j (by omega); omega
    · dsimp only at *
      rw [(hget j k hk).2]
      exact (hAj j hj).2 _ (List.getElem_mem hk)
    · dsimp only at *
      rw [(hget j k hk).1] at hg
      have a1 := (own_ty ((hsec j hj).rows.rows _ (List.getElem_mem hk)) hg).2
      have a2 := (hsec j hj).rlt _ (List.getElem_mem hk) g hg
      have := hin j hj
      omega
  · intro j hj
    rcases ownrow_form (hsec j hj).out.own with ⟨_, h5⟩ | ⟨g, c, h4, h5, h6, h7, h8, h9⟩
    · exact .inl h5
    · have := hin j hj
      refine .inr ⟨g, c, h4, by dsimp only; omega, h6, h8, fun k hk => ?_⟩
      obtain ⟨q1, q2⟩ := st_at (Ls j) k hk
      refine ⟨⟨_, h9 _ _ q1⟩, ?_⟩
      dsimp only
      rw [(hget j k hk).1]
      exact h9 _ _ q2
  · intro a b ha hb
    dsimp only at *
    rw [(hget a b hb).1, (hget a b hb).2]
    exact ⟨_, own_base ((hsec a ha).rows.rows _ (List.getElem_mem hb)) (hin a ha).1, fun h => absurd h (by omega), fun _ i hi => absurd hi (Nat.not_lt_zero _)⟩
end Go.Proofs.Ytehbjfjhalpgaaa
