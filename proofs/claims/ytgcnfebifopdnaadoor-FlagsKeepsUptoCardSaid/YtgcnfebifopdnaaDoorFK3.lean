/-
  Three rows of flags that are marked and appended to, one after the other.
-/
import Derived.Test.YtgcnfebifopdnaaDoorRows
import Derived.Test.YtgcnfebifopdnaaDoorFK2
namespace Go.Proofs.YtgcnfebifopdnaaDoor
open Go.RowKit

/-- Three rows, each of its own, in blocks of its own. -/
structure Three (lo : Nat) (V : Nat → Value) (Z : Nat → List Int) (w : World) : Prop where
  row : ∀ i, i < 3 → RW lo w (V i) (Z i)
  apart : ∀ i j, i < 3 → j < 3 → i ≠ j → ∀ g, (V i).ownBlock = some g → (V j).ownBlock ≠ some g
def updZ (Z : Nat → List Int) (i : Nat) (z : List Int) : Nat → List Int := fun j => if j = i then z else Z j
def pick3 {α : Type} (a b c : α) : Nat → α | 0 => a | 1 => b | _ => c
theorem lt3 {i : Nat} (h : i < 3) : i = 0 ∨ i = 1 ∨ i = 2 := by omega

theorem three_of {w1 w2 w3 w : World} {lo : Nat} {a b c : Value} {za zb zc : List Int} (ha : RW lo w1 a za) (hb : RW w1.heap.size w2 b zb) (hc : RW w2.heap.size w3 c zc)
    (h01 : lo ≤ w1.heap.size) (h12 : Below w1.heap.size w1 w2) (h23 : Below w2.heap.size w2 w3) (h3 : Below w3.heap.size w3 w) : Three lo (pick3 a b c) (pick3 za zb zc) w := by
  have ka : ∀ g, a.ownBlock = some g → g < w1.heap.size := fun g hg => by
    rcases ha.cases with ⟨rfl, _⟩ | ⟨g', c', rfl, _, h⟩
    · cases hg
    · have : g' = g := by simpa [Value.ownBlock] using hg
      omega
  have kb : ∀ g, b.ownBlock = some g → w1.heap.size ≤ g ∧ g < w2.heap.size := fun g hg => by
    rcases hb.cases with ⟨rfl, _⟩ | ⟨g', c', rfl, h1, h⟩
    · cases hg
    · have : g' = g := by simpa [Value.ownBlock] using hg
      omega
  have kc : ∀ g, c.ownBlock = some g → w2.heap.size ≤ g := fun g hg => by
    rcases hc.cases with ⟨rfl, _⟩ | ⟨g', c', rfl, h1, h⟩
    · cases hg
    · have : g' = g := by simpa [Value.ownBlock] using hg
      omega
  have s12 := h12.size
  have s23 := h23.size
  refine ⟨fun i hi => ?_, fun i j hi hj hne g h1 h2 => ?_⟩
  · rcases lt3 hi with rfl | rfl | rfl
    · exact own_below (own_below (own_below ha h12) h23) h3
    · exact RW.mono (show RW w1.heap.size w b zb from own_below (own_below hb h23) h3) h01
    · exact RW.mono (show RW w2.heap.size w c zc from own_below hc h3) (by omega)
  · rcases lt3 hi with rfl | rfl | rfl <;> rcases lt3 hj with rfl | rfl | rfl <;> first
      | exact hne rfl
      | (have := ka g h1; have := kb g h2; omega)
      | (have := ka g h2; have := kb g h1; omega)
      | (have := ka g h1; have := kc g h2; omega)
      | (have := ka g h2; have := kc g h1; omega)
      | (have := kb g h1; have := kc g h2; omega)
      | (have := kb g h2; have := kc g h1; omega)
theorem Three.at {lo : Nat} {V : Nat → Value} {Z : Nat → List Int} {w : World} (h : Three lo V Z w) {i k : Nat} (hi : i < 3) (hk : k < (Z i).length) :
    ∃ g c, V i = .slice (some ⟨g, 0, none⟩) (Z i).length c ∧ lo ≤ g ∧ g < w.heap.size ∧ w.cell? ⟨g, k, none⟩ = some (.int .u16 (Z i)[k]) ∧ w.frozen? ⟨g, k, none⟩ = false := by
  have hr := h.row i hi
  rcases hr.cases with ⟨_, h0⟩ | ⟨g, c, hv, hB, hlt⟩
  · rw [h0] at hk; cases hk
  · rw [hv] at hr
    exact ⟨g, c, hv, hB, hlt, (RW.at hr k hk).1, (RW.at hr k hk).2⟩
theorem Three.set {lo : Nat} {V : Nat → Value} {Z : Nat → List Int} {w : World} (h : Three lo V Z w) {i k : Nat} (hi : i < 3) (hk : k < (Z i).length) {g c : Nat} (hv : V i = .slice (some ⟨g, 0, none⟩) (Z i).length c) (x : Int) :
    Three lo V (updZ Z i ((Z i).set k x)) (w.setCell ⟨g, k, none⟩ (.int .u16 x)) := by
  refine ⟨fun j hj => ?_, h.apart⟩
  unfold updZ
  split
  · rename_i e
    subst e
    have hr := h.row j hj
    rw [hv] at hr ⊢
    exact RW.set hr k hk x
  · rename_i e
    refine RW.other (h.row j hj) (fun q hq => ?_)
    have hne : q ≠ g := fun e2 => by
      subst e2
      exact h.apart i j hi hj (Ne.symm e) q (by rw [hv]; rfl) hq
    exact heap_setCell_other w ⟨g, k, none⟩ q _ (fun e3 => hne (by simpa using e3))
/-- What the first loop holds. -/
structure L1 (lo hi : Nat) (w0 : World) (V : Nat → Value) (N : Nat → Nat) (i : Nat) (w : World) (Z : Nat → List Int) : Prop where
  three : Three lo V Z w
  turn : Turn lo hi w0 w
  len : ∀ j, j < 3 → (Z j).length = N j
  done : ∀ j, j < i → j < 3 → ∀ k (h : k < (Z j).length), (Z j)[k] = 50000 + (j : Int)
/-- And its inner one. -/
structure L1i (lo hi : Nat) (w0 : World) (V : Nat → Value) (N : Nat → Nat) (i m : Nat) (w : World) (Z : Nat → List Int) : Prop extends L1 lo hi w0 V N i w Z where
  now : ∀ k (h : k < (Z i).length), k < m → (Z i)[k] = 50000 + (i : Int)
theorem L1i.start {lo hi : Nat} {w0 w : World} {V : Nat → Value} {N : Nat → Nat} {i : Nat} {Z : Nat → List Int} (h : L1 lo hi w0 V N i w Z) : L1i lo hi w0 V N i 0 w Z := ⟨h, fun _ _ h => by omega⟩
theorem L1i.end_ {lo hi : Nat} {w0 w : World} {V : Nat → Value} {N : Nat → Nat} {i : Nat} {Z : Nat → List Int} (hi3 : i < 3) (h : L1i lo hi w0 V N i (N i) w Z) : L1 lo hi w0 V N (i + 1) w Z := by
  refine ⟨h.three, h.turn, h.len, fun j hj hj3 k hk => ?_⟩
  by_cases e : j = i
  · subst e
    exact h.now k hk (by rw [← h.len j hj3]; exact hk)
  · exact h.done j (by omega) hj3 k hk
theorem L1i.step {lo hi : Nat} {w0 w : World} {V : Nat → Value} {N : Nat → Nat} {i m : Nat} {Z : Nat → List Int} (h : L1i lo hi w0 V N i m w Z) (hi3 : i < 3) (hm : m < N i) {g c : Nat} (hv : V i = .slice (some ⟨g, 0, none⟩) (N i) c) (hg : lo ≤ g ∧ g < hi) :
    ∃ Z', L1i lo hi w0 V N i (m + 1) (w.setCell ⟨g, m, none⟩ (.int .u16 (50000 + (i : Int)))) Z' := by
  have hl := h.len i hi3
  refine ⟨updZ Z i ((Z i).set m (50000 + (i : Int))), ⟨⟨h.three.set hi3 (by omega) (by rw [hl]; exact hv) _, h.turn.set _ _ hg.1 hg.2, fun j hj => ?_, fun j hj hj3 k hk => ?_⟩, fun k hk hkm => ?_⟩⟩
  · unfold updZ
    split
    · rename_i e; subst e; rw [List.length_set]; exact h.len j hj
    · exact h.len j hj
  · have e : updZ Z i ((Z i).set m (50000 + (i : Int))) j = Z j := by unfold updZ; rw [if_neg (by omega)]
    have hk' : k < (Z j).length := by rw [e] at hk; exact hk
    have := h.done j hj hj3 k hk'
    simp only [e]; exact this
  · have e : updZ Z i ((Z i).set m (50000 + (i : Int))) i = (Z i).set m (50000 + (i : Int)) := by unfold updZ; rw [if_pos rfl]
    simp only [e]
    by_cases hkm2 : k = m
    · subst hkm2; simp
    · rw [List.getElem_set_ne (Ne.symm hkm2)]
      exact h.now k _ (by omega)

/-- What the second loop holds: what stood behind the first one is still read; those not yet reached are still of their own. -/
structure L2 (lo hi : Nat) (w0 : World) (V : Nat → Value) (Z : Nat → List Int) (i : Nat) (w : World) : Prop where
  turn : Turn lo hi w0 w
  row : ∀ j, i ≤ j → j < 3 → RW lo w (V j) (Z j)
  fs : ∀ j, j < 3 → FS w (V j) (Z j)
structure L2i (lo hi : Nat) (w0 : World) (V : Nat → Value) (Z : Nat → List Int) (i m : Nat) (w : World) (l : Value) (zl : List Int) : Prop where
  turn : Turn lo hi w0 w
  row : ∀ j, i < j → j < 3 → RW lo w (V j) (Z j)
  fs : ∀ j, j < 3 → FS w (V j) (Z j)
  own : RW lo w l zl
  len : zl.length = (Z i).length + m
  blk : l.ownBlock = (V i).ownBlock ∨ ∃ k, l.ownBlock = some k ∧ w0.heap.size ≤ k
theorem L2i.start {lo hi : Nat} {w0 w : World} {V : Nat → Value} {Z : Nat → List Int} {i : Nat} (h : L2 lo hi w0 V Z i w) (hi3 : i < 3) : L2i lo hi w0 V Z i 0 w (V i) (Z i) :=
  ⟨h.turn, fun j hj hj3 => h.row j (by omega) hj3, h.fs, h.row i (Nat.le_refl _) hi3, rfl, .inl rfl⟩
theorem L2i.end_ {lo hi : Nat} {w0 w : World} {V : Nat → Value} {Z : Nat → List Int} {i m : Nat} {l : Value} {zl : List Int} (h : L2i lo hi w0 V Z i m w l zl) : L2 lo hi w0 V Z (i + 1) w :=
  ⟨h.turn, fun j hj hj3 => h.row j (by omega) hj3, h.fs⟩
theorem L2i.step {lo hi : Nat} {w0 w w' : World} {V : Nat → Value} {Z : Nat → List Int} {i m : Nat} {l l' : Value} {zl : List Int} {x : Int} (h : L2i lo hi w0 V Z i m w l zl) (hi3 : i < 3)
    (hb : ∀ j, j < 3 → ∀ g, (V j).ownBlock = some g → lo ≤ g ∧ g < hi) (hh : hi ≤ w0.heap.size)
    (hap : ∀ i j, i < 3 → j < 3 → i ≠ j → ∀ g, (V i).ownBlock = some g → (V j).ownBlock ≠ some g) (hz : ∀ j, j < 3 → ∀ g o n c, V j = .slice (some ⟨g, o, none⟩) n c → o = 0)
    (ho : RW lo w' l' (zl ++ [x])) (ha : App w w' l l' zl.length) : L2i lo hi w0 V Z i (m + 1) w' l' (zl ++ [x]) := by
  have hl := h.len
  have hs := h.turn.size
  have hne : ∀ j, j < 3 → j ≠ i → ∀ g, (V j).ownBlock = some g → l.ownBlock ≠ some g := fun j hj hji g hg hlg => by
    rcases h.blk with hk | ⟨k, hk, hk2⟩
    · rw [hk] at hlg
      exact hap i j hi3 hj (Ne.symm hji) g hlg hg
    · rw [hk] at hlg
      have := (hb j hj g hg).2
      injection hlg with e
      omega
  have hturn : Turn lo hi w0 w' := by
    refine ⟨ha.os.trans h.turn.os, ha.tape.trans h.turn.tape, ha.output.trans h.turn.output, Nat.le_trans hs ha.size, fun k hk ho2 => ?_⟩
    rw [ha.block k (by omega) (fun e => ?_)]
    · exact h.turn.block k hk ho2
    · rcases h.blk with hk3 | ⟨q, hq, hq2⟩
      · rw [hk3] at e
        have := hb i hi3 k e
        omega
      · rw [hq] at e
        injection e with e
        omega
  refine ⟨hturn, fun j hj hj3 => ?_, fun j hj3 => ?_, ho, by rw [List.length_append, hl]; rfl, ?_⟩
  · refine RW.other (h.row j hj hj3) (fun q hq => ha.block q ?_ (hne j hj3 (by omega) q hq))
    have := (hb j hj3 q hq).2
    omega
  · by_cases e : j = i
    · subst e
      refine (h.fs j hj3).same (fun g o n c hv q hq => ?_)
      rcases h.blk with hk | ⟨k, hk, hk2⟩
      · have hlg : l.ownBlock = some g := by rw [hk, hv]; rfl
        rcases h.own.cases with ⟨rfl, _⟩ | ⟨g', c', rfl, _, _⟩
        · cases hlg
        · have : g' = g := by simpa [Value.ownBlock] using hlg
          subst this
          have ho0 := hz j hj3 g' o n c hv
          subst ho0
          rw [Nat.zero_add]
          exact ha.cells g' _ _ rfl q (by omega)
      · have hg : (V j).ownBlock = some g := by rw [hv]; rfl
        have := (hb j hj3 g hg).2
        exact World.cell?_of_block (ha.block g (by omega) (fun e => by rw [hk] at e; injection e with e; omega))
    · refine (h.fs j hj3).same (fun g o n c hv q hq => ?_)
      have hg : (V j).ownBlock = some g := by rw [hv]; rfl
      refine World.cell?_of_block (ha.block g ?_ (hne j hj3 e g hg))
      have := (hb j hj3 g hg).2
      omega
  · rcases ha.fresh with e | ⟨k, hk, hk2⟩
    · rw [e]; exact h.blk
    · exact .inr ⟨k, hk, by omega⟩
end Go.Proofs.YtgcnfebifopdnaaDoor
