/-
  Three rows that are turned: what stands besides.
-/
import Derived.Test.YtgcnfebifopdnaaDoorRows
import Derived.Test.YtgcnfebifopdnaaDoorFK1
import Derived.OneCell
namespace Go.Proofs.YtgcnfebifopdnaaDoor
open Go.RowKit

/-- Behind it only blocks between lo and hi are turned, of those that were there. -/
structure Turn (lo hi : Nat) (w w' : World) : Prop where
  os : w'.os = w.os
  tape : w'.tape = w.tape
  output : w'.output = w.output
  size : w.heap.size ≤ w'.heap.size
  block : ∀ k, k < w.heap.size → (k < lo ∨ hi ≤ k) → w'.heap[k]? = w.heap[k]?
theorem Turn.refl (lo hi : Nat) (w : World) : Turn lo hi w w := ⟨rfl, rfl, rfl, Nat.le_refl _, fun _ _ _ => rfl⟩
theorem Turn.trans {lo hi : Nat} {a b c : World} (h : Turn lo hi a b) (k : Turn lo hi b c) : Turn lo hi a c :=
  ⟨k.os.trans h.os, k.tape.trans h.tape, k.output.trans h.output, Nat.le_trans h.size k.size, fun i hi ho => (k.block i (Nat.lt_of_lt_of_le hi h.size) ho).trans (h.block i hi ho)⟩
theorem Turn.of_below {lo hi : Nat} {w w' : World} (h : Below w.heap.size w w') : Turn lo hi w w' := ⟨h.os, h.tape, h.output, h.size, fun k hk _ => h.block k hk⟩
theorem Turn.below {lo hi B : Nat} {W w w' : World} (hb : Below B W w) (hB : B ≤ lo) (hl : lo ≤ w.heap.size) (h : Turn lo hi w w') : Below B W w' :=
  ⟨h.os.trans hb.os, h.tape.trans hb.tape, h.output.trans hb.output, Nat.le_trans hb.size h.size, fun k hk => (h.block k (by omega) (.inl (by omega))).trans (hb.block k hk)⟩
theorem Turn.set {lo hi : Nat} {w w' : World} (h : Turn lo hi w w') (p : Addr) (u : Value) (h1 : lo ≤ p.block) (h2 : p.block < hi) : Turn lo hi w (w'.setCell p u) :=
  ⟨h.os, h.tape, h.output, Nat.le_trans h.size (by simp), fun k hk ho => by rw [Below.heap_setCell _ _ _ _ (by omega)]; exact h.block k hk ho⟩

/-- The slice lies in none of these blocks. -/
def Out (lo hi : Nat) (v : Value) : Prop := ∀ g o n c, v = .slice (some ⟨g, o, none⟩) n c → g < lo ∨ hi ≤ g
theorem FS.same {w w' : World} {v : Value} {zs : List Int} (h : FS w v zs) (hc : ∀ g o n c, v = .slice (some ⟨g, o, none⟩) n c → ∀ j, j < zs.length → w'.cell? ⟨g, o + j, none⟩ = w.cell? ⟨g, o + j, none⟩) : FS w' v zs := by
  obtain ⟨p, c, hv, hcap, h⟩ := h
  refine ⟨p, c, hv, hcap, h.imp id ?_⟩
  rintro ⟨b, off, hp, h2⟩
  exact ⟨b, off, hp, fun j hj => (hc b off _ c (by rw [hv, hp]) j hj).trans (h2 j hj)⟩
theorem FS.turn {lo hi : Nat} {w w' : World} {v : Value} {zs : List Int} (h : FS w v zs) (ho : Out lo hi v) (ht : Turn lo hi w w') : FS w' v zs := by
  obtain ⟨p, c, hv, hcap, h⟩ := h
  refine ⟨p, c, hv, hcap, h.imp id ?_⟩
  rintro ⟨b, off, hp, h2⟩
  refine ⟨b, off, hp, fun j hj => ?_⟩
  have h3 := h2 j hj
  exact (World.cell?_of_block (ht.block b (World.block_lt_of_cell? w _ h3) (ho b off _ c (by rw [hv, hp])))).trans h3
theorem RW.other {B : Nat} {w w' : World} {v : Value} {zs : List Int} (h : RW B w v zs) (hs : ∀ k, v.ownBlock = some k → w'.heap[k]? = w.heap[k]?) : RW B w' v zs := by
  obtain ⟨h1, h2⟩ := h
  refine ⟨h1, h2.imp id ?_⟩
  rintro ⟨g, cap, cur, hv, hB, hg, r⟩
  exact ⟨g, cap, cur, hv, hB, (hs g (by rw [hv]; rfl)).trans hg, r⟩
/-- The row with one cell written. -/
theorem RW.set {B : Nat} {w : World} {g n c : Nat} {zs : List Int} (h : RW B w (.slice (some ⟨g, 0, none⟩) n c) zs) (k : Nat) (hk : k < zs.length) (x : Int) : RW B (w.setCell ⟨g, k, none⟩ (.int .u16 x)) (.slice (some ⟨g, 0, none⟩) n c) (zs.set k x) := by
  rcases h.2 with ⟨hv, _⟩ | ⟨g', cap, cur, hv, hB, hg, hn, hm, hs, ht⟩
  · cases hv
  · cases hv
    refine ⟨by simp, .inr ⟨g, c, cur.setIfInBounds k (.int .u16 x), by simp, hB, ?_, by simpa using hn, hm, by simp [hs], ?_⟩⟩
    · rw [Sort.setCell_eq]
      simp [Sort.mapBlock, Array.getElem?_modify, hg, Sort.onCells]
    · rw [Nat.mul_one] at ht ⊢
      rw [List.length_set, List.map_set, Array.toList_setIfInBounds, ← ht]
      exact List.take_set
theorem RW.at {B : Nat} {w : World} {g n c : Nat} {zs : List Int} (h : RW B w (.slice (some ⟨g, 0, none⟩) n c) zs) (k : Nat) (hk : k < zs.length) : w.cell? ⟨g, k, none⟩ = some (.int .u16 zs[k]) ∧ w.frozen? ⟨g, k, none⟩ = false := by
  obtain ⟨p, c', hv, _, h2⟩ := h.fn
  rcases h2 with h2 | ⟨b, off, hp, _, hH⟩
  · omega
  · have hf := h.fs
    have hHk := hH k (by simpa using hk)
    rcases h.2 with ⟨hv2, _⟩ | ⟨g', cap, cur, hv2, hB, hg, hn, hm, hs, ht⟩
    · cases hv2
    · cases hv2
      cases hp
      cases hv
      rw [Nat.zero_add] at hHk
      refine ⟨?_, hHk.2⟩
      rw [hHk.1]
      simp [hk]

/-- What an append of one flag does. -/
structure App (w w' : World) (v v' : Value) (n : Nat) : Prop where
  os : w'.os = w.os
  tape : w'.tape = w.tape
  output : w'.output = w.output
  size : w.heap.size ≤ w'.heap.size
  block : ∀ k, k < w.heap.size → v.ownBlock ≠ some k → w'.heap[k]? = w.heap[k]?
  fresh : v'.ownBlock = v.ownBlock ∨ ∃ k, v'.ownBlock = some k ∧ w.heap.size ≤ k
  cells : ∀ g m c, v = .slice (some ⟨g, 0, none⟩) m c → ∀ j, j < n → w'.cell? ⟨g, j, none⟩ = w.cell? ⟨g, j, none⟩

set_option maxRecDepth 100000 in
theorem run_app1 (B : Nat) (w : World) (v : Value) (zs : List Int) (x : Int) (h : RW B w v zs) (hB : B ≤ w.heap.size) (hsz : zs.length + 1 ≤ 16777216) :
    ∃ v' w', (Builtin.append_ #[22, 22] 22 #[v, .slice (some ⟨w.heap.size, 0, none⟩) 1 1]).run Tryd.prog (w.alloc (.cells #[.int .u16 x] 34)) = .ok v' w' ∧ RW B w' v' (zs ++ [x]) ∧ App w w' v v' zs.length := by
  obtain ⟨i0, hi, hz0, hz1, hz2⟩ := info_parts flag_info
  have h1 : (w.alloc (.cells #[.int .u16 x] 34)).ownsRow B 34 1 v zs.length (zs.map (Value.int .u16)) := h.alloc _
  have hnews : ∀ j u, [Value.int .u16 x][j]? = some u → (w.alloc (.cells #[.int .u16 x] 34)).cell? ((⟨w.heap.size, 0, none⟩ : Addr).add j) = some u := by
    intro j u hj
    match j, hj with
    | 0, hj => simp at hj; subst hj; simp [Addr.add]
  have hbl : ∀ k, k < w.heap.size → (w.alloc (.cells #[.int .u16 x] 34)).heap[k]? = w.heap[k]? := fun k hk => Below.heap_alloc w _ k hk
  obtain ⟨v', w', hrun, hown, hg, -, hat⟩ := run_append_own_at (P := Tryd.prog) (w := w.alloc (.cells #[.int .u16 x] 34)) (ty := 22) B 22 34 i0 (.int .u16 0) 1 2 Tryd.underlying22 hi hz0 hz1 hz2 rfl (by decide) v zs.length _ h1 ⟨w.heap.size, 0, none⟩ 1 1 [.int .u16 x] rfl hnews
    (by intro u hu; simp at hu; subst hu; rfl) (by unfold maxLen; omega) (by omega) (by simp; omega)
  refine ⟨v', w', hrun, by simpa [RW] using hown, ⟨hg.os, hg.tape, hg.output, Nat.le_trans (by simp) hg.size, fun k hk hne => (hg.block k (by simp; omega) (fun e => hne e.symm)).trans (hbl k hk), ?_, ?_⟩⟩
  · rcases hat with hat | hat
    · exact .inl hat
    · exact .inr ⟨_, hat, by simp⟩
  · rintro g m c rfl j hj
    have hvn : m = zs.length := by
      obtain ⟨p, c', hv, _⟩ := h.fn
      cases hv; rfl
    subst hvn
    have hold := (RW.at h j hj).1
    rw [hold]
    rcases hat with hat | hat
    · have hv' : RW B w' v' (zs ++ [x]) := by simpa [RW] using hown
      rcases hv'.cases with ⟨rfl, _⟩ | ⟨g', c', rfl, _, _⟩
      · simp [Value.ownBlock] at hat
      · have : g' = g := by simpa [Value.ownBlock] using hat
        subst this
        rw [(RW.at hv' j (by simp; omega)).1, List.getElem_append_left hj]
    · have hcap : c < zs.length + 1 := by
        rcases Nat.lt_or_ge c (zs.length + 1) with h' | h'
        · exact h'
        · exfalso
          obtain ⟨w2, hrun2, _⟩ := run_append_fits (P := Tryd.prog) (w := w.alloc (.cells #[.int .u16 x] 34)) (ty := 22) B 22 34 i0 1 Tryd.underlying22 hi hz1 g zs.length c _ h1 ⟨w.heap.size, 0, none⟩ 1 1 [.int .u16 x] rfl hnews (by intro u hu; simp at hu; subst hu; rfl) h'
          rw [hrun] at hrun2
          injection hrun2 with e1 e2
          subst e1
          rcases h.cases with ⟨hv, _⟩ | ⟨g2, c2, hv, _, hlt⟩
          · cases hv
          · cases hv
            simp [Value.ownBlock] at hat
            omega
      have hgrow := run_append_grow (P := Tryd.prog) (w.alloc (.cells #[.int .u16 x] 34)) 22 22 34 i0 (.int .u16 0) Tryd.underlying22 hi hz0 ⟨g, 0, none⟩ zs.length c (zs.map (Value.int .u16)) (by rw [hz1]; simp) (h1.cells (g := g) rfl) ⟨w.heap.size, 0, none⟩ 1 1 [.int .u16 x] (by rw [hz1]; rfl) hnews hcap (by omega) (growslice_fits (by omega) (by rw [hz2]; omega))
      rw [hrun] at hgrow
      injection hgrow with e1 e2
      subst e2
      have hlt := World.block_lt_of_cell? w _ hold
      have hlt2 : g < w.heap.size := hlt
      rw [World.cell?_of_block (w := w) (a := ⟨g, j, none⟩) ?_, hold]
      show ((w.alloc (.cells #[.int .u16 x] 34)).drew.alloc _).heap[g]? = w.heap[g]?
      rw [Below.heap_alloc _ _ g (by show g < (w.alloc _).heap.size; simp; omega)]
      exact hbl g hlt2
end Go.Proofs.YtgcnfebifopdnaaDoor
