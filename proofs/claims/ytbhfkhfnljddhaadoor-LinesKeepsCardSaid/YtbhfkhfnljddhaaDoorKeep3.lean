/-
  Marks stored into rows, and rows grown, are seen nowhere else.
-/
import Derived.Test.YtbhfkhfnljddhaaDoorRows
import Derived.Test.YtbhfkhfnljddhaaDoorKeep2
import Derived.ArgAppend
namespace Go.Proofs.YtbhfkhfnljddhaaDoor
open Go.RowKit

theorem own_at {w w' : World} {B e size n : Nat} {v : Value} {xs : List Value} (h : w.ownsRow B e size v n xs) (hs : ∀ k, B ≤ k → k < w.heap.size → w'.heap[k]? = w.heap[k]?) : w'.ownsRow B e size v n xs := by
  refine ⟨h.1, ?_⟩
  rcases h.2 with hn | ⟨g, cap, cur, hv, hg, hb, r⟩
  · exact .inl hn
  · exact .inr ⟨g, cap, cur, hv, hg, (hs g hg (block_lt hb)).trans hb, r⟩
theorem RdS.at_ {n₀ : Nat} {W W' : World} {v : Value} {ss : List ByteArray} (h : RdS n₀ W v ss) (hs : ∀ k, v.ownBlock = some k → W'.heap[k]? = W.heap[k]?) : RdS n₀ W' v ss := by
  obtain ⟨g, cap, cur, rfl, hg, hb, r⟩ := h
  exact ⟨g, cap, cur, rfl, hg, (hs g rfl).trans hb, r⟩
theorem rowsS_at {n₀ : Nat} {W W' : World} {rs : List RowIn} (h : rowsS n₀ W rs) (hs : ∀ k, n₀ ≤ k → k < W.heap.size → W'.heap[k]? = W.heap[k]?) : rowsS n₀ W' rs := by
  refine ⟨fun r hr => (h.1 r hr).at_ fun k hk => ?_, h.2⟩
  obtain ⟨g, h1, h2, h3⟩ := (h.1 r hr).lt
  rw [h1] at hk; cases hk
  exact hs _ h2 h3

/-- Between the stores: a's rows rs' differ from rs in their fields alone; all else lies as it lay. -/
structure Kp (w1 W0 wr : World) (nb : Nat) (va : Value) (rs rs' : List RowIn) : Prop where
  low : Below w1.heap.size w1 wr
  high : ∀ k, nb ≤ k → k < W0.heap.size → wr.heap[k]? = W0.heap[k]?
  size : W0.heap.size ≤ wr.heap.size
  nbs : nb ≤ W0.heap.size
  spine : wr.ownsRow w1.heap.size 57 2 va rs.length (rowCells rs)
  rows : rowsS w1.heap.size wr rs'
  len : rs'.length = rs.length
  same : ∀ k (h : k < rs'.length) (h' : k < rs.length), rs'[k].2.1 = rs[k].2.1 ∧ rs'[k].2.2.length = rs[k].2.2.length
  top : ∀ r ∈ rs', ∀ g, r.2.1.ownBlock = some g → g < nb
theorem Kp.grown {w1 W0 wr w' : World} {nb : Nat} {va : Value} {rs rs' rs'' : List RowIn} {row : Option Nat} (h : Kp w1 W0 wr nb va rs rs') (hg : wr.grownBy w' row)
    (hrow : ∀ g, row = some g → w1.heap.size ≤ g ∧ (g < nb ∨ W0.heap.size ≤ g) ∧ ∃ cur fr, wr.heap[g]? = some (.cells cur 9 fr))
    (hrows : rowsS w1.heap.size w' rs'') (hlen : rs''.length = rs.length) (hsame : ∀ k (h : k < rs''.length) (h' : k < rs.length), rs''[k].2.1 = rs[k].2.1 ∧ rs''[k].2.2.length = rs[k].2.2.length)
    (htop : ∀ r ∈ rs'', ∀ g, r.2.1.ownBlock = some g → g < nb) : Kp w1 W0 w' nb va rs rs'' := by
  refine ⟨h.low.grown hg h.low.size (fun k e => (hrow k e).1), fun k h1 h2 => ?_, Nat.le_trans h.size hg.size, h.nbs, ?_, hrows, hlen, hsame, htop⟩
  · refine (hg.block k (Nat.lt_of_lt_of_le h2 h.size) fun e => ?_).trans (h.high k h1 h2)
    have := (hrow k e.symm).2.1; omega
  · refine h.spine.kept hg ?_
    rcases h.spine.2 with ⟨rfl, _⟩ | ⟨g, cap, cur, rfl, _, hgb, _⟩
    · exact .inl rfl
    · refine .inr fun e => ?_
      obtain ⟨_, _, cur', fr, hb⟩ := hrow g e.symm
      rw [hgb] at hb
      injection hb with hb; injection hb with _ hb; exact absurd hb (by decide)

theorem pair_ne {rs : List RowIn} (h : rs.Pairwise (fun r q => r.2.1.ownBlock ≠ q.2.1.ownBlock)) {i k : Nat} (hi : i < rs.length) (hk : k < rs.length) (hne : i ≠ k) : rs[i].2.1.ownBlock ≠ rs[k].2.1.ownBlock := by
  rcases Nat.lt_or_gt_of_ne hne with h1 | h1
  · exact (List.pairwise_iff_getElem.1 h) i k hi hk h1
  · exact fun e => (List.pairwise_iff_getElem.1 h) k i hk hi h1 e.symm
/-- Another text in one field of one row. -/
def rowPut (rs : List RowIn) (k : Nat) (ss : List ByteArray) : List RowIn := rs.modify k (fun r => (r.1, r.2.1, ss))
theorem rowPut_len (rs : List RowIn) (k : Nat) (ss : List ByteArray) : (rowPut rs k ss).length = rs.length := by simp [rowPut]
theorem rowPut_at (rs : List RowIn) (k : Nat) (ss : List ByteArray) (i : Nat) (h : i < (rowPut rs k ss).length) : (rowPut rs k ss)[i] = if k = i then (rs[i]'(by rw [rowPut_len] at h; exact h)).1 |> fun a => (a, (rs[i]'(by rw [rowPut_len] at h; exact h)).2.1, ss) else rs[i]'(by rw [rowPut_len] at h; exact h) := by
  simp [rowPut, List.getElem_modify]
theorem rowsS_put {n₀ : Nat} {W W' : World} {rs : List RowIn} (h : rowsS n₀ W rs) {k : Nat} (hk : k < rs.length) {ss : List ByteArray} {g : Nat} (hg : rs[k].2.1.ownBlock = some g) (hW : ∀ i, i ≠ g → i < W.heap.size → W'.heap[i]? = W.heap[i]?) (hr : RdS n₀ W' rs[k].2.1 ss) : rowsS n₀ W' (rowPut rs k ss) := by
  constructor
  · intro r hm
    obtain ⟨i, hi, rfl⟩ := List.getElem_of_mem hm
    have hi' : i < rs.length := by rw [rowPut_len] at hi; exact hi
    rw [rowPut_at]
    split
    · rename_i e; subst e; exact hr
    · rename_i e
      refine (h.1 _ (List.getElem_mem hi')).at_ fun q hq => hW q ?_ ?_
      · rintro rfl
        exact pair_ne h.2 hi' hk (fun e' => e e'.symm) (hq.trans hg.symm)
      · obtain ⟨g', h1, _, h3⟩ := (h.1 _ (List.getElem_mem hi')).lt
        rw [h1] at hq; cases hq; exact h3
  · rw [List.pairwise_iff_getElem]
    intro i j hi hj hij
    have hi' : i < rs.length := by rw [rowPut_len] at hi; exact hi
    have hj' : j < rs.length := by rw [rowPut_len] at hj; exact hj
    have := pair_ne h.2 hi' hj' (by omega)
    rw [rowPut_at, rowPut_at]
    split <;> split <;> exact this

theorem RdS.put {n₀ g n cap : Nat} {W : World} {ss : List ByteArray} (h : RdS n₀ W (.slice (some ⟨g, 0, none⟩) n cap) ss) (j : Nat) (x : ByteArray) : RdS n₀ (W.setCell ⟨g, j, none⟩ (.string x)) (.slice (some ⟨g, 0, none⟩) n cap) (ss.set j x) := by
  obtain ⟨g', cap', cur, hv, hg, hb, hc, hm, hs, ht⟩ := h
  cases hv
  refine ⟨_, _, cur.setIfInBounds j (.string x), by rw [List.length_set], hg, heap_setCell_same W _ j cur _ _ hb, by rw [List.length_set]; exact hc, hm, by rw [List.length_set, Array.size_setIfInBounds]; exact hs, ?_⟩
  rw [Array.toList_setIfInBounds, List.length_set, List.take_set, ht]
  simp [strV, List.map_set]
theorem RdS.cells {n₀ g n cap : Nat} {W : World} {ss : List ByteArray} (h : RdS n₀ W (.slice (some ⟨g, 0, none⟩) n cap) ss) : n = ss.length ∧ n ≤ cap ∧ n₀ ≤ g ∧ g < W.heap.size ∧ (∀ j (hj : j < ss.length), W.cell? ⟨g, j, none⟩ = some (.string ss[j])) ∧ (∀ j, W.frozen? ⟨g, j, none⟩ = false) ∧ (∃ cur fr, W.heap[g]? = some (.cells cur 9 fr)) := by
  have h0 := h.rdT
  obtain ⟨g', cap', cur, hv, hg, hb, hc, hm, hs, ht⟩ := h
  cases hv
  refine ⟨rfl, hc, hg, block_lt hb, fun j hj => ?_, fun j => frozen_of_row W _ j cur _ hb, _, _, hb⟩
  obtain ⟨_, A, cap2, e, _, h2⟩ := h0
  cases e
  rcases h2 with h2 | ⟨g2, cur2, fr2, e2, hb2, h3⟩
  · omega
  · cases e2
    rw [cell_of_row W _ j cur2 _ fr2 hb2]
    exact h3 j _ (strV_get ss j hj)

/-- A text stored into a field of a's row k. -/
theorem Kp.mark {w1 W0 wr : World} {nb : Nat} {va : Value} {rs rs' : List RowIn} (h : Kp w1 W0 wr nb va rs rs') {k : Nat} (hk : k < rs'.length) {g n cap : Nat} (hv : rs'[k].2.1 = .slice (some ⟨g, 0, none⟩) n cap) (j : Nat) (x : ByteArray) :
    Kp w1 W0 (wr.setCell ⟨g, j, none⟩ (.string x)) nb va rs (rowPut rs' k (rs'[k].2.2.set j x)) := by
  have hr := h.rows.1 _ (List.getElem_mem hk)
  rw [hv] at hr
  obtain ⟨_, _, h1, _, _, _, hb⟩ := hr.cells
  have hgr : wr.grownBy (wr.setCell ⟨g, j, none⟩ (.string x)) (some g) := ⟨rfl, rfl, rfl, by simp, fun i _ hi => _root_.Go.heap_setCell_other wr ⟨g, j, none⟩ i _ (fun e => hi (congrArg some e))⟩
  refine h.grown hgr (fun g' e => by cases e; exact ⟨h1, .inl (h.top _ (List.getElem_mem hk) g (by rw [hv]; rfl)), hb⟩) ?_ (by rw [rowPut_len]; exact h.len) ?_ ?_
  · refine rowsS_put h.rows hk (g := g) (by rw [hv]; rfl) (fun i hi _ => _root_.Go.heap_setCell_other wr ⟨g, j, none⟩ i _ (fun e => hi e)) ?_
    rw [hv]; exact hr.put j x
  · intro i hi hi'
    have hi2 : i < rs'.length := by rw [rowPut_len] at hi; exact hi
    have := h.same i hi2 hi'
    rw [rowPut_at]
    split
    · rename_i e; subst e
      exact ⟨this.1, by rw [List.length_set]; exact this.2⟩
    · exact this
  · intro r hm
    obtain ⟨i, hi, rfl⟩ := List.getElem_of_mem hm
    have hi2 : i < rs'.length := by rw [rowPut_len] at hi; exact hi
    rw [rowPut_at]
    have := h.top _ (List.getElem_mem hi2)
    split <;> exact this
/-- Nothing but new memory. -/
theorem Kp.keep {w1 W0 wr w' : World} {nb : Nat} {va : Value} {rs rs' : List RowIn} (h : Kp w1 W0 wr nb va rs rs') (hg : wr.grownBy w' none) : Kp w1 W0 w' nb va rs rs' :=
  h.grown hg (fun _ e => by cases e) (h.rows.kept hg (fun _ e => by cases e)) h.len h.same h.top

def grown_ : List ByteArray := [⟨#[103, 114, 111, 119, 110]⟩]
def grownN (j : Nat) : List ByteArray := List.replicate j ⟨#[103, 114, 111, 119, 110]⟩
theorem grownN_succ (j : Nat) : grownN (j + 1) = grownN j ++ [⟨#[103, 114, 111, 119, 110]⟩] := List.replicate_succ'
/-- The list that is being grown: it lies in row k's own memory or in memory of its own; so far n + j texts. -/
def Growing (n₀ top : Nat) (wr : World) (g n cap : Nat) (lv : Value) (ss : List ByteArray) (j : Nat) : Prop :=
  ∃ gl cl, lv = .slice (some ⟨gl, 0, none⟩) (n + j) cl ∧ n₀ ≤ gl ∧ ((gl = g ∧ cl = cap) ∨ top ≤ gl) ∧ ((cl < n + j + 1 ∧ ∀ p u, (strV (ss ++ grownN j))[p]? = some u → wr.cell? ⟨gl, p, none⟩ = some u) ∨ (n + j + 1 ≤ cl ∧ wr.ownsRow n₀ 9 1 lv (n + j) (strV (ss ++ grownN j))))
theorem Growing.of_own {n₀ top g n cap gl cl j : Nat} {wr : World} {ss : List ByteArray} (h : wr.ownsRow n₀ 9 1 (.slice (some ⟨gl, 0, none⟩) (n + j) cl) (n + j) (strV (ss ++ grownN j))) (hgl : (gl = g ∧ cl = cap) ∨ top ≤ gl) : Growing n₀ top wr g n cap (.slice (some ⟨gl, 0, none⟩) (n + j) cl) ss j := by
  have h0 : n₀ ≤ gl := (h.lt gl rfl).1
  refine ⟨gl, cl, rfl, h0, hgl, ?_⟩
  rcases Nat.lt_or_ge cl (n + j + 1) with hc | hc
  · refine .inl ⟨hc, fun p u hp => ?_⟩
    have := h.cells (g := gl) rfl p u hp
    rw [row_addr] at this; exact this
  · exact .inr ⟨hc, h⟩
theorem Growing.start {n₀ top g n cap : Nat} {wr : World} {ss : List ByteArray} (h : RdS n₀ wr (.slice (some ⟨g, 0, none⟩) n cap) ss) : Growing n₀ top wr g n cap (.slice (some ⟨g, 0, none⟩) n cap) ss 0 := by
  have hc := h.cells
  obtain ⟨g', cap', cur, hv, hg, hb, hc1, hm, hs, ht⟩ := h
  cases hv
  rcases hs with hs | hs
  · refine Growing.of_own (n := ss.length) (j := 0) ⟨by simp [strV, grownN], .inr ⟨_, cap, cur, rfl, hg, hb, hc1, hm, by omega, ?_⟩⟩ (.inl ⟨rfl, rfl⟩)
    rw [Nat.mul_one, Nat.add_zero, ht]; simp [grownN]
  · refine ⟨_, _, rfl, hg, .inl ⟨rfl, rfl⟩, .inl ⟨by omega, fun p u hp => ?_⟩⟩
    rw [show ss ++ grownN 0 = ss by simp [grownN]] at hp
    have hl : p < ss.length := by
      rcases Nat.lt_or_ge p ss.length with h | h
      · exact h
      · rw [List.getElem?_eq_none (by simpa [strV] using h)] at hp; cases hp
    rw [hc.2.2.2.2.1 p hl]
    rw [strV_get ss p hl] at hp; exact hp
/-- An append within the room. -/
theorem Kp.fits {w1 W0 wr w' : World} {nb : Nat} {va : Value} {rs rs' : List RowIn} (h : Kp w1 W0 wr nb va rs rs') {k : Nat} (hk : k < rs'.length) {g n cap : Nat} (hv : rs'[k].2.1 = .slice (some ⟨g, 0, none⟩) n cap) {gl cl j m : Nat} {more : List ByteArray}
    (hgl : (gl = g ∧ cl = cap) ∨ W0.heap.size ≤ gl) (hn1 : w1.heap.size ≤ gl) (hold : wr.ownsRow w1.heap.size 9 1 (.slice (some ⟨gl, 0, none⟩) (n + j) cl) (n + j) (strV (rs'[k].2.2 ++ more)))
    (hown : w'.ownsRow w1.heap.size 9 1 (.slice (some ⟨gl, 0, none⟩) m cl) m (strV (rs'[k].2.2 ++ more) ++ [.string ⟨#[103, 114, 111, 119, 110]⟩])) (hg : wr.grownBy w' (some gl)) : Kp w1 W0 w' nb va rs rs' := by
  have hr := h.rows.1 _ (List.getElem_mem hk)
  rw [hv] at hr
  have hc := hr.cells
  have hbl : ∃ cur fr, wr.heap[gl]? = some (.cells cur 9 fr) := by
    rcases hold.2 with ⟨e, _⟩ | ⟨g', cap', cur, e, _, hb, _⟩
    · cases e
    · cases e; exact ⟨_, _, hb⟩
  refine h.grown hg (fun g' e => by cases e; exact ⟨hn1, hgl.imp (fun e => by rw [e.1]; exact h.top _ (List.getElem_mem hk) g (by rw [hv]; rfl)) id, hbl⟩) ?_ h.len h.same h.top
  rcases hgl with ⟨rfl, rfl⟩ | htop
  · skip
    have hk2 : rowPut rs' k rs'[k].2.2 = rs' := by
      refine List.ext_getElem (rowPut_len _ _ _) fun i hi _ => ?_
      rw [rowPut_at]; split
      · rename_i e; subst e; rfl
      · rfl
    rw [← hk2]
    refine rowsS_put h.rows hk (g := gl) (by rw [hv]; rfl) (fun i hi hlt => hg.block i hlt (fun e => hi (by cases e; rfl))) ?_
    rw [hv, hc.1]
    rcases hown.2 with ⟨e, _⟩ | ⟨g', cap', cur, e, h0, hb, h2, h3, h4, h5⟩
    · cases e
    · cases e
      refine ⟨_, _, cur, rfl, h0, hb, by have := hc.2.1; have := hc.1; omega, h3, .inl (by omega), ?_⟩
      have := congrArg (List.take rs'[k].2.2.length) h5
      have hm : rs'[k].2.2.length ≤ m := by
        have := hown.1; simp [strV] at this; omega
      rw [List.take_take, Nat.mul_one, show min rs'[k].2.2.length m = rs'[k].2.2.length by omega] at this
      rw [this, List.take_append_of_le_length (by simp [strV]), strV, List.map_append, List.take_left' (by simp)]
      rfl
  · refine ⟨fun r hr => (h.rows.1 r hr).at_ fun q hq => ?_, h.rows.2⟩
    obtain ⟨g1, e1, _, hlt⟩ := (h.rows.1 r hr).lt
    rw [e1] at hq; cases hq
    refine hg.block _ hlt (fun e => ?_)
    cases e
    have := h.top r hr _ e1
    have := h.nbs
    omega
theorem Kp.start {w1 w2 w6 : World} {va : Value} {rs : List RowIn} (oa : w2.ownsRow w1.heap.size 57 2 va rs.length (rowCells rs)) (ra : rowsS w1.heap.size w2 rs) (h12 : Below w1.heap.size w1 w2) (h26 : Below w2.heap.size w2 w6) : Kp w1 w6 w6 w2.heap.size va rs rs :=
  ⟨h12.trans (h26.mono h12.size), fun _ _ _ => rfl, Nat.le_refl _, h26.size, own_below oa h26, ra.keep h26, rfl, fun _ _ _ => ⟨rfl, rfl⟩, fun r hr g e => by
    obtain ⟨g', h1, _, h2⟩ := (ra.1 r hr).lt
    rw [h1] at e; cases e; exact h2⟩
theorem Kp.spineAt {w1 W0 wr : World} {nb n ca : Nat} {Aa : Option Addr} {rs rs' : List RowIn} (h : Kp w1 W0 wr nb (.slice Aa n ca) rs rs') {k : Nat} (hk : k < rs'.length) (hk' : k < rs.length) :
    ∃ ga, Aa = some ⟨ga, 0, none⟩ ∧ n ≤ ca ∧ n = rs.length ∧ wr.cell? ⟨ga, k * 2, none⟩ = some (.int .i64 rs[k].1) ∧ wr.cell? ⟨ga, k * 2 + 1, none⟩ = some rs'[k].2.1 := by
  obtain ⟨ga, cap, e, hc⟩ := own_some h.spine (by omega)
  injection e with e1 e2 e3
  subst e1 e2 e3
  obtain ⟨a, b⟩ := rowCells_at rs k hk'
  rw [Nat.mul_comm] at a b
  have a' := h.spine.cells (g := ga) rfl _ _ a
  have b' := h.spine.cells (g := ga) rfl _ _ b
  rw [row_addr] at a' b'
  exact ⟨ga, rfl, hc, rfl, a', by rw [(h.same k hk hk').1]; exact b'⟩
theorem Kp.rowAt {w1 W0 wr : World} {nb : Nat} {va : Value} {rs rs' : List RowIn} (h : Kp w1 W0 wr nb va rs rs') {k : Nat} (hk : k < rs'.length) :
    ∃ g n cap, rs'[k].2.1 = .slice (some ⟨g, 0, none⟩) n cap ∧ n = rs'[k].2.2.length ∧ n ≤ cap ∧ cap ≤ maxLen := by
  obtain ⟨g, cap, cur, hv, hg, hb, hc, hm, _⟩ := h.rows.1 _ (List.getElem_mem hk)
  exact ⟨g, _, cap, hv, rfl, hc, hm⟩
/-- Row k as it lies, out of what a's rows were. -/
theorem Kp.rowIs {w1 W0 wr : World} {nb n cap g : Nat} {va : Value} {rs rs' : List RowIn} (h : Kp w1 W0 wr nb va rs rs') {k : Nat} (hk : k < rs'.length) (hn : ∃ h : k < rs.length, rs[k].2.2.length = n ∧ rs[k].2.1 = .slice (some ⟨g, 0, none⟩) n cap) :
    rs'[k].2.1 = .slice (some ⟨g, 0, none⟩) n cap ∧ n = rs'[k].2.2.length ∧ (∀ j (hj : j < rs'[k].2.2.length), wr.cell? ⟨g, j, none⟩ = some (.string rs'[k].2.2[j])) ∧ (∀ j, wr.frozen? ⟨g, j, none⟩ = false) := by
  obtain ⟨hk', h1, h2⟩ := hn
  obtain ⟨h3, h4⟩ := h.same k hk hk'
  rw [h2] at h3
  have hr := h.rows.1 _ (List.getElem_mem hk)
  rw [h3] at hr
  obtain ⟨_, _, _, _, c1, c2, _⟩ := hr.cells
  exact ⟨h3, by omega, c1, c2⟩
abbrev markS : ByteArray := ⟨#[109, 97, 114, 107]⟩
/-- The first k rows hold nothing but marks. -/
def Marked (rs : List RowIn) (k : Nat) : Prop := ∀ q (h : q < rs.length), q < k → ∀ f ∈ rs[q].2.2, f = markS
def MarkedTo (rs : List RowIn) (k q : Nat) : Prop := ∀ (h : k < rs.length) p (hp : p < rs[k].2.2.length), p < q → rs[k].2.2[p] = markS
theorem Marked.put {rs : List RowIn} {k : Nat} (h : Marked rs k) (ss : List ByteArray) : Marked (rowPut rs k ss) k := by
  intro q hq hlt f hf
  rw [rowPut_at] at hf
  have hne : ¬ k = q := by omega
  rw [if_neg hne] at hf
  exact h q _ hlt f hf
theorem MarkedTo.put {rs : List RowIn} {k q : Nat} (h : MarkedTo rs k q) (hk : k < rs.length) : MarkedTo (rowPut rs k (rs[k].2.2.set q markS)) k (q + 1) := by
  intro hk' p hp hlt
  have e : (rowPut rs k (rs[k].2.2.set q markS))[k].2.2 = rs[k].2.2.set q markS := by rw [rowPut_at, if_pos rfl]
  simp only [e] at hp ⊢
  rw [List.length_set] at hp
  rw [List.getElem_set]
  split
  · rfl
  · exact h hk p hp (by omega)
theorem Marked.next {rs : List RowIn} {k q : Nat} (h : Marked rs k) (h2 : MarkedTo rs k q) (hq : ∀ (hk : k < rs.length), rs[k].2.2.length ≤ q) : Marked rs (k + 1) := by
  intro i hi hlt f hf
  rcases Nat.lt_or_ge i k with g | g
  · exact h i hi g f hf
  · obtain rfl : i = k := by omega
    obtain ⟨p, hp, rfl⟩ := List.getElem_of_mem hf
    exact h2 hi p hp (by have := hq hi; omega)
theorem own_mono {w : World} {B B' e size n : Nat} {v : Value} {xs : List Value} (h : w.ownsRow B e size v n xs) (hb : B' ≤ B) : w.ownsRow B' e size v n xs := by
  refine ⟨h.1, ?_⟩
  rcases h.2 with hn | ⟨g, cap, cur, hv, hg, r⟩
  · exact .inl hn
  · exact .inr ⟨g, cap, cur, hv, by omega, r⟩
theorem strV_grown (ss : List ByteArray) (q : Nat) : strV (ss ++ grownN q) ++ [.string ⟨#[103, 114, 111, 119, 110]⟩] = strV (ss ++ grownN (q + 1)) := by
  rw [grownN_succ]; simp [strV]
theorem len_grown (ss : List ByteArray) (q n : Nat) (h : n = ss.length) : (strV (ss ++ grownN q)).length = (n + q) * 1 := by simp [strV, grownN, h]
/-- An append that moves to new memory. -/
theorem Kp.grew {w1 W0 wr w' : World} {nb : Nat} {va : Value} {rs rs' : List RowIn} (h : Kp w1 W0 wr nb va rs rs') {o : Obj} {g n cap q : Nat} {v' : Value} {ss : List ByteArray}
    (hown : w'.ownsRow (wr.alloc o).heap.size 9 1 v' (n + q + 1) (strV (ss ++ grownN q) ++ [.string ⟨#[103, 114, 111, 119, 110]⟩])) (hg : (wr.alloc o).grownBy w' none) :
    Kp w1 W0 w' nb va rs rs' ∧ Growing w1.heap.size W0.heap.size w' g n cap v' ss (q + 1) := by
  have hs := h.size
  have hl := h.low.size
  rw [World.size_alloc] at hown
  refine ⟨h.keep (grown_of_alloc hg), ?_⟩
  rw [strV_grown] at hown
  obtain ⟨gl, cl, rfl, _⟩ := own_some hown (by omega)
  have := (hown.lt gl rfl).1
  exact Growing.of_own (j := q + 1) (own_mono hown (by omega)) (.inr (by omega))
/-- An append within the room. -/
theorem Kp.fitted {w1 W0 wr w' : World} {nb : Nat} {va : Value} {rs rs' : List RowIn} (h : Kp w1 W0 wr nb va rs rs') {k : Nat} (hk : k < rs'.length) {o : Obj} {g n cap gl cl q : Nat} (hv : rs'[k].2.1 = .slice (some ⟨g, 0, none⟩) n cap)
    (hgl : (gl = g ∧ cl = cap) ∨ W0.heap.size ≤ gl) (hn1 : w1.heap.size ≤ gl) (hold : wr.ownsRow w1.heap.size 9 1 (.slice (some ⟨gl, 0, none⟩) (n + q) cl) (n + q) (strV (rs'[k].2.2 ++ grownN q)))
    (hown : w'.ownsRow w1.heap.size 9 1 (.slice (some ⟨gl, 0, none⟩) (n + q + 1) cl) (n + q + 1) (strV (rs'[k].2.2 ++ grownN q) ++ [.string ⟨#[103, 114, 111, 119, 110]⟩])) (hg : (wr.alloc o).grownBy w' (some gl)) :
    Kp w1 W0 w' nb va rs rs' ∧ Growing w1.heap.size W0.heap.size w' g n cap (.slice (some ⟨gl, 0, none⟩) (n + q + 1) cl) rs'[k].2.2 (q + 1) := by
  refine ⟨h.fits hk hv hgl hn1 hold hown (grown_of_alloc hg), ?_⟩
  rw [strV_grown] at hown
  exact Growing.of_own (j := q + 1) hown hgl
theorem want_at {w1 wr : World} {B cw k : Nat} {Aw : Option Addr} {rs rsw : List RowIn} (ow : w1.ownsRow B 58 2 (.slice Aw rsw.length cw) rsw.length (rowCells rsw)) (hrd : rowsRead w1 rsw) (hb : Below w1.heap.size w1 wr) (he : rowAbs rs = rowAbs rsw) (hk : k < rs.length) :
    ∃ gw Ax cx, Aw = some ⟨gw, 0, none⟩ ∧ rsw.length ≤ cw ∧ k < rsw.length ∧ wr.cell? ⟨gw, k * 2, none⟩ = some (.int .i64 rs[k].1) ∧ wr.cell? ⟨gw, k * 2 + 1, none⟩ = some (.slice Ax rs[k].2.2.length cx) := by
  have hlen : rs.length = rsw.length := by have := congrArg List.length he; simpa [rowAbs] using this
  have hk' : k < rsw.length := by omega
  have h := own_below ow hb
  obtain ⟨ga, cap, e, hc⟩ := own_some h (by omega)
  injection e with e1 e2 e3
  subst e1 e3
  obtain ⟨a, b⟩ := rowCells_at rsw k hk'
  rw [Nat.mul_comm] at a b
  have a' := h.cells (g := ga) rfl _ _ a
  have b' := h.cells (g := ga) rfl _ _ b
  rw [row_addr] at a' b'
  obtain ⟨_, Ax, cx, hx, _⟩ := hrd _ (List.getElem_mem hk')
  have e1 : (rowAbs rs)[k]'(by simpa [rowAbs] using hk) = (rowAbs rsw)[k]'(by simpa [rowAbs] using hk') := by simp only [he]
  simp only [rowAbs, List.getElem_map, Prod.mk.injEq] at e1
  refine ⟨ga, Ax, cx, rfl, hc, hk', by rw [e1.1]; exact a', ?_⟩
  rw [b', hx, e1.2]
end Go.Proofs.YtbhfkhfnljddhaaDoor
