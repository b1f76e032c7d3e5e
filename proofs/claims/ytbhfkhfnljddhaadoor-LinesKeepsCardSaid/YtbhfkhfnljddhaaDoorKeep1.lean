/-
  Rows whose fields lie in memory of their own, each in a block that no other row has.
-/
import Derived.Test.YtbhfkhfnljddhaaDoorRows
import Derived.Test.YtbhfkhfnljddhaaDoorRows5
namespace Go.Proofs.YtbhfkhfnljddhaaDoor
open Go.RowKit Go.Shelf
attribute [local go_sem] Oper.semAt_some

/-- In W the slice v reads as the texts ss; it lies in a block from n₀ on whose cells may be stored into; either it has the whole block, or no spare room. -/
def RdS (n₀ : Nat) (W : World) (v : Value) (ss : List ByteArray) : Prop :=
  ∃ (g cap : Nat) (cur : Array Value), v = .slice (some ⟨g, 0, none⟩) ss.length cap ∧ n₀ ≤ g ∧ W.heap[g]? = some (.cells cur 9 (0, 0)) ∧ ss.length ≤ cap ∧ cap ≤ maxLen ∧ (cur.size = cap ∨ cap = ss.length) ∧ cur.toList.take ss.length = strV ss
theorem RdS.kept {n₀ : Nat} {W W' : World} {row : Option Nat} {v : Value} {ss : List ByteArray} (h : RdS n₀ W v ss) (hg : W.grownBy W' row) (hrow : ∀ r, row = some r → ∃ o : Obj, W.heap[r]? = some o ∧ ∀ cur fr, o ≠ .cells cur 9 fr) : RdS n₀ W' v ss := by
  obtain ⟨g, cap, cur, hv, h0, hb, r⟩ := h
  refine ⟨g, cap, cur, hv, h0, ?_, r⟩
  refine (hg.block g (block_lt hb) fun e' => ?_).trans hb
  obtain ⟨o, ho, hne⟩ := hrow g e'.symm
  rw [hb] at ho; cases ho; exact hne _ _ rfl
theorem RdS.keep {n₀ : Nat} {W W' : World} {v : Value} {ss : List ByteArray} (h : RdS n₀ W v ss) (hb : Below W.heap.size W W') : RdS n₀ W' v ss :=
  h.kept (grown_of_below hb none) (fun r e => by cases e)
theorem RdS.rdT {n₀ : Nat} {W : World} {v : Value} {ss : List ByteArray} (h : RdS n₀ W v ss) : RdT W 9 v ss.length (strV ss) := by
  obtain ⟨g, cap, cur, hv, h0, hb, hc, _, _, ht⟩ := h
  refine ⟨by simp [strV], _, cap, hv, hc, .inr ⟨g, cur, (0, 0), rfl, hb, fun j u hj => ?_⟩⟩
  rw [← ht] at hj
  have hl : j < ss.length := by
    rcases Nat.lt_or_ge j ss.length with h | h
    · exact h
    · rw [List.getElem?_eq_none (by rw [List.length_take]; omega)] at hj; cases hj
  rw [List.getElem?_take_of_lt hl] at hj
  simpa using hj
theorem RdS.lt {n₀ : Nat} {W : World} {v : Value} {ss : List ByteArray} (h : RdS n₀ W v ss) : ∃ g, v.ownBlock = some g ∧ n₀ ≤ g ∧ g < W.heap.size := by
  obtain ⟨g, cap, cur, rfl, h0, hb, _⟩ := h
  exact ⟨g, rfl, h0, block_lt hb⟩
/-- A row of the call's own that is not empty. -/
theorem RdS.of_own {n₀ B : Nat} {W : World} {v : Value} {ss : List ByteArray} (h : W.ownsRow B 9 1 v ss.length (strV ss)) (hn : ss ≠ []) (h0 : n₀ ≤ B) : RdS n₀ W v ss ∧ ∀ g, v.ownBlock = some g → B ≤ g := by
  rcases h.2 with ⟨_, e⟩ | ⟨g, cap, cur, rfl, hg, hb, hc, hm, hs, ht⟩
  · exact absurd (List.eq_nil_of_length_eq_zero e) hn
  · exact ⟨⟨g, cap, cur, rfl, by omega, hb, hc, hm, .inl (by omega), by rw [← ht, Nat.mul_one]⟩, fun g' e => by cases e; exact hg⟩
/-- fields[:k:k]. -/
theorem RdS.front {n₀ g n cap k : Nat} {W : World} {ss : List ByteArray} (h : RdS n₀ W (.slice (some ⟨g, 0, none⟩) n cap) ss) (hk : k ≤ n) : RdS n₀ W (.slice (some ⟨g, 0, none⟩) k k) (ss.take k) := by
  obtain ⟨g', cap', cur, hv, h0, hb, hc, hm, _, ht⟩ := h
  cases hv
  have hl : (ss.take k).length = k := by rw [List.length_take]; omega
  refine ⟨_, k, cur, by rw [hl], h0, hb, by omega, by omega, .inr hl.symm, ?_⟩
  rw [hl]
  have := congrArg (List.take k) ht
  rw [List.take_take, show min k ss.length = k by omega] at this
  rw [this]; simp [strV, List.map_take]

def rowsS (n₀ : Nat) (W : World) (rs : List RowIn) : Prop := (∀ r ∈ rs, RdS n₀ W r.2.1 r.2.2) ∧ rs.Pairwise (fun r q => r.2.1.ownBlock ≠ q.2.1.ownBlock)
theorem rowsS.kept {n₀ : Nat} {W W' : World} {row : Option Nat} {rs : List RowIn} (h : rowsS n₀ W rs) (hg : W.grownBy W' row) (hrow : ∀ r, row = some r → ∃ o : Obj, W.heap[r]? = some o ∧ ∀ cur fr, o ≠ .cells cur 9 fr) : rowsS n₀ W' rs :=
  ⟨fun r hr => (h.1 r hr).kept hg hrow, h.2⟩
theorem rowsS.keep {n₀ : Nat} {W W' : World} {rs : List RowIn} (h : rowsS n₀ W rs) (hb : Below W.heap.size W W') : rowsS n₀ W' rs := ⟨fun r hr => (h.1 r hr).keep hb, h.2⟩
theorem rowsS.read {n₀ : Nat} {W : World} {rs : List RowIn} (h : rowsS n₀ W rs) : rowsRead W rs := fun r hr => (h.1 r hr).rdT
theorem rowsS_nil (n₀ : Nat) (W : World) : rowsS n₀ W [] := ⟨by simp, List.Pairwise.nil⟩
/-- Rows in a box. -/
def RowsBoxS (n₀ B : Nat) (t e : Nat) (W : World) (out : List (Int × List ByteArray)) : Prop :=
  ∃ (rs : List RowIn) (v : Value), Boxed W B t v ∧ W.ownsRow n₀ e 2 v rs.length (rowCells rs) ∧ rowsS n₀ W rs ∧ rowAbs rs = out
theorem rowsBoxS_own {β : Type} (n₀ B t e : Nat) (f : β → List (Int × List ByteArray)) : _root_.Go.Own (fun s W => RowsBoxS n₀ B t e W (f s)) := by
  rintro s X Y row ⟨rs, v, hv, hr, hrd, ha⟩ hg hrow
  refine ⟨rs, v, hv.kept hg (fun e' => ?_), hr.kept hg ?_, hrd.kept hg (fun q e => by obtain ⟨o, ho, hc⟩ := hrow q e; exact ⟨o, ho, not_cells hc _⟩), ha⟩
  · obtain ⟨o, ho, hc⟩ := hrow B e'.symm
    rw [show X.heap[B]? = _ from hv] at ho; cases ho; cases hc
  · rcases hr.2 with ⟨rfl, _⟩ | ⟨g, cap, cur, rfl, _, hgb, _⟩
    · exact .inl rfl
    · refine .inr fun e' => ?_
      obtain ⟨o, ho, hc⟩ := hrow g (by simpa [Value.ownBlock] using e'.symm)
      rw [hgb] at ho; cases ho; cases hc
theorem RowsBoxS.keep {n₀ B t e : Nat} {W W' : World} {out : List (Int × List ByteArray)} (h : RowsBoxS n₀ B t e W out) (hb : Below W.heap.size W W') : RowsBoxS n₀ B t e W' out := by
  obtain ⟨rs, v, hv, hr, hrd, ha⟩ := h
  exact ⟨rs, v, (hb.block B hv.lt).trans hv, own_below hr hb, hrd.keep hb, ha⟩
/-- A row appended to the rows in the box. -/
theorem rowsS_push {W w1 : World} {n₀ B t e : Nat} {v v' : Value} {rs : List RowIn} {r : RowIn} {tmp : Obj} {out : List (Int × List ByteArray)} (hte : t ≠ e) (hes : 9 ≠ e) (hts : 9 ≠ t)
    (hv : Boxed W B t v) (hrow : W.ownsRow n₀ e 2 v rs.length (rowCells rs)) (hrd : rowsS n₀ W rs) (hab : rowAbs rs = out) (hr : RdS n₀ W r.2.1 r.2.2) (hdist : ∀ q ∈ rs, q.2.1.ownBlock ≠ r.2.1.ownBlock) (hn₀ : n₀ ≤ W.heap.size) (hB : n₀ ≤ B)
    (hown' : w1.ownsRow n₀ e 2 v' (rs.length + 1) (rowCells rs ++ [.int .i64 r.1, r.2.1])) (hgrow : (W.alloc tmp).grownBy w1 v.ownBlock) :
    KeepsOthers W (w1.setCell ⟨B, 0, none⟩ v') ∧ Below n₀ W (w1.setCell ⟨B, 0, none⟩ v') ∧ RowsBoxS n₀ B t e (w1.setCell ⟨B, 0, none⟩ v') (out ++ [(r.1, r.2.2)]) := by
  obtain ⟨hv1, hv2, hr2, hk2, hb2⟩ := hv.appended hte hrow hn₀ hB hown' hgrow
  have keep : ∀ (q : RowIn), RdS n₀ W q.2.1 q.2.2 → RdS n₀ (w1.setCell ⟨B, 0, none⟩ v') q.2.1 q.2.2 := by
    intro q hq
    have h1 : RdS n₀ (W.alloc tmp) q.2.1 q.2.2 := hq.kept (World.grownBy_alloc W tmp none) (fun r e => by cases e)
    have h2 : RdS n₀ w1 q.2.1 q.2.2 := h1.kept hgrow (fun k ek => by
      rcases (hrow.alloc tmp).2 with ⟨rfl, _⟩ | ⟨g, cap, cur, rfl, _, hgb, _⟩
      · simp [Value.ownBlock] at ek
      · obtain rfl : g = k := by simpa [Value.ownBlock] using ek
        exact ⟨_, hgb, by rintro c f e'; injection e' with _ h; exact hes h.symm⟩)
    exact h2.kept (grownBy_setCell' w1 B v') (fun k ek => by cases ek; exact ⟨_, hv1, by rintro c f e'; injection e' with _ h; exact hts h.symm⟩)
  refine ⟨hk2, hb2, rs ++ [r], v', hv2, by simpa [rowCells] using hr2, ⟨?_, ?_⟩, by rw [← hab]; simp [rowAbs]⟩
  · intro q hq
    rcases List.mem_append.1 hq with h | h
    · exact keep q (hrd.1 q h)
    · rw [List.mem_singleton.1 h]; exact keep r hr
  · refine List.pairwise_append.2 ⟨hrd.2, List.pairwise_singleton _ _, fun q hq p hp => ?_⟩
    rw [List.mem_singleton.1 hp]; exact hdist q hq
/-- The blocks of rows that were there are other ones than a new row's. -/
theorem rowsS_apart {n₀ : Nat} {W : World} {rs : List RowIn} (h : rowsS n₀ W rs) {v : Value} {B : Nat} (hB : W.heap.size ≤ B) (hv : ∃ g, v.ownBlock = some g ∧ B ≤ g) : ∀ q ∈ rs, q.2.1.ownBlock ≠ v.ownBlock := by
  intro q hq e
  obtain ⟨g, h1, _, h2⟩ := (h.1 q hq).lt
  obtain ⟨g', h3, h4⟩ := hv
  rw [h1, h3] at e
  cases e; omega
end Go.Proofs.YtbhfkhfnljddhaaDoor
