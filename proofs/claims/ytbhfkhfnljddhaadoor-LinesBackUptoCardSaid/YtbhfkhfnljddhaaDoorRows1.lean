/-
  lines.Rows over the iterator.
-/
import Derived.Test.YtbhfkhfnljddhaaDoorRows
import Derived.Test.YtbhfkhfnljddhaaDoorSplit3
import Derived.Test.YtbhfkhfnljddhaaDoorEach2
namespace Go.Proofs.YtbhfkhfnljddhaaDoor
open Go.RowKit Go.Shelf
attribute [local go_sem] Oper.semAt_some

/-- No field is empty. -/
theorem fgo_pos : ∀ (l : List UInt8) (c : Option (List UInt8)), (∀ d, c = some d → d ≠ []) → ∀ f ∈ fgo l c, f ≠ []
  | [], none, _, f, hf => by simp [fgo] at hf
  | [], some d, hc, f, hf => by simp [fgo] at hf; subst hf; exact hc _ rfl
  | b :: l, none, hc, f, hf => by
    cases hg : gapB b
    · rw [fgo_first _ _ hg] at hf; exact fgo_pos l _ (by intro d e; cases e; simp) f hf
    · rw [fgo_skip _ _ hg] at hf; exact fgo_pos l _ (by intro d e; cases e) f hf
  | b :: l, some d, hc, f, hf => by
    cases hg : gapB b
    · rw [fgo_more _ _ _ hg] at hf; exact fgo_pos l _ (by intro d' e; cases e; simp) f hf
    · rw [fgo_end _ _ (.inr ⟨b, l, rfl, hg⟩), fgo_skip _ _ hg] at hf
      rcases List.mem_cons.1 hf with rfl | h
      · exact hc f rfl
      · exact fgo_pos l _ (by intro d' e; cases e) f h
theorem fields_pos (s : ByteArray) : ∀ f ∈ fieldsS s, 0 < f.size := by
  intro f hf
  unfold fieldsS at hf
  obtain ⟨m, hm, rfl⟩ := List.mem_map.1 hf
  rw [mkS_size]
  exact List.length_pos_iff.2 (fgo_pos _ none (by intro d e; cases e) m hm)

/-- Does a field begin a remark? -/
def sharp (f : ByteArray) : Bool := f.data.toList.head? == some 35
/-- The fields ahead of a remark. -/
def keptS (fs : List ByteArray) : List ByteArray := fs.takeWhile (fun f => !sharp f)
theorem kept_stop (fs : List ByteArray) (k : Nat) (hk : k < fs.length) (h : ∀ f ∈ fs.take k, sharp f = false) (hs : sharp fs[k] = true) : keptS fs = fs.take k := by
  unfold keptS
  conv => lhs; rw [← List.take_append_drop k fs]
  rw [List.takeWhile_append_of_pos (by intro f hf; simp [h f hf]), List.drop_eq_getElem_cons hk, List.takeWhile_cons_of_neg (by simp [hs]), List.append_nil]
theorem kept_all (fs : List ByteArray) (h : ∀ f ∈ fs, sharp f = false) : keptS fs = fs := by
  induction fs with
  | nil => rfl
  | cons a fs ih =>
    have ih' := ih (fun f hf => h f (by simp [hf]))
    unfold keptS at ih' ⊢
    rw [List.takeWhile_cons_of_pos (by simp [h a (by simp)]), ih']
theorem sharp_at (f : ByteArray) (h : 0 < f.size) : sharp f = ((f[0].toNat : Int) == 35) := by
  have e : f.data.toList = f[0] :: f.data.toList.drop 1 := by
    have := drop_cons f 0 h
    simpa using this
  have b : ((f[0].toNat : Int) == 35) = ((35 : UInt8) == f[0]) := byteEq f[0] 35 (by omega)
  unfold sharp
  rw [e, b, Bool.eq_iff_iff]
  simp
  exact ⟨fun h => h.symm, fun h => h.symm⟩

/-- A row as it lies in memory: its number, its slice of fields, and what that reads as. -/
abbrev RowIn := Int × Value × List ByteArray
def rowCells (rs : List RowIn) : List Value := rs.flatMap fun r => [.int .i64 r.1, r.2.1]
def rowAbs (rs : List RowIn) : List (Int × List ByteArray) := rs.map fun r => (r.1, r.2.2)
def rowOf (n : Int) (l : ByteArray) : List (Int × List ByteArray) := if keptS (fieldsS l) = [] then [] else [(n, keptS (fieldsS l))]
def rowsOf (pre : List (Int × ByteArray)) : List (Int × List ByteArray) := pre.flatMap fun x => rowOf x.1 (clamp x.2)
theorem rowsOf_snoc (pre : List (Int × ByteArray)) (x : Int × ByteArray) : rowsOf (pre ++ [x]) = rowsOf pre ++ rowOf x.1 (clamp x.2) := by simp [rowsOf]
theorem rowOf_len (n : Int) (l : ByteArray) : (rowOf n l).length ≤ 1 := by unfold rowOf; split <;> simp
theorem rowsOf_len (pre : List (Int × ByteArray)) : (rowsOf pre).length ≤ pre.length := by
  induction pre with
  | nil => simp [rowsOf]
  | cons x pre ih =>
    have := rowOf_len x.1 (clamp x.2)
    have e : rowsOf (x :: pre) = rowOf x.1 (clamp x.2) ++ rowsOf pre := by simp [rowsOf]
    rw [e, List.length_append, List.length_cons]; omega

/-- In W the slice v reads as the n elements xs, in a block of elements of type e. -/
def RdT (W : World) (e : Nat) (v : Value) (n : Nat) (xs : List Value) : Prop :=
  xs.length = n ∧ ∃ A cap, v = .slice A n cap ∧ n ≤ cap ∧ (n = 0 ∨ ∃ (g : Nat) (cur : Array Value) (fr : Nat × Nat), A = some ⟨g, 0, none⟩ ∧ W.heap[g]? = some (.cells cur e fr) ∧ ∀ (j : Nat) (u : Value), xs[j]? = some u → cur[j]? = some u)
theorem RdT.rd {W : World} {e n : Nat} {v : Value} {xs : List Value} (h : RdT W e v n xs) : Rd W 1 v n xs := by
  obtain ⟨h1, A, cap, hv, hc, h2⟩ := h
  refine ⟨by omega, A, cap, hv, hc, ?_⟩
  rcases h2 with h2 | ⟨g, cur, fr, hA, hb, h3⟩
  · exact .inl h2
  · exact .inr ⟨g, 0, hA, fun j u hj => by rw [Nat.zero_add, cell_of_row W g j cur e fr hb]; exact h3 j u hj⟩
theorem RdT.kept {W W' : World} {row : Option Nat} {e n : Nat} {v : Value} {xs : List Value} (h : RdT W e v n xs) (hg : W.grownBy W' row) (hrow : ∀ r, row = some r → ∃ o : Obj, W.heap[r]? = some o ∧ ∀ cur fr, o ≠ .cells cur e fr) : RdT W' e v n xs := by
  obtain ⟨h1, A, cap, hv, hc, h2⟩ := h
  refine ⟨h1, A, cap, hv, hc, ?_⟩
  rcases h2 with h2 | ⟨g, cur, fr, hA, hb, h3⟩
  · exact .inl h2
  · refine .inr ⟨g, cur, fr, hA, ?_, h3⟩
    refine (hg.block g (block_lt hb) fun e' => ?_).trans hb
    obtain ⟨o, ho, hne⟩ := hrow g e'.symm
    rw [hb] at ho; cases ho; exact hne _ _ rfl
theorem RdT.keep {W W' : World} {e n : Nat} {v : Value} {xs : List Value} (h : RdT W e v n xs) (hb : Below W.heap.size W W') : RdT W' e v n xs :=
  h.kept (grown_of_below hb none) (fun r e => by cases e)
theorem RdT.of_own {w : World} {B e n : Nat} {v : Value} {xs : List Value} (h : w.ownsRow B e 1 v n xs) : RdT w e v n xs := by
  refine ⟨by have := h.1; omega, ?_⟩
  rcases h.2 with ⟨rfl, rfl⟩ | ⟨g, cap, cur, rfl, _, hb, hn, _, _, ht⟩
  · exact ⟨none, 0, rfl, Nat.le_refl _, .inl rfl⟩
  · refine ⟨_, cap, rfl, hn, .inr ⟨g, cur, _, rfl, hb, fun j u hj => ?_⟩⟩
    rw [← ht] at hj
    have := List.getElem?_take_of_lt (l := cur.toList) (show j < n * 1 from by
      rcases Nat.lt_or_ge j (n * 1) with h | h
      · exact h
      · rw [List.getElem?_eq_none (by rw [List.length_take]; omega)] at hj; cases hj)
    rw [this] at hj
    simpa using hj
/-- fields[:k:k]. -/
theorem RdT.front {w : World} {e n k g cap : Nat} {xs : List Value} (h : RdT w e (.slice (some ⟨g, 0, none⟩) n cap) n xs) (hk : k ≤ n) : RdT w e (.slice (some ⟨g, 0, none⟩) k k) k (xs.take k) := by
  obtain ⟨h1, A, cap', hv, hc, h2⟩ := h
  cases hv
  refine ⟨by rw [List.length_take]; omega, _, k, rfl, Nat.le_refl _, ?_⟩
  rcases h2 with h2 | ⟨g', cur, fr, hA, hb, h3⟩
  · exact .inl (by omega)
  · cases hA
    refine .inr ⟨_, cur, fr, rfl, hb, fun j u hj => h3 j u ?_⟩
    rw [List.getElem?_take] at hj
    split at hj
    · exact hj
    · cases hj
theorem not_cells {o : Obj} (h : o.isCells = false) (e : Nat) : ∀ cur fr, o ≠ .cells cur e fr := by
  rintro cur fr rfl; cases h
def rowsRead (W : World) (rs : List RowIn) : Prop := ∀ r ∈ rs, RdT W 9 r.2.1 r.2.2.length (strV r.2.2)
/-- Rows in a box. -/
def RowsBox (n₀ B : Nat) (t e : Nat) (W : World) (out : List (Int × List ByteArray)) : Prop :=
  ∃ (rs : List RowIn) (v : Value), Boxed W B t v ∧ W.ownsRow n₀ e 2 v rs.length (rowCells rs) ∧ rowsRead W rs ∧ rowAbs rs = out
theorem rowsBox_own {β : Type} (n₀ B t e : Nat) (f : β → List (Int × List ByteArray)) : _root_.Go.Own (fun s W => RowsBox n₀ B t e W (f s)) := by
  rintro s X Y row ⟨rs, v, hv, hr, hrd, ha⟩ hg hrow
  refine ⟨rs, v, hv.kept hg (fun e' => ?_), hr.kept hg ?_, fun r hm => (hrd r hm).kept hg (fun q e => by obtain ⟨o, ho, hc⟩ := hrow q e; exact ⟨o, ho, not_cells hc _⟩), ha⟩
  · obtain ⟨o, ho, hc⟩ := hrow B e'.symm
    rw [show X.heap[B]? = _ from hv] at ho; cases ho; cases hc
  · rcases hr.2 with ⟨rfl, _⟩ | ⟨g, cap, cur, rfl, _, hgb, _⟩
    · exact .inl rfl
    · refine .inr fun e' => ?_
      obtain ⟨o, ho, hc⟩ := hrow g (by simpa [Value.ownBlock] using e'.symm)
      rw [hgb] at ho; cases ho; cases hc
theorem RowsBox.keep {n₀ B t e : Nat} {W W' : World} {out : List (Int × List ByteArray)} (h : RowsBox n₀ B t e W out) (hb : Below W.heap.size W W') : RowsBox n₀ B t e W' out := by
  obtain ⟨rs, v, hv, hr, hrd, ha⟩ := h
  exact ⟨rs, v, (hb.block B hv.lt).trans hv, own_below hr hb, fun r hm => (hrd r hm).keep hb, ha⟩
theorem keepsFrom_below {B : Nat} {W W' : World} (hb : Below W.heap.size W W') : KeepsFrom B W W' :=
  ⟨hb.size, fun _ _ _ h0 _ => (hb.block _ (Array.getElem?_eq_some_iff.1 h0).1).trans h0⟩
/-- A row appended to the rows in the box. -/
theorem rows_push {W w1 : World} {n₀ B t e : Nat} {v v' : Value} {rs : List RowIn} {r : RowIn} {tmp : Obj} {out : List (Int × List ByteArray)} (hte : t ≠ e) (hes : 9 ≠ e) (hts : 9 ≠ t)
    (hv : Boxed W B t v) (hrow : W.ownsRow n₀ e 2 v rs.length (rowCells rs)) (hrd : rowsRead W rs) (hab : rowAbs rs = out) (hr : RdT W 9 r.2.1 r.2.2.length (strV r.2.2)) (hn₀ : n₀ ≤ W.heap.size) (hB : n₀ ≤ B)
    (hown' : w1.ownsRow n₀ e 2 v' (rs.length + 1) (rowCells rs ++ [.int .i64 r.1, r.2.1])) (hgrow : (W.alloc tmp).grownBy w1 v.ownBlock) :
    KeepsOthers W (w1.setCell ⟨B, 0, none⟩ v') ∧ Below n₀ W (w1.setCell ⟨B, 0, none⟩ v') ∧ RowsBox n₀ B t e (w1.setCell ⟨B, 0, none⟩ v') (out ++ [(r.1, r.2.2)]) := by
  obtain ⟨hv1, hv2, hr2, hk2, hb2⟩ := hv.appended hte hrow hn₀ hB hown' hgrow
  refine ⟨hk2, hb2, rs ++ [r], v', hv2, by simpa [rowCells] using hr2, ?_, by rw [← hab]; simp [rowAbs]⟩
  have keep : ∀ (q : RowIn), RdT W 9 q.2.1 q.2.2.length (strV q.2.2) → RdT (w1.setCell ⟨B, 0, none⟩ v') 9 q.2.1 q.2.2.length (strV q.2.2) := by
    intro q hq
    have h1 : RdT (W.alloc tmp) 9 q.2.1 q.2.2.length (strV q.2.2) := hq.kept (World.grownBy_alloc W tmp none) (fun r e => by cases e)
    have h2 : RdT w1 9 q.2.1 q.2.2.length (strV q.2.2) := h1.kept hgrow (fun k ek => by
      rcases (hrow.alloc tmp).2 with ⟨rfl, _⟩ | ⟨g, cap, cur, rfl, _, hgb, _⟩
      · simp [Value.ownBlock] at ek
      · obtain rfl : g = k := by simpa [Value.ownBlock] using ek
        exact ⟨_, hgb, by rintro c f e'; injection e' with _ h; exact hes h.symm⟩)
    exact h2.kept (grownBy_setCell' w1 B v') (fun k ek => by cases ek; exact ⟨_, hv1, by rintro c f e'; injection e' with _ h; exact hts h.symm⟩)
  intro q hq
  rcases List.mem_append.1 hq with h | h
  · exact keep q (hrd q h)
  · rw [List.mem_singleton.1 h]; exact keep r hr
theorem cell_news (w : World) (us : Array Value) (t : Nat) : ∀ j u, us.toList[j]? = some u → (w.alloc (.cells us t)).cell? ((⟨w.heap.size, 0, none⟩ : Addr).add j) = some u := by
  intro j u hj
  rw [row_addr, cell_of_row (w.alloc (.cells us t)) w.heap.size j us t (0, 0) (heap_alloc_new w _)]
  simpa using hj
end Go.Proofs.YtbhfkhfnljddhaaDoor
