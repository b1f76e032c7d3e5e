/-
  Decode: the memory that it goes through; a region that may panic in a function that defers.
-/
import Derived.Test.YtehbjfjhalpgaaaRows
import Derived.Test.YtehbjfjhalpgaaaImg24
import Derived.Deep.AppendLies
namespace Go.Proofs.Ytehbjfjhalpgaaa
open Go.RowKit

/-- Where Decode stands: the book's, the fault's and the reader's variables lie behind the heap as it was. -/
structure DSt (w : World) (s : ByteArray) (W : World) (p : Nat) (cs : Array Value) : Prop where
  below : Below w.heap.size w W
  size : w.heap.size + 3 ≤ W.heap.size
  book : W.heap[w.heap.size]? = some (.cells cs 26 (0, 0))
  err : W.heap[w.heap.size + 1]? = some (.cells #[.int .i64 0] 28 (0, 0))
  rdr : RdrAt W (w.heap.size + 1 + 1) s p
theorem DSt.call {w W W' : World} {s : ByteArray} {p p' : Nat} {cs : Array Value} (h : DSt w s W p cs) (hk : Kept [w.heap.size + 1 + 1] W W') (hr : RdrAt W' (w.heap.size + 1 + 1) s p') : DSt w s W' p' cs :=
  ⟨h.below.trans (hk.below (by have := h.size; omega) (by simp <;> omega)), Nat.le_trans h.size hk.size, hk.at h.book (by simp <;> omega), hk.at h.err (by simp <;> omega), hr⟩
theorem DSt.kept {w W W' : World} {s : ByteArray} {p : Nat} {cs : Array Value} (h : DSt w s W p cs) (hk : Kept [] W W') : DSt w s W' p cs :=
  h.call (hk.mono (by simp <;> omega)) (hk.at h.rdr (by simp <;> omega))
theorem DSt.set {w W : World} {s : ByteArray} {p : Nat} {cs : Array Value} (h : DSt w s W p cs) (i : Nat) (v : Value) : DSt w s (W.setCell ⟨w.heap.size, i, none⟩ v) p (cs.setIfInBounds i v) :=
  ⟨h.below.trans (((Kept.refl [w.heap.size] W).set _ _ _ (.inl (by simp <;> omega))).below (by have := h.size; omega) (by simp <;> omega)), by simpa [World.setCell] using h.size, heap_setCell_same W _ i _ _ _ h.book,
    by rw [heap_setCell_other W _ _ _ (by simp <;> omega)]; exact h.err, by unfold RdrAt; rw [heap_setCell_other W _ _ _ (by simp <;> omega)]; exact h.rdr⟩
theorem DSt.push {w W W' : World} {s : ByteArray} {p : Nat} {cs : Array Value} {e size n : Nat} {v : Value} {xs : List Value} (h : DSt w s W p cs) (ho : W.ownsRow w.heap.size e size v n xs) (h1 : e ≠ 26) (h2 : e ≠ 28) (h3 : e ≠ 86) (hg : W.grownBy W' v.ownBlock) : DSt w s W' p cs := by
  have hk : Kept v.ownBlock.toList W W' := Kept.grown hg (fun k hk => by rw [hk]; simp)
  have key : ∀ (g t : Nat) (cs : Array Value), W.heap[g]? = some (.cells cs t (0, 0)) → e ≠ t → g ∉ v.ownBlock.toList := fun g t cs hg' hne hm =>
    hne ((own_ty ho (show v.ownBlock = some g by simpa using hm)).1.uniq ⟨cs, hg'⟩)
  exact ⟨h.below.trans (hk.below (by have := h.size; omega) (fun x hx => (own_ty ho (show v.ownBlock = some x by simpa using hx)).2)), Nat.le_trans h.size hk.size, hk.at h.book (key _ _ _ h.book h1), hk.at h.err (key _ _ _ h.err h2), hk.at h.rdr (key _ _ _ h.rdr h3)⟩
theorem DSt.cell {w W : World} {s : ByteArray} {p : Nat} {cs : Array Value} (h : DSt w s W p cs) (i : Nat) {x : Value} (hx : cs[i]? = some x) : W.cell? ⟨w.heap.size, i, none⟩ = some x := by rw [Lib.cell_of_heap h.book]; exact hx
theorem DSt.fz {w W : World} {s : ByteArray} {p : Nat} {cs : Array Value} (h : DSt w s W p cs) (i : Nat) : W.frozen? ⟨w.heap.size, i, none⟩ = false := Lib.frozen_of_heap h.book i
theorem DSt.start (w : World) (s : ByteArray) : DSt w s (((w.alloc (.cells #[.int .i64 0, .string ⟨#[]⟩, .slice none 0 0, .slice none 0 0, .slice none 0 0, .slice none 0 0, .slice none 0 0] 26)).alloc (.cells #[.int .i64 0] 28)).alloc (.cells #[.string s, .int .i64 4] 86)) 4
    #[.int .i64 0, .string ⟨#[]⟩, .slice none 0 0, .slice none 0 0, .slice none 0 0, .slice none 0 0, .slice none 0 0] := by
  refine ⟨(((Below.refl _ _).alloc (Nat.le_refl _) _).alloc (by simp <;> omega) _).alloc (by simp; omega) _, by simp, ?_, ?_, ?_⟩
  · rw [Below.heap_alloc _ _ _ (by simp; omega), Below.heap_alloc _ _ _ (by simp <;> omega)]
    exact heap_alloc_new w _
  · rw [Below.heap_alloc _ _ _ (by simp <;> omega)]
    have := heap_alloc_new (w.alloc (.cells #[.int .i64 0, .string ⟨#[]⟩, .slice none 0 0, .slice none 0 0, .slice none 0 0, .slice none 0 0, .slice none 0 0] 26)) (.cells #[.int .i64 0] 28)
    simpa using this
  · have := heap_alloc_new ((w.alloc (.cells #[.int .i64 0, .string ⟨#[]⟩, .slice none 0 0, .slice none 0 0, .slice none 0 0, .slice none 0 0, .slice none 0 0] 26)).alloc (.cells #[.int .i64 0] 28)) (.cells #[.string s, .int .i64 4] 86)
    simpa [RdrAt] using this
theorem leastV_le {l : Nat} (h : l ≤ 64) : leastV l = l := if_pos h
theorem leastV_gt {l : Nat} (h : ¬ l ≤ 64) : leastV l = 0 := if_neg h
def SecP (w : World) (p : Nat → Prop) (vs : List Value) (As : List (List St)) : Prop := ∀ j (h : j < As.length), AutAt w p (vs.getD j undef) As[j]
def PostD (w : World) (r : Except Nat Bk) (e : Ending) (w' : World) : Prop :=
  match r with
  | .error c => e = .returned (.tuple #[zeroBook, .int .i64 (c : Int)]) ∧ Below w.heap.size w w'
  | .ok b => ∃ vr v0 v1 v2 v3, e = .returned (.tuple #[.agg #[.int .i64 (b.least : Int), .string b.tryT, vr, v0, v1, v2, v3], .int .i64 0]) ∧ Below w.heap.size w w' ∧ RepsAt w' vr b.reps ∧ b.secs.length = 4 ∧ SecP w' (fun g => w.heap.size ≤ g) [v0, v1, v2, v3] b.secs
/-- A fault, wherever it comes. -/
theorem DSt.fault {w W W' : World} {s : ByteArray} {p : Nat} {x0 x1 x2 x3 x4 x5 x6 : Value} (h : DSt w s W p #[x0, x1, x2, x3, x4, x5, x6]) (hk : Kept [w.heap.size + 1 + 1] W W') (c : Nat) (r : Except Nat Bk) (hr : r = .error c) (tmps : Array Value)
    (h2 : tmps[2]?.getD undef = .pointer (some ⟨w.heap.size, 0, none⟩)) (h3 : tmps[3]?.getD undef = .pointer (some ⟨w.heap.size + 1, 0, none⟩)) :
    bodyPostD Try.prog Try.f15 (PostD w r) (Exit.panic [flt c]) { tmps := tmps, defers := [theDefer w.heap.size (w.heap.size + 1)] } W' := by
  subst hr
  refine leave_fault _ _ _ _ _ _ _ _ _ _ c W' tmps _ h2 h3 (hk.at h.book (by simp <;> omega)) (hk.at h.err (by simp <;> omega)) (by omega) (fun W'' hk' => ⟨rfl, ?_⟩)
  have hb1 := h.below.trans (hk.below (by have := h.size; omega) (by simp <;> omega))
  exact hb1.trans (hk'.below hb1.size (by simp <;> omega))

/-- A post that asks of a panic what a fault leaves: it doesn't hang on the slots that a region fills. -/
def PanicQ (w : World) (K : List PanicEntry → World → Prop) (Q : Exit → Act → World → Prop) : Exit → Act → World → Prop
  | .panic c, a, W => a.tmps[2]?.getD undef = .pointer (some ⟨w.heap.size, 0, none⟩) ∧ a.tmps[3]?.getD undef = .pointer (some ⟨w.heap.size + 1, 0, none⟩) ∧ a.defers = [theDefer w.heap.size (w.heap.size + 1)] ∧ K c W
  | e, a, W => Q e a W
theorem PanicQ.put {w : World} {K : List PanicEntry → World → Prop} {Q : Exit → Act → World → Prop} {c : List PanicEntry} {a : Act} {W : World} {d : Option Tmp} {v : Value} (hd : d ≠ some 2 ∧ d ≠ some 3) (h : PanicQ w K Q (.panic c) (a.put d v) W) : PanicQ w K Q (.panic c) a W := by
  obtain ⟨h2, h3, hdf, hk⟩ := h
  cases d with
  | none => exact ⟨h2, h3, hdf, hk⟩
  | some t =>
    have e2 : t ≠ 2 := fun e => hd.1 (by rw [e])
    have e3 : t ≠ 3 := fun e => hd.2 (by rw [e])
    simp only [Act.put] at h2 h3 hdf
    rw [Array.getElem?_setIfInBounds_ne e2] at h2
    rw [Array.getElem?_setIfInBounds_ne e3] at h3
    exact ⟨h2, h3, hdf, hk⟩
theorem PanicQ.imp {w : World} {K : List PanicEntry → World → Prop} {Q : Exit → Act → World → Prop}
    (h : ∀ c tmps W, tmps[2]?.getD undef = .pointer (some ⟨w.heap.size, 0, none⟩) → tmps[3]?.getD undef = .pointer (some ⟨w.heap.size + 1, 0, none⟩) → K c W → Q (.panic c) { tmps := tmps, defers := [theDefer w.heap.size (w.heap.size + 1)] } W) :
    ∀ e a W, PanicQ w K Q e a W → Q e a W := fun e a W hq => by
  cases e
  case panic c =>
    obtain ⟨h2, h3, hd, hk⟩ := hq
    obtain ⟨tmps, dfs⟩ := a
    simp only at h2 h3 hd
    subst hd
    exact h c tmps W h2 h3 hk
  all_goals exact hq
theorem own_set {w W : World} {s : ByteArray} {p : Nat} {cs : Array Value} {e size n i : Nat} {v u : Value} {xs : List Value} (h : DSt w s W p cs) (ho : W.ownsRow w.heap.size e size v n xs) (h1 : e ≠ 26) : (W.setCell ⟨w.heap.size, i, none⟩ u).ownsRow w.heap.size e size v n xs :=
  ((Kept.refl [w.heap.size] W).set _ _ _ (.inl (by simp))).own ho (fun g hg hm => by
    have := (own_ty ho hg).1
    simp only [List.mem_cons, List.not_mem_nil, or_false] at hm
    subst hm
    exact h1 (this.uniq ⟨_, h.book⟩))
/-- An append of one element at a step of a region that draws, its cells laid just before. -/
theorem step_push {P : Program} {w : World} {ops : Array Oper} {o : Oper} {a : Act} {K : Act → World → Prop} {Q : Exit → Act → World → Prop} {E : Prop} (hgd : o.guard = none) (s x : Operand) (t : TypeId)
    (ho : o.op = .call { callee := .builtin .append, args := #[s, x], argTypes := #[t, t] })
    (base : Nat) (e : TypeId) (i : TypeInfo) (z : Value) (size bytes : Nat) (ht : P.underlying t = some (.slice e)) (hi : P.info? e = some i) (hz : i.zero = some z)
    (hsize : i.size = size) (hby : i.bytes = bytes) (hzs : z.cells.size = size) (hsz : 0 < size)
    (v : Value) (n : Nat) (xs : List Value) (hs : a.eval s = v) (hown : w.ownsRow base e size v n xs)
    (us : Array Value) (hus : us.size = size) (h1 : ∀ u ∈ us.toList, u.oneCell' = true) (hx : a.eval x = .slice (some ⟨w.heap.size, 0, none⟩) 1 1)
    (h63 : n + 1 ≤ maxLen) (hbytes : (n + 1) * bytes ≤ 140737488355328) (hbase : base ≤ w.heap.size)
    (h : ∀ g cap w', w'.ownsRow base e size (.slice (some ⟨g, 0, none⟩) (n + 1) cap) (n + 1) (xs ++ us.toList) → w.grownBy w' v.ownBlock → K (a.put o.dst (.slice (some ⟨g, 0, none⟩) (n + 1) cap)) w') :
    if Region.wanted o (yielded ops a.tmps) = true then Oper.wp P o a (w.alloc (.cells us e)) K Q else E := by
  refine step_append_lies _ hgd s x t ho base e i z size bytes ht hi hz hsize hby hzs hsz v n xs hs (hown.alloc _) ⟨w.heap.size, 0, none⟩ 1 1 us.toList hx (by simp [hus]) ?_ h1 (by decide) h63 hbytes (by simp; omega) _ rfl ?_
  · intro j u hj
    rw [row_addr, cell_of_row (w.alloc (.cells us e)) w.heap.size j us e (0, 0) (heap_alloc_new w _)]
    simpa using hj
  · intro g cap w' hown' hgrow _ _
    exact h g cap w' hown' (grown_of_alloc hgrow)
theorem frmR_size {s t : ByteArray} {a p : Nat} (h : frmR s a = .ok (t, p)) : t.size ≤ 255 := by
  unfold frmR at h
  split at h
  · cases h
  · split at h
    · cases h
    · split at h
      · cases h
      · injection h with h
        injection h with h1 h2
        rw [← h1, ByteArray.size_extract]; omega
def repCells (rs : List Rp) : List Value := rs.flatMap fun x => [.string x.1, .string x.2]
theorem repCells_snoc (rs : List Rp) (x : Rp) : repCells rs ++ [.string x.1, .string x.2] = repCells (rs ++ [x]) := by simp [repCells]
theorem reps_of_own {w : World} {B t n : Nat} {v : Value} {rs : List Rp} (h : w.ownsRow B t 2 v n (repCells rs)) : RepsAt w v rs := by
  have hl := h.1
  rw [repCells, two_len] at hl
  obtain rfl : rs.length = n := by omega
  rcases h.2 with ⟨rfl, h0⟩ | ⟨g, cap, cur, rfl, hb, hg, hn, hm, _, _⟩
  · exact ⟨none, 0, by rw [h0], .inl h0⟩
  · refine ⟨_, cap, rfl, .inr ⟨g, 0, rfl, block_lt hg, fun k hk => ?_⟩⟩
    have hc := h.cells (g := g) rfl
    obtain ⟨h1, h2⟩ := two_get (fun x : Rp => Value.string x.1) (fun x => .string x.2) rs k hk
    have g1 := hc _ _ h1
    have g2 := hc _ _ h2
    rw [row_addr] at g1 g2
    rw [Nat.zero_add]
    exact ⟨g1, g2⟩
theorem rep_info : (Try.prog.info? 50).map (fun i => (i.zero, i.size, i.bytes)) = some (some (.agg #[.string ⟨#[]⟩, .string ⟨#[]⟩]), 2, 32) := by kernel_rfl
end Go.Proofs.Ytehbjfjhalpgaaa
