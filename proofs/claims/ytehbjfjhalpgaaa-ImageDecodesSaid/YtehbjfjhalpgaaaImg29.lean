/-
  The reference's Decode: the memory that it goes through.
-/
import Derived.Test.YtehbjfjhalpgaaaRows
import Derived.Test.YtehbjfjhalpgaaaImg28b
namespace Go.Proofs.Ytehbjfjhalpgaaa
open Go.RowKit

abbrev zeroCells : Array Value := #[.int .i64 0, .string ⟨#[]⟩, .slice none 0 0, .slice none 0 0, .slice none 0 0, .slice none 0 0, .slice none 0 0]
structure RDSt (w : World) (s : ByteArray) (W : World) (p f : Nat) (cs : Array Value) : Prop where
  below : Below w.heap.size w W
  size : w.heap.size + 3 ≤ W.heap.size
  res : W.heap[w.heap.size]? = some (.cells zeroCells 37 (0, 0))
  rdr : RRdr W (w.heap.size + 1) s p f
  book : W.heap[w.heap.size + 1 + 1]? = some (.cells cs 37 (0, 0))
theorem RDSt.call {w W W' : World} {s : ByteArray} {p p' f f' : Nat} {cs : Array Value} (h : RDSt w s W p f cs) (hk : Kept [w.heap.size + 1] W W') (hr : RRdr W' (w.heap.size + 1) s p' f') : RDSt w s W' p' f' cs :=
  ⟨h.below.trans (hk.below (by have := h.size; omega) (by simp <;> omega)), Nat.le_trans h.size hk.size, hk.at h.res (by simp <;> omega), hr, hk.at h.book (by simp <;> omega)⟩
theorem RDSt.kept {w W W' : World} {s : ByteArray} {p f : Nat} {cs : Array Value} (h : RDSt w s W p f cs) (hk : Kept [] W W') : RDSt w s W' p f cs :=
  h.call (hk.mono (by simp <;> omega)) (hk.at h.rdr (by simp <;> omega))
theorem RDSt.set {w W : World} {s : ByteArray} {p f : Nat} {cs : Array Value} (h : RDSt w s W p f cs) (i : Nat) (v : Value) : RDSt w s (W.setCell ⟨w.heap.size + 1 + 1, i, none⟩ v) p f (cs.setIfInBounds i v) :=
  ⟨h.below.trans (((Kept.refl [w.heap.size + 1 + 1] W).set _ _ _ (.inl (by simp <;> omega))).below (by have := h.size; omega) (by simp <;> omega)), by simpa [World.setCell] using h.size,
    by rw [heap_setCell_other W _ _ _ (by simp <;> omega)]; exact h.res, by unfold RRdr; rw [heap_setCell_other W _ _ _ (by simp <;> omega)]; exact h.rdr, heap_setCell_same W _ i _ _ _ h.book⟩
theorem RDSt.putF {w W : World} {s : ByteArray} {p f : Nat} {cs : Array Value} (h : RDSt w s W p f cs) (c : Nat) : RDSt w s (W.setCell ⟨w.heap.size + 1, 2, none⟩ (.int .i64 (c : Int))) p c cs :=
  h.call ((Kept.refl _ _).set _ _ _ (.inl (by simp <;> omega))) (RRdr.putF h.rdr c)
theorem RDSt.push {w W W' : World} {s : ByteArray} {p f : Nat} {cs : Array Value} {e size n : Nat} {v : Value} {xs : List Value} (h : RDSt w s W p f cs) (ho : W.ownsRow w.heap.size e size v n xs) (h1 : e ≠ 37) (h3 : e ≠ 92) (hg : W.grownBy W' v.ownBlock) : RDSt w s W' p f cs := by
  have hk : Kept v.ownBlock.toList W W' := Kept.grown hg (fun k hk => by rw [hk]; simp)
  have key : ∀ (g t : Nat) (cs : Array Value), W.heap[g]? = some (.cells cs t (0, 0)) → e ≠ t → g ∉ v.ownBlock.toList := fun g t cs hg' hne hm =>
    hne ((own_ty ho (show v.ownBlock = some g by simpa using hm)).1.uniq ⟨cs, hg'⟩)
  exact ⟨h.below.trans (hk.below (by have := h.size; omega) (fun x hx => (own_ty ho (show v.ownBlock = some x by simpa using hx)).2)), Nat.le_trans h.size hk.size, hk.at h.res (key _ _ _ h.res h1), hk.at h.rdr (key _ _ _ h.rdr h3), hk.at h.book (key _ _ _ h.book h1)⟩
theorem RDSt.cell {w W : World} {s : ByteArray} {p f : Nat} {cs : Array Value} (h : RDSt w s W p f cs) (i : Nat) {x : Value} (hx : cs[i]? = some x) : W.cell? ⟨w.heap.size + 1 + 1, i, none⟩ = some x := by rw [Lib.cell_of_heap h.book]; exact hx
theorem RDSt.fz {w W : World} {s : ByteArray} {p f : Nat} {cs : Array Value} (h : RDSt w s W p f cs) (i : Nat) : W.frozen? ⟨w.heap.size + 1 + 1, i, none⟩ = false := Lib.frozen_of_heap h.book i
theorem RDSt.start (w : World) (s : ByteArray) : RDSt w s (((w.alloc (.cells zeroCells 37)).alloc (.cells #[.string s, .int .i64 4, .int .i64 0] 92)).alloc (.cells zeroCells 37)) 4 0 zeroCells := by
  refine ⟨(((Below.refl _ _).alloc (Nat.le_refl _) _).alloc (by simp) _).alloc (by simp; omega) _, by simp, ?_, ?_, ?_⟩
  · rw [Below.heap_alloc _ _ _ (by simp; omega), Below.heap_alloc _ _ _ (by simp)]
    exact heap_alloc_new w _
  · unfold RRdr
    rw [Below.heap_alloc _ _ _ (by simp)]
    have := heap_alloc_new (w.alloc (.cells zeroCells 37)) (.cells #[.string s, .int .i64 4, .int .i64 0] 92)
    simpa using this
  · have := heap_alloc_new ((w.alloc (.cells zeroCells 37)).alloc (.cells #[.string s, .int .i64 4, .int .i64 0] 92)) (.cells zeroCells 37)
    simpa using this
def PostRD (w : World) (r : Except Nat Bk) (e : Ending) (w' : World) : Prop :=
  match r with
  | .error c => e = .returned (.tuple #[.agg zeroCells, .int .i64 (c : Int)]) ∧ Below w.heap.size w w'
  | .ok b => ∃ vr v0 v1 v2 v3, e = .returned (.tuple #[.agg #[.int .i64 (b.least : Int), .string b.tryT, vr, v0, v1, v2, v3], .int .i64 0]) ∧ Below w.heap.size w w' ∧ RepsAt w' vr b.reps ∧ b.secs.length = 4 ∧ SecP w' (fun g => w.heap.size ≤ g) [v0, v1, v2, v3] b.secs
theorem results_rbook (bb : Nat) (x0 x1 x2 x3 x4 x5 x6 y : Value) (w : World) (tmps : Array Value) (h2 : tmps[2]?.getD undef = .pointer (some ⟨bb, 0, none⟩)) (h3 : tmps[3]?.getD undef = y)
    (hb : w.heap[bb]? = some (.cells #[x0, x1, x2, x3, x4, x5, x6] 37 (0, 0))) :
    (results Try.f16 tmps).run Try.prog w = .ok (.tuple #[.agg #[x0, x1, x2, x3, x4, x5, x6], y]) w := by
  have b0 : w.cell? ⟨bb, 0, none⟩ = some x0 := by rw [Lib.cell_of_heap hb]; rfl
  have b1 : w.cell? ⟨bb, 1, none⟩ = some x1 := by rw [Lib.cell_of_heap hb]; rfl
  have b2 : w.cell? ⟨bb, 2, none⟩ = some x2 := by rw [Lib.cell_of_heap hb]; rfl
  have b3 : w.cell? ⟨bb, 3, none⟩ = some x3 := by rw [Lib.cell_of_heap hb]; rfl
  have b4 : w.cell? ⟨bb, 4, none⟩ = some x4 := by rw [Lib.cell_of_heap hb]; rfl
  have b5 : w.cell? ⟨bb, 5, none⟩ = some x5 := by rw [Lib.cell_of_heap hb]; rfl
  have b6 : w.cell? ⟨bb, 6, none⟩ = some x6 := by rw [Lib.cell_of_heap hb]; rfl
  simp [results, Try.results16, go_sem, h2, h3, b0, b1, b2, b3, b4, b5, b6]
theorem rown_set {w W : World} {s : ByteArray} {p f : Nat} {cs : Array Value} {e size n i : Nat} {v u : Value} {xs : List Value} (h : RDSt w s W p f cs) (ho : W.ownsRow w.heap.size e size v n xs) (h1 : e ≠ 37) : (W.setCell ⟨w.heap.size + 1 + 1, i, none⟩ u).ownsRow w.heap.size e size v n xs :=
  ((Kept.refl [w.heap.size + 1 + 1] W).set _ _ _ (.inl (by simp))).own ho (fun g hg hm => by
    have := (own_ty ho hg).1
    simp only [List.mem_cons, List.not_mem_nil, or_false] at hm
    subst hm
    exact h1 (this.uniq ⟨_, h.book⟩))
theorem rownNot {W : World} {b a f B e size n : Nat} {s : ByteArray} {v : Value} {xs : List Value} (ho : W.ownsRow B e size v n xs) (hr : RRdr W b s a f) (hne : e ≠ 92) : ∀ g, v.ownBlock = some g → g ∉ [b] := fun g hg hm => by
  simp only [List.mem_cons, List.not_mem_nil, or_false] at hm
  subst hm
  exact hne ((own_ty ho hg).1.uniq ⟨_, hr⟩)
theorem rrep_info : (Try.prog.info? 77).map (fun i => (i.zero, i.size, i.bytes)) = some (some (.agg #[.string ⟨#[]⟩, .string ⟨#[]⟩]), 2, 32) := by kernel_rfl
theorem hasPrefix_no (s : ByteArray) (h : Lib.hasPrefix s.data.toList magicS.data.toList = false) (h4 : 4 ≤ s.size) : s.extract 0 4 ≠ magicS := by
  intro e
  have hp : magicS.data.toList <+: s.data.toList := by
    rw [← e]
    have : (s.extract 0 4).data.toList = s.data.toList.take 4 := by rw [extract_mkS, mkS_data]; simp
    rw [this]
    exact List.take_prefix 4 _
  unfold Lib.hasPrefix at h
  rw [List.isPrefixOf_iff_prefix.2 hp] at h
  cases h
theorem hasPrefix_yes (s : ByteArray) (h : Lib.hasPrefix s.data.toList magicS.data.toList = true) : s.extract 0 4 = magicS := by
  unfold Lib.hasPrefix at h
  have hp := List.isPrefixOf_iff_prefix.1 h
  have ht : s.data.toList.take 4 = magicS.data.toList := (List.prefix_iff_eq_take.1 hp).symm
  rw [extract_mkS]
  simp only [List.drop_zero, Nat.sub_zero]
  rw [ht]; rfl
end Go.Proofs.Ytehbjfjhalpgaaa
