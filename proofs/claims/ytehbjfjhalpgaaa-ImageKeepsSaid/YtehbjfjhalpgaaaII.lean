/-
  Encode's closures: a number, a frame behind the bytes.
  The law's empty: the book of the example.
  The fixed text of the law, decoded: by computing.
  What writes into a builder leaves: blocks that are neither builders nor rows of bytes.
  The bytes of a book: the plain law; what an automaton in shape is bounded by.
  A section's bytes: the reference's section.
  The program's Encode.
-/
import Derived.Test.YtehbjfjhalpgaaaRows
import Derived.Test.YtehbjfjhalpgaaaIH
import Derived.Test.YtehbjfjhalpgaaaIF
import Derived.Test.YtehbjfjhalpgaaaID
namespace Go.Proofs.Ytehbjfjhalpgaaa
section
open Go.RowKit

set_option maxHeartbeats 4000000 in
set_option maxRecDepth 100000 in
theorem encNum_any (B b x : Nat) (l : List UInt8) (w : World) (h : IsB B b (Lib.byteCells l) w) (hx : x ≤ 9223372036854775807) (hlen : l.length ≤ 70368744177664) (hBw : B ≤ w.heap.size) :
    Calls Try.prog 19 #[.int .i64 (x : Int), .pointer (some ⟨b, 0, none⟩)] w fun e w' => e = .returned (.tuple #[]) ∧ BAt B b (Lib.byteCells (l ++ uintB x)) w' ∧ Below B w w' := by
  have hU := Uint_any x (by omega) w
  have hl := uintB_ten x (by omega)
  have hw : IntKind.u64.wrap (x : Int) = (x : Int) := by rw [IntKind.wrap_u64]; omega
  obtain ⟨T, hT⟩ : ∃ T, mkS (uintB x) = T := ⟨_, rfl⟩
  have HT : Hid (T.data.toList = uintB x) := Lib.hid (by rw [← hT, mkS_data])
  have HTs : Hid (T.size = (uintB x).length) := Lib.hid (by rw [← hT, mkS_size])
  rw [hT] at hU
  have HU := Lib.hid hU
  have HL := Lib.hid hl
  have H := Lib.hid h
  clear hT hU hl h
  go_enter Try.func19, Try.ntmps19
  go_wp2_with fail
  refine HU.out.mono ?_
  rintro e w1 ⟨rfl, hb1⟩
  have H1 := Lib.hid (H.out.call hb1)
  have HB1 := Lib.hid (hb1.mono hBw)
  have hsz1 := hb1.size
  clear hb1
  go_wp2_with fail
  refine (writeString_any B b _ T w1 H1.out (by rw [bcells_len]; have := HTs.out; have := HL.out; omega) (by omega)).mono ?_
  rintro e w2 ⟨rfl, hat, hb2⟩
  have H2 := Lib.hid hat
  have HB2 := Lib.hid (HB1.out.trans hb2)
  clear hat hb2
  go_wp2_with fail
  go_end0
  exact ⟨rfl, by rw [← bcells_app, ← HT.out]; exact H2.out, HB2.out⟩
set_option maxHeartbeats 4000000 in
set_option maxRecDepth 100000 in
theorem encFrame_any (B b : Nat) (l : List UInt8) (ss : List ByteArray) (g o cap : Nat) (w : World) (h : IsB B b (Lib.byteCells l) w) (hn : ss.length ≤ 1000) (hg : g < w.heap.size) (hc : ∀ k (h : k < ss.length), w.cell? ⟨g, o + k, none⟩ = some (.string ss[k])) (hlen : l.length ≤ 70368744177664) (hsz : (frameS ss).1.size ≤ 1000000) (hBw : B ≤ w.heap.size) :
    Calls Try.prog 22 #[.slice (some ⟨g, o, none⟩) ss.length cap, .pointer (some ⟨b, 0, none⟩)] w fun e w' => e = .returned (.tuple #[]) ∧ BAt B b (Lib.byteCells (l ++ (frameS ss).1.data.toList)) w' ∧ Below B w w' := by
  have hF := Frame_any ss g o cap w hn hg hc
  obtain ⟨⟨T, c⟩, hT⟩ : ∃ T, frameS ss = T := ⟨_, rfl⟩
  rw [hT] at hF hsz ⊢
  dsimp only at hF hsz ⊢
  have HF := Lib.hid hF
  have H := Lib.hid h
  clear hF hT h hc
  go_enter Try.func22, Try.ntmps22
  go_wp2_with fail
  refine HF.out.mono ?_
  rintro e w1 ⟨rfl, hb1⟩
  have H1 := Lib.hid (H.out.call hb1)
  have HB1 := Lib.hid (hb1.mono hBw)
  have hsz1 := hb1.size
  clear hb1
  go_wp2_with fail
  refine (writeString_any B b _ T w1 H1.out (by rw [bcells_len]; omega) (by omega)).mono ?_
  rintro e w2 ⟨rfl, hat, hb2⟩
  have H2 := Lib.hid hat
  have HB2 := Lib.hid (HB1.out.trans hb2)
  clear hat hb2
  go_wp2_with fail
  go_end0
  exact ⟨rfl, by rw [← bcells_app]; exact H2.out, HB2.out⟩
end

section
open Go.RowKit

/-- A slice of one empty state, in a block of its own. -/
def OneSt (W : World) (B : Nat) (v : Value) : Prop := ∃ g, B ≤ g ∧ v = .slice (some ⟨g, 0, none⟩) 1 1 ∧ W.heap[g]? = some (.cells #[.bool false, .slice none 0 0] 53 (0, 0))
theorem OneSt.kept {E : List Nat} {W W' : World} {B : Nat} {v : Value} (h : OneSt W B v) (hk : Kept E W W') (hE : ∀ x ∈ E, x < B) : OneSt W' B v := by
  obtain ⟨g, h1, h2, h3⟩ := h
  exact ⟨g, h1, h2, hk.at h3 (fun hm => by have := hE g hm; omega)⟩
theorem OneSt.aut {W : World} {B : Nat} {v : Value} (h : OneSt W B v) : AutAt W (fun g => B ≤ g) v [(false, [])] := by
  obtain ⟨g, h1, rfl, h3⟩ := h
  refine ⟨_, 1, rfl, ⟨Nat.le_refl _, by unfold maxLen; omega⟩, .inr ⟨g, 0, rfl, block_lt h3, h1, fun k hk => ?_⟩⟩
  obtain rfl : k = 0 := by simpa using hk
  exact ⟨by rw [Lib.cell_of_heap h3]; rfl, .slice none 0 0, by rw [Lib.cell_of_heap h3]; rfl, none, 0, rfl, ⟨Nat.le_refl _, by unfold maxLen; omega⟩, .inl rfl⟩
structure ESt (w W : World) (cs : Array Value) : Prop where
  below : Below w.heap.size w W
  size : w.heap.size + 1 + 1 ≤ W.heap.size
  res : W.heap[w.heap.size]? = some (.cells zeroCells 26 (0, 0))
  out : W.heap[w.heap.size + 1]? = some (.cells cs 26 (0, 0))
theorem ESt.call {w W W' : World} {cs : Array Value} (h : ESt w W cs) (hk : Kept [] W W') : ESt w W' cs :=
  ⟨h.below.trans (hk.below (by have := h.size; omega) (by simp)), Nat.le_trans h.size hk.size, hk.at h.res (by simp), hk.at h.out (by simp)⟩
theorem ESt.set {w W : World} {cs : Array Value} (h : ESt w W cs) (i : Nat) (v : Value) : ESt w (W.setCell ⟨w.heap.size + 1, i, none⟩ v) (cs.setIfInBounds i v) :=
  ⟨h.below.trans (((Kept.refl [w.heap.size + 1] W).set _ _ _ (.inl (by simp))).below (by have := h.size; omega) (by simp)), by simpa [World.setCell] using h.size,
    by rw [heap_setCell_other W _ _ _ (by simp)]; exact h.res, heap_setCell_same W _ i _ _ _ h.out⟩
theorem ESt.cell {w W : World} {cs : Array Value} (h : ESt w W cs) (i : Nat) {x : Value} (hx : cs[i]? = some x) : W.cell? ⟨w.heap.size + 1, i, none⟩ = some x := by rw [Lib.cell_of_heap h.out]; exact hx
theorem ESt.fz {w W : World} {cs : Array Value} (h : ESt w W cs) (i : Nat) : W.frozen? ⟨w.heap.size + 1, i, none⟩ = false := Lib.frozen_of_heap h.out i
theorem ESt.start (w : World) (cs : Array Value) : ESt w ((w.alloc (.cells zeroCells 26)).alloc (.cells cs 26)) cs := by
  refine ⟨((Below.refl _ _).alloc (Nat.le_refl _) _).alloc (by simp) _, by simp, ?_, ?_⟩
  · rw [Below.heap_alloc _ _ _ (by simp)]
    exact heap_alloc_new w _
  · have := heap_alloc_new (w.alloc (.cells zeroCells 26)) (.cells cs 26)
    simpa using this
theorem eres_store {w W : World} {cs : Array Value} (x0 x1 x2 x3 x4 x5 x6 : Value) (h : ESt w W cs) :
    let Z := (((((((W.setCell ⟨w.heap.size, 0, none⟩ x0).setCell ⟨w.heap.size, 1, none⟩ x1).setCell ⟨w.heap.size, 2, none⟩ x2).setCell ⟨w.heap.size, 3, none⟩ x3).setCell ⟨w.heap.size, 4, none⟩ x4).setCell ⟨w.heap.size, 5, none⟩ x5).setCell ⟨w.heap.size, 6, none⟩ x6)
    Z.heap[w.heap.size]? = some (.cells #[x0, x1, x2, x3, x4, x5, x6] 26 (0, 0)) ∧ Kept [w.heap.size] W Z ∧ Below w.heap.size w Z := by
  intro Z
  have hz := heap_setCell_same _ w.heap.size 6 _ _ x6 (heap_setCell_same _ w.heap.size 5 _ _ x5 (heap_setCell_same _ w.heap.size 4 _ _ x4 (heap_setCell_same _ w.heap.size 3 _ _ x3 (heap_setCell_same _ w.heap.size 2 _ _ x2 (heap_setCell_same _ w.heap.size 1 _ _ x1 (heap_setCell_same _ w.heap.size 0 _ _ x0 h.res))))))
  simp only [List.setIfInBounds_toArray, List.set_cons_zero, List.set_cons_succ] at hz
  have hk : Kept [w.heap.size] W Z := (((((((Kept.refl [w.heap.size] W).set _ _ _ (.inl (by simp))).set _ _ _ (.inl (by simp))).set _ _ _ (.inl (by simp))).set _ _ _ (.inl (by simp))).set _ _ _ (.inl (by simp))).set _ _ _ (.inl (by simp))).set _ _ _ (.inl (by simp))
  exact ⟨hz, hk, h.below.trans (hk.below h.below.size (by simp))⟩
theorem OneSt.base {W : World} {B B' : Nat} {v : Value} (h : OneSt W B v) (hB : B' ≤ B) : OneSt W B' v := by
  obtain ⟨g, h1, h2, h3⟩ := h
  exact ⟨g, by omega, h2, h3⟩
def OnesTo (W : World) (B j : Nat) (vs : List Value) : Prop := ∀ k, k < j → OneSt W B (vs.getD k undef)
theorem OnesTo.step {w W : World} {j : Nat} {vs vs' : List Value} {i : Nat} (h : OnesTo W (w.heap.size + 1 + 1) j vs) (hw : w.heap.size + 1 + 1 ≤ W.heap.size) (hv : vs'.getD j undef = .slice (some ⟨W.heap.size, 0, none⟩) 1 1) (hs : ∀ k, k < j → vs'.getD k undef = vs.getD k undef) :
    OnesTo ((W.alloc (.cells #[.bool false, .slice none 0 0] 53)).setCell ⟨w.heap.size + 1, i, none⟩ (.slice (some ⟨W.heap.size, 0, none⟩) 1 1)) (w.heap.size + 1 + 1) (j + 1) vs' := by
  intro k hk
  have hK : Kept [w.heap.size + 1] W ((W.alloc (.cells #[.bool false, .slice none 0 0] 53)).setCell ⟨w.heap.size + 1, i, none⟩ (.slice (some ⟨W.heap.size, 0, none⟩) 1 1)) := ((Kept.refl _ _).alloc _).set _ _ _ (.inl (by simp))
  by_cases e : k = j
  · subst e
    rw [hv]
    refine ⟨W.heap.size, hw, rfl, ?_⟩
    rw [heap_setCell_other _ ⟨w.heap.size + 1, i, none⟩ _ _ (by simp; omega)]
    exact heap_alloc_new W _
  · rw [hs k (by omega)]
    exact (h k (by omega)).kept hK (by simp)
theorem results_empty (bb : Nat) (x0 x1 x2 x3 x4 x5 x6 : Value) (w : World) (tmps : Array Value) (h2 : tmps[0]?.getD undef = .pointer (some ⟨bb, 0, none⟩))
    (hb : w.heap[bb]? = some (.cells #[x0, x1, x2, x3, x4, x5, x6] 26 (0, 0))) :
    (results Try.f33 tmps).run Try.prog w = .ok (.agg #[x0, x1, x2, x3, x4, x5, x6]) w := by
  have b0 : w.cell? ⟨bb, 0, none⟩ = some x0 := by rw [Lib.cell_of_heap hb]; rfl
  have b1 : w.cell? ⟨bb, 1, none⟩ = some x1 := by rw [Lib.cell_of_heap hb]; rfl
  have b2 : w.cell? ⟨bb, 2, none⟩ = some x2 := by rw [Lib.cell_of_heap hb]; rfl
  have b3 : w.cell? ⟨bb, 3, none⟩ = some x3 := by rw [Lib.cell_of_heap hb]; rfl
  have b4 : w.cell? ⟨bb, 4, none⟩ = some x4 := by rw [Lib.cell_of_heap hb]; rfl
  have b5 : w.cell? ⟨bb, 5, none⟩ = some x5 := by rw [Lib.cell_of_heap hb]; rfl
  have b6 : w.cell? ⟨bb, 6, none⟩ = some x6 := by rw [Lib.cell_of_heap hb]; rfl
  simp [results, Try.results33, go_sem, h2, b0, b1, b2, b3, b4, b5, b6]
set_option maxHeartbeats 4000000 in
set_option maxRecDepth 100000 in
theorem empty_any (w : World) : Calls Try.prog 33 #[] w fun e w' => ∃ s0 s1 s2 s3, e = .returned (.agg #[.int .i64 3, .string ⟨#[]⟩, .slice none 0 0, s0, s1, s2, s3]) ∧ Below w.heap.size w w' ∧ OneSt w' w.heap.size s0 ∧ OneSt w' w.heap.size s1 ∧ OneSt w' w.heap.size s2 ∧ OneSt w' w.heap.size s3 := by
  go_enter Try.func33, Try.ntmps33
  go_wp2_with fail
  obtain ⟨W0, hW0⟩ : ∃ W0, (w.alloc (.cells zeroCells 26)).alloc (.cells #[.int .i64 3, .string ⟨#[]⟩, .slice none 0 0, .slice none 0 0, .slice none 0 0, .slice none 0 0, .slice none 0 0] 26) = W0 := ⟨_, rfl⟩
  have HE0 : Hid (ESt w W0 #[.int .i64 3, .string ⟨#[]⟩, .slice none 0 0, .slice none 0 0, .slice none 0 0, .slice none 0 0, .slice none 0 0]) := Lib.hid (by rw [← hW0]; exact ESt.start _ _)
  rw [hW0]
  clear hW0
  go_loopw [2, 4] (fun _ i W => ∃ (j : Nat) (s0 s1 s2 s3 : Value), j ≤ 4 ∧ i = .int .i64 j ∧ Hid (ESt w W #[.int .i64 3, .string ⟨#[]⟩, .slice none 0 0, s0, s1, s2, s3]) ∧ Hid (OnesTo W (w.heap.size + 1 + 1) j [s0, s1, s2, s3])) (fun _ i _ => 4 - (intOf i).toNat)
  case atStart => exact ⟨0, _, _, _, _, by omega, rfl, HE0, Lib.hid (fun _ h => absurd h (Nat.not_lt_zero _))⟩
  case round =>
    obtain ⟨j, s0, s1, s2, s3, hj, rfl, HE, HO⟩ := hrel
    by_cases hlt : j < 4
    · have hj4 : j = 0 ∨ j = 1 ∨ j = 2 ∨ j = 3 := by omega
      have hc : ∀ ob i x, #[.int .i64 3, .string ⟨#[]⟩, .slice none 0 0, s0, s1, s2, s3][i]? = some x → (wr.alloc ob).cell? ⟨w.heap.size + 1, i, none⟩ = some x := fun ob i x hx => (HE.out.call ((Kept.refl [] _).alloc ob)).cell i hx
      have d3 := fun ob => hc ob 3 _ rfl
      have d4 := fun ob => hc ob 4 _ rfl
      have d5 := fun ob => hc ob 5 _ rfl
      have d6 := fun ob => hc ob 6 _ rfl
      have g3 : ∀ ob i, (wr.alloc ob).frozen? ⟨w.heap.size + 1, i, none⟩ = false := fun ob i => (HE.out.call ((Kept.refl [] _).alloc ob)).fz i
      have HEa := Lib.hid (HE.out.call ((Kept.refl [] _).alloc (.cells #[.bool false, .slice none 0 0] 53)))
      clear hc
      rcases hj4 with rfl | rfl | rfl | rfl
      all_goals
        go_wp2_with fail
        refine ⟨⟨_ + 1, _, _, _, _, by omega, rfl, Lib.hid (HEa.out.set _ _), Lib.hid (HO.out.step HE.out.size rfl (fun k hk => by rcases k with _ | _ | _ | k <;> first | rfl | omega))⟩, by simp [intOf]⟩
    · obtain rfl : j = 4 := by omega
      obtain ⟨y0, _, e0, _⟩ := HO.out 0 (by omega)
      obtain ⟨y1, _, e1, _⟩ := HO.out 1 (by omega)
      obtain ⟨y2, _, e2, _⟩ := HO.out 2 (by omega)
      obtain ⟨y3, _, e3, _⟩ := HO.out 3 (by omega)
      obtain rfl : s0 = _ := e0
      obtain rfl : s1 = _ := e1
      obtain rfl : s2 = _ := e2
      obtain rfl : s3 = _ := e3
      have c0 := HE.out.cell 0 rfl
      have r0 : wr.cell? ⟨w.heap.size, 0, none⟩ = zeroCells[0]? := by rw [Lib.cell_of_heap HE.out.res]
      have c1 := HE.out.cell 1 rfl
      have r1 : wr.cell? ⟨w.heap.size, 1, none⟩ = zeroCells[1]? := by rw [Lib.cell_of_heap HE.out.res]
      have c2 := HE.out.cell 2 rfl
      have r2 : wr.cell? ⟨w.heap.size, 2, none⟩ = zeroCells[2]? := by rw [Lib.cell_of_heap HE.out.res]
      have c3 := HE.out.cell 3 rfl
      have r3 : wr.cell? ⟨w.heap.size, 3, none⟩ = zeroCells[3]? := by rw [Lib.cell_of_heap HE.out.res]
      have c4 := HE.out.cell 4 rfl
      have r4 : wr.cell? ⟨w.heap.size, 4, none⟩ = zeroCells[4]? := by rw [Lib.cell_of_heap HE.out.res]
      have c5 := HE.out.cell 5 rfl
      have r5 : wr.cell? ⟨w.heap.size, 5, none⟩ = zeroCells[5]? := by rw [Lib.cell_of_heap HE.out.res]
      have c6 := HE.out.cell 6 rfl
      have r6 : wr.cell? ⟨w.heap.size, 6, none⟩ = zeroCells[6]? := by rw [Lib.cell_of_heap HE.out.res]
      have rf : ∀ i, wr.frozen? ⟨w.heap.size, i, none⟩ = false := Lib.frozen_of_heap HE.out.res
      have HZ := Lib.hid (eres_store (.int .i64 3) (.string ⟨#[]⟩) (.slice none 0 0) (.slice (some ⟨y0, 0, none⟩) 1 1) (.slice (some ⟨y1, 0, none⟩) 1 1) (.slice (some ⟨y2, 0, none⟩) 1 1) (.slice (some ⟨y3, 0, none⟩) 1 1) HE.out)
      have HQ := Lib.hid (fun k (hk : k < 4) => ((HO.out k hk).kept HZ.out.2.1 (by simp; omega)).base (B' := w.heap.size) (by omega))
      go_wp2_with fail
      exact ⟨rfl, _, results_empty w.heap.size _ _ _ _ _ _ _ _ _ rfl HZ.out.1, _, _, _, _, rfl, HZ.out.2.2, HQ.out 0 (by omega), HQ.out 1 (by omega), HQ.out 2 (by omega), HQ.out 3 (by omega)⟩
end

section
open Go.RowKit

/-- The bytes that the document fixes. -/
def wakeS : ByteArray := ⟨#[72, 66, 75, 49, 3, 0, 0, 1, 0, 1, 0, 1, 0, 1, 0]⟩
set_option maxRecDepth 100000 in
theorem wake_dec : decR wakeS = .ok ⟨3, ⟨#[]⟩, [], [[(false, [])], [(false, [])], [(false, [])], [(false, [])]]⟩ := by kernel_rfl
end

section
open Go.RowKit

/-- From w to w' every block that is neither a builder nor a row of bytes is as it was. -/
def KT (w w' : World) : Prop := ∀ (k : Nat) (cs : Array Value) (t : TypeId), w.heap[k]? = some (.cells cs t (0, 0)) → t ≠ 59 → t ≠ 5 → w'.heap[k]? = some (.cells cs t (0, 0))
theorem KT.refl (w : World) : KT w w := fun _ _ _ h _ _ => h
theorem KT.trans {a b c : World} (h : KT a b) (k : KT b c) : KT a c := fun i cs t hi h1 h2 => k i cs t (h i cs t hi h1 h2) h1 h2
theorem KT.of_below {w w' : World} (h : Below w.heap.size w w') : KT w w' := fun k _ _ hk _ _ => (h.block k (block_lt hk)).trans hk
theorem KT.alloc (w : World) (o : Obj) : KT w (w.alloc o) := KT.of_below ((Below.refl _ _).alloc (Nat.le_refl _) _)
theorem KT.set {w : World} {b : Nat} {bs : Array Value} (hb : w.heap[b]? = some (.cells bs 59 (0, 0))) (i : Nat) (v : Value) : KT w (w.setCell ⟨b, i, none⟩ v) := fun k cs t hk h1 _ => by
  rw [heap_setCell_other w ⟨b, i, none⟩ k v (fun e => by
    have e : k = b := e
    subst e
    rw [hk] at hb
    injection hb with hb
    injection hb with _ hb _
    exact h1 hb)]
  exact hk
theorem KT.grown {w w' : World} {B n : Nat} {v : Value} {xs : List Value} (ho : w.ownsRow B 5 1 v n xs) (hg : w.grownBy w' v.ownBlock) : KT w w' := fun k cs t hk _ h2 => by
  rw [hg.block k (block_lt hk) (fun e => h2 (Ty.uniq ⟨cs, hk⟩ (own_ty ho e.symm).1))]
  exact hk

theorem copyCheck_ty (B b : Nat) (bs : List Value) (w : World) (h : IsB B b bs w) :
    Calls Try.prog 47 #[.pointer (some ⟨b, 0, none⟩)] w fun e w' => e = .returned (.tuple #[]) ∧ (BAt B b bs w' ∧ Below B w w' ∧ KT w w') := by
  rcases h with h | h
  · refine (copyCheck_fresh b w h.cell0 h.shape h.frozen0).mono ?_
    rintro e w' ⟨rfl, rfl⟩
    have hB := h.1
    have hu := h.used (.pointer (some ⟨b, 0, none⟩))
    obtain ⟨_, v, hb, _⟩ := h
    exact ⟨rfl, hu, (Below.refl B w).setCell (p := ⟨b, 0, none⟩) hB _, KT.set hb _ _⟩
  · refine (copyCheck_used b w h.cell0).mono ?_
    rintro e w' ⟨rfl, rfl⟩
    exact ⟨rfl, h, Below.refl B _, KT.refl _⟩

set_option maxHeartbeats 2000000 in
set_option maxRecDepth 100000 in
theorem writeByte_ty (B b : Nat) (bs : List Value) (c : Int) (w : World) (h : IsB B b bs w) (hlen : bs.length + 1 ≤ 140737488355328) (hBw : B ≤ w.heap.size) :
    Calls Try.prog 24 #[.pointer (some ⟨b, 0, none⟩), .int .u8 c] w fun e w' => e = .returned .nilIface ∧ (BAt B b (bs ++ [.int .u8 c]) w' ∧ Below B w w' ∧ KT w w') := by
  obtain ⟨i0, hi, hz0, hz1, hz2⟩ := info_parts byte_info
  go_enter Try.func24, Try.ntmps24
  go_wp2_with (go_at_call 47; refine (copyCheck_ty B b bs _ h).mono ?_)
  rintro e w1 ⟨rfl, h1, hb1, hk1⟩
  obtain ⟨hB, v, hbk, hown, hne⟩ := h1
  have c0 : w1.cell? ⟨b, 0, none⟩ = some (.pointer (some ⟨b, 0, none⟩)) := by rw [Lib.cell_of_heap hbk]; rfl
  have c1 : w1.cell? ⟨b, 1, none⟩ = some v := by rw [Lib.cell_of_heap hbk]; rfl
  have HK1 := Lib.hid hk1
  clear hk1
  go_wp2_with (at_builtin; refine wpList_append_own _ rfl _ _ 57 rfl B 5 i0 (.int .u8 0) 1 1 Try.underlying57 hi hz0 hz1 hz2 rfl (by decide) _ _ _ rfl (hown.alloc _) ⟨w1.heap.size, 0, none⟩ 1 1 [.int .u8 c] rfl rfl ?c1 ?c2 ?c3 ?c4 ?c5 ?_)
  case c1 =>
    intro j u hj
    match j, hj with
    | 0, hj => simp at hj; subst hj; simp [Addr.add]
  case c2 => intro u hu; simp at hu; subst hu; rfl
  case c3 => unfold maxLen; omega
  case c4 => omega
  case c5 => have := hb1.size; simp; omega
  intro v' w2 hown' hgrow _
  have hlt : b < w1.heap.size := by
    rcases Nat.lt_or_ge b w1.heap.size with h' | h'
    · exact h'
    · simp [Array.getElem?_eq_none h'] at hbk
  have hb2 : w2.heap[b]? = some (.cells #[.pointer (some ⟨b, 0, none⟩), v] 59 (0, 0)) := by
    rw [hgrow.block b (by simp; omega) (fun e => hne e.symm), Lib.alloc_old w1 _ b hlt]
    exact hbk
  have HK2 : Hid (KT w w2) := Lib.hid (HK1.out.trans ((KT.alloc w1 _).trans (KT.grown (hown.alloc _) hgrow)))
  have HK3 : Hid (∀ u, KT w (w2.setCell ⟨b, 1, none⟩ u)) := Lib.hid (fun u => HK2.out.trans (KT.set hb2 1 u))
  have d0 : w2.cell? ⟨b, 0, none⟩ = some (.pointer (some ⟨b, 0, none⟩)) := by rw [Lib.cell_of_heap hb2]; rfl
  have d1 : w2.cell? ⟨b, 1, none⟩ = some v := by rw [Lib.cell_of_heap hb2]; rfl
  have f1 : w2.frozen? ⟨b, 1, none⟩ = false := Lib.frozen_of_heap hb2 1
  obtain ⟨g, cap, rfl⟩ : ∃ g cap, v' = .slice (some ⟨g, 0, none⟩) (bs.length + 1) cap := by
    rcases hown'.2 with ⟨_, h0⟩ | ⟨g, cap, cur, hv, _⟩
    · omega
    · exact ⟨g, cap, hv⟩
  go_wp2
  go_ret
  refine ⟨rfl, ?_, ?_, HK3.out _⟩
  · exact Lib.BuilderAt.put (T := 59) (e := 5) hB hb2 (bs' := bs ++ [.int .u8 c]) (by simpa using hown') (by decide)
  · exact ((hb1.alloc (by have := hb1.size; omega) _).grown hgrow (by have := hb1.size; simp; omega) (fun k hk => (hown.lt k hk).1)).setCell (p := ⟨b, 1, none⟩) hB _

set_option maxHeartbeats 2000000 in
set_option maxRecDepth 100000 in
theorem writeString_ty (B b : Nat) (bs : List Value) (s : ByteArray) (w : World) (h : IsB B b bs w) (hlen : bs.length + s.size ≤ 140737488355328) (hBw : B ≤ w.heap.size) :
    Calls Try.prog 20 #[.pointer (some ⟨b, 0, none⟩), .string s] w fun e w' => e = .returned (.tuple #[.int .i64 s.size, .nilIface]) ∧ (BAt B b (bs ++ Lib.byteCells s.data.toList) w' ∧ Below B w w' ∧ KT w w') := by
  have hbc : Lib.strCells s = Lib.byteCells s.data.toList := by simp [Lib.strCells, Lib.byteCells]
  obtain ⟨i0, hi, hz0, hz1, hz2⟩ := info_parts byte_info
  go_enter Try.func20, Try.ntmps20
  go_wp2_with (go_at_call 47; refine (copyCheck_ty B b bs _ h).mono ?_)
  rintro e w1 ⟨rfl, h1, hb1, hk1⟩
  obtain ⟨hB, v, hbk, hown, hne⟩ := h1
  have c0 : w1.cell? ⟨b, 0, none⟩ = some (.pointer (some ⟨b, 0, none⟩)) := by rw [Lib.cell_of_heap hbk]; rfl
  have c1 : w1.cell? ⟨b, 1, none⟩ = some v := by rw [Lib.cell_of_heap hbk]; rfl
  have HK1 := Lib.hid hk1
  clear hk1
  go_wp2_with (at_builtin; refine Lib.wpList_append_own_string _ rfl _ _ 57 9 rfl B 5 i0 Try.underlying57 Try.underlying9 hi hz0 hz1 hz2 _ _ _ rfl hown s rfl ?c3 ?c4 ?c5 ?_)
  case c3 => unfold maxLen; omega
  case c4 => omega
  case c5 => have := hb1.size; omega
  intro v' w2 hown' hgrow _
  have hlt : b < w1.heap.size := by
    rcases Nat.lt_or_ge b w1.heap.size with h' | h'
    · exact h'
    · simp [Array.getElem?_eq_none h'] at hbk
  have hb2 : w2.heap[b]? = some (.cells #[.pointer (some ⟨b, 0, none⟩), v] 59 (0, 0)) := by
    rw [hgrow.block b hlt (fun e => hne e.symm)]
    exact hbk
  have HK2 : Hid (KT w w2) := Lib.hid (HK1.out.trans (KT.grown hown hgrow))
  have HK3 : Hid (∀ u, KT w (w2.setCell ⟨b, 1, none⟩ u)) := Lib.hid (fun u => HK2.out.trans (KT.set hb2 1 u))
  have d0 : w2.cell? ⟨b, 0, none⟩ = some (.pointer (some ⟨b, 0, none⟩)) := by rw [Lib.cell_of_heap hb2]; rfl
  have d1 : w2.cell? ⟨b, 1, none⟩ = some v := by rw [Lib.cell_of_heap hb2]; rfl
  have f1 : w2.frozen? ⟨b, 1, none⟩ = false := Lib.frozen_of_heap hb2 1
  have hbl : Below B w w2 := hb1.grown hgrow (by have := hb1.size; omega) (fun k hk => (hown.lt k hk).1)
  have HF := Lib.hid (Lib.BuilderAt.put (T := 59) (e := 5) hB hb2 (bs' := bs ++ Lib.strCells s) (by rw [List.length_append, Lib.strCells_length]; exact hown') (by decide))
  have HBl := Lib.hid hbl
  rw [hbc] at HF
  have hform : v' = .slice none 0 0 ∨ ∃ g n cap, v' = .slice (some ⟨g, 0, none⟩) n cap := by
    rcases hown'.2 with ⟨hv, h0⟩ | ⟨g, cap, cur, hv, _⟩
    · first | exact .inl hv | (subst h0; exact .inl hv)
    · exact .inr ⟨g, _, cap, hv⟩
  clear hown' hbl hown hbk hb2 hgrow hbc
  rcases hform with rfl | ⟨g, n, cap, rfl⟩
  all_goals
    go_wp2
    go_ret2
    exact ⟨rfl, HF.out, HBl.out.setCell (p := ⟨b, 1, none⟩) hB _, HK3.out _⟩

set_option maxHeartbeats 4000000 in
set_option maxRecDepth 100000 in
theorem encNum_ty (B b x : Nat) (l : List UInt8) (w : World) (h : IsB B b (Lib.byteCells l) w) (hx : x ≤ 9223372036854775807) (hlen : l.length ≤ 70368744177664) (hBw : B ≤ w.heap.size) :
    Calls Try.prog 19 #[.int .i64 (x : Int), .pointer (some ⟨b, 0, none⟩)] w fun e w' => e = .returned (.tuple #[]) ∧ IsB B b (Lib.byteCells (l ++ uintB x)) w' ∧ Below B w w' ∧ KT w w' := by
  have hU := Uint_any x (by omega) w
  have hl := uintB_ten x (by omega)
  have hw : IntKind.u64.wrap (x : Int) = (x : Int) := by rw [IntKind.wrap_u64]; omega
  obtain ⟨T, hT⟩ : ∃ T, mkS (uintB x) = T := ⟨_, rfl⟩
  have HT : Hid (T.data.toList = uintB x) := Lib.hid (by rw [← hT, mkS_data])
  have HTs : Hid (T.size = (uintB x).length) := Lib.hid (by rw [← hT, mkS_size])
  rw [hT] at hU
  have HU := Lib.hid hU
  have HL := Lib.hid hl
  have H := Lib.hid h
  clear hT hU hl h
  go_enter Try.func19, Try.ntmps19
  go_wp2_with fail
  refine HU.out.mono ?_
  rintro e w1 ⟨rfl, hb1⟩
  have H1 := Lib.hid (H.out.call hb1)
  have HB1 := Lib.hid (hb1.mono hBw)
  have HK1 := Lib.hid (KT.of_below hb1)
  have hsz1 := hb1.size
  clear hb1
  go_wp2_with fail
  refine (writeString_ty B b _ T w1 H1.out (by rw [bcells_len]; have := HTs.out; have := HL.out; omega) (by omega)).mono ?_
  rintro e w2 ⟨rfl, hat, hb2, hk2⟩
  have H2 := Lib.hid hat
  have HB2 := Lib.hid (HB1.out.trans hb2)
  have HK2 := Lib.hid (HK1.out.trans hk2)
  clear hat hb2 hk2
  go_wp2_with fail
  go_end0
  exact ⟨rfl, by rw [← bcells_app, ← HT.out]; exact H2.out.is, HB2.out, HK2.out⟩
set_option maxHeartbeats 4000000 in
set_option maxRecDepth 100000 in
theorem encFrame_ty (B b : Nat) (l : List UInt8) (ss : List ByteArray) (g o cap : Nat) (w : World) (h : IsB B b (Lib.byteCells l) w) (hn : ss.length ≤ 1000) (hg : g < w.heap.size) (hc : ∀ k (h : k < ss.length), w.cell? ⟨g, o + k, none⟩ = some (.string ss[k])) (hlen : l.length ≤ 70368744177664) (hsz : (frameS ss).1.size ≤ 1000000) (hBw : B ≤ w.heap.size) :
    Calls Try.prog 22 #[.slice (some ⟨g, o, none⟩) ss.length cap, .pointer (some ⟨b, 0, none⟩)] w fun e w' => e = .returned (.tuple #[]) ∧ IsB B b (Lib.byteCells (l ++ (frameS ss).1.data.toList)) w' ∧ Below B w w' ∧ KT w w' := by
  have hF := Frame_any ss g o cap w hn hg hc
  obtain ⟨⟨T, c⟩, hT⟩ : ∃ T, frameS ss = T := ⟨_, rfl⟩
  rw [hT] at hF hsz ⊢
  dsimp only at hF hsz ⊢
  have HF := Lib.hid hF
  have H := Lib.hid h
  clear hF hT h hc
  go_enter Try.func22, Try.ntmps22
  go_wp2_with fail
  refine HF.out.mono ?_
  rintro e w1 ⟨rfl, hb1⟩
  have H1 := Lib.hid (H.out.call hb1)
  have HB1 := Lib.hid (hb1.mono hBw)
  have HK1 := Lib.hid (KT.of_below hb1)
  have hsz1 := hb1.size
  clear hb1
  go_wp2_with fail
  refine (writeString_ty B b _ T w1 H1.out (by rw [bcells_len]; omega) (by omega)).mono ?_
  rintro e w2 ⟨rfl, hat, hb2, hk2⟩
  have H2 := Lib.hid hat
  have HB2 := Lib.hid (HB1.out.trans hb2)
  have HK2 := Lib.hid (HK1.out.trans hk2)
  clear hat hb2 hk2
  go_wp2_with fail
  go_end0
  exact ⟨rfl, by rw [← bcells_app]; exact H2.out.is, HB2.out, HK2.out⟩
end

section
open Go.RowKit

def encE (e : Ed) : List UInt8 := e.1 :: uintB e.2.toNat
def stN (x : St) : Nat := 2 * x.2.length + (if x.1 = true then 1 else 0)
def encS (x : St) : List UInt8 := uintB (stN x) ++ x.2.flatMap encE
def encA (A : List St) : List UInt8 := uintB A.length ++ A.flatMap encS
def encRep (r : Rp) : List UInt8 := (frameS [r.1, r.2]).1.data.toList
def encH (n : Nat) (t : ByteArray) (rs : List Rp) : List UInt8 := magicS.data.toList ++ uintB n ++ (frameS [t]).1.data.toList ++ uintB rs.length ++ rs.flatMap encRep
def encL (n : Nat) (t : ByteArray) (rs : List Rp) (As : List (List St)) : List UInt8 := encH n t rs ++ As.flatMap encA
/-- What both Encodes answer. -/
def encV (n : Int) (t : ByteArray) (rs : List Rp) (As : List (List St)) : ByteArray × Int :=
  if settingsB n t rs = false then (⟨#[]⟩, 201) else if As.all shapeB = true then (mkS (encL n.toNat t rs As), 0) else (⟨#[]⟩, 190)
theorem encV_set (n : Int) (t : ByteArray) (rs : List Rp) (As : List (List St)) (h : settingsB n t rs = false) : encV n t rs As = (⟨#[]⟩, 201) := if_pos h
theorem encV_ok (n : Int) (t : ByteArray) (rs : List Rp) (As : List (List St)) (h : settingsB n t rs = true) (hs : ∀ A ∈ As, shapeB A = true) : encV n t rs As = (mkS (encL n.toNat t rs As), 0) := by
  unfold encV
  rw [if_neg (by rw [h]; simp), if_pos (List.all_eq_true.2 hs)]
theorem encV_bad (n : Int) (t : ByteArray) (rs : List Rp) (As : List (List St)) (h : settingsB n t rs = true) (j : Nat) (hj : j < As.length) (hs : shapeB As[j] = false) : encV n t rs As = (⟨#[]⟩, 190) := by
  unfold encV
  rw [if_neg (by rw [h]; simp), if_neg (fun h => by
    have := List.all_eq_true.1 h _ (List.getElem_mem hj)
    rw [hs] at this; cases this)]
theorem flat_snoc {α : Type} (l : List α) (f : α → List UInt8) (k : Nat) (h : k < l.length) : (l.take (k + 1)).flatMap f = (l.take k).flatMap f ++ f l[k] := by
  rw [List.take_succ_eq_append_getElem h, List.flatMap_append]; simp
theorem flat_len {α : Type} (l : List α) (f : α → List UInt8) (c : Nat) (h : ∀ x ∈ l, (f x).length ≤ c) : (l.flatMap f).length ≤ c * l.length := by
  induction l with
  | nil => simp
  | cons a l ih =>
    have h1 := h a (by simp)
    have h2 := ih (fun x hx => h x (by simp [hx]))
    rw [List.flatMap_cons, List.length_append, List.length_cons, Nat.mul_add]
    omega
theorem flat_take_len {α : Type} (l : List α) (f : α → List UInt8) (c n k : Nat) (h : ∀ x ∈ l, (f x).length ≤ c) (hn : l.length ≤ n) : ((l.take k).flatMap f).length ≤ c * n := by
  refine Nat.le_trans (flat_len _ f c (fun x hx => h x (List.mem_of_mem_take hx))) (Nat.mul_le_mul_left c ?_)
  rw [List.length_take]
  omega

/-! ### Settings -/
theorem settings_parts {n : Int} {t : ByteArray} {rs : List Rp} (h : settingsB n t rs = true) : 1 ≤ n ∧ n ≤ 64 ∧ rs.length ≤ 256 ∧ tryOk t = true ∧ ∀ r ∈ rs, repOk r = true := by
  unfold settingsB at h
  simp only [Bool.and_eq_true, decide_eq_true_eq, List.all_eq_true] at h
  obtain ⟨⟨⟨⟨h1, h2⟩, h3⟩, h4⟩, h5⟩ := h
  exact ⟨h1, h2, h3, h4, h5⟩
theorem repOk_parts {r : Rp} (h : repOk r = true) : 0 < r.1.size ∧ r.1.size ≤ 32 ∧ r.2.size ≤ 32 := by
  unfold repOk at h
  simp only [Bool.and_eq_true, decide_eq_true_eq] at h
  obtain ⟨⟨h1, _, h2⟩, _, h3⟩ := h
  exact ⟨h1, h2, h3⟩
theorem frameS_len (ss : List ByteArray) : (frameS ss).1.size ≤ 265 * ss.length ∧ (frameS ss).1.data.toList.length ≤ 265 * ss.length := by
  have key : (frameS ss).1.size ≤ 265 * ss.length := by
    unfold frameS
    split
    · rename_i h
      rw [mkS_size]
      exact frameL_len ss h
    · exact Nat.zero_le _
  exact ⟨key, by rw [len_toList]; exact key⟩
theorem encRep_len (r : Rp) : (encRep r).length ≤ 530 := (frameS_len _).2

/-! ### Automata in shape -/
def GoodE (N : Nat) (es : List Ed) : Prop := (∀ e ∈ es, 0 ≤ e.2 ∧ e.2 < (N : Int)) ∧ es.Pairwise (fun a b => a.1.toNat < b.1.toNat)
theorem GoodE.mono {N M : Nat} {es : List Ed} (h : GoodE N es) (hM : N ≤ M) : GoodE M es := ⟨fun e he => ⟨(h.1 e he).1, by have := (h.1 e he).2; omega⟩, h.2⟩
def Gd (A : List St) (m m' : Nat) : Prop := ∀ k, m ≤ k → k < m' → ∃ x, A[k]? = some x ∧ GoodE m' x.2
theorem Gd.trans {A : List St} {a b c : Nat} (h : Gd A a b) (k : Gd A b c) (hbc : b ≤ c) : Gd A a c := fun i h1 h2 => by
  by_cases hb : i < b
  · obtain ⟨x, hx, hg⟩ := h i h1 hb
    exact ⟨x, hx, hg.mono hbc⟩
  · exact k i (by omega) h2
theorem visEs_good (A : List St) (rec : Int → Nat → Dn → Option (Nat × Dn)) (hrec : ∀ n m d m' d', rec n m d = some (m', d') → m ≤ m' ∧ 0 ≤ n ∧ n < (m' : Int) ∧ Gd A m m') :
    ∀ (es : List Ed) (prev : Option UInt8) (m : Nat) (d : Dn) (m' : Nat) (d' : Dn), visEs rec prev es m d = some (m', d') → m ≤ m' ∧ Gd A m m' ∧ GoodE m' es ∧ ∀ p, prev = some p → ∀ e ∈ es, p.toNat < e.1.toNat
  | [], prev, m, d, m', d', h => by
    unfold visEs at h
    injection h with h
    injection h with h1 h2
    subst h1
    exact ⟨Nat.le_refl _, fun k h1 h2 => by omega, ⟨fun e he => by simp at he, List.Pairwise.nil⟩, fun p _ e he => by simp at he⟩
  | e :: es, prev, m, d, m', d', h => by
    rw [visEs_cons] at h
    have hp : ∀ p, prev = some p → p.toNat < e.1.toNat := fun p hpp => by
      subst hpp
      rcases Nat.lt_or_ge p.toNat e.1.toNat with h' | h'
      · exact h'
      · rw [if_pos (by simpa using h')] at h
        cases h
    have h' : (match rec e.2 m d with | none => none | some (m', d') => visEs rec (some e.1) es m' d') = some (m', d') := by
      cases prev with
      | none => rw [if_neg Bool.false_ne_true] at h; exact h
      | some p =>
        have := hp p rfl
        rw [if_neg (by simp only [decide_eq_true_eq]; omega)] at h
        exact h
    cases hr : rec e.2 m d with
    | none => rw [hr] at h'; cases h'
    | some r =>
      obtain ⟨m1, d1⟩ := r
      rw [hr] at h'
      obtain ⟨h1, h2, h3, h4⟩ := hrec _ _ _ _ _ hr
      obtain ⟨i1, i2, i3, i4⟩ := visEs_good A rec hrec es (some e.1) m1 d1 m' d' h'
      refine ⟨by omega, h4.trans i2 i1, ⟨fun x hx => ?_, List.Pairwise.cons (fun x hx => i4 _ rfl x hx) i3.2⟩, fun p hpp x hx => ?_⟩
      · rcases List.mem_cons.1 hx with rfl | hx
        · exact ⟨h2, by omega⟩
        · exact i3.1 x hx
      · have := hp p hpp
        rcases List.mem_cons.1 hx with rfl | hx
        · omega
        · have := i4 _ rfl x hx
          omega
theorem vis_good (A : List St) : ∀ (f : Nat) (n : Int) (m : Nat) (d : Dn) (m' : Nat) (d' : Dn), vis A f n m d = some (m', d') → m ≤ m' ∧ 0 ≤ n ∧ n < (m' : Int) ∧ Gd A m m'
  | 0, n, m, d, m', d', h => by rw [vis] at h; cases h
  | f + 1, n, m, d, m', d', h => by
    rw [vis] at h
    split at h
    · split at h
      · rename_i hn
        injection h with h
        injection h with h1 h2
        subst h1
        exact ⟨Nat.le_refl _, hn.1, hn.2.1, fun k h1 h2 => by omega⟩
      · cases h
    · rename_i hnm
      split at h
      · cases h
      · rename_i x hx
        split at h
        · cases h
        · split at h
          · cases h
          · rename_i m1 d1 hes
            injection h with h
            injection h with h1 h2
            subst h1
            obtain ⟨i1, i2, i3, _⟩ := visEs_good A (vis A f) (fun n m d m' d' h => vis_good A f n m d m' d' h) _ _ _ _ _ _ hes
            refine ⟨by omega, by omega, by omega, fun k h1 h2 => ?_⟩
            by_cases hk : k = m
            · subst hk
              exact ⟨x, hx, i3⟩
            · exact i2 k (by omega) h2
theorem shape_parts {A : List St} (h : shapeB A = true) : 0 < A.length ∧ A.length ≤ 1048576 ∧ ∀ x ∈ A, GoodE A.length x.2 := by
  unfold shapeB at h
  rw [Bool.and_eq_true, Bool.and_eq_true, decide_eq_true_eq, decide_eq_true_eq] at h
  obtain ⟨⟨h1, h2⟩, h3⟩ := h
  refine ⟨h1, h2, fun x hx => ?_⟩
  split at h3
  · cases h3
  · rename_i m d hv
    have hm : m = A.length := by simpa using h3
    obtain ⟨_, _, _, hg⟩ := vis_good A _ _ _ _ _ _ hv
    obtain ⟨k, hk, rfl⟩ := List.mem_iff_getElem.1 hx
    obtain ⟨y, hy, hgy⟩ := hg k (Nat.zero_le _) (by omega)
    rw [List.getElem?_eq_getElem hk] at hy
    injection hy with hy
    rw [hy, ← hm]
    exact hgy
theorem up_len : ∀ (l : List Nat) (b c : Nat), b ≤ c → l.Pairwise (· < ·) → (∀ x ∈ l, b ≤ x ∧ x < c) → l.length ≤ c - b
  | [], b, c, _, _, _ => Nat.zero_le _
  | a :: l, b, c, hbc, hp, hr => by
    have ha := hr a (by simp)
    cases hp with
    | cons h1 h2 =>
      have := up_len l (a + 1) c (by omega) h2 (fun x hx => ⟨h1 x hx, (hr x (by simp [hx])).2⟩)
      rw [List.length_cons]
      omega
theorem GoodE.len {N : Nat} {es : List Ed} (h : GoodE N es) : es.length ≤ 256 := by
  have := up_len (es.map fun e => e.1.toNat) 0 256 (by omega) (by rw [List.pairwise_map]; exact h.2) (fun x hx => by
    obtain ⟨e, _, rfl⟩ := List.mem_map.1 hx
    exact ⟨Nat.zero_le _, e.1.toNat_lt⟩)
  simpa using this
theorem encE_len {N : Nat} {es : List Ed} (h : GoodE N es) (hN : N ≤ 1048576) : ∀ e ∈ es, (encE e).length ≤ 11 := fun e he => by
  have h1 := h.1 e he
  have := uintB_ten e.2.toNat (by omega)
  unfold encE
  rw [List.length_cons]
  omega
theorem stN_le {x : St} (h : x.2.length ≤ 256) : stN x ≤ 513 := by unfold stN; split <;> omega
theorem encS_len {N : Nat} {x : St} (h : GoodE N x.2) (hN : N ≤ 1048576) : (encS x).length ≤ 2826 := by
  have hl := h.len
  have h1 := uintB_ten (stN x) (by have := stN_le hl; omega)
  have h2 := flat_len x.2 encE 11 (encE_len h hN)
  unfold encS
  rw [List.length_append]
  omega
theorem encA_len {A : List St} (h : shapeB A = true) : (encA A).length ≤ 2963275786 := by
  obtain ⟨_, h2, h3⟩ := shape_parts h
  have e1 := uintB_ten A.length (by omega)
  have e2 := flat_len A encS 2826 (fun x hx => encS_len (h3 x hx) h2)
  unfold encA
  rw [List.length_append]
  omega
theorem encH_len {n : Nat} {t : ByteArray} {rs : List Rp} (hn : n ≤ 64) (hr : rs.length ≤ 256) : (encH n t rs).length ≤ 137000 := by
  have e1 := uintB_ten n (by omega)
  have e2 := uintB_ten rs.length (by omega)
  have e3 := (frameS_len [t]).2
  have e4 := flat_len rs encRep 530 (fun x _ => encRep_len x)
  have e5 : magicS.data.toList.length = 4 := rfl
  unfold encH
  simp only [List.length_append, List.length_cons, List.length_nil] at *
  omega
theorem encA_take_len {As : List (List St)} (hl : As.length = 4) (k : Nat) (hs : ∀ A ∈ As.take k, shapeB A = true) : ((As.take k).flatMap encA).length ≤ 11853103144 := by
  have := flat_len (As.take k) encA 2963275786 (fun A hA => encA_len (hs A hA))
  have h2 : (As.take k).length ≤ 4 := by rw [List.length_take]; omega
  omega
end

section
open Go.RowKit

/-- Bytes in memory that the call has made. -/
def OwnB (w0 W : World) (v : Value) (l : List UInt8) : Prop := Own w0 W 5 1 v l.length (Lib.byteCells l)
theorem OwnB.nil_ (w : World) : OwnB w w (.slice none 0 0) [] := Own.nil_ w _ _
theorem OwnB.size {w0 W : World} {v : Value} {l : List UInt8} (h : OwnB w0 W v l) : w0.heap.size ≤ W.heap.size := h.below.size
theorem OwnB.call {w0 W W' : World} {v : Value} {l : List UInt8} (h : OwnB w0 W v l) (hb : Below W.heap.size W W') : OwnB w0 W' v l := Own.call h hb
theorem put_b (w0 w : World) (v : Value) (l : List UInt8) (s : ByteArray) (ho : OwnB w0 w v l) (hn : l.length + s.size ≤ 140737488355328) :
    Calls Try.prog 28 #[v, .string s] w fun e w' => ∃ v', e = .returned v' ∧ OwnB w0 w' v' (l ++ s.data.toList) :=
  (put_any w0 w v l.length l s ho hn).mono fun e w' ⟨v', he, h⟩ => ⟨v', he, by unfold OwnB; rw [List.length_append, len_toList]; exact h⟩
theorem number_b (w0 w : World) (v : Value) (l : List UInt8) (x : Int) (h0 : 0 ≤ x) (hx : x ≤ 9223372036854775807) (ho : OwnB w0 w v l) (hn : l.length + 10 ≤ 140737488355328) :
    Calls Try.prog 29 #[v, .int .i64 x] w fun e w' => ∃ v', e = .returned v' ∧ OwnB w0 w' v' (l ++ uintB x.toNat) := by
  obtain ⟨n, rfl⟩ : ∃ n : Nat, x = n := ⟨x.toNat, by omega⟩
  exact (number_any w0 w v l.length l n (by omega) ho hn).mono fun e w' ⟨v', he, h⟩ => ⟨v', he, by unfold OwnB; rw [List.length_append]; exact h⟩
theorem encS_true (es : List Ed) : uintB (2 * (es.length : Int) + 1).toNat ++ es.flatMap encE = encS (true, es) := by
  unfold encS stN
  rw [show (2 * (es.length : Int) + 1).toNat = 2 * (true, es).2.length + (if (true, es).1 = true then 1 else 0) by simp; omega]
theorem encS_false (es : List Ed) : uintB (2 * (es.length : Int)).toNat ++ es.flatMap encE = encS (false, es) := by
  unfold encS stN
  rw [show (2 * (es.length : Int)).toNat = 2 * (false, es).2.length + (if (false, es).1 = true then 1 else 0) by simp; omega]

set_option maxHeartbeats 8000000 in
set_option maxRecDepth 100000 in
theorem rsection_any (w0 w : World) (v av : Value) (l : List UInt8) (A : List St) (ho : OwnB w0 w v l) (hA : AutAt w0 (fun _ => True) av A) (hs : shapeB A = true) (hn : l.length ≤ 70368744177664) :
    Calls Try.prog 31 #[v, av] w fun e w' => ∃ v', e = .returned v' ∧ OwnB w0 w' v' (l ++ encA A) := by
  obtain ⟨i0, hi, hz0, hz1, hz2⟩ := info_parts byte_info
  obtain ⟨hp1, hp2, hp3⟩ := shape_parts hs
  obtain ⟨AX, acap, rfl, hac, hA0⟩ := hA
  have HA0 := Lib.hid hA0
  have HG := Lib.hid hp3
  have HO0 := Lib.hid ho
  have hNi : (A.length : Int) ≤ 1048576 := by omega
  have hlt0 := (uintB_ten A.length (by omega))
  have HLen : Hid (∀ k, (l ++ uintB A.length ++ (A.take k).flatMap encS).length ≤ 70371707453450) := Lib.hid (fun k => by
    have := flat_take_len A encS 2826 1048576 k (fun x hx => encS_len (hp3 x hx) hp2) hp2
    rw [List.length_append, List.length_append]
    omega)
  clear hA0 hac hs ho hp3 hlt0
  go_enter Try.func31, Try.ntmps31
  go_wp2_with fail
  refine (number_b w0 _ v l A.length (by omega) (by omega) HO0.out (by omega)).mono ?_
  rintro e w1 ⟨v1, rfl, ho1⟩
  have HO1 := Lib.hid ho1
  clear ho1
  go_wp2_with fail
  go_loopw [0, 5, 6, 7] (fun u i _ _ W => ∃ k : Nat, k ≤ A.length ∧ i = .int .i64 k ∧ Hid (OwnB w0 W u (l ++ uintB A.length ++ (A.take k).flatMap encS))) (fun _ i _ _ _ => A.length - (intOf i).toNat)
  case atStart => exact ⟨0, Nat.zero_le _, rfl, Lib.hid (by have := HO1.out; simpa using this)⟩
  case round =>
    obtain ⟨k, hk, rfl, HO⟩ := hrel
    rename World => wo
    by_cases hlt : k < A.length
    · obtain ⟨g, o, hAX, hg, hp, hcs⟩ := HA0.out.resolve_left (by omega)
      subst hAX
      obtain ⟨a0, ev, a1, hEv⟩ := hcs k hlt
      have hGk := HG.out A[k] (List.getElem_mem hlt)
      have hSn := flat_snoc A encS k hlt
      obtain ⟨⟨fin, es⟩, hx⟩ : ∃ x, A[k] = x := ⟨_, rfl⟩
      rw [hx] at a0 hEv hGk hSn
      dsimp only at a0 hEv hGk
      have hEl := hGk.len
      obtain ⟨EX, ecap, rfl, hec, hE1⟩ := hEv
      have x0 := (HO.out.below.cell (p := ⟨g, o + k * 2, none⟩) hg).trans a0
      have x1 := (HO.out.below.cell (p := ⟨g, o + k * 2 + 1, none⟩) hg).trans a1
      have HE1 := Lib.hid hE1
      have HA1 := Lib.hid a1
      have HSn := Lib.hid hSn
      have HGk := Lib.hid hGk
      have HLk := Lib.hid (HLen.out k)
      have HLt : Hid (True → k + 1 ≤ A.length) := Lib.hid (fun _ => hlt)
      have hEi : (es.length : Int) ≤ 256 := by omega
      obtain ⟨L, hL⟩ : ∃ L, l ++ uintB A.length ++ (A.take k).flatMap encS = L := ⟨_, rfl⟩
      rw [hL] at HO HLk
      have HL := Lib.hid hL
      clear hx hcs hE1 hSn hGk a0 a1 hEl hec hL
      cases fin
      all_goals
        go_wp2_with fail
        refine (number_b w0 _ _ L _ (by omega) (by omega) HO.out (by have := HLk.out; omega)).mono ?_
        rintro e w2 ⟨v2, rfl, ho2⟩
        obtain ⟨L2, hL2, hQ2, hLe2⟩ : ∃ L2, OwnB w0 w2 v2 L2 ∧ L2 ++ es.flatMap encE = L ++ encS (_, es) ∧ L2.length ≤ L.length + 10 := by
          first
            | exact ⟨_, ho2, by rw [List.append_assoc, encS_true], by rw [List.length_append]; have := uintB_ten (2 * (es.length : Int) + 1).toNat (by omega); omega⟩
            | exact ⟨_, ho2, by rw [List.append_assoc, encS_false], by rw [List.length_append]; have := uintB_ten (2 * (es.length : Int)).toNat (by omega); omega⟩
        have HO2 := Lib.hid hL2
        have HQ2 := Lib.hid hQ2
        have HLe2 := Lib.hid hLe2
        clear ho2 x0 x1 hL2 hQ2 hLe2
        go_wp2_with fail
        go_loopw [0, 7] (fun u j W => ∃ m : Nat, m ≤ es.length ∧ j = .int .i64 m ∧ Hid (OwnB w0 W u (L2 ++ (es.take m).flatMap encE))) (fun _ j _ => es.length - (intOf j).toNat)
        case atStart => exact ⟨0, Nat.zero_le _, rfl, Lib.hid (by have := HO2.out; simpa using this)⟩
        case round =>
          obtain ⟨m, hm, rfl, HOm⟩ := hrel
          have x1 := (HOm.out.below.cell (p := ⟨g, o + k * 2 + 1, none⟩) hg).trans HA1.out
          by_cases hlm : m < es.length
          · obtain ⟨eg, eo, hEX, heg, hep, hec2⟩ := HE1.out.resolve_left (by omega)
            subst hEX
            obtain ⟨e0, e1⟩ := hec2 m hlm
            have hEsn := flat_snoc es encE m hlm
            have hGe := HGk.out.1 es[m] (List.getElem_mem hlm)
            obtain ⟨⟨eb, et⟩, hy⟩ : ∃ x, es[m] = x := ⟨_, rfl⟩
            rw [hy] at e0 e1 hEsn hGe
            dsimp only at e0 e1 hGe
            have y0 := (HOm.out.below.cell (p := ⟨eg, eo + m * 2, none⟩) heg).trans e0
            have y1 := fun W (hB : Below w0.heap.size w0 W) => (hB.cell (p := ⟨eg, eo + m * 2 + 1, none⟩) heg).trans e1
            have HY1 := Lib.hid y1
            have HEsn := Lib.hid hEsn
            have HLm : Hid (True → m + 1 ≤ es.length) := Lib.hid (fun _ => hlm)
            have hmi : (m : Int) < (es.length : Int) := by omega
            have HLg : Hid ((L2 ++ (es.take m).flatMap encE).length ≤ 70371707456276) := Lib.hid (by
              have h1 := flat_take_len es encE 11 256 m (encE_len HGk.out hp2) HGk.out.len
              have h2 := HLe2.out
              have h3 := HLk.out
              rw [List.length_append]
              omega)
            obtain ⟨M, hM⟩ : ∃ M, L2 ++ (es.take m).flatMap encE = M := ⟨_, rfl⟩
            rw [hM] at HOm HLg
            have HM := Lib.hid hM
            clear e0 e1 hEsn hy y1 hec2 hM
            go_wp2_with (at_builtin; refine wpList_push1 rfl _ _ 57 rfl w0.heap.size 5 i0 (.int .u8 0) 1 Try.underlying57 hi hz0 hz1 hz2 rfl _ _ _ rfl HOm.out.own _ rfl rfl (by have := HLg.out; unfold maxLen; omega) (by have := HLg.out; omega) HOm.out.size ?_; intro gg cc w5 hown hg5; have HO5 := Lib.hid (HOm.out.push hown hg5); clear hown hg5; have z1 := (HO5.out.below.cell (p := ⟨g, o + k * 2 + 1, none⟩) hg).trans HA1.out; have z2 := HY1.out _ HO5.out.below)
            have HB5 : Hid (OwnB w0 w5 (.slice (some ⟨gg, 0, none⟩) (M.length + 1) cc) (M ++ [eb])) := Lib.hid (by
              have := HO5.out
              unfold OwnB
              rw [← bytes_snoc, List.length_append, List.length_singleton]
              exact this)
            clear z1 z2
            refine (number_b w0 _ _ _ et hGe.1 (by have := hGe.2; omega) HB5.out (by have := HLg.out; rw [List.length_append, List.length_singleton]; omega)).mono ?_
            rintro e w6 ⟨v6, rfl, ho6⟩
            have HO6 := Lib.hid ho6
            clear ho6
            go_wp2_with fail
            go_roundw
            case rel => exact ⟨m + 1, HLm.out trivial, by go_num, Lib.hid (by rw [HEsn.out, ← List.append_assoc, HM.out]; have := HO6.out; rw [List.append_assoc, List.singleton_append] at this; exact this)⟩
            case measure => have := HLm.out trivial; simp [intOf]; omega
          · obtain rfl : m = es.length := by omega
            have HT2 : Hid (OwnB w0 wr u0 (L ++ encS (_, es))) := Lib.hid (by rw [← HQ2.out]; have := HOm.out; rwa [List.take_length] at this)
            go_wp2_with fail
            go_roundw
            case rel => exact ⟨k + 1, HLt.out trivial, by go_num, Lib.hid (by rw [HSn.out, ← List.append_assoc, HL.out]; exact HT2.out)⟩
            case measure => have := HLt.out trivial; simp [intOf]; omega
    · obtain rfl : k = A.length := by omega
      have HT : Hid (l ++ uintB A.length ++ (A.take A.length).flatMap encS = l ++ encA A) := Lib.hid (by rw [List.take_length, encA, List.append_assoc])
      go_wp2_with fail
      go_ret
      exact ⟨_, rfl, by rw [← HT.out]; exact HO.out⟩
end

section
open Go.RowKit

/-- Where Encode stands: the book's variable, the builder b behind it, which holds l. -/
structure NSt (w W : World) (b : Nat) (bk : Array Value) (l : List UInt8) : Prop where
  below : Below w.heap.size w W
  book : W.heap[w.heap.size]? = some (.cells bk 26 (0, 0))
  lt : w.heap.size < b
  isB : IsB b b (Lib.byteCells l) W
theorem NSt.bsz {w W : World} {b : Nat} {bk : Array Value} {l : List UInt8} (h : NSt w W b bk l) : b ≤ W.heap.size := Nat.le_of_lt h.isB.size
theorem NSt.step {w W W' : World} {b : Nat} {bk : Array Value} {l l' : List UInt8} (h : NSt w W b bk l) (hi : IsB b b (Lib.byteCells l') W') (hb : Below b W W') : NSt w W' b bk l' :=
  ⟨h.below.trans (hb.mono (Nat.le_of_lt h.lt)), (hb.block _ h.lt).trans h.book, h.lt, hi⟩
theorem NSt.call {w W W' : World} {b : Nat} {bk : Array Value} {l : List UInt8} (h : NSt w W b bk l) (hb : Below W.heap.size W W') : NSt w W' b bk l :=
  h.step (h.isB.call hb) (hb.mono h.bsz)
theorem NSt.alloc {w W : World} {b : Nat} {bk : Array Value} {l : List UInt8} (h : NSt w W b bk l) (o : Obj) : NSt w (W.alloc o) b bk l := h.call ((Below.refl _ _).alloc (Nat.le_refl _) _)
theorem NSt.cell {w W : World} {b : Nat} {bk : Array Value} {l : List UInt8} (h : NSt w W b bk l) (i : Nat) {x : Value} (hx : bk[i]? = some x) : W.cell? ⟨w.heap.size, i, none⟩ = some x := by rw [Lib.cell_of_heap h.book]; exact hx

theorem encNum_i (b : Nat) (x : Int) (l : List UInt8) (w : World) (h : IsB b b (Lib.byteCells l) w) (h0 : 0 ≤ x) (hx : x ≤ 9223372036854775807) (hlen : l.length ≤ 70368744177664) :
    Calls Try.prog 19 #[.int .i64 x, .pointer (some ⟨b, 0, none⟩)] w fun e w' => e = .returned (.tuple #[]) ∧ IsB b b (Lib.byteCells (l ++ uintB x.toNat)) w' ∧ Below b w w' ∧ KT w w' := by
  obtain ⟨n, rfl⟩ : ∃ n : Nat, x = n := ⟨x.toNat, by omega⟩
  exact encNum_ty b b n l w h (by omega) hlen (Nat.le_of_lt h.size)
theorem index_j (v0 v1 v2 v3 : Value) (j : Nat) (hj : j < 4) (w : World) : (Instr.index 24 (.agg #[v0, v1, v2, v3]) (.int .i64 (j : Int))).run Try.prog w = .ok ([v0, v1, v2, v3].getD j undef) w := by
  rcases j with _ | _ | _ | _ | j
  · exact index_0 v0 v1 v2 v3 w
  · exact index_1 v0 v1 v2 v3 w
  · exact index_2 v0 v1 v2 v3 w
  · exact index_3 v0 v1 v2 v3 w
  · omega

set_option maxHeartbeats 8000000 in
set_option maxRecDepth 100000 in
theorem Encode_any (n : Int) (t : ByteArray) (rs : List Rp) (As : List (List St)) (vr v0 v1 v2 v3 : Value) (w : World) (hrv : RepsAt w vr rs) (hl : As.length = 4)
    (hv : SecP w (fun _ => True) [v0, v1, v2, v3] As) (ht : t.size ≤ 140737488355327) (hrs : ∀ k (h : k < rs.length), rs[k].1.size ≤ 140737488355328 ∧ rs[k].2.size ≤ 140737488355328) :
    Calls Try.prog 10 #[.agg #[.int .i64 n, .string t, vr, v0, v1, v2, v3]] w fun e w' => e = .returned (.tuple #[.string (encV n t rs As).1, .int .i64 (encV n t rs As).2]) ∧ Below w.heap.size w w' := by
  obtain ⟨X1, cap1, rfl, hr1⟩ := hrv.row
  obtain ⟨W0, hW0⟩ : ∃ W0, w.alloc (.cells #[.int .i64 n, .string t, .slice X1 rs.length cap1, v0, v1, v2, v3] 26) = W0 := ⟨_, rfl⟩
  have hb0 : Below w.heap.size w W0 := by rw [← hW0]; exact (Below.refl _ _).alloc (Nat.le_refl _) _
  have hbk0 : W0.heap[w.heap.size]? = some (.cells #[.int .i64 n, .string t, .slice X1 rs.length cap1, v0, v1, v2, v3] 26 (0, 0)) := by rw [← hW0]; exact heap_alloc_new w _
  have hz0 : W0.heap.size = w.heap.size + 1 := by rw [← hW0]; simp
  have HSet := Lib.hid (settings_any n t rs (.slice X1 rs.length cap1) v0 v1 v2 v3 W0 (by
    obtain ⟨A, cap, hv, hA⟩ := hrv
    refine ⟨A, cap, hv, ?_⟩
    rcases hA with hA | ⟨g, o, hA, hg, hcs⟩
    · exact .inl hA
    · exact .inr ⟨g, o, hA, Nat.lt_of_lt_of_le hg hb0.size, fun k h => ⟨(hb0.cell (p := ⟨g, _, none⟩) hg).trans (hcs k h).1, (hb0.cell (p := ⟨g, _, none⟩) hg).trans (hcs k h).2⟩⟩) ht hrs)
  have c0 : W0.cell? ⟨w.heap.size, 0, none⟩ = some (.int .i64 n) := by rw [Lib.cell_of_heap hbk0]; rfl
  have c1 : W0.cell? ⟨w.heap.size, 1, none⟩ = some (.string t) := by rw [Lib.cell_of_heap hbk0]; rfl
  have c2 : W0.cell? ⟨w.heap.size, 2, none⟩ = some (.slice X1 rs.length cap1) := by rw [Lib.cell_of_heap hbk0]; rfl
  have c3 : W0.cell? ⟨w.heap.size, 3, none⟩ = some v0 := by rw [Lib.cell_of_heap hbk0]; rfl
  have c4 : W0.cell? ⟨w.heap.size, 4, none⟩ = some v1 := by rw [Lib.cell_of_heap hbk0]; rfl
  have c5 : W0.cell? ⟨w.heap.size, 5, none⟩ = some v2 := by rw [Lib.cell_of_heap hbk0]; rfl
  have c6 : W0.cell? ⟨w.heap.size, 6, none⟩ = some v3 := by rw [Lib.cell_of_heap hbk0]; rfl
  have HW0 := Lib.hid hW0
  have HB0 := Lib.hid hb0
  have HBk0 := Lib.hid hbk0
  have HZ0 := Lib.hid hz0
  have HR1 := Lib.hid hr1
  have HV := Lib.hid hv
  have HL := Lib.hid hl
  clear hW0 hb0 hbk0 hz0 hr1 hv hl hrv hrs
  cases hset : settingsB n t rs
  · have HN := Lib.hid (encV_set n t rs As hset)
    rw [hset] at HSet
    clear hset
    go_enter Try.func10, Try.ntmps10
    go_wp2_with fail
    rw [HW0.out]
    go_wp2_with fail
    refine HSet.out.mono ?_
    rintro e w1 ⟨rfl, hb1⟩
    have HB1 := Lib.hid (HB0.out.trans (hb1.mono HB0.out.size))
    clear hb1
    go_wp2_with fail
    go_ret2
    exact ⟨by rw [HN.out]; rfl, HB1.out⟩
  · rw [hset] at HSet
    obtain ⟨hn1, hn2, hr3, ht4, hr5⟩ := settings_parts hset
    obtain ⟨m, rfl⟩ : ∃ m : Nat, n = m := ⟨n.toNat, by omega⟩
    have HSt := Lib.hid hset
    clear hset ht4 hr5
    go_enter Try.func10, Try.ntmps10
    go_wp2_with fail
    rw [HW0.out]
    go_wp2_with fail
    refine HSet.out.mono ?_
    rintro e w1 ⟨rfl, hb1⟩
    have HB1 := Lib.hid (HB0.out.trans (hb1.mono HB0.out.size))
    have HBk1 := Lib.hid ((hb1.block _ (by have := HZ0.out; omega)).trans HBk0.out)
    clear hb1 c0 c1 c2 c3 c4 c5 c6
    go_wp2_with fail
    obtain ⟨b, hb⟩ : ∃ b, w1.heap.size = b := ⟨_, rfl⟩
    obtain ⟨W1, hW1⟩ : ∃ W, w1.alloc (.cells #[.pointer none, .slice none 0 0] 59) = W := ⟨_, rfl⟩
    have HN1 : Hid (NSt w W1 b #[.int .i64 m, .string t, .slice X1 rs.length cap1, v0, v1, v2, v3] []) := Lib.hid (by
      rw [← hW1, ← hb]
      exact ⟨HB1.out.alloc HB1.out.size _, by rw [Below.heap_alloc _ _ _ (block_lt HBk1.out)]; exact HBk1.out, block_lt HBk1.out, fresh_isB w1⟩)
    rw [hW1, hb]
    clear hW1 hb
    refine (writeString_ty b b _ _ W1 HN1.out.isB (by show 0 + 4 ≤ _; omega) HN1.out.bsz).mono ?_
    rintro e w2 ⟨rfl, hat, hb2, hk2⟩
    have HN2 : Hid (NSt w w2 b #[.int .i64 m, .string t, .slice X1 rs.length cap1, v0, v1, v2, v3] magicS.data.toList) := Lib.hid (HN1.out.step (by have := hat.is; rw [bcells_app] at this; exact this) hb2)
    clear hat hb2 hk2
    have c0 := HN2.out.cell 0 rfl
    go_wp2_with fail
    clear c0
    refine (encNum_ty b b m _ w2 HN2.out.isB (by omega) (by show 4 ≤ _; omega) HN2.out.bsz).mono ?_
    rintro e w3 ⟨rfl, hi3, hb3, hk3⟩
    have HN3 := Lib.hid (HN2.out.step hi3 hb3)
    clear hi3 hb3 hk3
    have c1 := HN3.out.cell 1 rfl
    go_wp2_with fail
    clear c1
    have hH1 : (magicS.data.toList ++ uintB m).length ≤ 14 := by rw [List.length_append]; have := uintB_ten m (by omega); show 4 + _ ≤ _; omega
    have hF1 := (frameS_len [t])
    have hU1 := uintB_ten rs.length (by omega)
    have HF1 := Lib.hid hF1
    have HH1 := Lib.hid hH1
    have HU1 := Lib.hid hU1
    have HN4 := Lib.hid (HN3.out.alloc (.cells #[.string t] 9))
    clear hF1 hH1 hU1
    refine (encFrame_ty b b _ [t] w3.heap.size 0 1 _ HN4.out.isB (by simp) (by simp) (fun k hk => by obtain rfl : k = 0 := by simpa using hk
                                                                                                     rw [Lib.cell_of_heap (heap_alloc_new w3 _)]; rfl) (by have := HH1.out; omega) (by have := HF1.out.1; simp at this; omega) HN4.out.bsz).mono ?_
    rintro e w5 ⟨rfl, hi5, hb5, hk5⟩
    have HN5 := Lib.hid (HN4.out.step hi5 hb5)
    clear hi5 hb5 hk5
    have c2 := HN5.out.cell 2 rfl
    go_wp2_with fail
    clear c2
    refine (encNum_ty b b rs.length _ w5 HN5.out.isB (by omega) (by have := HH1.out; have := HF1.out.2; simp only [List.length_append, List.length_cons, List.length_nil] at *; omega) HN5.out.bsz).mono ?_
    rintro e w6 ⟨rfl, hi6, hb6, hk6⟩
    have HN6 := Lib.hid (HN5.out.step hi6 hb6)
    clear hi6 hb6 hk6
    have c2 := HN6.out.cell 2 rfl
    go_wp2_with fail
    clear c2
    obtain ⟨P0, hP0⟩ : ∃ P, magicS.data.toList ++ uintB m ++ (frameS [t]).1.data.toList ++ uintB rs.length = P := ⟨_, rfl⟩
    have HPl : Hid (P0.length ≤ 300) := Lib.hid (by rw [← hP0]; have := HH1.out; have := HF1.out.2; have := HU1.out; simp only [List.length_append, List.length_cons, List.length_nil] at *; omega)
    have HPe : Hid (encH m t rs = P0 ++ rs.flatMap encRep) := Lib.hid (by rw [← hP0]; rfl)
    rw [hP0] at HN6
    clear hP0 HN1 HN2 HN3 HN4 HN5 HH1 HF1 HU1
    go_loopw [8, 39] (fun _ i W => ∃ k : Nat, k ≤ rs.length ∧ i = .int .i64 k ∧ Hid (NSt w W b #[.int .i64 m, .string t, .slice X1 rs.length cap1, v0, v1, v2, v3] (P0 ++ (rs.take k).flatMap encRep))) (fun _ i _ => rs.length - (intOf i).toNat)
    case atStart => exact ⟨0, Nat.zero_le _, rfl, Lib.hid (by have := HN6.out; simpa using this)⟩
    case round =>
      obtain ⟨k, hk, rfl, HN⟩ := hrel
      by_cases hlt : k < rs.length
      · obtain ⟨g, o, hX1, hg, d0', d1'⟩ := HR1.out k hlt
        subst hX1
        have d0 := (HN.out.below.cell (p := ⟨g, o + k * 2, none⟩) hg).trans d0'
        have d1 := (HN.out.below.cell (p := ⟨g, o + k * 2 + 1, none⟩) hg).trans d1'
        have hSn := flat_snoc rs encRep k hlt
        obtain ⟨⟨f, to⟩, hy⟩ : ∃ x, rs[k] = x := ⟨_, rfl⟩
        rw [hy] at d0 d1 hSn
        dsimp only at d0 d1
        have HSn := Lib.hid hSn
        have HLt : Hid (True → k + 1 ≤ rs.length) := Lib.hid (fun _ => hlt)
        have hki : (k : Int) < (rs.length : Int) := by omega
        have HLl : Hid ((P0 ++ (rs.take k).flatMap encRep).length ≤ 140000) := Lib.hid (by
          have h1 := flat_take_len rs encRep 530 256 k (fun x _ => encRep_len x) hr3
          have h2 := HPl.out
          rw [List.length_append]; omega)
        obtain ⟨L, hL⟩ : ∃ L, P0 ++ (rs.take k).flatMap encRep = L := ⟨_, rfl⟩
        rw [hL] at HN HLl
        have HL := Lib.hid hL
        clear d0' d1' hSn hy hL hlt
        go_wp2_with fail
        refine (encFrame_ty b b L [f, to] (wr.heap.size + 1) 0 2 _ ((HN.out.alloc _).alloc _).isB (by simp) (by simp) (fun k hk => by
          have hnew := heap_alloc_new (wr.alloc (.cells #[.string f, .string to] 50)) (.cells #[.string f, .string to] 9)
          rw [show (wr.alloc (.cells #[.string f, .string to] 50)).heap.size = wr.heap.size + 1 by simp] at hnew
          rw [Lib.cell_of_heap hnew]
          rcases k with _ | _ | k
          · rfl
          · rfl
          · simp at hk; omega) (by have := HLl.out; omega) (by have := (frameS_len [f, to]).1; simp at this; omega) ((HN.out.alloc _).alloc _).bsz).mono ?_
        rintro e w8 ⟨rfl, hi8, hb8, hk8⟩
        have HN8 := Lib.hid (((HN.out.alloc _).alloc _).step hi8 hb8)
        clear hi8 hb8 hk8 d0 d1
        go_wp2_with fail
        refine ⟨⟨k + 1, HLt.out trivial, by go_num, Lib.hid (by rw [HSn.out, ← List.append_assoc, HL.out]; exact HN8.out)⟩, by have := HLt.out trivial; simp [intOf]; omega⟩
      · obtain rfl : k = rs.length := by omega
        obtain ⟨H, hH⟩ : ∃ H, encH m t rs = H := ⟨_, rfl⟩
        have HHl : Hid (H.length ≤ 137000) := Lib.hid (by rw [← hH]; exact encH_len (by omega) hr3)
        have HN7 : Hid (NSt w wr b #[.int .i64 m, .string t, .slice X1 rs.length cap1, v0, v1, v2, v3] H) := Lib.hid (by
          have := HN.out
          rw [List.take_length, ← HPe.out, hH] at this
          exact this)
        have HHe := Lib.hid hH
        have d3 := HN7.out.cell 3 rfl
        have d4 := HN7.out.cell 4 rfl
        have d5 := HN7.out.cell 5 rfl
        have d6 := HN7.out.cell 6 rfl
        clear hlt hk hH HN HPl HPe HN6
        go_wp2_with fail
        clear d3 d4 d5 d6
        go_loopw [10, 12, 13, 15, 53] (fun _ _ _ _ i W => ∃ j : Nat, j ≤ 4 ∧ i = .int .i64 j ∧ Hid (NSt w W b #[.int .i64 m, .string t, .slice X1 rs.length cap1, v0, v1, v2, v3] (H ++ (As.take j).flatMap encA)) ∧ Hid (∀ A ∈ As.take j, shapeB A = true)) (fun _ _ _ _ i _ => 4 - (intOf i).toNat)
        case atStart => exact ⟨0, by omega, rfl, Lib.hid (by have := HN7.out; simpa using this), Lib.hid (fun _ h => by simp at h)⟩
        case round =>
          clear HN7
          obtain ⟨j, hj, rfl, HN, HAl⟩ := hrel
          rename World => wo
          by_cases hlt : j < 4
          · have hjl : j < As.length := by have := HL.out; omega
            have hAj := HV.out j hjl
            have hix := fun W => index_j v0 v1 v2 v3 j hlt W
            have hSn := flat_snoc As encA j hjl
            have hTk : As.take (j + 1) = As.take j ++ [As[j]] := List.take_succ_eq_append_getElem hjl
            have hLen : (H ++ (As.take j).flatMap encA).length ≤ 11853240144 := by
              have h1 := encA_take_len HL.out j HAl.out
              have h2 := HHl.out
              rw [List.length_append]; omega
            have hbad := fun h => encV_bad (m : Int) t rs As HSt.out j hjl h
            obtain ⟨A, hA⟩ : ∃ A, As[j] = A := ⟨_, rfl⟩
            obtain ⟨L, hL⟩ : ∃ L, H ++ (As.take j).flatMap encA = L := ⟨_, rfl⟩
            rw [hA] at hAj hSn hTk hbad
            rw [hL] at hLen HN
            obtain ⟨AX, acap, hvj, hac, hA0⟩ := id hAj
            rw [hvj] at hix hAj
            have HShp := Lib.hid (Shape_any A _ wo (hAj.kept (Kept.of_below (E := []) HN.out.below) (by simp)))
            have HA0 := Lib.hid hA0
            have HSn := Lib.hid hSn
            have HTk := Lib.hid hTk
            have HLen := Lib.hid hLen
            have HBad := Lib.hid hbad
            have HLe := Lib.hid hL
            have HLt : Hid (True → j + 1 ≤ 4) := Lib.hid (fun _ => hlt)
            have hji : (j : Int) < 4 := by omega
            clear hjl hAj hA0 hSn hTk hLen hbad hA hL hvj hac hlt
            cases hsh : shapeB A
            · have hsv : shapeV A = 190 := by unfold shapeV; rw [hsh]; rfl
              rw [hsv] at HShp
              have HN190 := Lib.hid (HBad.out hsh)
              clear hsv hsh
              go_wp2_with fail
              clear hix
              refine HShp.out.mono ?_
              rintro e w9 ⟨rfl, hb9⟩
              have HB9 := Lib.hid (HN.out.call hb9).below
              clear hb9
              go_wp2_with fail
              go_ret2
              exact ⟨by rw [HN190.out]; rfl, HB9.out⟩
            · have hsv : shapeV A = 0 := by unfold shapeV; rw [hsh]; rfl
              rw [hsv] at HShp
              have HSh := Lib.hid hsh
              obtain ⟨hp1, hp2, hp3⟩ := shape_parts hsh
              have HG := Lib.hid hp3
              clear hsv hsh hp3
              go_wp2_with fail
              clear hix
              refine HShp.out.mono ?_
              rintro e w9 ⟨rfl, hb9⟩
              have HN9 := Lib.hid (HN.out.call hb9)
              clear hb9
              go_wp2_with fail
              refine (encNum_i b A.length L w9 HN9.out.isB (by omega) (by omega) (by have := HLen.out; omega)).mono ?_
              rintro e w10 ⟨rfl, hi10, hb10, hk10⟩
              have HN10 := Lib.hid (HN9.out.step hi10 hb10)
              clear hi10 hb10 hk10
              go_wp2_with fail
              obtain ⟨L1, hL1⟩ : ∃ L1, L ++ uintB A.length = L1 := ⟨_, rfl⟩
              have HN11 : Hid (NSt w w10 b #[.int .i64 m, .string t, .slice X1 rs.length cap1, v0, v1, v2, v3] L1) := Lib.hid (by rw [← hL1]; exact HN10.out)
              have HL1 := Lib.hid hL1
              have HL1l : Hid (L1.length ≤ 11853240154) := Lib.hid (by rw [← hL1, List.length_append]; have := uintB_ten A.length (by omega); have := HLen.out; omega)
              clear hL1 HN9 HN10
              go_loopw [12, 13, 15, 65] (fun _ _ _ i W => ∃ k : Nat, k ≤ A.length ∧ i = .int .i64 k ∧ Hid (NSt w W b #[.int .i64 m, .string t, .slice X1 rs.length cap1, v0, v1, v2, v3] (L1 ++ (A.take k).flatMap encS))) (fun _ _ _ i _ => A.length - (intOf i).toNat)
              case atStart => exact ⟨0, Nat.zero_le _, rfl, Lib.hid (by have := HN11.out; simpa using this)⟩
              case round =>
                clear HN11
                obtain ⟨k, hk, rfl, HNk⟩ := hrel
                rename World => wp
                by_cases hlk : k < A.length
                · obtain ⟨g, o, hAX, hg, hp, hcs⟩ := HA0.out.resolve_left (by omega)
                  subst hAX
                  obtain ⟨a0, ev, a1, hEv⟩ := hcs k hlk
                  have hGk := HG.out A[k] (List.getElem_mem hlk)
                  have hSk := flat_snoc A encS k hlk
                  have hLk : (L1 ++ (A.take k).flatMap encS).length ≤ 14816516000 := by
                    have h1 := flat_take_len A encS 2826 1048576 k (fun x hx => encS_len (HG.out x hx) hp2) hp2
                    have h2 := HL1l.out
                    rw [List.length_append]; omega
                  obtain ⟨⟨fin, es⟩, hx⟩ : ∃ x, A[k] = x := ⟨_, rfl⟩
                  rw [hx] at a0 hEv hGk hSk
                  dsimp only at a0 hEv hGk
                  have hEl := hGk.len
                  obtain ⟨EX, ecap, rfl, hec, hE1⟩ := hEv
                  have x0 := (HNk.out.below.cell (p := ⟨g, o + k * 2, none⟩) hg).trans a0
                  have x1 := (HNk.out.below.cell (p := ⟨g, o + k * 2 + 1, none⟩) hg).trans a1
                  obtain ⟨M, hM⟩ : ∃ M, L1 ++ (A.take k).flatMap encS = M := ⟨_, rfl⟩
                  rw [hM] at HNk hLk
                  have HE1 := Lib.hid hE1
                  have HSk := Lib.hid hSk
                  have HGk := Lib.hid hGk
                  have HLk := Lib.hid hLk
                  have HM := Lib.hid hM
                  have HLt3 : Hid (True → k + 1 ≤ A.length) := Lib.hid (fun _ => hlk)
                  have hEi : (es.length : Int) ≤ 256 := by omega
                  have hki : (k : Int) < (A.length : Int) := by omega
                  have HNb := Lib.hid (HNk.out.alloc (.cells #[.bool fin, .slice EX es.length ecap] 53))
                  have HKb : Hid (∀ W, KT (wp.alloc (.cells #[.bool fin, .slice EX es.length ecap] 53)) W → W.heap[wp.heap.size]? = some (.cells #[.bool fin, .slice EX es.length ecap] 53 (0, 0))) := Lib.hid (fun W hK => hK _ _ _ (heap_alloc_new wp _) (by decide) (by decide))
                  clear hx hcs hE1 hSk hGk a0 a1 hEl hec hM hLk hlk
                  cases fin
                  all_goals
                    go_wp2_with fail
                    refine (encNum_i b _ M _ HNb.out.isB (by omega) (by omega) (by have := HLk.out; omega)).mono ?_
                    rintro e w12 ⟨rfl, hi12, hb12, hk12⟩
                    have hz1 : w12.cell? ⟨wp.heap.size, 1, none⟩ = some (.slice EX es.length ecap) := by rw [Lib.cell_of_heap (HKb.out _ hk12)]; rfl
                    obtain ⟨L2, hL2, hQ2, hLe2⟩ : ∃ L2, NSt w w12 b #[.int .i64 m, .string t, .slice X1 rs.length cap1, v0, v1, v2, v3] L2 ∧ L2 ++ es.flatMap encE = M ++ encS (_, es) ∧ L2.length ≤ M.length + 10 := by
                      first
                        | exact ⟨_, HNb.out.step hi12 hb12, by rw [List.append_assoc, encS_true], by rw [List.length_append]; have := uintB_ten (2 * (es.length : Int) + 1).toNat (by omega); omega⟩
                        | exact ⟨_, HNb.out.step hi12 hb12, by rw [List.append_assoc, encS_false], by rw [List.length_append]; have := uintB_ten (2 * (es.length : Int)).toNat (by omega); omega⟩
                    have HN12 := Lib.hid hL2
                    have HQ2 := Lib.hid hQ2
                    have HLe2 := Lib.hid hLe2
                    clear hi12 hb12 hk12 x0 x1 hL2 hQ2 hLe2
                    go_wp2_with fail
                    clear hz1
                    go_loopw [15, 83] (fun _ i W => ∃ u : Nat, u ≤ es.length ∧ i = .int .i64 u ∧ Hid (NSt w W b #[.int .i64 m, .string t, .slice X1 rs.length cap1, v0, v1, v2, v3] (L2 ++ (es.take u).flatMap encE))) (fun _ i _ => es.length - (intOf i).toNat)
                    case atStart => exact ⟨0, Nat.zero_le _, rfl, Lib.hid (by have := HN12.out; simpa using this)⟩
                    case round =>
                      obtain ⟨u, hu, rfl, HNu⟩ := hrel
                      by_cases hlu : u < es.length
                      · obtain ⟨eg, eo, hEX, heg, hep, hec2⟩ := HE1.out.resolve_left (by omega)
                        subst hEX
                        obtain ⟨e0, e1⟩ := hec2 u hlu
                        have hEsn := flat_snoc es encE u hlu
                        have hGe := HGk.out.1 es[u] (List.getElem_mem hlu)
                        obtain ⟨⟨eb, et⟩, hy⟩ : ∃ x, es[u] = x := ⟨_, rfl⟩
                        rw [hy] at e0 e1 hEsn hGe
                        dsimp only at e0 e1 hGe
                        have y0 := (HNu.out.below.cell (p := ⟨eg, eo + u * 2, none⟩) heg).trans e0
                        have y1 := (HNu.out.below.cell (p := ⟨eg, eo + u * 2 + 1, none⟩) heg).trans e1
                        have HLg : Hid ((L2 ++ (es.take u).flatMap encE).length ≤ 14816519000) := Lib.hid (by
                          have h1 := flat_take_len es encE 11 256 u (encE_len HGk.out hp2) HGk.out.len
                          have h2 := HLe2.out
                          have h3 := HLk.out
                          rw [List.length_append]; omega)
                        obtain ⟨N, hN⟩ : ∃ N, L2 ++ (es.take u).flatMap encE = N := ⟨_, rfl⟩
                        rw [hN] at HNu HLg
                        have HNe := Lib.hid hN
                        have HEsn := Lib.hid hEsn
                        have HLu : Hid (True → u + 1 ≤ es.length) := Lib.hid (fun _ => hlu)
                        have hui : (u : Int) < (es.length : Int) := by omega
                        have HNv := Lib.hid (HNu.out.alloc (.cells #[.int .u8 (eb.toNat : Int), .int .i64 et] 55))
                        have HKv : Hid (∀ W, KT (wr.alloc (.cells #[.int .u8 (eb.toNat : Int), .int .i64 et] 55)) W → W.heap[wr.heap.size]? = some (.cells #[.int .u8 (eb.toNat : Int), .int .i64 et] 55 (0, 0))) := Lib.hid (fun W hK => hK _ _ _ (heap_alloc_new wr _) (by decide) (by decide))
                        clear e0 e1 hEsn hy hec2 hN hlu
                        go_wp2_with fail
                        refine (writeByte_ty b b _ _ _ HNv.out.isB (by rw [bcells_len]; have := HLg.out; omega) HNv.out.bsz).mono ?_
                        rintro e w13 ⟨rfl, hi13, hb13, hk13⟩
                        have hz1 : w13.cell? ⟨wr.heap.size, 1, none⟩ = some (.int .i64 et) := by rw [Lib.cell_of_heap (HKv.out _ hk13)]; rfl
                        have HN13 : Hid (NSt w w13 b #[.int .i64 m, .string t, .slice X1 rs.length cap1, v0, v1, v2, v3] (N ++ [eb])) := Lib.hid (HNv.out.step (by have := hi13.is; rw [bcells_snoc] at this; exact this) hb13)
                        clear hi13 hb13 hk13 y0 y1
                        go_wp2_with fail
                        clear hz1
                        refine (encNum_i b et _ _ HN13.out.isB hGe.1 (by have := hGe.2; omega) (by rw [List.length_append, List.length_singleton]; have := HLg.out; omega)).mono ?_
                        rintro e w14 ⟨rfl, hi14, hb14, hk14⟩
                        have HN14 := Lib.hid (HN13.out.step hi14 hb14)
                        clear hi14 hb14 hk14
                        go_wp2_with fail
                        refine ⟨⟨u + 1, HLu.out trivial, by go_num, Lib.hid (by rw [HEsn.out, ← List.append_assoc, HNe.out]; have := HN14.out; rw [List.append_assoc, List.singleton_append] at this; exact this)⟩, by have := HLu.out trivial; simp [intOf]; omega⟩
                      · obtain rfl : u = es.length := by omega
                        have HT2 : Hid (NSt w wr b #[.int .i64 m, .string t, .slice X1 rs.length cap1, v0, v1, v2, v3] (M ++ encS (_, es))) := Lib.hid (by rw [← HQ2.out]; have := HNu.out; rwa [List.take_length] at this)
                        clear hlu
                        go_wp2_with fail
                        refine ⟨⟨k + 1, HLt3.out trivial, by go_num, Lib.hid (by rw [HSk.out, ← List.append_assoc, HM.out]; exact HT2.out)⟩, by have := HLt3.out trivial; simp [intOf]; omega⟩
                · obtain rfl : k = A.length := by omega
                  have HT3 : Hid (NSt w wp b #[.int .i64 m, .string t, .slice X1 rs.length cap1, v0, v1, v2, v3] (L ++ encA A)) := Lib.hid (by rw [encA, ← List.append_assoc, HL1.out]; have := HNk.out; rwa [List.take_length] at this)
                  clear hlk
                  go_wp2_with fail
                  refine ⟨⟨j + 1, HLt.out trivial, by go_num, Lib.hid (by rw [HSn.out, ← List.append_assoc, HLe.out]; exact HT3.out), Lib.hid (by
                    rw [HTk.out]
                    intro B hB
                    rcases List.mem_append.1 hB with hB | hB
                    · exact HAl.out B hB
                    · obtain rfl : B = A := by simpa using hB
                      exact HSh.out)⟩, by have := HLt.out trivial; simp [intOf]; omega⟩
          · obtain rfl : j = 4 := by omega
            have HOk : Hid (encV (m : Int) t rs As = (mkS (H ++ As.flatMap encA), 0)) := Lib.hid (by
              have h4 : As.take 4 = As := List.take_of_length_le (by rw [HL.out]; omega)
              have h := HAl.out
              rw [h4] at h
              rw [encV_ok _ _ _ _ HSt.out h, encL, Int.toNat_natCast, HHe.out])
            have HN15 : Hid (NSt w wo b #[.int .i64 m, .string t, .slice X1 rs.length cap1, v0, v1, v2, v3] (H ++ As.flatMap encA)) := Lib.hid (by
              have h4 : As.take 4 = As := List.take_of_length_le (by rw [HL.out]; omega)
              have := HN.out
              rwa [h4] at this)
            clear hlt hj
            go_wp2_with fail
            refine (builderString_any b b _ wo HN15.out.isB HN15.out.bsz).mono ?_
            rintro e w16 ⟨rfl, hb16⟩
            have HB16 := Lib.hid (HN15.out.below.trans (hb16.mono (Nat.le_of_lt HN15.out.lt)))
            clear hb16
            go_wp2_with fail
            go_ret2
            exact ⟨by rw [HOk.out]; rfl, HB16.out⟩
end
end Go.Proofs.Ytehbjfjhalpgaaa
