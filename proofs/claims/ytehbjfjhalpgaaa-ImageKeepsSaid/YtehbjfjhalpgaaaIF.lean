/-
  The reference's reader: next, frame and edge.
  The reference's reader: automaton.
  The reference's Decode: the memory that it goes through.
-/
import Derived.Test.YtehbjfjhalpgaaaRows
import Derived.Test.YtehbjfjhalpgaaaIE
namespace Go.Proofs.Ytehbjfjhalpgaaa
section
open Go.RowKit
attribute [local go_sem ↓] Go.wp_at_zero Go.wp_at_succ

/-- The reference's reader at a place, with its fault. -/
def RRdr (w : World) (b : Nat) (s : ByteArray) (a f : Nat) : Prop := w.heap[b]? = some (.cells #[.string s, .int .i64 (a : Int), .int .i64 (f : Int)] 92 (0, 0))
theorem RRdr.cells {w : World} {b a f : Nat} {s : ByteArray} (h : RRdr w b s a f) : w.cell? ⟨b, 0, none⟩ = some (.string s) ∧ w.cell? ⟨b, 1, none⟩ = some (.int .i64 (a : Int)) ∧ w.cell? ⟨b, 2, none⟩ = some (.int .i64 (f : Int)) ∧ ∀ i, w.frozen? ⟨b, i, none⟩ = false :=
  ⟨by rw [Lib.cell_of_heap h]; rfl, by rw [Lib.cell_of_heap h]; rfl, by rw [Lib.cell_of_heap h]; rfl, Lib.frozen_of_heap h⟩
theorem RRdr.putAt {w : World} {b a f : Nat} {s : ByteArray} (h : RRdr w b s a f) (p : Nat) : RRdr (w.setCell ⟨b, 1, none⟩ (.int .i64 (p : Int))) b s p f := heap_setCell_same w b 1 _ _ _ h
theorem RRdr.putF {w : World} {b a f : Nat} {s : ByteArray} (h : RRdr w b s a f) (c : Nat) : RRdr (w.setCell ⟨b, 2, none⟩ (.int .i64 (c : Int))) b s a c := heap_setCell_same w b 2 _ _ _ h
theorem RRdr.kept {w w' : World} {E : List Nat} {b a f : Nat} {s : ByteArray} (h : RRdr w b s a f) (hk : Kept E w w') (hb : b ∉ E) : RRdr w' b s a f := hk.at h hb
def PostQ {α : Type} (b : Nat) (s : ByteArray) (w : World) (mk : α → Value) (z : Value) (r : Except Nat (α × Nat)) (e : Ending) (w' : World) : Prop :=
  match r with
  | .ok (x, p) => e = .returned (mk x) ∧ Kept [b] w w' ∧ RRdr w' b s p 0
  | .error c => e = .returned z ∧ Kept [b] w w' ∧ c ≠ 0 ∧ ∃ a', a' ≤ s.size ∧ RRdr w' b s a' c
theorem numR_err {s : ByteArray} {a c : Nat} (h : numR s a = .error c) : c ≠ 0 := by
  unfold numR at h
  split at h
  · cases h
  · rename_i h0
    injection h with h
    rw [← h]; exact h0

set_option maxHeartbeats 4000000 in
set_option maxRecDepth 100000 in
theorem next_fault (b : Nat) (s : ByteArray) (a f : Nat) (w : World) (hr : RRdr w b s a f) (hf : f ≠ 0) :
    Calls Try.prog 41 #[.pointer (some ⟨b, 0, none⟩)] w fun e w' => e = .returned (.int .u64 0) ∧ w = w' := by
  obtain ⟨c0, c1, c2, _⟩ := hr.cells
  have hf' : ((f : Int) != 0) = true := by simpa using hf
  clear hr
  go_enter Try.func41, Try.ntmps41
  go_wp2_with fail
  go_ret
  exact ⟨rfl, rfl⟩
set_option maxHeartbeats 4000000 in
set_option maxRecDepth 100000 in
theorem next_any (b : Nat) (s : ByteArray) (a : Nat) (w : World) (hr : RRdr w b s a 0) (hs : s.size ≤ 140737488355328) (ha : a ≤ s.size) :
    Calls Try.prog 41 #[.pointer (some ⟨b, 0, none⟩)] w (PostQ b s w (fun n : Nat => .int .u64 (n : Int)) (.int .u64 0) (numR s a)) := by
  obtain ⟨c0, c1, c2, fz⟩ := hr.cells
  have hq : ∀ (x : Nat), Calls Try.prog 55 #[.string s, .int .i64 a] (w.drewN x) fun e w' => e = .returned (rdV (rdU s.data.toList a)) ∧ ∃ n, w' = w.drewN n := fun x => (rReadUint_any s a _ hs (by omega)).mono fun _ _ ⟨he, hn⟩ => ⟨he, x, hn.symm⟩
  have HR := Lib.hid hr
  unfold numR
  obtain ⟨⟨n, p, e⟩, hR⟩ : ∃ r, rdU s.data.toList a = r := ⟨_, rfl⟩
  rw [hR] at hq ⊢
  have HQ := Lib.hid hq
  clear hq hR hr
  dsimp only
  unfold rdV at HQ
  dsimp only at HQ
  by_cases he : e = 0
  · subst he
    simp only [↓reduceIte]
    go_enter Try.func41, Try.ntmps41
    go_wp2_with fail
    go_quiet (first | (go_at_call 55; exact HQ.out _))
    go_wp2_with fail
    go_ret
    exact ⟨rfl, ((Kept.refl _ _).drewN _).set _ _ _ (.inl (by simp)), RRdr.putAt (w := w.drewN _) HR.out _⟩
  · have hei : ((e : Int) != 0) = true := by simpa using he
    simp only [he, ↓reduceIte]
    go_enter Try.func41, Try.ntmps41
    go_wp2_with fail
    go_quiet (first | (go_at_call 55; exact HQ.out _))
    go_wp2_with fail
    go_ret
    exact ⟨rfl, ((Kept.refl _ _).drewN _).set _ _ _ (.inl (by simp)), he, a, ha, RRdr.putF (w := w.drewN _) HR.out _⟩
set_option maxHeartbeats 4000000 in
set_option maxRecDepth 100000 in
theorem rframe_fault (b : Nat) (s : ByteArray) (a f : Nat) (w : World) (hr : RRdr w b s a f) (hf : f ≠ 0) :
    Calls Try.prog 42 #[.pointer (some ⟨b, 0, none⟩)] w fun e w' => e = .returned (.string ⟨#[]⟩) ∧ w = w' := by
  obtain ⟨c0, c1, c2, _⟩ := hr.cells
  have hf' : ((f : Int) != 0) = true := by simpa using hf
  have HN := Lib.hid (next_fault b s a f w hr hf)
  clear hr
  go_enter Try.func42, Try.ntmps42
  go_wp2_with fail
  refine HN.out.mono ?_
  rintro e w' ⟨rfl, rfl⟩
  go_wp2_with fail
  go_ret
  exact ⟨rfl, rfl⟩
set_option maxHeartbeats 4000000 in
set_option maxRecDepth 100000 in
theorem rframe_any (b : Nat) (s : ByteArray) (a : Nat) (w : World) (hr : RRdr w b s a 0) (hs : s.size ≤ 140737488355328) (ha : a ≤ s.size) :
    Calls Try.prog 42 #[.pointer (some ⟨b, 0, none⟩)] w (PostQ b s w Value.string (.string ⟨#[]⟩) (frmR s a)) := by
  have hN := next_any b s a w hr hs ha
  unfold frmR
  cases hn : numR s a with
  | error c =>
    rw [hn] at hN
    have HN := Lib.hid hN
    clear hN hn hr
    go_enter Try.func42, Try.ntmps42
    go_wp2_with fail
    refine HN.out.mono ?_
    rintro e w1 ⟨rfl, hk, hc, a', ha', hr⟩
    obtain ⟨c0, c1, c2, _⟩ := hr.cells
    have hf' : ((c : Int) != 0) = true := by simpa using hc
    have HP := Lib.hid (show Kept [b] w w1 ∧ c ≠ 0 ∧ ∃ a', a' ≤ s.size ∧ RRdr w1 b s a' c from ⟨hk, hc, a', ha', hr⟩)
    clear hk hr
    go_wp2_with fail
    go_ret
    exact ⟨rfl, HP.out⟩
  | ok r =>
    obtain ⟨n, q⟩ := r
    rw [hn] at hN
    have hq := (numR_le hn).2
    have hlt := numR_lt hn
    have HN := Lib.hid hN
    clear hN hn hr
    dsimp only
    by_cases h255 : 255 < n
    · rw [if_pos h255]
      go_enter Try.func42, Try.ntmps42
      go_wp2_with fail
      refine HN.out.mono ?_
      rintro e w1 ⟨rfl, hk, hr⟩
      obtain ⟨c0, c1, c2, fz⟩ := hr.cells
      have HK := Lib.hid hk
      have HR := Lib.hid hr
      clear hk hr HN
      go_wp2_with fail
      go_ret
      exact ⟨rfl, HK.out.set _ _ _ (.inl (by simp)), by decide, q, hq, RRdr.putF HR.out 62⟩
    · rw [if_neg h255]
      have hnw : IntKind.i64.wrap (n : Int) = (n : Int) := by rw [IntKind.wrap_i64]; omega
      have hsw : IntKind.i64.wrap ((s.size : Int) - (q : Int)) = (s.size : Int) - (q : Int) := by rw [IntKind.wrap_i64]; omega
      by_cases hsh : s.size < q + n
      · rw [if_pos hsh]
        have hlt1 : decide ((s.size : Int) - (q : Int) < (n : Int)) = true := by rw [decide_eq_true_iff]; omega
        go_enter Try.func42, Try.ntmps42
        go_wp2_with fail
        refine HN.out.mono ?_
        rintro e w1 ⟨rfl, hk, hr⟩
        obtain ⟨c0, c1, c2, fz⟩ := hr.cells
        have HK := Lib.hid hk
        have HR := Lib.hid hr
        clear hk hr HN
        go_wp2_with fail
        go_quiet (fail)
        go_wp2_with fail
        go_ret
        exact ⟨rfl, (HK.out.drewN _).set _ _ _ (.inl (by simp)), by decide, q, hq, RRdr.putF (w := w1.drewN _) HR.out 60⟩
      · rw [if_neg hsh]
        have hlt1 : decide ((s.size : Int) - (q : Int) < (n : Int)) = false := by rw [decide_eq_false_iff_not]; omega
        have HD : Hid (∀ w1 m, RRdr w1 b s q 0 → ((w1.drewN m).setCell ⟨b, 1, none⟩ (.int .i64 ((q : Int) + (n : Int)))).cell? ⟨b, 0, none⟩ = some (.string s) ∧ ((w1.drewN m).setCell ⟨b, 1, none⟩ (.int .i64 ((q : Int) + (n : Int)))).cell? ⟨b, 1, none⟩ = some (.int .i64 ((q : Int) + (n : Int)))) := Lib.hid (fun w1 m h => by
          have h' := (RRdr.putAt (w := w1.drewN m) h (q + n)).cells
          rw [Int.natCast_add] at h'
          exact ⟨h'.1, h'.2.1⟩)
        go_enter Try.func42, Try.ntmps42
        go_wp2_with fail
        refine HN.out.mono ?_
        rintro e w1 ⟨rfl, hk, hr⟩
        obtain ⟨c0, c1, c2, fz⟩ := hr.cells
        have HK := Lib.hid hk
        have HR := Lib.hid hr
        clear hk hr HN
        go_wp2_with fail
        go_quiet (fail)
        go_wp2_with fail
        obtain ⟨d0, d1⟩ := HD.out w1 nq HR.out
        obtain ⟨W2, hW⟩ : ∃ W2, (w1.drewN nq).setCell ⟨b, 1, none⟩ (.int .i64 ((q : Int) + (n : Int))) = W2 := ⟨_, rfl⟩
        rw [hW] at d0 d1 ⊢
        have HK2 : Hid (Kept [b] w W2) := Lib.hid (by rw [← hW]; exact (HK.out.drewN nq).set _ _ _ (.inl (by simp)))
        have HR2 : Hid (RRdr W2 b s (q + n) 0) := Lib.hid (by rw [← hW, ← Int.natCast_add]; exact RRdr.putAt (w := w1.drewN nq) HR.out (q + n))
        clear hW
        go_quiet (fail)
        go_wp2_with fail
        go_ret
        exact ⟨rfl, HK2.out.drewN _, HR2.out⟩
theorem frmR_err {s : ByteArray} {a c : Nat} (h : frmR s a = .error c) : c ≠ 0 := by
  unfold frmR at h
  split at h
  · rename_i c' hn
    injection h with h
    rw [← h]; exact numR_err hn
  · split at h
    · injection h with h; omega
    · split at h
      · injection h with h; omega
      · cases h
theorem results_edge (eb : Nat) (x y : Value) (w : World) (tmps : Array Value) (h4 : tmps[4]?.getD undef = .pointer (some ⟨eb, 0, none⟩)) (hb : w.heap[eb]? = some (.cells #[x, y] 113 (0, 0))) :
    (results Try.f56 tmps).run Try.prog w = .ok (.agg #[x, y]) w := by
  have b0 : w.cell? ⟨eb, 0, none⟩ = some x := by rw [Lib.cell_of_heap hb]; rfl
  have b1 : w.cell? ⟨eb, 1, none⟩ = some y := by rw [Lib.cell_of_heap hb]; rfl
  simp [results, Try.results56, go_sem, h4, b0, b1]
def edV (e : Ed) : Value := .agg #[.int .u8 (e.1.toNat : Int), .int .i64 e.2]
theorem edge_end {w W : World} {b a c : Nat} {s : ByteArray} {x0 y0 : Value} (x y : Value) (h : Kept [b] w W) (hr : RRdr W b s a c) (he : W.heap[w.heap.size]? = some (.cells #[x0, y0] 113 (0, 0))) (hb : b < w.heap.size) :
    ((W.setCell ⟨w.heap.size, 0, none⟩ x).setCell ⟨w.heap.size, 1, none⟩ y).heap[w.heap.size]? = some (.cells #[x, y] 113 (0, 0)) ∧ Kept [b] w ((W.setCell ⟨w.heap.size, 0, none⟩ x).setCell ⟨w.heap.size, 1, none⟩ y) ∧ RRdr ((W.setCell ⟨w.heap.size, 0, none⟩ x).setCell ⟨w.heap.size, 1, none⟩ y) b s a c := by
  refine ⟨heap_setCell_same _ w.heap.size 1 _ _ _ (heap_setCell_same W w.heap.size 0 _ _ _ he), (h.set _ _ _ (.inr (Nat.le_refl _))).set _ _ _ (.inr (Nat.le_refl _)), ?_⟩
  unfold RRdr
  rw [heap_setCell_other _ ⟨w.heap.size, 1, none⟩ b _ (by simp; omega), heap_setCell_other _ ⟨w.heap.size, 0, none⟩ b _ (by simp; omega)]
  exact hr
set_option maxHeartbeats 4000000 in
set_option maxRecDepth 100000 in
theorem redge_any (b : Nat) (s : ByteArray) (a n : Nat) (w : World) (hr : RRdr w b s a 0) (hs : s.size ≤ 140737488355327) (ha : a ≤ s.size) (hn : n ≤ 1048576) :
    Calls Try.prog 56 #[.pointer (some ⟨b, 0, none⟩), .int .u64 (n : Int)] w (PostQ b s w edV (.agg #[.int .u8 0, .int .i64 0]) (edgR s n a)) := by
  have hbw := block_lt hr
  have hne : w.heap.size ≠ b := by omega
  have hne' := Ne.symm hne
  obtain ⟨W0, hW0⟩ : ∃ W0, w.alloc (Obj.cells #[Value.int .u8 0, Value.int .i64 0] 113) = W0 := ⟨_, rfl⟩
  have HW0 := Lib.hid hW0
  have hr0 : RRdr W0 b s a 0 := by rw [← hW0]; exact hr.kept ((Kept.refl [] w).alloc _) (by simp)
  have he0 : W0.heap[w.heap.size]? = some (.cells #[Value.int .u8 0, Value.int .i64 0] 113 (0, 0)) := by rw [← hW0]; exact heap_alloc_new w _
  have hk0 : Kept [b] w W0 := by rw [← hW0]; exact (Kept.refl _ _).alloc _
  obtain ⟨c0, c1, c2, fz⟩ := hr0.cells
  have e0 : W0.cell? ⟨w.heap.size, 0, none⟩ = some (.int .u8 0) := by rw [Lib.cell_of_heap he0]; rfl
  have e1 : W0.cell? ⟨w.heap.size, 1, none⟩ = some (.int .i64 0) := by rw [Lib.cell_of_heap he0]; rfl
  have ef : ∀ i, W0.frozen? ⟨w.heap.size, i, none⟩ = false := Lib.frozen_of_heap he0
  have HB := Lib.hid hbw
  have HR0 := Lib.hid hr0
  have HE0 := Lib.hid he0
  have HK0 := Lib.hid hk0
  unfold edgR
  clear hr hr0 he0 hk0 hW0
  by_cases hsh : s.size < a + 1
  · rw [if_pos hsh]
    have hd : decide ((s.size : Int) ≤ (a : Int)) = true := by rw [decide_eq_true_iff]; omega
    have HZ := fun m => Lib.hid (edge_end (w := w) (W := (W0.drewN m).setCell ⟨b, 2, none⟩ (.int .i64 60)) (.int .u8 0) (.int .i64 0) ((HK0.out.drewN m).set _ _ _ (.inl (by simp))) (RRdr.putF (w := W0.drewN m) HR0.out 60) (by rw [heap_setCell_other _ ⟨b, 2, none⟩ _ _ hne]; exact HE0.out) HB.out)
    go_enter Try.func56, Try.ntmps56
    go_wp2_with fail
    rw [HW0.out]
    go_quiet (fail)
    go_wp2_with fail
    exact ⟨rfl, _, results_edge w.heap.size _ _ _ _ rfl (HZ nq).out.1, rfl, (HZ nq).out.2.1, by decide, a, ha, (HZ nq).out.2.2⟩
  · rw [if_neg hsh]
    have hd : decide ((s.size : Int) ≤ (a : Int)) = false := by rw [decide_eq_false_iff_not]; omega
    have hal : a < s.size := by omega
    have hal' : (a : Int) < (s.size : Int) := by omega
    have HBy := Lib.hid (byteAt_lt s a hal)
    have HNx : Hid (∀ W, RRdr W b s (a + 1) 0 → Calls Try.prog 41 #[.pointer (some ⟨b, 0, none⟩)] W (PostQ b s W (fun n : Nat => .int .u64 (n : Int)) (.int .u64 0) (numR s (a + 1)))) := Lib.hid (fun W h => next_any b s (a + 1) W h (by omega) (by omega))
    have HS1 : Hid (∀ m, RRdr ((W0.drewN m).setCell ⟨b, 1, none⟩ (.int .i64 ((a : Int) + 1))) b s (a + 1) 0) := Lib.hid (fun m => by
      have := RRdr.putAt (w := W0.drewN m) HR0.out (a + 1)
      rw [Int.natCast_add] at this
      exact this)
    have HS2 : Hid (∀ m W, Kept [b] ((W0.drewN m).setCell ⟨b, 1, none⟩ (.int .i64 ((a : Int) + 1))) W → Kept [b] w W ∧ W.heap[w.heap.size]? = some (.cells #[Value.int .u8 0, Value.int .i64 0] 113 (0, 0))) := Lib.hid (fun m W h => by
      refine ⟨(((HK0.out.drewN m).set _ _ _ (.inl (by simp)))).trans h, h.at (k := w.heap.size) ?_ (by simp; omega)⟩
      rw [heap_setCell_other _ ⟨b, 1, none⟩ _ _ hne]; exact HE0.out)
    clear hsh
    cases hv : numR s (a + 1) with
    | error c =>
      rw [hv] at HNx
      have hc0 := numR_err hv
      have hc' : ((c : Int) == 0) = false := by rw [beq_eq_false_iff_ne]; omega
      have hc'' : ((c : Int) != 0) = true := by simpa using hc0
      clear hv
      go_enter Try.func56, Try.ntmps56
      go_wp2_with fail
      rw [HW0.out]
      go_quiet (fail)
      go_wp2_with fail
      go_quiet (fail)
      go_wp2_with fail
      refine (HNx.out _ (HS1.out _)).mono ?_
      rintro e w2 ⟨rfl, hk, _, a', ha', hr⟩
      obtain ⟨hkw, hE⟩ := HS2.out _ _ hk
      obtain ⟨d0, d1, d2, dz⟩ := hr.cells
      have g0 : w2.cell? ⟨w.heap.size, 0, none⟩ = some (.int .u8 0) := by rw [Lib.cell_of_heap hE]; rfl
      have g1 : w2.cell? ⟨w.heap.size, 1, none⟩ = some (.int .i64 0) := by rw [Lib.cell_of_heap hE]; rfl
      have gf : ∀ i, w2.frozen? ⟨w.heap.size, i, none⟩ = false := Lib.frozen_of_heap hE
      have HZ := Lib.hid (edge_end (.int .u8 0) (.int .i64 0) hkw hr hE HB.out)
      clear hk hkw hE hr c0 c1 c2 fz e0 e1 ef
      go_wp2_with fail
      exact ⟨rfl, _, results_edge w.heap.size _ _ _ _ rfl HZ.out.1, rfl, HZ.out.2.1, hc0, a', ha', HZ.out.2.2⟩
    | ok r =>
      obtain ⟨to, p⟩ := r
      rw [hv] at HNx
      have hp := (numR_le hv).2
      clear hv
      dsimp only
      by_cases hto : n ≤ to
      · rw [if_pos hto]
        go_enter Try.func56, Try.ntmps56
        go_wp2_with fail
        rw [HW0.out]
        go_quiet (fail)
        go_wp2_with fail
        go_quiet (fail)
        go_wp2_with fail
        refine (HNx.out _ (HS1.out _)).mono ?_
        rintro e w2 ⟨rfl, hk, hr⟩
        obtain ⟨hkw, hE⟩ := HS2.out _ _ hk
        obtain ⟨d0, d1, d2, dz⟩ := hr.cells
        have g0 : w2.cell? ⟨w.heap.size, 0, none⟩ = some (.int .u8 0) := by rw [Lib.cell_of_heap hE]; rfl
        have g1 : w2.cell? ⟨w.heap.size, 1, none⟩ = some (.int .i64 0) := by rw [Lib.cell_of_heap hE]; rfl
        have gf : ∀ i, w2.frozen? ⟨w.heap.size, i, none⟩ = false := Lib.frozen_of_heap hE
        have HZ := Lib.hid (edge_end (w := w) (W := w2.setCell ⟨b, 2, none⟩ (.int .i64 190)) (.int .u8 0) (.int .i64 0) (hkw.set _ _ _ (.inl (by simp))) (RRdr.putF hr 190) (by rw [heap_setCell_other _ ⟨b, 2, none⟩ _ _ hne]; exact hE) HB.out)
        clear hk hkw hE hr c0 c1 c2 fz e0 e1 ef
        go_wp2_with fail
        exact ⟨rfl, _, results_edge w.heap.size _ _ _ _ rfl HZ.out.1, rfl, HZ.out.2.1, by decide, p, hp, HZ.out.2.2⟩
      · rw [if_neg hto]
        have htw : IntKind.i64.wrap (to : Int) = (to : Int) := by rw [IntKind.wrap_i64]; omega
        go_enter Try.func56, Try.ntmps56
        go_wp2_with fail
        rw [HW0.out]
        go_quiet (fail)
        go_wp2_with fail
        go_quiet (fail)
        go_wp2_with fail
        refine (HNx.out _ (HS1.out _)).mono ?_
        rintro e w2 ⟨rfl, hk, hr⟩
        obtain ⟨hkw, hE⟩ := HS2.out _ _ hk
        obtain ⟨d0, d1, d2, dz⟩ := hr.cells
        have g0 : w2.cell? ⟨w.heap.size, 0, none⟩ = some (.int .u8 0) := by rw [Lib.cell_of_heap hE]; rfl
        have g1 : w2.cell? ⟨w.heap.size, 1, none⟩ = some (.int .i64 0) := by rw [Lib.cell_of_heap hE]; rfl
        have gf : ∀ i, w2.frozen? ⟨w.heap.size, i, none⟩ = false := Lib.frozen_of_heap hE
        have HZ := Lib.hid (edge_end (.int .u8 (s[a].toNat : Int)) (.int .i64 (to : Int)) hkw hr hE HB.out)
        clear hk hkw hE hr c0 c1 c2 fz e0 e1 ef
        go_wp2_with fail
        exact ⟨rfl, _, results_edge w.heap.size _ _ _ _ rfl HZ.out.1, by rw [HBy.out]; rfl, HZ.out.2.1, HZ.out.2.2⟩
end

section
open Go.RowKit

theorem wpList_push_at {P : Program} {ops : Array Oper} {rest : List Oper} {o : Oper} {a : Act} {Q : Exit → Act → World → Prop} {w : World} (hgd : o.guard = none) (s x : Operand) (t : TypeId)
    (ho : o.op = .call { callee := .builtin .append, args := #[s, x], argTypes := #[t, t] })
    (base : Nat) (e : TypeId) (i : TypeInfo) (z : Value) (size bytes : Nat) (ht : P.underlying t = some (.slice e)) (hi : P.info? e = some i) (hz : i.zero = some z)
    (hsize : i.size = size) (hby : i.bytes = bytes) (hzs : z.cells.size = size) (hsz : 0 < size)
    (v : Value) (n : Nat) (xs : List Value) (hs : a.eval s = v) (hown : w.ownsRow base e size v n xs)
    (us : Array Value) (hus : us.size = size) (h1 : ∀ u ∈ us.toList, u.oneCell' = true) (b : Nat) (hx : a.eval x = .slice (some ⟨b, 0, none⟩) 1 1) (hb : b = w.heap.size)
    (h63 : n + 1 ≤ maxLen) (hbytes : (n + 1) * bytes ≤ 140737488355328) (hbase : base ≤ w.heap.size)
    (h : ∀ g cap w', w'.ownsRow base e size (.slice (some ⟨g, 0, none⟩) (n + 1) cap) (n + 1) (xs ++ us.toList) → w.grownBy w' v.ownBlock →
      wpList P ops Q rest (a.put o.dst (.slice (some ⟨g, 0, none⟩) (n + 1) cap)) w') : wpList P ops Q (o :: rest) a (w.alloc (.cells us e)) := by
  subst hb
  exact wpList_push hgd s x t ho base e i z size bytes ht hi hz hsize hby hzs hsz v n xs hs hown us hus h1 hx h63 hbytes hbase h
def PostA (b : Nat) (s : ByteArray) (w : World) (r : Except Nat (List St × Nat)) (e : Ending) (w' : World) : Prop :=
  match r with
  | .ok (A, p) => ∃ v, e = .returned v ∧ Kept [b] w w' ∧ RRdr w' b s p 0 ∧ AutAt w' (fun g => w.heap.size ≤ g) v A
  | .error c => ∃ X m cap, e = .returned (.slice X m cap) ∧ Kept [b] w w' ∧ c ≠ 0 ∧ ∃ a', a' ≤ s.size ∧ RRdr w' b s a' c
def lenV : Value → Nat
  | .slice _ m _ => m
  | _ => 0
theorem OutAt.form {w : World} {B ts te : Nat} {v : Value} {L : List (St × Value)} (h : OutAt w B ts te v L) : ∃ X cap, v = .slice X L.length cap := by
  rcases h.own.2 with ⟨rfl, h0⟩ | ⟨g, cap, cur, rfl, _⟩
  · exact ⟨none, 0, by rw [h0]⟩
  · exact ⟨_, cap, rfl⟩
theorem own_form {w : World} {B e size n : Nat} {v : Value} {xs : List Value} (h : w.ownsRow B e size v n xs) : ∃ X cap, v = .slice X n cap := by
  rcases h.2 with ⟨rfl, h0⟩ | ⟨g, cap, cur, rfl, _⟩
  · exact ⟨none, 0, by rw [h0]⟩
  · exact ⟨_, cap, rfl⟩
/-- A fault has come, and is the answer. -/
def Bad (b : Nat) (s : ByteArray) (R : Except Nat (List St × Nat)) (W : World) : Prop := ∃ c a', c ≠ 0 ∧ a' ≤ s.size ∧ R = .error c ∧ RRdr W b s a' c
theorem redge_info : (Try.prog.info? 113).map (fun i => (i.zero, i.size, i.bytes)) = some (some (.agg #[.int .u8 0, .int .i64 0]), 2, 16) := by kernel_rfl
theorem rstate_info : (Try.prog.info? 112).map (fun i => (i.zero, i.size, i.bytes)) = some (some (.agg #[.bool false, .slice none 0 0]), 2, 32) := by kernel_rfl
theorem edgR_err {s : ByteArray} {n a c : Nat} (h : edgR s n a = .error c) : c ≠ 0 := by
  unfold edgR at h
  split at h
  · injection h with h; omega
  · split at h
    · rename_i c' hn
      injection h with h
      rw [← h]; exact numR_err hn
    · split at h
      · injection h with h; omega
      · cases h

theorem edgR_le {s : ByteArray} {n a q : Nat} {e : Ed} (he : edgR s n a = .ok (e, q)) : q ≤ s.size := by
  unfold edgR at he
  split at he
  · cases he
  · split at he
    · cases he
    · rename_i t q' ht
      split at he
      · cases he
      · injection he with he
        injection he with _ h3
        have := (numR_le ht).2
        omega
set_option maxHeartbeats 8000000 in
set_option maxRecDepth 100000 in
theorem automaton_any (b : Nat) (s : ByteArray) (a : Nat) (w : World) (hr : RRdr w b s a 0) (hs : s.size ≤ 140737488355327) (ha : a ≤ s.size) :
    Calls Try.prog 43 #[.pointer (some ⟨b, 0, none⟩)] w (PostA b s w (secR s a)) := by
  have HBW := Lib.hid (block_lt hr)
  obtain ⟨i0, hi, hz0, hz1, hz2⟩ := info_parts redge_info
  obtain ⟨i1, hj, hy0, hy1, hy2⟩ := info_parts rstate_info
  have hN := next_any b s a w hr (by omega) ha
  have HNum : Hid (∀ W p, RRdr W b s p 0 → p ≤ s.size → Calls Try.prog 41 #[.pointer (some ⟨b, 0, none⟩)] W (PostQ b s W (fun n : Nat => .int .u64 (n : Int)) (.int .u64 0) (numR s p))) := Lib.hid (fun W p h hp => next_any b s p W h (by omega) hp)
  obtain ⟨R, hR⟩ : ∃ R, secR s a = R := ⟨_, rfl⟩
  rw [hR]
  have HR := Lib.hid hR
  clear hR hr
  cases hn : numR s a with
  | error c =>
    rw [hn] at hN
    have HR' : Hid (R = .error c) := Lib.hid (by rw [← HR.out, secR, hn])
    have HN := Lib.hid hN
    clear hN hn
    go_enter Try.func43, Try.ntmps43
    go_wp2_with fail
    refine HN.out.mono ?_
    rintro e w1 ⟨rfl, hk, hc, a', ha', hr⟩
    obtain ⟨c0, c1, c2, fz⟩ := hr.cells
    have hc1 : ((c : Int) == 0) = false := by rw [beq_eq_false_iff_ne]; omega
    have hc2 : ((c : Int) != 0) = true := by simpa using hc
    have HP := Lib.hid (show Kept [b] w w1 ∧ c ≠ 0 ∧ ∃ a', a' ≤ s.size ∧ RRdr w1 b s a' c from ⟨hk, hc, a', ha', hr⟩)
    clear hk hr
    go_wp2_with fail
    go_loopw [4, 5, 6, 7] (fun v4 _ _ _ W => v4 = .slice none 0 0 ∧ W = w1) (fun _ _ _ _ _ => 0)
    case atStart => exact ⟨rfl, rfl⟩
    case round =>
      obtain ⟨rfl, rfl⟩ := hrel
      go_wp2_with fail
      go_ret
      rw [HR'.out]
      exact ⟨_, _, _, rfl, HP.out⟩
  | ok r =>
    obtain ⟨n, q⟩ := r
    rw [hn] at hN
    have hq := (numR_le hn).2
    have HQ := Lib.hid hq
    have HN := Lib.hid hN
    clear hN
    by_cases hbad : n = 0 ∨ 1048576 < n
    · have HR' : Hid (R = .error 190) := Lib.hid (by rw [← HR.out, secR, hn]; exact if_pos hbad)
      have hnl := numR_lt hn
      clear hn HNum
      have hbad' : n = 0 ∨ (((n : Int) == 0) = false ∧ (1048576 : Int) < (n : Int) ∧ (0 : Int) < (n : Int)) := by
        rcases hbad with h | h
        · exact .inl h
        · exact .inr ⟨by rw [beq_eq_false_iff_ne]; omega, by omega, by omega⟩
      clear hbad
      rcases hbad' with rfl | ⟨hb1, hb2, hb3⟩
      all_goals
        go_enter Try.func43, Try.ntmps43
        go_wp2_with fail
        refine HN.out.mono ?_
        rintro e w1 ⟨rfl, hk, hr⟩
        obtain ⟨c0, c1, c2, fz⟩ := hr.cells
        have HK := Lib.hid (hk.set b 2 (.int .i64 190) (.inl (by simp)))
        have HRf : Hid (RRdr (w1.setCell ⟨b, 2, none⟩ (.int .i64 190)) b s q 190) := Lib.hid (RRdr.putF hr 190)
        clear hk hr
        go_wp2_with fail
        obtain ⟨W1, hW1⟩ : ∃ W1, w1.setCell ⟨b, 2, none⟩ (.int .i64 190) = W1 := ⟨_, rfl⟩
        rw [hW1] at HK HRf ⊢
        clear hW1 c0 c1 c2 fz
        obtain ⟨c0, c1, c2, fz⟩ := HRf.out.cells
        go_loopw [4, 5, 6, 7] (fun v4 _ _ _ W => v4 = .slice none 0 0 ∧ W = W1) (fun _ _ _ _ _ => 0)
        case atStart => exact ⟨rfl, rfl⟩
        case round =>
          obtain ⟨rfl, rfl⟩ := hrel
          go_wp2_with fail
          go_ret
          rw [HR'.out]
          exact ⟨_, _, _, rfl, HK.out, by decide, q, hq, HRf.out⟩
    · have hn0 : ((n : Int) == 0) = false := by rw [beq_eq_false_iff_ne]; omega
      have hn1 : ¬ (1048576 : Int) < (n : Int) := by omega
      have HNL : Hid (n ≤ 1048576) := Lib.hid (by omega)
      have HR' : Hid (R = match statesR s n n q with | .error c => .error c | .ok (A, p) => if shapeB A then .ok (A, p) else .error 190) := Lib.hid (by rw [← HR.out, secR, hn]; exact if_neg hbad)
      clear hn hbad HR
      obtain ⟨RS, hRS⟩ : ∃ RS, statesR s n n q = RS := ⟨_, rfl⟩
      rw [hRS] at HR'
      have HRS := Lib.hid hRS
      have HEdge : Hid (∀ W p, RRdr W b s p 0 → p ≤ s.size → Calls Try.prog 56 #[.pointer (some ⟨b, 0, none⟩), .int .u64 (n : Int)] W (PostQ b s W edV (.agg #[.int .u8 0, .int .i64 0]) (edgR s n p))) := Lib.hid (fun W p h hp => redge_any b s p n W h hs hp (by omega))
      clear hRS
      go_enter Try.func43, Try.ntmps43
      go_wp2_with fail
      refine HN.out.mono ?_
      rintro e w1 ⟨rfl, hk, hr⟩
      have HK1 := Lib.hid hk
      have HR1 := Lib.hid hr
      obtain ⟨_, _, c2, _⟩ := hr.cells
      clear hk hr HN
      go_wp2_with fail
      clear c2
      go_loopw [4, 5, 6, 7] (fun v4 _ _ _ W => ∃ (L : List (St × Value)), Hid (L.length ≤ n) ∧ Hid (Kept [b] w W) ∧ Hid (OutAt W w.heap.size 112 113 v4 L) ∧ Hid ((∃ p, p ≤ s.size ∧ RRdr W b s p 0 ∧ RS = prep (L.map (·.1)) (statesR s n (n - L.length) p)) ∨ Bad b s R W)) (fun v4 _ _ _ _ => n - lenV v4)
      case atStart => exact ⟨[], Lib.hid (Nat.zero_le _), HK1, Lib.hid (OutAt.nil_ _ _ _ _), Lib.hid (.inl ⟨q, hq, HR1.out, by rw [← HRS.out]; exact (prep_nil _).symm⟩)⟩
      case round =>
        obtain ⟨L, HLn, HK, HO, HGB⟩ := hrel
        obtain ⟨X, cap, hX⟩ := HO.out.form
        subst hX
        have hLl : (L.length : Int) ≤ 1048576 := by have := HLn.out; have := HNL.out; omega
        rcases HGB.out with ⟨p, hp, hr, hS⟩ | ⟨c, a', hc, ha', hRc, hr⟩
        rotate_left
        · have hc1 : ((c : Int) == 0) = false := by rw [beq_eq_false_iff_ne]; omega
          have hc2 : ((c : Int) != 0) = true := by simpa using hc
          obtain ⟨c0, c1, c2, fz⟩ := hr.cells
          have HB := Lib.hid (show c ≠ 0 ∧ a' ≤ s.size ∧ R = .error c ∧ RRdr wr b s a' c from ⟨hc, ha', hRc, hr⟩)
          clear hr hRc HGB
          by_cases hlt : (L.length : Int) < (n : Int)
          all_goals
            go_wp2_with fail
            go_ret
            rw [HB.out.2.2.1]
            exact ⟨_, _, _, rfl, HK.out, HB.out.1, a', HB.out.2.1, HB.out.2.2.2⟩
        · have HRd := Lib.hid hr
          have HS := Lib.hid hS
          have hp' := hp
          have HP := Lib.hid hp'
          obtain ⟨_, _, c2, _⟩ := hr.cells
          clear hr hS HGB
          by_cases hlt : L.length < n
          · have hltI : (L.length : Int) < (n : Int) := by omega
            obtain ⟨t, ht⟩ : ∃ t, n - L.length = t + 1 := ⟨n - L.length - 1, by omega⟩
            have HS1 : Hid (RS = prep (L.map (·.1)) (statesR s n (t + 1) p)) := Lib.hid (by rw [HS.out, ht])
            have HT : Hid (n - (L.length + 1) = t) := Lib.hid (by omega)
            have HLt : Hid (True → L.length + 1 ≤ n) := Lib.hid (fun _ => hlt)
            have HErr : Hid (∀ c, staR s n p = .error c → R = .error c) := Lib.hid (fun c hc => by rw [HR'.out, HS1.out, statesR_err s n t p _ c hc])
            clear ht HS hp hp' hlt
            have hN := HNum.out wr p HRd.out HP.out
            cases hv : numR s p with
            | error c =>
              rw [hv] at hN
              have HR2 : Hid (R = .error c) := Lib.hid (HErr.out c (by rw [staR, hv]))
              have HN := Lib.hid hN
              clear hN hv
              go_wp2_with fail
              refine HN.out.mono ?_
              rintro e w3 ⟨rfl, hk, hc, a', ha', hr⟩
              have HB3 : Hid (Bad b s R w3) := Lib.hid ⟨c, a', hc, ha', HR2.out, hr⟩
              have HK3 := Lib.hid (HK.out.trans hk)
              have HO3 := Lib.hid (HO.out.kept hk (by have := HBW.out; simp; omega))
              clear hk
              obtain ⟨_, _, c2, _⟩ := hr.cells
              have hc1 : ((c : Int) == 0) = false := by rw [beq_eq_false_iff_ne]; omega
              clear hr
              go_wp2_with fail
              generalize hW0 : w3.alloc (Obj.cells #[Value.bool false, Value.slice none 0 0] 112) = W0
              have HX0 : Hid (W0.heap[w3.heap.size]? = some (.cells #[Value.bool false, Value.slice none 0 0] 112 (0, 0))) := Lib.hid (by rw [← hW0]; exact heap_alloc_new w3 _)
              have HK0 : Hid (Kept [b] w W0) := Lib.hid (by rw [← hW0]; exact HK3.out.alloc _)
              have HO0 : Hid (OutAt W0 w.heap.size 112 113 (.slice X L.length cap) L) := Lib.hid (by rw [← hW0]; exact HO3.out.kept ((Kept.refl [] w3).alloc _) (by simp))
              have HB0 : Hid (Bad b s R W0) := Lib.hid (by obtain ⟨c, a', h1, h2, h3, h4⟩ := HB3.out; rw [← hW0]; exact ⟨c, a', h1, h2, h3, h4.kept ((Kept.refl [] w3).alloc _) (by simp)⟩)
              clear hW0 HO3 HO HRd HK HK3 HB3
              go_loopw [7] (fun _ W => W = W0) (fun _ _ => 0)
              case atStart => rfl
              case round =>
                subst hrel
                have x0 : wr.cell? ⟨w3.heap.size, 0, none⟩ = some (.bool false) := by rw [Lib.cell_of_heap HX0.out]; rfl
                have x1 : wr.cell? ⟨w3.heap.size, 1, none⟩ = some (.slice none 0 0) := by rw [Lib.cell_of_heap HX0.out]; rfl
                obtain ⟨cF, aF, hcF, haF, hRF, hrF⟩ := HB0.out
                have cF2 := hrF.cells.2.2.1
                have cF1 : ((cF : Int) == 0) = false := by rw [beq_eq_false_iff_ne]; omega
                clear hRF hrF
                go_wp2_with (at_builtin; refine wpList_push rfl _ _ 34 rfl w.heap.size 112 i1 _ 2 32 Try.underlying34 hj hy0 hy1 hy2 rfl (by decide) _ L.length (stCells L) rfl HO0.out.own _ rfl (by intro x hx; simp at hx; rcases hx with rfl | rfl <;> rfl) rfl (by have := HLn.out; have := HNL.out; unfold maxLen; omega) (by have := HLn.out; have := HNL.out; omega) HK0.out.size ?_; intro gg cc w8 hown hg8; have HO8 := Lib.hid hown; have HG8 : Hid (wr.grownBy w8 (Value.slice X L.length cap).ownBlock) := Lib.hid hg8; clear hown hg8)
                refine ⟨⟨L ++ [((false, []), .slice none 0 0)], Lib.hid (by rw [List.length_append]; exact HLt.out trivial), Lib.hid (HK0.out.push HO0.out.own (Nat.le_refl _) HG8.out), Lib.hid (HO0.out.push (by decide) ⟨none, 0, rfl, ⟨Nat.le_refl _, by unfold maxLen; omega⟩, .inl rfl⟩ (x := ((false, []), .slice none 0 0)) HO8.out HG8.out), Lib.hid (.inr ?_)⟩, ?_⟩
                · obtain ⟨c, a', h1, h2, h3, h4⟩ := HB0.out
                  refine ⟨c, a', h1, h2, h3, ?_⟩
                  unfold RRdr
                  rw [HG8.out.block b (block_lt h4) (fun e => by have h5 := (own_ty HO0.out.own e.symm).2; have h6 := HBW.out; omega)]
                  exact h4
                · show n - (L.length + 1) < n - L.length
                  have := HLt.out trivial; omega
            | ok r =>
              obtain ⟨v, q1⟩ := r
              rw [hv] at hN
              have HQ1 := Lib.hid (numR_le hv).2
              have hvl := numR_lt hv
              have hvw : IntKind.u64.wrap ((v : Int) / 2) = (v : Int) / 2 := by rw [IntKind.wrap_u64]; omega
              have HN := Lib.hid hN
              clear hN
              by_cases h256 : 256 < v / 2
              · have HR2 : Hid (R = .error 190) := Lib.hid (HErr.out 190 (by rw [staR, hv]; exact if_pos h256))
                have h256' : (256 : Int) < (v : Int) / 2 := by omega
                have hpos : (0 : Int) < (v : Int) / 2 := by omega
                clear hv h256
                go_wp2_with fail
                refine HN.out.mono ?_
                rintro e w3' ⟨rfl, hk, hr⟩
                obtain ⟨c0, c1, c2, fz⟩ := hr.cells
                clear c0 c1
                go_wp2_with fail
                obtain ⟨fv, hfv⟩ : ∃ fv, ((v : Int) % 2 == 1) = fv := ⟨_, rfl⟩
                rw [hfv]
                clear hfv c2 fz
                have hr3 : RRdr (w3'.setCell ⟨b, 2, none⟩ (.int .i64 190)) b s q1 190 := RRdr.putF hr 190
                have hk3 : Kept [b] wr (w3'.setCell ⟨b, 2, none⟩ (.int .i64 190)) := hk.set _ _ _ (.inl (by simp))
                have hsz3 : (w3'.setCell ⟨b, 2, none⟩ (.int .i64 190)).heap.size = w3'.heap.size := by simp [World.setCell]
                rw [← hsz3]
                generalize w3'.setCell ⟨b, 2, none⟩ (.int .i64 190) = w3 at hr3 hk3 ⊢
                clear hk hr hsz3 HN
                have hk := hk3
                have hr := hr3
                clear hk3 hr3
                have HB3 : Hid (Bad b s R w3) := Lib.hid ⟨190, q1, by decide, HQ1.out, HR2.out, hr⟩
                have HK3 := Lib.hid (HK.out.trans hk)
                have HO3 := Lib.hid (HO.out.kept hk (by have := HBW.out; simp; omega))
                clear hk
                clear hr
                generalize hW0 : w3.alloc (Obj.cells #[Value.bool fv, Value.slice none 0 0] 112) = W0
                have HX0 : Hid (W0.heap[w3.heap.size]? = some (.cells #[Value.bool fv, Value.slice none 0 0] 112 (0, 0))) := Lib.hid (by rw [← hW0]; exact heap_alloc_new w3 _)
                have HK0 : Hid (Kept [b] w W0) := Lib.hid (by rw [← hW0]; exact HK3.out.alloc _)
                have HO0 : Hid (OutAt W0 w.heap.size 112 113 (.slice X L.length cap) L) := Lib.hid (by rw [← hW0]; exact HO3.out.kept ((Kept.refl [] w3).alloc _) (by simp))
                have HB0 : Hid (Bad b s R W0) := Lib.hid (by obtain ⟨c, a', h1, h2, h3, h4⟩ := HB3.out; rw [← hW0]; exact ⟨c, a', h1, h2, h3, h4.kept ((Kept.refl [] w3).alloc _) (by simp)⟩)
                clear hW0 HO3 HO HRd HK HK3 HB3
                go_loopw [7] (fun _ W => W = W0) (fun _ _ => 0)
                case atStart => rfl
                case round =>
                  subst hrel
                  have x0 : wr.cell? ⟨w3.heap.size, 0, none⟩ = some (.bool fv) := by rw [Lib.cell_of_heap HX0.out]; rfl
                  have x1 : wr.cell? ⟨w3.heap.size, 1, none⟩ = some (.slice none 0 0) := by rw [Lib.cell_of_heap HX0.out]; rfl
                  obtain ⟨cF, aF, hcF, haF, hRF, hrF⟩ := HB0.out
                  have cF2 := hrF.cells.2.2.1
                  have cF1 : ((cF : Int) == 0) = false := by rw [beq_eq_false_iff_ne]; omega
                  clear hRF hrF
                  go_wp2_with (at_builtin; refine wpList_push rfl _ _ 34 rfl w.heap.size 112 i1 _ 2 32 Try.underlying34 hj hy0 hy1 hy2 rfl (by decide) _ L.length (stCells L) rfl HO0.out.own _ rfl (by intro x hx; simp at hx; rcases hx with rfl | rfl <;> rfl) rfl (by have := HLn.out; have := HNL.out; unfold maxLen; omega) (by have := HLn.out; have := HNL.out; omega) HK0.out.size ?_; intro gg cc w8 hown hg8; have HO8 := Lib.hid hown; have HG8 : Hid (wr.grownBy w8 (Value.slice X L.length cap).ownBlock) := Lib.hid hg8; clear hown hg8)
                  refine ⟨⟨L ++ [((fv, []), .slice none 0 0)], Lib.hid (by rw [List.length_append]; exact HLt.out trivial), Lib.hid (HK0.out.push HO0.out.own (Nat.le_refl _) HG8.out), Lib.hid (HO0.out.push (by decide) ⟨none, 0, rfl, ⟨Nat.le_refl _, by unfold maxLen; omega⟩, .inl rfl⟩ (x := ((fv, []), .slice none 0 0)) HO8.out HG8.out), Lib.hid (.inr ?_)⟩, ?_⟩
                  · obtain ⟨c, a', h1, h2, h3, h4⟩ := HB0.out
                    refine ⟨c, a', h1, h2, h3, ?_⟩
                    unfold RRdr
                    rw [HG8.out.block b (block_lt h4) (fun e => by have h5 := (own_ty HO0.out.own e.symm).2; have h6 := HBW.out; omega)]
                    exact h4
                  · show n - (L.length + 1) < n - L.length
                    have := HLt.out trivial; omega
              · have HV2 : Hid (v / 2 ≤ 256) := Lib.hid (by omega)
                have HSt : Hid (staR s n p = match edgesR s n (v / 2) q1 with | .error c => .error c | .ok (es, p) => .ok ((decide (v % 2 = 1), es), p)) := Lib.hid (by rw [staR, hv]; exact if_neg h256)
                have h256' : ¬ (256 : Int) < (v : Int) / 2 := by omega
                clear hv h256
                go_wp2_with fail
                refine HN.out.mono ?_
                rintro e w3 ⟨rfl, hk, hr⟩
                have HR3 := Lib.hid hr
                have HK3 := Lib.hid (HK.out.trans hk)
                have HO3 := Lib.hid (HO.out.kept hk (by have := HBW.out; simp; omega))
                clear hk hr HN
                go_wp2_with fail
                obtain ⟨fv, hfv⟩ : ∃ fv, ((v : Int) % 2 == 1) = fv := ⟨_, rfl⟩
                have HFv : Hid (fv = decide (v % 2 = 1)) := Lib.hid (by rw [← hfv, Bool.eq_iff_iff]; simp; omega)
                rw [hfv]
                clear hfv
                generalize hW0 : w3.alloc (Obj.cells #[Value.bool fv, Value.slice none 0 0] 112) = W0
                have HX0 : Hid (W0.heap[w3.heap.size]? = some (.cells #[Value.bool fv, Value.slice none 0 0] 112 (0, 0))) := Lib.hid (by rw [← hW0]; exact heap_alloc_new w3 _)
                have HSz : Hid (w.heap.size ≤ w3.heap.size) := Lib.hid HK3.out.size
                have HZ0 : Hid (W0.heap.size = w3.heap.size + 1) := Lib.hid (by rw [← hW0]; exact World.size_alloc _ _)
                have HK0 : Hid (Kept [b] w W0) := Lib.hid (by rw [← hW0]; exact HK3.out.alloc _)
                have HR0 : Hid (RRdr W0 b s q1 0) := Lib.hid (by rw [← hW0]; exact HR3.out.kept ((Kept.refl [] w3).alloc _) (by simp))
                have HO0 : Hid (∀ W, Kept [b, w3.heap.size] W0 W → OutAt W w.heap.size 112 113 (.slice X L.length cap) L) := Lib.hid (fun W hW => by
                  have hk : Kept [b, w3.heap.size] w3 W := by
                    rw [← hW0] at hW
                    exact ((Kept.refl [b, w3.heap.size] w3).alloc _).trans hW
                  have hbw := HBW.out
                  refine ⟨hk.own HO3.out.own (fun g hg hm => ?_), fun x hx => (HO3.out.eds x hx).keptTy hk (fun g hg => ?_)⟩
                  · obtain ⟨⟨cs, h1⟩, h2⟩ := own_ty HO3.out.own hg
                    have := block_lt h1
                    simp at hm; omega
                  · simp only [List.mem_cons, List.not_mem_nil, or_false] at hg
                    rcases hg with rfl | rfl
                    · exact .inl hbw
                    · exact .inr (fun ⟨cs, h1⟩ => by have := block_lt h1; omega))
                have HKX : Hid (∀ W, Kept [b, w3.heap.size] W0 W → Kept [b] w W) := Lib.hid (fun W h => HK0.out.trans' h (fun x hx => by
                  have := HK3.out.size
                  simp only [List.mem_cons, List.not_mem_nil, or_false] at hx ⊢
                  omega))
                clear hW0 HO3 HR3 HO HRd HK HK3
                obtain ⟨RE, hRE⟩ : ∃ RE, edgesR s n (v / 2) q1 = RE := ⟨_, rfl⟩
                rw [hRE] at HSt
                have HRE := Lib.hid hRE
                clear hRE
                go_loopw [7] (fun _ W => ∃ (es : List Ed), Hid (es.length ≤ v / 2) ∧ Hid (Kept [b, w3.heap.size] W0 W) ∧ Hid (∃ sv, W.heap[w3.heap.size]? = some (.cells #[Value.bool fv, sv] 112 (0, 0)) ∧ W.ownsRow W0.heap.size 113 2 sv es.length (edCells es)) ∧ Hid ((∃ p', p' ≤ s.size ∧ RRdr W b s p' 0 ∧ RE = prep es (edgesR s n (v / 2 - es.length) p')) ∨ Bad b s R W)) (fun _ W => v / 2 - lenV ((W.cell? ⟨w3.heap.size, 1, none⟩).getD undef))
                case atStart => exact ⟨[], Lib.hid (Nat.zero_le _), Lib.hid (Kept.refl _ _), Lib.hid ⟨_, HX0.out, World.ownsRow_nil _ _ _ _⟩, Lib.hid (.inl ⟨q1, HQ1.out, HR0.out, by rw [← HRE.out]; exact (prep_nil _).symm⟩)⟩
                case round =>
                  obtain ⟨es, HEl, HKw, HXw, HGw⟩ := hrel
                  obtain ⟨sv, hXs, hOw⟩ := HXw.out
                  obtain ⟨SX, scap, hsv⟩ := own_form hOw
                  subst hsv
                  have x0 : wr.cell? ⟨w3.heap.size, 0, none⟩ = some (.bool fv) := by rw [Lib.cell_of_heap hXs]; rfl
                  have x1 : wr.cell? ⟨w3.heap.size, 1, none⟩ = some (.slice SX es.length scap) := by rw [Lib.cell_of_heap hXs]; rfl
                  have HXs := Lib.hid hXs
                  have HOw := Lib.hid hOw
                  have HOo := Lib.hid (HO0.out wr HKw.out)
                  have HKr := Lib.hid (HKX.out wr HKw.out)
                  have hEl : (es.length : Int) ≤ 256 := by have := HEl.out; have := HV2.out; omega
                  clear hXs hOw HXw
                  rcases HGw.out with ⟨p', hp', hr', hE'⟩ | ⟨c, a', hc, ha', hRc, hr'⟩
                  rotate_left
                  · have hc1 : ((c : Int) == 0) = false := by rw [beq_eq_false_iff_ne]; omega
                    have cF := hr'.cells.2.2.1
                    have HB := Lib.hid (show Bad b s R wr from ⟨c, a', hc, ha', hRc, hr'⟩)
                    clear hr' hRc HGw
                    by_cases hlu : (es.length : Int) < (v : Int) / 2
                    all_goals
                      have HEd2 := Lib.hid ((eds_of_own HOw.out).base (B' := w.heap.size) (by have := HZ0.out; have := HSz.out; omega))
                      go_wp2_with (at_builtin; refine wpList_push rfl _ _ 34 rfl w.heap.size 112 i1 _ 2 32 Try.underlying34 hj hy0 hy1 hy2 rfl (by decide) _ L.length (stCells L) rfl HOo.out.own _ rfl (by intro x hx; simp at hx; rcases hx with rfl | rfl <;> rfl) rfl (by have := HLn.out; have := HNL.out; unfold maxLen; omega) (by have := HLn.out; have := HNL.out; omega) HKr.out.size ?_; intro gg cc w8 hown hg8; have HO8 := Lib.hid hown; have HG8 : Hid (wr.grownBy w8 (Value.slice X L.length cap).ownBlock) := Lib.hid hg8; clear hown hg8)
                      refine ⟨⟨L ++ [((fv, es), .slice SX es.length scap)], Lib.hid (by rw [List.length_append]; exact HLt.out trivial), Lib.hid (HKr.out.push HOo.out.own (Nat.le_refl _) HG8.out), Lib.hid (HOo.out.push (by decide) HEd2.out (x := ((fv, es), .slice SX es.length scap)) HO8.out HG8.out), Lib.hid ?_⟩, ?_⟩
                      · obtain ⟨c, a', h1, h2, h3, h4⟩ := HB.out
                        exact .inr ⟨c, a', h1, h2, h3, by unfold RRdr; rw [HG8.out.block b (block_lt h4) (fun e => by have h5 := (own_ty HOo.out.own e.symm).2; have h6 := HBW.out; omega)]; exact h4⟩
                      · show n - (L.length + 1) < n - L.length
                        have := HLt.out trivial; omega
                  · have HR' := HR'
                    have HRw := Lib.hid hr'
                    have HE := Lib.hid hE'
                    have HP' := Lib.hid hp'
                    have cF := hr'.cells.2.2.1
                    clear hr' hE' hp' HGw
                    by_cases hlu : es.length < v / 2
                    · have hluI : (es.length : Int) < (v : Int) / 2 := by omega
                      obtain ⟨t', ht'⟩ : ∃ t, v / 2 - es.length = t + 1 := ⟨v / 2 - es.length - 1, by omega⟩
                      have HE1 : Hid (RE = prep es (edgesR s n (t' + 1) p')) := Lib.hid (by rw [HE.out, ht'])
                      have HT' : Hid (v / 2 - (es.length + 1) = t') := Lib.hid (by omega)
                      have HLu : Hid (True → es.length + 1 ≤ v / 2) := Lib.hid (fun _ => hlu)
                      clear ht' HE hlu
                      have hEd := HEdge.out wr p' HRw.out HP'.out
                      cases hed : edgR s n p' with
                      | error c =>
                        rw [hed] at hEd
                        have HRx : Hid (R = .error c) := Lib.hid (HErr.out c (by rw [HSt.out, HE1.out, edgesR_err s n t' p' es c hed]))
                        have HEd := Lib.hid hEd
                        clear hEd hed
                        go_wp2_with fail
                        refine HEd.out.mono ?_
                        rintro e w5 ⟨rfl, hk5, hc, a', ha', hr5⟩
                        have HG5 : Hid (∀ W, b ≠ w3.heap.size → W.heap[b]? = w5.heap[b]? → (∃ p', p' ≤ s.size ∧ RRdr W b s p' 0 ∧ RE = prep (es ++ [((0 : UInt8), (0 : Int))]) (edgesR s n (v / 2 - (es ++ [((0 : UInt8), (0 : Int))]).length) p')) ∨ Bad b s R W) := Lib.hid (fun W _ h => .inr ⟨c, a', hc, ha', HRx.out, by unfold RRdr; rw [h]; exact hr5⟩)
                        have hk5' := hk5
                        have HX5 : Hid (w5.heap[w3.heap.size]? = some (.cells #[Value.bool fv, Value.slice SX es.length scap] 112 (0, 0))) := Lib.hid (hk5.at HXs.out (by have h2 := HBW.out; have h5 := HSz.out; simp; omega))
                        have HO5 : Hid (w5.ownsRow W0.heap.size 113 2 (.slice SX es.length scap) es.length (edCells es)) := Lib.hid (hk5.own HOw.out (fun g hg hm => by have h1 := (own_ty HOw.out hg).2; have h2 := HBW.out; have h3 := HK0.out.size; simp at hm; omega))
                        have HK5 : Hid (Kept [b, w3.heap.size] W0 w5) := Lib.hid (HKw.out.trans (hk5.mono (by simp)))
                        have HB5 : Hid (b < w5.heap.size) := Lib.hid (block_lt hr5)
                        have x6 : ∀ o, (w5.alloc o).cell? ⟨w3.heap.size, 1, none⟩ = some (.slice SX es.length scap) := fun o => by rw [Lib.cell_of_heap (((Kept.refl [] w5).alloc o).at HX5.out (by simp))]; rfl
                        have HX8 : Hid (∀ o w8, (w5.alloc o).grownBy w8 (Value.slice SX es.length scap).ownBlock → w8.heap[w3.heap.size]? = some (.cells #[Value.bool fv, Value.slice SX es.length scap] 112 (0, 0)) ∧ w8.heap[b]? = w5.heap[b]?) := Lib.hid (fun o w8 hg => by
                          have h0 := ((Kept.refl [] w5).alloc o).at HX5.out (by simp)
                          refine ⟨?_, ?_⟩
                          · rw [hg.block _ (block_lt h0) (fun e => by have h1 := (own_ty HO5.out e.symm).2; have h2 := HZ0.out; omega)]; exact h0
                          · rw [hg.block b (by simp; have := HB5.out; omega) (fun e => by have h1 := (own_ty HO5.out e.symm).2; have h2 := HBW.out; have h3 := HK0.out.size; omega)]; exact Below.heap_alloc _ _ _ HB5.out)
                        clear hk5 hk5' hr5 x0 x1
                        go_wp2_with (at_builtin; refine wpList_push_at rfl _ _ 110 rfl W0.heap.size 113 i0 _ 2 16 Try.underlying110 hi hz0 hz1 hz2 rfl (by decide) _ es.length (edCells es) rfl (HO5.out.alloc _) _ rfl (by intro x hx; simp at hx; rcases hx with rfl | rfl <;> rfl) _ rfl (by simp) (by unfold maxLen; omega) (by omega) (by have := HK5.out.size; simp; omega) ?_; intro gg cc w8 hown hg8; have hx8 := HX8.out _ _ hg8; have c8 : w8.cell? ⟨w3.heap.size, 1, none⟩ = some (.slice SX es.length scap) := (by rw [Lib.cell_of_heap hx8.1]; rfl); have f8 : w8.frozen? ⟨w3.heap.size, 1, none⟩ = false := Lib.frozen_of_heap hx8.1 1; have HX9 := Lib.hid hx8; have HO8 := Lib.hid hown; have HK8 : Hid (Kept [b, w3.heap.size] W0 w8) := Lib.hid ((HK5.out.alloc _).push (HO5.out.alloc _) (Nat.le_refl _) hg8); clear hx8 hown hg8)
                        have hbx : b ≠ w3.heap.size := by have h2 := HBW.out; have h5 := HSz.out; omega
                        have hset := Go.heap_setCell_same w8 w3.heap.size 1 _ _ (.slice (some ⟨gg, 0, none⟩) (es.length + 1) cc) HX9.out.1
                        refine ⟨⟨es ++ [((0 : UInt8), (0 : Int))], Lib.hid (by rw [List.length_append]; exact HLu.out trivial), Lib.hid (HK8.out.set _ _ _ (.inl (by simp))), Lib.hid ⟨_, hset, ?_⟩, Lib.hid (HG5.out _ hbx ?_)⟩, ?_⟩
                        · rw [← edCells_snoc, List.length_append, List.length_singleton]
                          refine ((Kept.refl [w3.heap.size] w8).set _ _ _ (.inl (by simp))).own HO8.out (fun g hg hm => ?_)
                          have h1 := (own_ty HO8.out hg).2
                          have h2 := HZ0.out
                          simp at hm; omega
                        · rw [heap_setCell_other w8 _ b _ hbx]; exact HX9.out.2
                        · rw [Lib.cell_of_heap hset, Lib.cell_of_heap HXs.out]
                          show v / 2 - (es.length + 1) < v / 2 - es.length
                          have := HLu.out trivial; omega
                      | ok r =>
                        obtain ⟨⟨eb, et⟩, p2⟩ := r
                        rw [hed] at hEd
                        have HS2 : Hid (RE = prep (es ++ [(eb, et)]) (edgesR s n t' p2)) := Lib.hid (by rw [HE1.out, edgesR_step s n t' p' es _ p2 hed])
                        have hp2 := edgR_le hed
                        have HEd := Lib.hid hEd
                        clear hEd hed
                        go_wp2_with fail
                        refine HEd.out.mono ?_
                        rintro e w5 ⟨rfl, hk5, hr5⟩
                        have HG5 : Hid (∀ W, b ≠ w3.heap.size → W.heap[b]? = w5.heap[b]? → (∃ p', p' ≤ s.size ∧ RRdr W b s p' 0 ∧ RE = prep (es ++ [(eb, et)]) (edgesR s n (v / 2 - (es ++ [(eb, et)]).length) p')) ∨ Bad b s R W) := Lib.hid (fun W _ h => .inl ⟨p2, hp2, by unfold RRdr; rw [h]; exact hr5, by rw [List.length_append, show es.length + [(eb, et)].length = es.length + 1 from rfl, HT'.out]; exact HS2.out⟩)
                        unfold edV
                        have hk5' := hk5
                        have HX5 : Hid (w5.heap[w3.heap.size]? = some (.cells #[Value.bool fv, Value.slice SX es.length scap] 112 (0, 0))) := Lib.hid (hk5.at HXs.out (by have h2 := HBW.out; have h5 := HSz.out; simp; omega))
                        have HO5 : Hid (w5.ownsRow W0.heap.size 113 2 (.slice SX es.length scap) es.length (edCells es)) := Lib.hid (hk5.own HOw.out (fun g hg hm => by have h1 := (own_ty HOw.out hg).2; have h2 := HBW.out; have h3 := HK0.out.size; simp at hm; omega))
                        have HK5 : Hid (Kept [b, w3.heap.size] W0 w5) := Lib.hid (HKw.out.trans (hk5.mono (by simp)))
                        have HB5 : Hid (b < w5.heap.size) := Lib.hid (block_lt hr5)
                        have x6 : ∀ o, (w5.alloc o).cell? ⟨w3.heap.size, 1, none⟩ = some (.slice SX es.length scap) := fun o => by rw [Lib.cell_of_heap (((Kept.refl [] w5).alloc o).at HX5.out (by simp))]; rfl
                        have HX8 : Hid (∀ o w8, (w5.alloc o).grownBy w8 (Value.slice SX es.length scap).ownBlock → w8.heap[w3.heap.size]? = some (.cells #[Value.bool fv, Value.slice SX es.length scap] 112 (0, 0)) ∧ w8.heap[b]? = w5.heap[b]?) := Lib.hid (fun o w8 hg => by
                          have h0 := ((Kept.refl [] w5).alloc o).at HX5.out (by simp)
                          refine ⟨?_, ?_⟩
                          · rw [hg.block _ (block_lt h0) (fun e => by have h1 := (own_ty HO5.out e.symm).2; have h2 := HZ0.out; omega)]; exact h0
                          · rw [hg.block b (by simp; have := HB5.out; omega) (fun e => by have h1 := (own_ty HO5.out e.symm).2; have h2 := HBW.out; have h3 := HK0.out.size; omega)]; exact Below.heap_alloc _ _ _ HB5.out)
                        clear hk5 hk5' hr5 x0 x1
                        go_wp2_with (at_builtin; refine wpList_push_at rfl _ _ 110 rfl W0.heap.size 113 i0 _ 2 16 Try.underlying110 hi hz0 hz1 hz2 rfl (by decide) _ es.length (edCells es) rfl (HO5.out.alloc _) _ rfl (by intro x hx; simp at hx; rcases hx with rfl | rfl <;> rfl) _ rfl (by simp) (by unfold maxLen; omega) (by omega) (by have := HK5.out.size; simp; omega) ?_; intro gg cc w8 hown hg8; have hx8 := HX8.out _ _ hg8; have c8 : w8.cell? ⟨w3.heap.size, 1, none⟩ = some (.slice SX es.length scap) := (by rw [Lib.cell_of_heap hx8.1]; rfl); have f8 : w8.frozen? ⟨w3.heap.size, 1, none⟩ = false := Lib.frozen_of_heap hx8.1 1; have HX9 := Lib.hid hx8; have HO8 := Lib.hid hown; have HK8 : Hid (Kept [b, w3.heap.size] W0 w8) := Lib.hid ((HK5.out.alloc _).push (HO5.out.alloc _) (Nat.le_refl _) hg8); clear hx8 hown hg8)
                        have hbx : b ≠ w3.heap.size := by have h2 := HBW.out; have h5 := HSz.out; omega
                        have hset := Go.heap_setCell_same w8 w3.heap.size 1 _ _ (.slice (some ⟨gg, 0, none⟩) (es.length + 1) cc) HX9.out.1
                        refine ⟨⟨es ++ [(eb, et)], Lib.hid (by rw [List.length_append]; exact HLu.out trivial), Lib.hid (HK8.out.set _ _ _ (.inl (by simp))), Lib.hid ⟨_, hset, ?_⟩, Lib.hid (HG5.out _ hbx ?_)⟩, ?_⟩
                        · rw [← edCells_snoc, List.length_append, List.length_singleton]
                          refine ((Kept.refl [w3.heap.size] w8).set _ _ _ (.inl (by simp))).own HO8.out (fun g hg hm => ?_)
                          have h1 := (own_ty HO8.out hg).2
                          have h2 := HZ0.out
                          simp at hm; omega
                        · rw [heap_setCell_other w8 _ b _ hbx]; exact HX9.out.2
                        · rw [Lib.cell_of_heap hset, Lib.cell_of_heap HXs.out]
                          show v / 2 - (es.length + 1) < v / 2 - es.length
                          have := HLu.out trivial; omega
                    · have hle := HEl.out
                      have heq : es.length = v / 2 := by omega
                      have hluI : ¬ (es.length : Int) < (v : Int) / 2 := by omega
                      have HE2 : Hid (RE = .ok (es, p')) := Lib.hid (by rw [HE.out, heq, Nat.sub_self, edgesR]; simp [prep])
                      have HS3 : Hid (RS = prep ((L ++ [((fv, es), Value.bool false)]).map (·.1)) (statesR s n t p')) := Lib.hid (by
                        rw [HS1.out, statesR_step s n t p _ (fv, es) p' (by rw [HSt.out, HE2.out, HFv.out])]; simp)
                      clear heq hlu
                      have HEd2 := Lib.hid ((eds_of_own HOw.out).base (B' := w.heap.size) (by have := HZ0.out; have := HSz.out; omega))
                      go_wp2_with (at_builtin; refine wpList_push rfl _ _ 34 rfl w.heap.size 112 i1 _ 2 32 Try.underlying34 hj hy0 hy1 hy2 rfl (by decide) _ L.length (stCells L) rfl HOo.out.own _ rfl (by intro x hx; simp at hx; rcases hx with rfl | rfl <;> rfl) rfl (by have := HLn.out; have := HNL.out; unfold maxLen; omega) (by have := HLn.out; have := HNL.out; omega) HKr.out.size ?_; intro gg cc w8 hown hg8; have HO8 := Lib.hid hown; have HG8 : Hid (wr.grownBy w8 (Value.slice X L.length cap).ownBlock) := Lib.hid hg8; clear hown hg8)
                      refine ⟨⟨L ++ [((fv, es), .slice SX es.length scap)], Lib.hid (by rw [List.length_append]; exact HLt.out trivial), Lib.hid (HKr.out.push HOo.out.own (Nat.le_refl _) HG8.out), Lib.hid (HOo.out.push (by decide) HEd2.out (x := ((fv, es), .slice SX es.length scap)) HO8.out HG8.out), Lib.hid ?_⟩, ?_⟩
                      · exact .inl ⟨p', HP'.out, (by unfold RRdr; rw [HG8.out.block b (block_lt HRw.out) (fun e => by have h5 := (own_ty HOo.out.own e.symm).2; have h6 := HBW.out; omega)]; exact HRw.out), by rw [show (L ++ [((fv, es), Value.slice SX es.length scap)]).length = L.length + 1 by simp, HT.out, HS3.out]; simp⟩
                      · show n - (L.length + 1) < n - L.length
                        have := HLt.out trivial; omega
          · have heq : L.length = n := by have := HLn.out; omega
            have hltI : ¬ (L.length : Int) < (n : Int) := by omega
            have HR3 : Hid (R = if shapeB (L.map (·.1)) then .ok (L.map (·.1), p) else .error 190) := Lib.hid (by rw [HR'.out, HS.out, heq, Nat.sub_self, statesR]; simp [prep])
            have HSh := Lib.hid (rShape_any (L.map (·.1)) (.slice X L.length cap) wr (HO.out.aut.mono (fun _ _ => trivial)))
            clear heq hlt HNum HEdge HS
            by_cases hshp : shapeB (L.map (·.1)) = true
            · have HR4 := Lib.hid (HR3.out.trans (if_pos hshp))
              have HV : Hid (shapeV (L.map (·.1)) = 0) := Lib.hid (if_pos hshp)
              clear hshp
              go_wp2_with fail
              refine HSh.out.mono ?_
              rw [HV.out]
              rintro e w5 ⟨rfl, hb⟩
              have HK5 : Hid (Kept [] wr w5) := Lib.hid (Kept.of_below hb)
              have HR5 := Lib.hid (HRd.out.kept (Kept.of_below hb (E := [])) (by simp))
              obtain ⟨d0, d1, d2, dz⟩ := HR5.out.cells
              have HZ := Lib.hid (RRdr.putF HR5.out 0)
              clear hb
              go_wp2_with fail
              go_ret
              rw [HR4.out]
              exact ⟨_, rfl, (HK.out.trans (HK5.out.mono (by simp))).set _ _ _ (.inl (by simp)), HZ.out, (HO.out.aut.kept HK5.out (by simp)).kept ((Kept.refl [b] w5).set _ _ _ (.inl (by simp))) (by have := HBW.out; simp; omega)⟩
            · have HR4 := Lib.hid (HR3.out.trans (if_neg hshp))
              have HV : Hid (shapeV (L.map (·.1)) = 190) := Lib.hid (if_neg hshp)
              clear hshp
              go_wp2_with fail
              refine HSh.out.mono ?_
              rw [HV.out]
              rintro e w5 ⟨rfl, hb⟩
              have HK5 : Hid (Kept [] wr w5) := Lib.hid (Kept.of_below hb)
              have HR5 := Lib.hid (HRd.out.kept (Kept.of_below hb (E := [])) (by simp))
              obtain ⟨d0, d1, d2, dz⟩ := HR5.out.cells
              have HZ := Lib.hid (RRdr.putF HR5.out 190)
              clear hb
              go_wp2_with fail
              go_ret
              rw [HR4.out]
              exact ⟨_, _, _, rfl, (HK.out.trans (HK5.out.mono (by simp))).set _ _ _ (.inl (by simp)), by decide, p, HP.out, HZ.out⟩
end

section
open Go.RowKit

abbrev zeroCells : Array Value := #[.int .i64 0, .string ⟨#[]⟩, .slice none 0 0, .slice none 0 0, .slice none 0 0, .slice none 0 0, .slice none 0 0]
structure RDSt (w : World) (s : ByteArray) (W : World) (p f : Nat) (cs : Array Value) : Prop where
  below : Below w.heap.size w W
  size : w.heap.size + 3 ≤ W.heap.size
  res : W.heap[w.heap.size]? = some (.cells zeroCells 37 (0, 0))
  rdr : RRdr W (w.heap.size + 1) s p f
  book : W.heap[w.heap.size + 1 + 1]? = some (.cells cs 37 (0, 0))
theorem RDSt.call {w W W' : World} {s : ByteArray} {p p' f f' : Nat} {cs : Array Value} (h : RDSt w s W p f cs) (hk : Kept [w.heap.size + 1] W W') (hr : RRdr W' (w.heap.size + 1) s p' f') : RDSt w s W' p' f' cs :=
  ⟨h.below.trans (hk.below (by have := h.size; omega) (by simp <;> omega)), Nat.le_trans h.size hk.size, hk.at h.res (by simp <;> omega), hr, hk.at h.book (by simp <;> omega)⟩
theorem RDSt.kept {w W W' : World} {s : ByteArray} {p f : Nat} {cs : Array Value} (h : RDSt w s W p f cs) (hk : Kept [] W W') : RDSt w s W' p f cs :=
  h.call (hk.mono (by simp <;> omega)) (hk.at h.rdr (by simp <;> omega))
theorem RDSt.set {w W : World} {s : ByteArray} {p f : Nat} {cs : Array Value} (h : RDSt w s W p f cs) (i : Nat) (v : Value) : RDSt w s (W.setCell ⟨w.heap.size + 1 + 1, i, none⟩ v) p f (cs.setIfInBounds i v) :=
  ⟨h.below.trans (((Kept.refl [w.heap.size + 1 + 1] W).set _ _ _ (.inl (by simp <;> omega))).below (by have := h.size; omega) (by simp <;> omega)), by simpa [World.setCell] using h.size,
    by rw [heap_setCell_other W _ _ _ (by simp <;> omega)]; exact h.res, by unfold RRdr; rw [heap_setCell_other W _ _ _ (by simp <;> omega)]; exact h.rdr, heap_setCell_same W _ i _ _ _ h.book⟩
theorem RDSt.putF {w W : World} {s : ByteArray} {p f : Nat} {cs : Array Value} (h : RDSt w s W p f cs) (c : Nat) : RDSt w s (W.setCell ⟨w.heap.size + 1, 2, none⟩ (.int .i64 (c : Int))) p c cs :=
  h.call ((Kept.refl _ _).set _ _ _ (.inl (by simp <;> omega))) (RRdr.putF h.rdr c)
theorem RDSt.push {w W W' : World} {s : ByteArray} {p f : Nat} {cs : Array Value} {e size n : Nat} {v : Value} {xs : List Value} (h : RDSt w s W p f cs) (ho : W.ownsRow w.heap.size e size v n xs) (h1 : e ≠ 37) (h3 : e ≠ 92) (hg : W.grownBy W' v.ownBlock) : RDSt w s W' p f cs := by
  have hk : Kept v.ownBlock.toList W W' := Kept.grown hg (fun k hk => by rw [hk]; simp)
  have key : ∀ (g t : Nat) (cs : Array Value), W.heap[g]? = some (.cells cs t (0, 0)) → e ≠ t → g ∉ v.ownBlock.toList := fun g t cs hg' hne hm =>
    hne ((own_ty ho (show v.ownBlock = some g by simpa using hm)).1.uniq ⟨cs, hg'⟩)
  exact ⟨h.below.trans (hk.below (by have := h.size; omega) (fun x hx => (own_ty ho (show v.ownBlock = some x by simpa using hx)).2)), Nat.le_trans h.size hk.size, hk.at h.res (key _ _ _ h.res h1), hk.at h.rdr (key _ _ _ h.rdr h3), hk.at h.book (key _ _ _ h.book h1)⟩
theorem RDSt.cell {w W : World} {s : ByteArray} {p f : Nat} {cs : Array Value} (h : RDSt w s W p f cs) (i : Nat) {x : Value} (hx : cs[i]? = some x) : W.cell? ⟨w.heap.size + 1 + 1, i, none⟩ = some x := by rw [Lib.cell_of_heap h.book]; exact hx
theorem RDSt.fz {w W : World} {s : ByteArray} {p f : Nat} {cs : Array Value} (h : RDSt w s W p f cs) (i : Nat) : W.frozen? ⟨w.heap.size + 1 + 1, i, none⟩ = false := Lib.frozen_of_heap h.book i
theorem RDSt.start (w : World) (s : ByteArray) : RDSt w s (((w.alloc (.cells zeroCells 37)).alloc (.cells #[.string s, .int .i64 4, .int .i64 0] 92)).alloc (.cells zeroCells 37)) 4 0 zeroCells := by
  refine ⟨(((Below.refl _ _).alloc (Nat.le_refl _) _).alloc (by simp) _).alloc (by simp; omega) _, by simp, ?_, ?_, ?_⟩
  · rw [Below.heap_alloc _ _ _ (by simp; omega), Below.heap_alloc _ _ _ (by simp)]
    exact heap_alloc_new w _
  · unfold RRdr
    rw [Below.heap_alloc _ _ _ (by simp)]
    have := heap_alloc_new (w.alloc (.cells zeroCells 37)) (.cells #[.string s, .int .i64 4, .int .i64 0] 92)
    simpa using this
  · have := heap_alloc_new ((w.alloc (.cells zeroCells 37)).alloc (.cells #[.string s, .int .i64 4, .int .i64 0] 92)) (.cells zeroCells 37)
    simpa using this
def PostRD (w : World) (r : Except Nat Bk) (e : Ending) (w' : World) : Prop :=
  match r with
  | .error c => e = .returned (.tuple #[.agg zeroCells, .int .i64 (c : Int)]) ∧ Below w.heap.size w w'
  | .ok b => ∃ vr v0 v1 v2 v3, e = .returned (.tuple #[.agg #[.int .i64 (b.least : Int), .string b.tryT, vr, v0, v1, v2, v3], .int .i64 0]) ∧ Below w.heap.size w w' ∧ RepsAt w' vr b.reps ∧ b.secs.length = 4 ∧ SecP w' (fun g => w.heap.size ≤ g) [v0, v1, v2, v3] b.secs
theorem results_rbook (bb : Nat) (x0 x1 x2 x3 x4 x5 x6 y : Value) (w : World) (tmps : Array Value) (h2 : tmps[2]?.getD undef = .pointer (some ⟨bb, 0, none⟩)) (h3 : tmps[3]?.getD undef = y)
    (hb : w.heap[bb]? = some (.cells #[x0, x1, x2, x3, x4, x5, x6] 37 (0, 0))) :
    (results Try.f16 tmps).run Try.prog w = .ok (.tuple #[.agg #[x0, x1, x2, x3, x4, x5, x6], y]) w := by
  have b0 : w.cell? ⟨bb, 0, none⟩ = some x0 := by rw [Lib.cell_of_heap hb]; rfl
  have b1 : w.cell? ⟨bb, 1, none⟩ = some x1 := by rw [Lib.cell_of_heap hb]; rfl
  have b2 : w.cell? ⟨bb, 2, none⟩ = some x2 := by rw [Lib.cell_of_heap hb]; rfl
  have b3 : w.cell? ⟨bb, 3, none⟩ = some x3 := by rw [Lib.cell_of_heap hb]; rfl
  have b4 : w.cell? ⟨bb, 4, none⟩ = some x4 := by rw [Lib.cell_of_heap hb]; rfl
  have b5 : w.cell? ⟨bb, 5, none⟩ = some x5 := by rw [Lib.cell_of_heap hb]; rfl
  have b6 : w.cell? ⟨bb, 6, none⟩ = some x6 := by rw [Lib.cell_of_heap hb]; rfl
  simp [results, Try.results16, go_sem, h2, h3, b0, b1, b2, b3, b4, b5, b6]
theorem rown_set {w W : World} {s : ByteArray} {p f : Nat} {cs : Array Value} {e size n i : Nat} {v u : Value} {xs : List Value} (h : RDSt w s W p f cs) (ho : W.ownsRow w.heap.size e size v n xs) (h1 : e ≠ 37) : (W.setCell ⟨w.heap.size + 1 + 1, i, none⟩ u).ownsRow w.heap.size e size v n xs :=
  ((Kept.refl [w.heap.size + 1 + 1] W).set _ _ _ (.inl (by simp))).own ho (fun g hg hm => by
    have := (own_ty ho hg).1
    simp only [List.mem_cons, List.not_mem_nil, or_false] at hm
    subst hm
    exact h1 (this.uniq ⟨_, h.book⟩))
theorem rownNot {W : World} {b a f B e size n : Nat} {s : ByteArray} {v : Value} {xs : List Value} (ho : W.ownsRow B e size v n xs) (hr : RRdr W b s a f) (hne : e ≠ 92) : ∀ g, v.ownBlock = some g → g ∉ [b] := fun g hg hm => by
  simp only [List.mem_cons, List.not_mem_nil, or_false] at hm
  subst hm
  exact hne ((own_ty ho hg).1.uniq ⟨_, hr⟩)
theorem rrep_info : (Try.prog.info? 77).map (fun i => (i.zero, i.size, i.bytes)) = some (some (.agg #[.string ⟨#[]⟩, .string ⟨#[]⟩]), 2, 32) := by kernel_rfl
theorem hasPrefix_no (s : ByteArray) (h : Lib.hasPrefix s.data.toList magicS.data.toList = false) (_h4 : 4 ≤ s.size) : s.extract 0 4 ≠ magicS := by
  intro e
  have hp : magicS.data.toList <+: s.data.toList := by
    rw [← e]
    have : (s.extract 0 4).data.toList = s.data.toList.take 4 := by rw [extract_mkS, mkS_data]; simp
    rw [this]
    exact List.take_prefix 4 _
  unfold Lib.hasPrefix at h
  rw [List.isPrefixOf_iff_prefix.2 hp] at h
  cases h
theorem hasPrefix_yes (s : ByteArray) (h : Lib.hasPrefix s.data.toList magicS.data.toList = true) : s.extract 0 4 = magicS := by
  unfold Lib.hasPrefix at h
  have hp := List.isPrefixOf_iff_prefix.1 h
  have ht : s.data.toList.take 4 = magicS.data.toList := (List.prefix_iff_eq_take.1 hp).symm
  rw [extract_mkS]
  simp only [List.drop_zero, Nat.sub_zero]
  rw [ht]; rfl
end
end Go.Proofs.Ytehbjfjhalpgaaa
