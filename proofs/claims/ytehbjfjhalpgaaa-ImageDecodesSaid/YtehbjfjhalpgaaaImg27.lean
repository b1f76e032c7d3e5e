/-
  The reference's reader: next, frame and edge.
-/
import Derived.Test.YtehbjfjhalpgaaaRows
import Derived.Test.YtehbjfjhalpgaaaImg26b
namespace Go.Proofs.Ytehbjfjhalpgaaa
open Go.RowKit
attribute [local go_sem ↓] Go.wp_at_zero Go.wp_at_succ

/-- The reference's reader at a place, with its fault. -/
def RRdr (w : World) (b : Nat) (s : ByteArray) (a f : Nat) : Prop := w.heap[b]? = some (.cells #[.string s, .int .i64 (a : Int), .int .i64 (f : Int)] 92 (0, 0))
theorem RRdr.cells {w : World} {b a f : Nat} {s : ByteArray} (h : RRdr w b s a f) : w.cell? ⟨b, 0, none⟩ = some (.string s) ∧ w.cell? ⟨b, 1, none⟩ = some (.int .i64 (a : Int)) ∧ w.cell? ⟨b, 2, none⟩ = some (.int .i64 (f : Int)) ∧ ∀ i, w.frozen? ⟨b, i, none⟩ = false :=
  ⟨by rw [Lib.cell_of_heap h]; rfl, by rw [Lib.cell_of_heap h]; rfl, by rw [Lib.cell_of_heap h]; rfl, Lib.frozen_of_heap h⟩
theorem RRdr.putAt {w : World} {b a f : Nat} {s : ByteArray} (h : RRdr w b s a f) (p : Nat) : RRdr (w.setCell ⟨b, 1, none⟩ (.int .i64 (p : Int))) b s p f := heap_setCell_same w b 1 _ _ _ h
theorem RRdr.putF {w : World} {b a f : Nat} {s : ByteArray} (h : RRdr w b s a f) (c : Nat) : RRdr (w.setCell ⟨b, 2, none⟩ (.int .i64 (c : Int))) b s a c := heap_setCell_same w b 2 _ _ _ h
theorem RRdr.kept {w w' : World} {E : List Nat} {b a f : Nat} {s : ByteArray} (h : RRdr w b s a f) (hk : Kept E w w') (hb : b ∉ E) : RRdr w' b s a f := hk.at h hb
def PostQ {α : Type} (b : Nat) (s : ByteArray) (w : World) (mk : α → Value) (z : Value) (r : Except Nat (α × Nat)) (e : Ending) (w' : World) : Prop :=
  match r with
  | .ok (x, p) => e = .returned (mk x) ∧ Kept [b] w w' ∧ RRdr w' b s p 0
  | .error c => e = .returned z ∧ Kept [b] w w' ∧ c ≠ 0 ∧ ∃ a', a' ≤ s.size ∧ RRdr w' b s a' c
theorem numR_err {s : ByteArray} {a c : Nat} (h : numR s a = .error c) : c ≠ 0 := by
  unfold numR at h
  split at h
  · cases h
  · rename_i h0
    injection h with h
    rw [← h]; exact h0

set_option maxHeartbeats 4000000 in
set_option maxRecDepth 100000 in
theorem next_fault (b : Nat) (s : ByteArray) (a f : Nat) (w : World) (hr : RRdr w b s a f) (hf : f ≠ 0) :
    Calls Try.prog 41 #[.pointer (some ⟨b, 0, none⟩)] w fun e w' => e = .returned (.int .u64 0) ∧ w = w' := by
  obtain ⟨c0, c1, c2, _⟩ := hr.cells
  have hf' : ((f : Int) != 0) = true := by simpa using hf
  clear hr
  go_enter Try.func41, Try.ntmps41
  go_wp2_with fail
  go_ret
  exact ⟨rfl, rfl⟩
set_option maxHeartbeats 4000000 in
set_option maxRecDepth 100000 in
theorem next_any (b : Nat) (s : ByteArray) (a : Nat) (w : World) (hr : RRdr w b s a 0) (hs : s.size ≤ 140737488355328) (ha : a ≤ s.size) :
    Calls Try.prog 41 #[.pointer (some ⟨b, 0, none⟩)] w (PostQ b s w (fun n : Nat => .int .u64 (n : Int)) (.int .u64 0) (numR s a)) := by
  obtain ⟨c0, c1, c2, fz⟩ := hr.cells
  have hq : ∀ (x : Nat), Calls Try.prog 55 #[.string s, .int .i64 a] (w.drewN x) fun e w' => e = .returned (rdV (rdU s.data.toList a)) ∧ ∃ n, w' = w.drewN n := fun x => (rReadUint_any s a _ hs (by omega)).mono fun _ _ ⟨he, hn⟩ => ⟨he, x, hn.symm⟩
  have HR := Lib.hid hr
  unfold numR
  obtain ⟨⟨n, p, e⟩, hR⟩ : ∃ r, rdU s.data.toList a = r := ⟨_, rfl⟩
  rw [hR] at hq ⊢
  have HQ := Lib.hid hq
  clear hq hR hr
  dsimp only
  unfold rdV at HQ
  dsimp only at HQ
  by_cases he : e = 0
  · subst he
    simp only [↓reduceIte]
    go_enter Try.func41, Try.ntmps41
    go_wp2_with fail
    go_quiet (first | (go_at_call 55; exact HQ.out _))
    go_wp2_with fail
    go_ret
    exact ⟨rfl, ((Kept.refl _ _).drewN _).set _ _ _ (.inl (by simp)), RRdr.putAt (w := w.drewN _) HR.out _⟩
  · have hei : ((e : Int) != 0) = true := by simpa using he
    simp only [he, ↓reduceIte]
    go_enter Try.func41, Try.ntmps41
    go_wp2_with fail
    go_quiet (first | (go_at_call 55; exact HQ.out _))
    go_wp2_with fail
    go_ret
    exact ⟨rfl, ((Kept.refl _ _).drewN _).set _ _ _ (.inl (by simp)), he, a, ha, RRdr.putF (w := w.drewN _) HR.out _⟩
set_option maxHeartbeats 4000000 in
set_option maxRecDepth 100000 in
theorem rframe_fault (b : Nat) (s : ByteArray) (a f : Nat) (w : World) (hr : RRdr w b s a f) (hf : f ≠ 0) :
    Calls Try.prog 42 #[.pointer (some ⟨b, 0, none⟩)] w fun e w' => e = .returned (.string ⟨#[]⟩) ∧ w = w' := by
  obtain ⟨c0, c1, c2, _⟩ := hr.cells
  have hf' : ((f : Int) != 0) = true := by simpa using hf
  have HN := Lib.hid (next_fault b s a f w hr hf)
  clear hr
  go_enter Try.func42, Try.ntmps42
  go_wp2_with fail
  refine HN.out.mono ?_
  rintro e w' ⟨rfl, rfl⟩
  go_wp2_with fail
  go_ret
  exact ⟨rfl, rfl⟩
set_option maxHeartbeats 4000000 in
set_option maxRecDepth 100000 in
theorem rframe_any (b : Nat) (s : ByteArray) (a : Nat) (w : World) (hr : RRdr w b s a 0) (hs : s.size ≤ 140737488355328) (ha : a ≤ s.size) :
    Calls Try.prog 42 #[.pointer (some ⟨b, 0, none⟩)] w (PostQ b s w Value.string (.string ⟨#[]⟩) (frmR s a)) := by
  have hN := next_any b s a w hr hs ha
  unfold frmR
  cases hn : numR s a with
  | error c =>
    rw [hn] at hN
    have HN := Lib.hid hN
    clear hN hn hr
    go_enter Try.func42, Try.ntmps42
    go_wp2_with fail
    refine HN.out.mono ?_
    rintro e w1 ⟨rfl, hk, hc, a', ha', hr⟩
    obtain ⟨c0, c1, c2, _⟩ := hr.cells
    have hf' : ((c : Int) != 0) = true := by simpa using hc
    have HP := Lib.hid (show Kept [b] w w1 ∧ c ≠ 0 ∧ ∃ a', a' ≤ s.size ∧ RRdr w1 b s a' c from ⟨hk, hc, a', ha', hr⟩)
    clear hk hr
    go_wp2_with fail
    go_ret
    exact ⟨rfl, HP.out⟩
  | ok r =>
    obtain ⟨n, q⟩ := r
    rw [hn] at hN
    have hq := (numR_le hn).2
    have hlt := numR_lt hn
    have HN := Lib.hid hN
    clear hN hn hr
    dsimp only
    by_cases h255 : 255 < n
    · rw [if_pos h255]
      go_enter Try.func42, Try.ntmps42
      go_wp2_with fail
      refine HN.out.mono ?_
      rintro e w1 ⟨rfl, hk, hr⟩
      obtain ⟨c0, c1, c2, fz⟩ := hr.cells
      have HK := Lib.hid hk
      have HR := Lib.hid hr
      clear hk hr HN
      go_wp2_with fail
      go_ret
      exact ⟨rfl, HK.out.set _ _ _ (.inl (by simp)), by decide, q, hq, RRdr.putF HR.out 62⟩
    · rw [if_neg h255]
      have hnw : IntKind.i64.wrap (n : Int) = (n : Int) := by rw [IntKind.wrap_i64]; omega
      have hsw : IntKind.i64.wrap ((s.size : Int) - (q : Int)) = (s.size : Int) - (q : Int) := by rw [IntKind.wrap_i64]; omega
      by_cases hsh : s.size < q + n
      · rw [if_pos hsh]
        have hlt1 : decide ((s.size : Int) - (q : Int) < (n : Int)) = true := by rw [decide_eq_true_iff]; omega
        go_enter Try.func42, Try.ntmps42
        go_wp2_with fail
        refine HN.out.mono ?_
        rintro e w1 ⟨rfl, hk, hr⟩
        obtain ⟨c0, c1, c2, fz⟩ := hr.cells
        have HK := Lib.hid hk
        have HR := Lib.hid hr
        clear hk hr HN
        go_wp2_with fail
        go_quiet (fail)
        go_wp2_with fail
        go_ret
        exact ⟨rfl, (HK.out.drewN _).set _ _ _ (.inl (by simp)), by decide, q, hq, RRdr.putF (w := w1.drewN _) HR.out 60⟩
      · rw [if_neg hsh]
        have hlt1 : decide ((s.size : Int) - (q : Int) < (n : Int)) = false := by rw [decide_eq_false_iff_not]; omega
        have HD : Hid (∀ w1 m, RRdr w1 b s q 0 → ((w1.drewN m).setCell ⟨b, 1, none⟩ (.int .i64 ((q : Int) + (n : Int)))).cell? ⟨b, 0, none⟩ = some (.string s) ∧ ((w1.drewN m).setCell ⟨b, 1, none⟩ (.int .i64 ((q : Int) + (n : Int)))).cell? ⟨b, 1, none⟩ = some (.int .i64 ((q : Int) + (n : Int)))) := Lib.hid (fun w1 m h => by
          have h' := (RRdr.putAt (w := w1.drewN m) h (q + n)).cells
          rw [Int.natCast_add] at h'
          exact ⟨h'.1, h'.2.1⟩)
        go_enter Try.func42, Try.ntmps42
        go_wp2_with fail
        refine HN.out.mono ?_
        rintro e w1 ⟨rfl, hk, hr⟩
        obtain ⟨c0, c1, c2, fz⟩ := hr.cells
        have HK := Lib.hid hk
        have HR := Lib.hid hr
        clear hk hr HN
        go_wp2_with fail
        go_quiet (fail)
        go_wp2_with fail
        obtain ⟨d0, d1⟩ := HD.out w1 nq HR.out
        obtain ⟨W2, hW⟩ : ∃ W2, (w1.drewN nq).setCell ⟨b, 1, none⟩ (.int .i64 ((q : Int) + (n : Int))) = W2 := ⟨_, rfl⟩
        rw [hW] at d0 d1 ⊢
        have HK2 : Hid (Kept [b] w W2) := Lib.hid (by rw [← hW]; exact (HK.out.drewN nq).set _ _ _ (.inl (by simp)))
        have HR2 : Hid (RRdr W2 b s (q + n) 0) := Lib.hid (by rw [← hW, ← Int.natCast_add]; exact RRdr.putAt (w := w1.drewN nq) HR.out (q + n))
        clear hW
        go_quiet (fail)
        go_wp2_with fail
        go_ret
        exact ⟨rfl, HK2.out.drewN _, HR2.out⟩
theorem frmR_err {s : ByteArray} {a c : Nat} (h : frmR s a = .error c) : c ≠ 0 := by
  unfold frmR at h
  split at h
  · rename_i c' hn
    injection h with h
    rw [← h]; exact numR_err hn
  · split at h
    · injection h with h; omega
    · split at h
      · injection h with h; omega
      · cases h
theorem results_edge (eb : Nat) (x y : Value) (w : World) (tmps : Array Value) (h4 : tmps[4]?.getD undef = .pointer (some ⟨eb, 0, none⟩)) (hb : w.heap[eb]? = some (.cells #[x, y] 113 (0, 0))) :
    (results Try.f56 tmps).run Try.prog w = .ok (.agg #[x, y]) w := by
  have b0 : w.cell? ⟨eb, 0, none⟩ = some x := by rw [Lib.cell_of_heap hb]; rfl
  have b1 : w.cell? ⟨eb, 1, none⟩ = some y := by rw [Lib.cell_of_heap hb]; rfl
  simp [results, Try.results56, go_sem, h4, b0, b1]
def edV (e : Ed) : Value := .agg #[.int .u8 (e.1.toNat : Int), .int .i64 e.2]
theorem edge_end {w W : World} {b a c : Nat} {s : ByteArray} {x0 y0 : Value} (x y : Value) (h : Kept [b] w W) (hr : RRdr W b s a c) (he : W.heap[w.heap.size]? = some (.cells #[x0, y0] 113 (0, 0))) (hb : b < w.heap.size) :
    ((W.setCell ⟨w.heap.size, 0, none⟩ x).setCell ⟨w.heap.size, 1, none⟩ y).heap[w.heap.size]? = some (.cells #[x, y] 113 (0, 0)) ∧ Kept [b] w ((W.setCell ⟨w.heap.size, 0, none⟩ x).setCell ⟨w.heap.size, 1, none⟩ y) ∧ RRdr ((W.setCell ⟨w.heap.size, 0, none⟩ x).setCell ⟨w.heap.size, 1, none⟩ y) b s a c := by
  refine ⟨heap_setCell_same _ w.heap.size 1 _ _ _ (heap_setCell_same W w.heap.size 0 _ _ _ he), (h.set _ _ _ (.inr (Nat.le_refl _))).set _ _ _ (.inr (Nat.le_refl _)), ?_⟩
  unfold RRdr
  rw [heap_setCell_other _ ⟨w.heap.size, 1, none⟩ b _ (by simp; omega), heap_setCell_other _ ⟨w.heap.size, 0, none⟩ b _ (by simp; omega)]
  exact hr
set_option maxHeartbeats 4000000 in
set_option maxRecDepth 100000 in
theorem redge_any (b : Nat) (s : ByteArray) (a n : Nat) (w : World) (hr : RRdr w b s a 0) (hs : s.size ≤ 140737488355327) (ha : a ≤ s.size) (hn : n ≤ 1048576) :
    Calls Try.prog 56 #[.pointer (some ⟨b, 0, none⟩), .int .u64 (n : Int)] w (PostQ b s w edV (.agg #[.int .u8 0, .int .i64 0]) (edgR s n a)) := by
  have hbw := block_lt hr
  have hne : w.heap.size ≠ b := by omega
  have hne' := Ne.symm hne
  obtain ⟨W0, hW0⟩ : ∃ W0, w.alloc (Obj.cells #[Value.int .u8 0, Value.int .i64 0] 113) = W0 := ⟨_, rfl⟩
  have HW0 := Lib.hid hW0
  have hr0 : RRdr W0 b s a 0 := by rw [← hW0]; exact hr.kept ((Kept.refl [] w).alloc _) (by simp)
  have he0 : W0.heap[w.heap.size]? = some (.cells #[Value.int .u8 0, Value.int .i64 0] 113 (0, 0)) := by rw [← hW0]; exact heap_alloc_new w _
  have hk0 : Kept [b] w W0 := by rw [← hW0]; exact (Kept.refl _ _).alloc _
  obtain ⟨c0, c1, c2, fz⟩ := hr0.cells
  have e0 : W0.cell? ⟨w.heap.size, 0, none⟩ = some (.int .u8 0) := by rw [Lib.cell_of_heap he0]; rfl
  have e1 : W0.cell? ⟨w.heap.size, 1, none⟩ = some (.int .i64 0) := by rw [Lib.cell_of_heap he0]; rfl
  have ef : ∀ i, W0.frozen? ⟨w.heap.size, i, none⟩ = false := Lib.frozen_of_heap he0
  have HB := Lib.hid hbw
  have HR0 := Lib.hid hr0
  have HE0 := Lib.hid he0
  have HK0 := Lib.hid hk0
  unfold edgR
  clear hr hr0 he0 hk0 hW0
  by_cases hsh : s.size < a + 1
  · rw [if_pos hsh]
    have hd : decide ((s.size : Int) ≤ (a : Int)) = true := by rw [decide_eq_true_iff]; omega
    have HZ := fun m => Lib.hid (edge_end (w := w) (W := (W0.drewN m).setCell ⟨b, 2, none⟩ (.int .i64 60)) (.int .u8 0) (.int .i64 0) ((HK0.out.drewN m).set _ _ _ (.inl (by simp))) (RRdr.putF (w := W0.drewN m) HR0.out 60) (by rw [heap_setCell_other _ ⟨b, 2, none⟩ _ _ hne]; exact HE0.out) HB.out)
    go_enter Try.func56, Try.ntmps56
    go_wp2_with fail
    rw [HW0.out]
    go_quiet (fail)
    go_wp2_with fail
    exact ⟨rfl, _, results_edge w.heap.size _ _ _ _ rfl (HZ nq).out.1, rfl, (HZ nq).out.2.1, by decide, a, ha, (HZ nq).out.2.2⟩
  · rw [if_neg hsh]
    have hd : decide ((s.size : Int) ≤ (a : Int)) = false := by rw [decide_eq_false_iff_not]; omega
    have hal : a < s.size := by omega
    have hal' : (a : Int) < (s.size : Int) := by omega
    have HBy := Lib.hid (byteAt_lt s a hal)
    have HNx : Hid (∀ W, RRdr W b s (a + 1) 0 → Calls Try.prog 41 #[.pointer (some ⟨b, 0, none⟩)] W (PostQ b s W (fun n : Nat => .int .u64 (n : Int)) (.int .u64 0) (numR s (a + 1)))) := Lib.hid (fun W h => next_any b s (a + 1) W h (by omega) (by omega))
    have HS1 : Hid (∀ m, RRdr ((W0.drewN m).setCell ⟨b, 1, none⟩ (.int .i64 ((a : Int) + 1))) b s (a + 1) 0) := Lib.hid (fun m => by
      have := RRdr.putAt (w := W0.drewN m) HR0.out (a + 1)
      rw [Int.natCast_add] at this
      exact this)
    have HS2 : Hid (∀ m W, Kept [b] ((W0.drewN m).setCell ⟨b, 1, none⟩ (.int .i64 ((a : Int) + 1))) W → Kept [b] w W ∧ W.heap[w.heap.size]? = some (.cells #[Value.int .u8 0, Value.int .i64 0] 113 (0, 0))) := Lib.hid (fun m W h => by
      refine ⟨(((HK0.out.drewN m).set _ _ _ (.inl (by simp)))).trans h, h.at (k := w.heap.size) ?_ (by simp; omega)⟩
      rw [heap_setCell_other _ ⟨b, 1, none⟩ _ _ hne]; exact HE0.out)
    clear hsh
    cases hv : numR s (a + 1) with
    | error c =>
      rw [hv] at HNx
      have hc0 := numR_err hv
      have hc' : ((c : Int) == 0) = false := by rw [beq_eq_false_iff_ne]; omega
      have hc'' : ((c : Int) != 0) = true := by simpa using hc0
      clear hv
      go_enter Try.func56, Try.ntmps56
      go_wp2_with fail
      rw [HW0.out]
      go_quiet (fail)
      go_wp2_with fail
      go_quiet (fail)
      go_wp2_with fail
      refine (HNx.out _ (HS1.out _)).mono ?_
      rintro e w2 ⟨rfl, hk, _, a', ha', hr⟩
      obtain ⟨hkw, hE⟩ := HS2.out _ _ hk
      obtain ⟨d0, d1, d2, dz⟩ := hr.cells
      have g0 : w2.cell? ⟨w.heap.size, 0, none⟩ = some (.int .u8 0) := by rw [Lib.cell_of_heap hE]; rfl
      have g1 : w2.cell? ⟨w.heap.size, 1, none⟩ = some (.int .i64 0) := by rw [Lib.cell_of_heap hE]; rfl
      have gf : ∀ i, w2.frozen? ⟨w.heap.size, i, none⟩ = false := Lib.frozen_of_heap hE
      have HZ := Lib.hid (edge_end (.int .u8 0) (.int .i64 0) hkw hr hE HB.out)
      clear hk hkw hE hr c0 c1 c2 fz e0 e1 ef
      go_wp2_with fail
      exact ⟨rfl, _, results_edge w.heap.size _ _ _ _ rfl HZ.out.1, rfl, HZ.out.2.1, hc0, a', ha', HZ.out.2.2⟩
    | ok r =>
      obtain ⟨to, p⟩ := r
      rw [hv] at HNx
      have hp := (numR_le hv).2
      clear hv
      dsimp only
      by_cases hto : n ≤ to
      · rw [if_pos hto]
        go_enter Try.func56, Try.ntmps56
        go_wp2_with fail
        rw [HW0.out]
        go_quiet (fail)
        go_wp2_with fail
        go_quiet (fail)
        go_wp2_with fail
        refine (HNx.out _ (HS1.out _)).mono ?_
        rintro e w2 ⟨rfl, hk, hr⟩
        obtain ⟨hkw, hE⟩ := HS2.out _ _ hk
        obtain ⟨d0, d1, d2, dz⟩ := hr.cells
        have g0 : w2.cell? ⟨w.heap.size, 0, none⟩ = some (.int .u8 0) := by rw [Lib.cell_of_heap hE]; rfl
        have g1 : w2.cell? ⟨w.heap.size, 1, none⟩ = some (.int .i64 0) := by rw [Lib.cell_of_heap hE]; rfl
        have gf : ∀ i, w2.frozen? ⟨w.heap.size, i, none⟩ = false := Lib.frozen_of_heap hE
        have HZ := Lib.hid (edge_end (w := w) (W := w2.setCell ⟨b, 2, none⟩ (.int .i64 190)) (.int .u8 0) (.int .i64 0) (hkw.set _ _ _ (.inl (by simp))) (RRdr.putF hr 190) (by rw [heap_setCell_other _ ⟨b, 2, none⟩ _ _ hne]; exact hE) HB.out)
        clear hk hkw hE hr c0 c1 c2 fz e0 e1 ef
        go_wp2_with fail
        exact ⟨rfl, _, results_edge w.heap.size _ _ _ _ rfl HZ.out.1, rfl, HZ.out.2.1, by decide, p, hp, HZ.out.2.2⟩
      · rw [if_neg hto]
        have htw : IntKind.i64.wrap (to : Int) = (to : Int) := by rw [IntKind.wrap_i64]; omega
        go_enter Try.func56, Try.ntmps56
        go_wp2_with fail
        rw [HW0.out]
        go_quiet (fail)
        go_wp2_with fail
        go_quiet (fail)
        go_wp2_with fail
        refine (HNx.out _ (HS1.out _)).mono ?_
        rintro e w2 ⟨rfl, hk, hr⟩
        obtain ⟨hkw, hE⟩ := HS2.out _ _ hk
        obtain ⟨d0, d1, d2, dz⟩ := hr.cells
        have g0 : w2.cell? ⟨w.heap.size, 0, none⟩ = some (.int .u8 0) := by rw [Lib.cell_of_heap hE]; rfl
        have g1 : w2.cell? ⟨w.heap.size, 1, none⟩ = some (.int .i64 0) := by rw [Lib.cell_of_heap hE]; rfl
        have gf : ∀ i, w2.frozen? ⟨w.heap.size, i, none⟩ = false := Lib.frozen_of_heap hE
        have HZ := Lib.hid (edge_end (.int .u8 (s[a].toNat : Int)) (.int .i64 (to : Int)) hkw hr hE HB.out)
        clear hk hkw hE hr c0 c1 c2 fz e0 e1 ef
        go_wp2_with fail
        exact ⟨rfl, _, results_edge w.heap.size _ _ _ _ rfl HZ.out.1, by rw [HBy.out]; rfl, HZ.out.2.1, HZ.out.2.2⟩
end Go.Proofs.Ytehbjfjhalpgaaa
