/-
  Copies of states; a checker with its least length.
-/
import Derived.Test.YthfndmpigpphoaaGreatRows
import Derived.Test.YthfndmpigpphoaaGreatJb1
namespace Go.Proofs.YthfndmpigpphoaaGreat
open Go.RowKit

abbrev AllB : Nat → Prop := fun _ => True
/-- States in a block g of their own, their edges in others of p. -/
def StRow (W : World) (p : Nat → Prop) (g : Nat) (a : List St) : Prop :=
  ∃ cs : Array Value, W.heap[g]? = some (.cells cs 120 (0, 0)) ∧ ∀ k (h : k < a.length), cs[k * 2]? = some (.bool a[k].1) ∧ ∃ ev, cs[k * 2 + 1]? = some ev ∧ EdsAt W (fun b => p b ∧ b ≠ g) ev a[k].2
theorem StRow.lt {W : World} {p : Nat → Prop} {g : Nat} {a : List St} (h : StRow W p g a) : g < W.heap.size := by
  obtain ⟨cs, h, _⟩ := h
  exact block_lt h
theorem StRow.aut {W : World} {p : Nat → Prop} {g cap : Nat} {a : List St} (h : StRow W p g a) (hp : p g) (hc : a.length ≤ cap ∧ cap ≤ maxLen) : AutAt W p (.slice (some ⟨g, 0, none⟩) a.length cap) a := by
  obtain ⟨cs, h1, h2⟩ := h
  refine ⟨_, cap, rfl, hc, .inr ⟨g, 0, rfl, block_lt h1, hp, fun k hk => ?_⟩⟩
  obtain ⟨c0, ev, c1, he⟩ := h2 k hk
  rw [Nat.zero_add, cell_of_row W g (k * 2) cs _ _ h1, cell_of_row W g (k * 2 + 1) cs _ _ h1]
  exact ⟨c0, ev, c1, he.mono (fun _ h => h.1)⟩
theorem StRow.keep {W W' : World} {p : Nat → Prop} {g : Nat} {a : List St} (h : StRow W p g a) (hb : Below W.heap.size W W') : StRow W' p g a := by
  obtain ⟨cs, h1, h2⟩ := h
  refine ⟨cs, (hb.block g (block_lt h1)).trans h1, fun k hk => ?_⟩
  obtain ⟨c0, ev, c1, he⟩ := h2 k hk
  exact ⟨c0, ev, c1, he.kept (E := []) (Kept.of_below hb) (by simp)⟩
theorem StRow.other {W : World} {p : Nat → Prop} {g b : Nat} {a : List St} (h : StRow W p g a) (hb : b ≠ g) (hp : ¬ p b) (i : Nat) (u : Value) : StRow (W.setCell ⟨b, i, none⟩ u) p g a := by
  obtain ⟨cs, h1, h2⟩ := h
  have hkp : Kept [b] W (W.setCell ⟨b, i, none⟩ u) := (Kept.refl [b] W).set _ _ _ (.inl (by simp))
  refine ⟨cs, (heap_setCell_other W ⟨b, i, none⟩ g u (fun e => hb e.symm)).trans h1, fun k hk => ?_⟩
  obtain ⟨c0, ev, c1, he⟩ := h2 k hk
  exact ⟨c0, ev, c1, he.kept hkp (by intro k hk hh; simp at hk; subst hk; exact hp hh.1)⟩
theorem StRow.set {W : World} {p : Nat → Prop} {g : Nat} {a : List St} (h : StRow W p g a) (k : Nat) (hk : k < a.length) (u : Value) (hu : EdsAt W (fun b => p b ∧ b ≠ g) u a[k].2) : StRow (W.setCell ⟨g, k * 2 + 1, none⟩ u) p g a := by
  obtain ⟨cs, h1, h2⟩ := h
  have hkp : Kept [g] W (W.setCell ⟨g, k * 2 + 1, none⟩ u) := (Kept.refl [g] W).set _ _ _ (.inl (by simp))
  have hno : ∀ k ∈ [g], ¬ (p k ∧ k ≠ g) := by intro k hk hh; simp at hk; exact hh.2 hk
  refine ⟨cs.setIfInBounds (k * 2 + 1) u, by simp [World.setCell, Array.getElem?_modify, h1], fun j hj => ?_⟩
  obtain ⟨c0, ev, c1, he⟩ := h2 j hj
  have hin : k * 2 + 1 < cs.size := by
    obtain ⟨_, _, c, _⟩ := h2 k hk
    exact (Array.getElem?_eq_some_iff.1 c).1
  refine ⟨by rw [Array.getElem?_setIfInBounds_ne (by omega)]; exact c0, ?_⟩
  by_cases e : j = k
  · subst e
    exact ⟨u, by rw [Array.getElem?_setIfInBounds_self_of_lt hin], hu.kept hkp hno⟩
  · exact ⟨ev, by rw [Array.getElem?_setIfInBounds_ne (by omega)]; exact c1, he.kept hkp hno⟩
theorem StRow.cell {W : World} {p : Nat → Prop} {g : Nat} {a : List St} (h : StRow W p g a) (k : Nat) (hk : k < a.length) : ∃ ev, W.cell? ⟨g, k * 2 + 1, none⟩ = some ev ∧ EdsAt W AllB ev a[k].2 := by
  obtain ⟨cs, h1, h2⟩ := h
  obtain ⟨c0, ev, c1, he⟩ := h2 k hk
  rw [cell_of_row W g (k * 2 + 1) cs _ _ h1]
  exact ⟨ev, c1, he.mono (fun _ _ => trivial)⟩
theorem StRow.fz {W : World} {p : Nat → Prop} {g : Nat} {a : List St} (h : StRow W p g a) (k : Nat) : W.frozen? ⟨g, k, none⟩ = false := by
  obtain ⟨cs, h1, _⟩ := h
  exact Lib.frozen_of_heap h1 k
theorem EdsAt.live {w : World} {p : Nat → Prop} {v : Value} {es : List Ed} (h : EdsAt w p v es) (B : Nat) (hB : w.heap.size ≤ B) : EdsAt w (fun b => p b ∧ b ≠ B) v es := by
  obtain ⟨A, cap, hv, hc, h0⟩ := h
  exact ⟨A, cap, hv, hc, h0.imp id fun ⟨g, o, hA, hg, hp, hcs⟩ => ⟨g, o, hA, hg, ⟨hp, by omega⟩, hcs⟩⟩

theorem pick_list {α : Type} {p : Nat → α → Prop} : ∀ n : Nat, (∀ k, k < n → ∃ a, p k a) → ∃ l : List α, l.length = n ∧ ∀ k (h : k < l.length), p k l[k]
  | 0, _ => ⟨[], rfl, fun k h => absurd h (Nat.not_lt_zero _)⟩
  | n + 1, h => by
    obtain ⟨l, hl, hp⟩ := pick_list n (fun k hk => h k (by omega))
    obtain ⟨a, ha⟩ := h n (by omega)
    refine ⟨l ++ [a], by simp [hl], fun k hk => ?_⟩
    by_cases e : k < l.length
    · rw [List.getElem_append_left e]; exact hp k e
    · have : k = n := by simp at hk; omega
      subst this
      rw [List.getElem_append_right (by omega)]
      simp only [hl, Nat.sub_self, List.getElem_cons_zero]
      exact ha
abbrev stC (ps : List (Bool × Value)) : List Value := pairC (fun p : Bool × Value => Value.bool p.1) (fun p => p.2) ps
theorem stC_one (ps : List (Bool × Value)) (h : ∀ k (hk : k < ps.length), ps[k].2.oneCell' = true) : ∀ u ∈ stC ps, u.oneCell' = true := by
  intro u hu
  obtain ⟨e, he, hu⟩ := List.mem_flatMap.1 hu
  obtain ⟨k, hk, rfl⟩ := List.getElem_of_mem he
  rcases List.mem_cons.1 hu with rfl | hu
  · rfl
  · rw [List.mem_singleton.1 hu]; exact h k hk
/-- The states of a slice, raw. -/
theorem AutAt.raw {w : World} {p : Nat → Prop} {A : Option Addr} {cap : Nat} {a : List St} (h : AutAt w p (.slice A a.length cap) a) :
    ∃ ps : List (Bool × Value), ps.length = a.length ∧ (∀ k (h : k < ps.length) (h' : k < a.length), ps[k].1 = a[k].1 ∧ EdsAt w p ps[k].2 a[k].2) ∧ (a.length = 0 ∨ ∃ ad, A = some ad ∧ ∀ j u, (stC ps)[j]? = some u → w.cell? (ad.add j) = some u) := by
  obtain ⟨A', cap', hv, -, h⟩ := h
  cases hv
  rcases h with h0 | ⟨g, o, hA, -, -, hc⟩
  · exact ⟨[], by rw [h0]; rfl, fun k h => absurd h (Nat.not_lt_zero _), .inl h0⟩
  · obtain ⟨ps, hl, hp⟩ := pick_list (α := Bool × Value) (p := fun k x => ∀ (h : k < a.length), x.1 = a[k].1 ∧ w.cell? ⟨g, o + k * 2, none⟩ = some (.bool x.1) ∧ w.cell? ⟨g, o + k * 2 + 1, none⟩ = some x.2 ∧ EdsAt w p x.2 a[k].2) a.length (fun k hk => by
      obtain ⟨c0, ev, c1, he⟩ := hc k hk
      exact ⟨(a[k].1, ev), fun _ => ⟨rfl, c0, c1, he⟩⟩)
    refine ⟨ps, hl, fun k h h' => ⟨(hp k h h').1, (hp k h h').2.2.2⟩, .inr ⟨_, hA, fun j u hj => ?_⟩⟩
    rw [addr_j]
    obtain ⟨k, hk, ⟨rfl, rfl⟩ | ⟨rfl, rfl⟩⟩ := pairC_in _ _ _ _ _ hj
    · exact (hp k hk (by omega)).2.1
    · rw [← Nat.add_assoc]; exact (hp k hk (by omega)).2.2.1

set_option maxHeartbeats 1000000 in
set_option maxRecDepth 100000 in
theorem so_CloneS (p : Nat → Prop) (v : Value) (a : List St) (w : World) (h : AutAt w p v a) (hn : a.length ≤ 1048576) :
    Calls Tryz.prog 98 #[v] w fun e w' => ∃ A cap, e = .returned (.slice A a.length cap) ∧ Below w.heap.size w w' ∧ (a.length ≤ cap ∧ cap ≤ maxLen) ∧ (a.length = 0 ∨ ∃ g, A = some ⟨g, 0, none⟩ ∧ w.heap.size ≤ g ∧ StRow w' p g a) := by
  obtain ⟨i0, hi, hz0, hz1, hz2⟩ := info_parts state_inf
  have qn : ∀ (w : World) (a : Option Addr) (n c n' c' : Nat), (binOp .eql 46 (.slice a n c) (.slice none n' c')).run Tryz.prog w = .ok (.bool a.isNone) w := fun w a n c n' c' => Lib.run_eql_slice_nil w _ _ a n c n' c' Tryz.underlying46
  obtain ⟨A, cap, rfl, -⟩ := id h
  obtain ⟨ps, hpl, hp, hsrc⟩ := h.raw
  have HS : Hid (a.length = 0 ∨ ∃ ad, A = some ad ∧ ∀ j u, (stC ps)[j]? = some u → (w.alloc (.cells #[] 120)).cell? (ad.add j) = some u) := Lib.hid (hsrc.imp id (by
    rintro ⟨ad, hA, hc⟩
    exact ⟨ad, hA, fun j u hj => (((below_alloc w (.cells #[] 120)).cell (World.block_lt_of_cell? w _ (hc j u hj)))).trans (hc j u hj)⟩))
  have HP := Lib.hid hp
  have HPl := Lib.hid hpl
  clear h hp hsrc hpl
  by_cases hA : A = none
  · subst hA
    have he : a.length = 0 := by
      rcases HS.out with h | ⟨ad, h, _⟩
      · exact h
      · cases h
    rw [he]
    go_enter Tryz.func98, Tryz.ntmps98
    go_wp2_with fail
    go_ret
    exact ⟨_, _, rfl, Below.refl _ _, by omega, by first | exact .inl rfl | exact .inl trivial⟩
  · obtain ⟨ad, rfl⟩ : ∃ ad, A = some ad := by
      cases A with
      | none => exact absurd rfl hA
      | some ad => exact ⟨ad, rfl⟩
    clear hA
    go_enter Tryz.func98, Tryz.ntmps98
    go_wp2_with (at_builtin; refine wpList_append_fresh rfl _ _ 46 rfl w.heap.size 120 i0 _ 2 32 Tryz.underlying46 hi hz0 hz1 hz2 rfl (by decide) _ rfl (own_empty w 120 2) (some ad) a.length cap (stC ps) rfl (by rw [pairC_len, HPl.out]) HS.out (stC_one ps (fun k hk => by obtain ⟨E1, c1, hv1, _⟩ := (HP.out k hk (by rw [← HPl.out]; exact hk)).2; rw [hv1]; rfl)) (by unfold maxLen; omega) (by omega) (by simp) ?_; intro A2 c2 w2 hown hg; have HO := Lib.hid hown; have HB := Lib.hid (((Below.refl w.heap.size w).alloc (Nat.le_refl _) (.cells #[] 120)).grown hg (by simp) (fun k e => by cases e; exact Nat.le_refl _)); clear hown hg)
    go_ret
    refine ⟨A2, c2, rfl, HB.out, ?_⟩
    rcases HO.out.2 with ⟨hv, h0⟩ | ⟨g, cap2, cur, hv, hB, hg, hn2, hm, hsz, ht⟩
    · injection hv with q1 q2 q3
      exact ⟨by omega, .inl h0⟩
    · injection hv with q1 q2 q3
      subst q1 q3
      refine ⟨⟨hn2, hm⟩, .inr ⟨g, rfl, hB, cur, hg, fun k hk => ?_⟩⟩
      have hk' : k < ps.length := by rw [HPl.out]; exact hk
      obtain ⟨c0, c1⟩ := pairC_at (fun p : Bool × Value => Value.bool p.1) (fun p => p.2) ps k hk'
      obtain ⟨p1, p2⟩ := HP.out k hk' hk
      have at_ : ∀ (j : Nat) (u : Value), j < a.length * 2 → (stC ps)[j]? = some u → cur[j]? = some u := fun j u hj hu => by
        rw [← ht, List.getElem?_take_of_lt hj] at hu
        simpa using hu
      have q0 := at_ _ _ (by omega) c0
      rw [p1] at q0
      refine ⟨q0, _, at_ _ _ (by omega) c1, ?_⟩
      exact (p2.live g hB).kept (E := []) (Kept.of_below HB.out) (by simp)
set_option maxHeartbeats 1000000 in
set_option maxRecDepth 100000 in
theorem so_CloneR (v : Value) (rs : List (ByteArray × ByteArray)) (w : World) (h : RepsAt w v rs) (hn : rs.length ≤ 1048576) :
    Calls Tryz.prog 97 #[v] w fun e w' => ∃ A cap, e = .returned (.slice A rs.length cap) ∧ Below w.heap.size w w' := by
  obtain ⟨i0, hi, hz0, hz1, hz2⟩ := info_parts rep_inf
  have qn : ∀ (w : World) (a : Option Addr) (n c n' c' : Nat), (binOp .eql 45 (.slice a n c) (.slice none n' c')).run Tryz.prog w = .ok (.bool a.isNone) w := fun w a n c n' c' => Lib.run_eql_slice_nil w _ _ a n c n' c' Tryz.underlying45
  obtain ⟨A, cap, rfl, hsrc⟩ := h
  have HS : Hid (rs.length = 0 ∨ ∃ ad, A = some ad ∧ ∀ j u, (pairC (fun p : ByteArray × ByteArray => Value.string p.1) (fun p => Value.string p.2) rs)[j]? = some u → (w.alloc (.cells #[] 85)).cell? (ad.add j) = some u) := Lib.hid (hsrc.imp id (by
    rintro ⟨g, o, hA, hg, hc⟩
    refine ⟨_, hA, fun j u hj => ?_⟩
    rw [addr_j]
    refine ((below_alloc w (.cells #[] 85)).cell (p := ⟨g, o + j, none⟩) hg).trans ?_
    obtain ⟨k, hk, ⟨rfl, rfl⟩ | ⟨rfl, rfl⟩⟩ := pairC_in _ _ _ _ _ hj
    · exact (hc k hk).1
    · rw [← Nat.add_assoc]; exact (hc k hk).2))
  clear hsrc
  by_cases hA : A = none
  · subst hA
    have he : rs.length = 0 := by
      rcases HS.out with h | ⟨ad, h, _⟩
      · exact h
      · cases h
    rw [he]
    go_enter Tryz.func97, Tryz.ntmps97
    go_wp2_with fail
    go_ret
    exact ⟨_, _, rfl, Below.refl _ _⟩
  · obtain ⟨ad, rfl⟩ : ∃ ad, A = some ad := by
      cases A with
      | none => exact absurd rfl hA
      | some ad => exact ⟨ad, rfl⟩
    clear hA
    go_enter Tryz.func97, Tryz.ntmps97
    go_wp2_with (at_builtin; refine wpList_append_fresh rfl _ _ 45 rfl w.heap.size 85 i0 _ 2 32 Tryz.underlying45 hi hz0 hz1 hz2 rfl (by decide) _ rfl (own_empty w 85 2) (some ad) rs.length cap _ rfl (pairC_len _ _ _) HS.out (by intro u hu; obtain ⟨e, he, hu⟩ := List.mem_flatMap.1 hu; simp at hu; rcases hu with rfl | rfl <;> rfl) (by unfold maxLen; omega) (by omega) (by simp) ?_; intro A2 c2 w2 hown hg; have HB := Lib.hid (((Below.refl w.heap.size w).alloc (Nat.le_refl _) (.cells #[] 85)).grown hg (by simp) (fun k e => by cases e; exact Nat.le_refl _)); clear hown hg)
    go_ret
    exact ⟨_, _, rfl, HB.out⟩

/-- A pointer to a checker, with its book's least length and replacements. -/
def CkL (w : World) (c : Value) (least : Int) (rs : List (ByteArray × ByteArray)) (As : List (List St)) : Prop :=
  ∃ cb t vr v0 v1 v2 v3 s, c = .pointer (some ⟨cb, 0, none⟩) ∧ w.heap[cb]? = some (.cells #[.int .i64 least, .string t, vr, v0, v1, v2, v3, s] 53 (0, 0)) ∧ BkAt w AllB vr v0 v1 v2 v3 rs As ∧ rs.length ≤ 1048576 ∧ ∀ A ∈ As, shapeB A = true ∧ Slim A
theorem CkL.keep {w w' : World} {c : Value} {least : Int} {rs : List (ByteArray × ByteArray)} {As : List (List St)} (h : CkL w c least rs As) (hb : Below w.heap.size w w') : CkL w' c least rs As := by
  obtain ⟨cb, t, vr, v0, v1, v2, v3, s, hc, hh, hs, hr, ha⟩ := h
  exact ⟨cb, t, vr, v0, v1, v2, v3, s, hc, (hb.block cb (block_lt hh)).trans hh, hs.keep hb, hr, ha⟩
theorem CkL.ck {w : World} {c : Value} {least : Int} {rs : List (ByteArray × ByteArray)} {As : List (List St)} (h : CkL w c least rs As) : CkAt w c As := by
  obtain ⟨cb, t, vr, v0, v1, v2, v3, s, hc, hh, hs, hr, ha⟩ := h
  exact ⟨cb, _, _, vr, v0, v1, v2, v3, s, hc, hh, hs.len, hs.secs, ha⟩

set_option maxHeartbeats 1000000 in
theorem so_LoadL (s : ByteArray) (w : World) (hs : s.size ≤ 562949953421311) :
    Calls Tryz.prog 5 #[.string s] w fun e w' => ∃ c err, e = .returned (.tuple #[c, err]) ∧ Below w.heap.size w w' ∧ match decR s with | .ok b => CkL w' c b.least b.reps b.secs | .error _ => c = .pointer none := by
  have hD := Decode_b s w hs
  cases hr : decR s with
  | error code =>
    refine (so_Load s w hs).mono ?_
    rw [hr]
    rintro e w' ⟨c, err, he, hb, hc⟩
    exact ⟨c, err, he, hb, hc⟩
  | ok b =>
    rw [hr] at hD
    have HD := Lib.hid hD
    clear hD
    have hbd := decR_bounds hr
    have HBD := Lib.hid hbd
    clear hbd hr
    go_enter Tryz.func5, Tryz.ntmps5
    go_wp2_with fail
    refine HD.out.mono ?_
    rintro e w1 ⟨vr, v0, v1, v2, v3, rfl, hb1, hk1⟩
    have HB1 := Lib.hid hb1
    have HK1 := Lib.hid hk1
    obtain ⟨X, k, X0, n0, k0, X1, n1, k1, X2, n2, k2, X3, n3, k3, rfl, rfl, rfl, rfl, rfl⟩ := hk1.form
    clear hb1 hk1
    dsimp only [decB]
    go_wp2_with fail
    go_ret2
    refine ⟨_, _, rfl, (HB1.out.alloc HB1.out.size _).alloc (by simp; have := HB1.out.size; omega) _, ?_⟩
    obtain ⟨hrl, -, hl, hb⟩ := HBD.out
    have hnew := fun o => heap_alloc_new (w1.alloc (.cells #[.int .i64 (b.least : Int), .string b.tryT, .slice X b.reps.length k, .slice X0 n0 k0, .slice X1 n1 k1, .slice X2 n2 k2, .slice X3 n3 k3] 49)) o
    simp only [World.size_alloc] at hnew
    refine ⟨_, _, _, _, _, _, _, _, rfl, hnew _, (HK1.out.keep (below_alloc w1 _)).keep (below_alloc _ _), by omega, fun A hA => ⟨(hb A hA).1, (hb A hA).2.2⟩⟩
end Go.Proofs.YthfndmpigpphoaaGreat
