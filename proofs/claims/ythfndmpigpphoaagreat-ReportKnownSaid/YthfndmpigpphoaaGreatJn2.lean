/-
  The reference's Split walked over its table.
-/
import Derived.Test.YthfndmpigpphoaaGreatRows
import Derived.Test.YthfndmpigpphoaaGreatJn1
namespace Go.Proofs.YthfndmpigpphoaaGreat
open Go.RowKit

theorem fewG_keep {n : Nat} {p : Nat → Nat → Bool} : ∀ (m d j : Nat), m + d ≤ n → n - m ≤ j → fewG n p (m + d) j = fewG n p m j
  | m, 0, j, _, _ => rfl
  | m, d + 1, j, h, hj => by
    rw [← Nat.add_assoc, fewG]
    dsimp only
    rw [if_neg (by omega)]
    exact fewG_keep m d j (by omega) hj
theorem fewG_n {n : Nat} {p : Nat → Nat → Bool} : fewG n p n n = 0 := by
  have := fewG_keep (n := n) (p := p) 0 n n (by omega) (by omega)
  rw [Nat.zero_add] at this
  rw [this]; rfl
/-- From each place that can be joined there is a piece to the next such place. -/
theorem fewG_next {n : Nat} {p : Nat → Nat → Bool} {i : Nat} (hi : i < n) (h : 0 ≤ fewG n p n i) :
    ∃ k, i < k ∧ k ≤ n ∧ p i k = true ∧ 0 ≤ fewG n p n k ∧ fewG n p n k = fewG n p n i - 1 ∧ ¬ (i = 0 ∧ k = n) := by
  have e1 : fewG n p n i = fewG n p (n - i) i := by
    have := fewG_keep (n := n) (p := p) (n - i) i i (by omega) (by omega)
    rwa [show n - i + i = n by omega] at this
  obtain ⟨m, hm⟩ : ∃ m, n - i = m + 1 := ⟨n - i - 1, by omega⟩
  have e2 : fewG n p n i = fewR n i (fewG n p m) (p i) (List.range' (i + 1) (m + 1)) := by
    rw [e1, hm, fewG]
    dsimp only
    rw [if_pos (by omega), show n - 1 - m = i by omega, show n - m = i + 1 by omega]
  have hk : ∀ k, i < k → fewG n p n k = fewG n p m k := fun k hik => by
    have := fewG_keep (n := n) (p := p) m (n - m) k (by omega) (by omega)
    rwa [show m + (n - m) = n by omega] at this
  rcases (foldR (n := n) (i := i) (g := fewG n p m) (p := p i) (List.range' (i + 1) (m + 1)) (-1) (by omega)).1 with h1 | ⟨k, hkm, hok, hf⟩
  · unfold fewR at e2
    rw [h1] at e2
    omega
  · rw [List.mem_range'_1] at hkm
    unfold fewR at e2
    rw [← e2] at hf
    rw [← hk k (by omega)] at hf
    refine ⟨k, by omega, by omega, hok.1, ?_, by omega, hok.2.2⟩
    rw [hk k (by omega)]
    exact hok.2.1
theorem TabAt.keep {w w' : World} {v : Value} {n : Nat} {p : Nat → Nat → Bool} (h : TabAt w v n p) (hb : Below w.heap.size w w') : TabAt w' v n p := by
  obtain ⟨P, c, hv, h0⟩ := h
  refine ⟨P, c, hv, h0.imp id ?_⟩
  rintro ⟨g, o, hP, hr⟩
  refine ⟨g, o, hP, fun i hi => ?_⟩
  obtain ⟨g2, o2, c2, h1, h2⟩ := hr i hi
  exact ⟨g2, o2, c2, (hb.cell (World.block_lt_of_cell? w _ h1)).trans h1, fun j hj => (hb.cell (World.block_lt_of_cell? w _ (h2 j hj))).trans (h2 j hj)⟩
theorem RowF.keep {w w' : World} {g n : Nat} {f : Nat → Int} (h : RowF w g n f) (hb : Below w.heap.size w w') : RowF w' g n f := by
  obtain ⟨cs, hc, r⟩ := h
  exact ⟨cs, (hb.block g (Array.getElem?_eq_some_iff.1 hc).1).trans hc, r⟩
theorem cells_seven {w : World} {b e : Nat} {a0 a1 a2 a3 a4 a5 a6 : Value} (h : w.heap[b]? = some (.cells #[a0, a1, a2, a3, a4, a5, a6] e (0, 0))) :
    w.cell? ⟨b, 0, none⟩ = some a0 ∧ w.cell? ⟨b, 1, none⟩ = some a1 ∧ w.cell? ⟨b, 2, none⟩ = some a2 ∧ w.cell? ⟨b, 3, none⟩ = some a3 ∧ w.cell? ⟨b, 4, none⟩ = some a4 ∧ w.cell? ⟨b, 5, none⟩ = some a5 ∧ w.cell? ⟨b, 6, none⟩ = some a6 := by
  refine ⟨?_, ?_, ?_, ?_, ?_, ?_, ?_⟩ <;> · rw [Lib.cell_of_heap h]; rfl
theorem own_sl {w : World} {B e size n : Nat} {v : Value} {xs : List Value} (h : w.ownsRow B e size v n xs) : ∃ P c, v = .slice P n c := by
  rcases h.2 with ⟨rfl, h0⟩ | ⟨g, cap, cur, rfl, _⟩
  · exact ⟨none, 0, by rw [h0]⟩
  · exact ⟨_, cap, rfl⟩
/-- What Split tells of a text: is it joined? -/
def isJoined (s : ByteArray) (p : Nat → Nat → Bool) : Bool := decide (0 < s.size) && decide (s.size ≤ 1024) && decide (0 ≤ fewG s.size p s.size 0)

set_option maxHeartbeats 2000000 in
set_option maxRecDepth 100000 in
theorem so_rSplit (b : Int) (t : ByteArray) (X X0 X1 X2 X3 : Option Addr) (l k l0 k0 l1 k1 l2 k2 l3 k3 : Nat) (s : ByteArray) (p : Nat → Nat → Bool) (w : World) (hp : ∀ i j, p i j = true → i < j) (hs : s.size ≤ maxLen)
    (hT : ∀ W, Below w.heap.size w W → Calls Tryz.prog 42 #[.agg #[.int .i64 b, .string t, .slice X l k, .slice X0 l0 k0, .slice X1 l1 k1, .slice X2 l2 k2, .slice X3 l3 k3], .string s] W fun e w' => ∃ v, e = .returned v ∧ TabAt w' v s.size p ∧ Below W.heap.size W w') :
    Calls Tryz.prog 18 #[.agg #[.int .i64 b, .string t, .slice X l k, .slice X0 l0 k0, .slice X1 l1 k1, .slice X2 l2 k2, .slice X3 l3 k3], .string s] w fun e w' => ∃ P m c, e = .returned (.slice P m c) ∧ decide (0 < m) = isJoined s p ∧ Below w.heap.size w w' := by
  have HT := Lib.hid hT
  have HPb := Lib.hid hp
  have B0 := Lib.hid ((Below.refl w.heap.size w).alloc (Nat.le_refl _) (.cells #[.int .i64 b, .string t, .slice X l k, .slice X0 l0 k0, .slice X1 l1 k1, .slice X2 l2 k2, .slice X3 l3 k3] 33))
  obtain ⟨e0, e1, e2, e3, e4, e5, e6⟩ := cells_seven (heap_alloc_new w (.cells #[.int .i64 b, .string t, .slice X l k, .slice X0 l0 k0, .slice X1 l1 k1, .slice X2 l2 k2, .slice X3 l3 k3] 33))
  obtain ⟨w0, hw0⟩ : ∃ w0, w.alloc (.cells #[.int .i64 b, .string t, .slice X l k, .slice X0 l0 k0, .slice X1 l1 k1, .slice X2 l2 k2, .slice X3 l3 k3] 33) = w0 := ⟨_, rfl⟩
  rw [hw0] at B0 e0 e1 e2 e3 e4 e5 e6
  have HW0 := Lib.hid hw0
  clear hT hp hw0
  rcases Nat.eq_zero_or_pos s.size with hz | hz
  · have q0 : ((s.size : Int) == 0) = true := by rw [beq_iff_eq]; omega
    have hJ := Lib.hid (show isJoined s p = false by unfold isJoined; rw [show decide (0 < s.size) = false from decide_eq_false (by omega)]; rfl)
    clear hz
    go_enter Tryz.func18, Tryz.ntmps18
    go_wp2_with fail
    go_ret
    exact ⟨_, _, _, rfl, by rw [hJ.out]; rfl, by rw [HW0.out]; exact B0.out⟩
  · have q0 : ((s.size : Int) == 0) = false := by rw [beq_eq_false_iff_ne]; omega
    by_cases hbig : 1024 < s.size
    · have hJ := Lib.hid (show isJoined s p = false by unfold isJoined; rw [show decide (s.size ≤ 1024) = false from decide_eq_false (by omega), Bool.and_false]; rfl)
      have q1 : (1024 : Int) < (s.size : Int) := by omega
      go_enter Tryz.func18, Tryz.ntmps18
      go_wp2_with fail
      go_ret
      exact ⟨_, _, _, rfl, by rw [hJ.out]; rfl, by rw [HW0.out]; exact B0.out⟩
    · have q1 : decide ((1024 : Int) < (s.size : Int)) = false := decide_eq_false (by omega)
      have q1' : ¬ (1024 : Int) < (s.size : Int) := by omega
      go_enter Tryz.func18, Tryz.ntmps18
      go_wp2_with fail
      rw [HW0.out]
      refine (HT.out w0 B0.out).mono ?_
      rintro e w1 ⟨v, rfl, ht1, b1⟩
      have B1 := Lib.hid (B0.out.trans (b1.mono B0.out.size))
      have HT1 := Lib.hid ht1
      clear b1 ht1
      go_wp2_with fail
      refine (so_fewest v s.size p w1 HT1.out (by omega) hz).mono ?_
      rintro e w2 ⟨rfl, hr2, b2⟩
      have B2 := Lib.hid (B1.out.trans (b2.mono B1.out.size))
      have HT2 := Lib.hid (HT1.out.keep b2)
      have HR2 := Lib.hid hr2
      have u0 := hr2.cell 0 (by omega)
      clear b2 hr2
      by_cases hneg : fewG s.size p s.size 0 < 0
      · have hJ := Lib.hid (show isJoined s p = false by unfold isJoined; rw [show decide (0 ≤ fewG s.size p s.size 0) = false from decide_eq_false (by omega), Bool.and_false])
        go_wp2_with fail
        go_ret
        exact ⟨_, _, _, rfl, by rw [hJ.out]; rfl, B2.out⟩
      · have hJ := Lib.hid (show isJoined s p = true by unfold isJoined; rw [show decide (0 < s.size) = true from decide_eq_true hz, show decide (s.size ≤ 1024) = true from decide_eq_true (by omega), show decide (0 ≤ fewG s.size p s.size 0) = true from decide_eq_true (by omega)]; rfl)
        obtain ⟨F, hF⟩ : ∃ F, fewG s.size p s.size = F := ⟨_, rfl⟩
        have hFn : F s.size = 0 := by rw [← hF]; exact fewG_n
        have HF := Lib.hid (show ∀ i, i < s.size → 0 ≤ F i → ∃ k, i < k ∧ k ≤ s.size ∧ p i k = true ∧ 0 ≤ F k ∧ F k = F i - 1 ∧ ¬ (i = 0 ∧ k = s.size) from fun i hi h => by rw [← hF] at h ⊢; exact fewG_next hi h)
        have HFb := Lib.hid (show ∀ j, -1 ≤ F j ∧ F j ≤ 1024 from fun j => by rw [← hF]; have := fewG_bd (n := s.size) (p := p) s.size j; omega)
        rw [hF] at hneg HR2 u0
        have hsz2 := B2.out.size
        obtain ⟨i0, hi, hz0, hz1, hz2⟩ := info_parts str_info
        clear hF
        go_wp2_with fail
        go_loopw [8, 9] (fun ov i wr => ∃ (q m : Nat) (xs : List Value), q ≤ s.size ∧ i = .int .i64 (q : Int) ∧ Hid (0 ≤ F q ∧ m ≤ q ∧ (0 < q → 0 < m)) ∧ Hid (wr.ownsRow w2.heap.size 9 1 ov m xs) ∧ Hid (Below w2.heap.size w2 wr)) (fun _ i _ => s.size - (intOf i).toNat)
        case atStart => exact ⟨0, 0, [], Nat.zero_le _, rfl, Lib.hid ⟨by omega, Nat.le_refl _, fun h => by omega⟩, Lib.hid (World.ownsRow_nil _ _ _ _), Below.refl _ _⟩
        case round =>
          obtain ⟨q, m, xs, hq, rfl, HQ, HO, HB⟩ := hrel
          by_cases hlt : q < s.size
          · obtain ⟨ks, hk1, hk2, hk3, hk4, hk5, hk6⟩ := HF.out q hlt HQ.out.1
            have HT3 := HT2.out.keep HB.out
            have HR3 := HR2.out.keep HB.out
            obtain ⟨Pt, ct, rfl, ht0⟩ := HT3
            obtain ⟨g, o, rfl, hrows⟩ := ht0.resolve_left (by omega)
            obtain ⟨g2, o2, c2, hci, hcells⟩ := hrows q hlt
            have HC := Lib.hid hcells
            have HR3' := Lib.hid HR3
            have uq := HR3.cell q (by omega)
            have hfq := HFb.out q
            have hK := Lib.hid (show q < ks ∧ ks ≤ s.size ∧ p q ks = true ∧ F ks = F q - 1 ∧ 0 ≤ F ks ∧ ¬ (q = 0 ∧ ks = s.size) from ⟨hk1, hk2, hk3, hk5, hk4, hk6⟩)
            clear hrows ht0 hcells HR3 hk3 hk4 hk5
            obtain ⟨wo, rfl⟩ : ∃ wo : World, wo = wr := ⟨_, rfl⟩
            rcases Nat.eq_zero_or_pos q with hq0 | hq0
            · have qz : ((q : Int) == 0) = true := by rw [beq_iff_eq]; omega
              have hks : ks ≤ s.size - 1 := by omega
              have hcast : (s.size : Int) - 1 = ((s.size - 1 : Nat) : Int) := by omega
              clear hq0 hk6
              go_wp2_with fail
              try rw [hcast]
              go_loopw [10] (fun kk wr => ∃ k d : Nat, ks ≤ k ∧ k ≤ s.size ∧ kk = .int .i64 (k : Int) ∧ wr = wo.drewN d) (fun kk _ => (intOf kk).toNat)
              case atStart => exact ⟨_, 0, by omega, by omega, rfl, rfl⟩
              case round =>
                obtain ⟨k, d, hkk1, hkk2, rfl, rfl⟩ := hrel
                have t1 := HC.out k hkk2
                have uk := HR3'.out.cell k hkk2
                have hfk := HFb.out k
                by_cases hsat : p q k = true ∧ F k = F q - 1
                · obtain ⟨hs1, hs2⟩ := hsat
                  rw [hs1] at t1
                  have qn : (F k != F q - 1) = false := by rw [hs2]; simp
                  have hqk := HPb.out q k hs1
                  have HN := Lib.hid (show 0 ≤ F k from by have h5 := hK.out.2.2.2.1; have h4 := hK.out.2.2.2.2.1; omega)
                  have hm1 := HQ.out.2.1
                  have hszo := HB.out.size
                  clear hs1 hs2
                  go_wp2_with fail
                  go_quiet (fail)
                  go_wp2_with (at_builtin; refine wpList_push1 rfl _ _ 22 rfl w2.heap.size 9 i0 (.string ByteArray.empty) 16 Tryz.underlying22 hi hz0 hz1 hz2 rfl _ m _ rfl (by exact HO.out) _ rfl rfl (by unfold maxLen; omega) (by omega) (by exact hszo) ?_; intro gg cc w4 hown hg4)
                  have HB4 := Lib.hid (below_push (B := w2.heap.size) (below_drewN HB.out _) (by exact HO.out) hg4 (Nat.le_refl _) (by exact hszo))
                  go_roundw
                  case rel => exact ⟨k, m + 1, _, by omega, rfl, Lib.hid ⟨HN.out, by omega, fun _ => by omega⟩, Lib.hid hown, HB4⟩
                  case measure => simp [intOf]; omega
                · cases hpk : p q k
                  · rw [hpk] at t1
                    have hne : k ≠ ks := fun e => by rw [e, hK.out.2.2.1] at hpk; cases hpk
                    go_wp2_with fail
                    go_quiet (fail)
                    go_wp2_with fail
                    go_roundw
                    case rel => exact ⟨k - 1, _, by omega, by omega, by congr 1; omega, rfl⟩
                    case measure => simp [intOf]; omega
                  · rw [hpk] at t1
                    have hnf : F k ≠ F q - 1 := fun e => hsat ⟨hpk, e⟩
                    have qn : (F k != F q - 1) = true := by rw [bne_iff_ne]; exact hnf
                    have hne : k ≠ ks := fun e => hnf (by rw [e]; exact hK.out.2.2.2.1)
                    clear hnf
                    go_wp2_with fail
                    go_quiet (fail)
                    go_wp2_with fail
                    go_roundw
                    case rel => exact ⟨k - 1, _, by omega, by omega, by congr 1; omega, rfl⟩
                    case measure => simp [intOf]; omega
            · have qz : ((q : Int) == 0) = false := by rw [beq_eq_false_iff_ne]; omega
              clear hq0 hk6
              go_wp2_with fail
              go_loopw [10] (fun kk wr => ∃ k d : Nat, ks ≤ k ∧ k ≤ s.size ∧ kk = .int .i64 (k : Int) ∧ wr = wo.drewN d) (fun kk _ => (intOf kk).toNat)
              case atStart => exact ⟨_, 0, by omega, by omega, rfl, rfl⟩
              case round =>
                obtain ⟨k, d, hkk1, hkk2, rfl, rfl⟩ := hrel
                have t1 := HC.out k hkk2
                have uk := HR3'.out.cell k hkk2
                have hfk := HFb.out k
                by_cases hsat : p q k = true ∧ F k = F q - 1
                · obtain ⟨hs1, hs2⟩ := hsat
                  rw [hs1] at t1
                  have qn : (F k != F q - 1) = false := by rw [hs2]; simp
                  have hqk := HPb.out q k hs1
                  have HN := Lib.hid (show 0 ≤ F k from by have h5 := hK.out.2.2.2.1; have h4 := hK.out.2.2.2.2.1; omega)
                  have hm1 := HQ.out.2.1
                  have hszo := HB.out.size
                  clear hs1 hs2
                  go_wp2_with fail
                  go_quiet (fail)
                  go_wp2_with (at_builtin; refine wpList_push1 rfl _ _ 22 rfl w2.heap.size 9 i0 (.string ByteArray.empty) 16 Tryz.underlying22 hi hz0 hz1 hz2 rfl _ m _ rfl (by exact HO.out) _ rfl rfl (by unfold maxLen; omega) (by omega) (by exact hszo) ?_; intro gg cc w4 hown hg4)
                  have HB4 := Lib.hid (below_push (B := w2.heap.size) (below_drewN HB.out _) (by exact HO.out) hg4 (Nat.le_refl _) (by exact hszo))
                  go_roundw
                  case rel => exact ⟨k, m + 1, _, by omega, rfl, Lib.hid ⟨HN.out, by omega, fun _ => by omega⟩, Lib.hid hown, HB4⟩
                  case measure => simp [intOf]; omega
                · cases hpk : p q k
                  · rw [hpk] at t1
                    have hne : k ≠ ks := fun e => by rw [e, hK.out.2.2.1] at hpk; cases hpk
                    go_wp2_with fail
                    go_quiet (fail)
                    go_wp2_with fail
                    go_roundw
                    case rel => exact ⟨k - 1, _, by omega, by omega, by congr 1; omega, rfl⟩
                    case measure => simp [intOf]; omega
                  · rw [hpk] at t1
                    have hnf : F k ≠ F q - 1 := fun e => hsat ⟨hpk, e⟩
                    have qn : (F k != F q - 1) = true := by rw [bne_iff_ne]; exact hnf
                    have hne : k ≠ ks := fun e => hnf (by rw [e]; exact hK.out.2.2.2.1)
                    clear hnf
                    go_wp2_with fail
                    go_quiet (fail)
                    go_wp2_with fail
                    go_roundw
                    case rel => exact ⟨k - 1, _, by omega, by omega, by congr 1; omega, rfl⟩
                    case measure => simp [intOf]; omega
          · obtain rfl : q = s.size := by omega
            obtain ⟨Po, co, hov⟩ := own_sl HO.out
            subst hov
            go_wp2_with fail
            go_ret
            exact ⟨_, m, _, rfl, by rw [hJ.out]; exact decide_eq_true (HQ.out.2.2 hz), B2.out.trans (HB.out.mono hsz2)⟩
end Go.Proofs.YthfndmpigpphoaaGreat
