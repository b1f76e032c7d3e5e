/-
  ReportTokens walked.
-/
import Derived.Test.YtdleoankkcemfaaRows
import Derived.Test.YtdleoankkcemfaaRefTok4
namespace Go.Proofs.Ytdleoankkcemfaa
open Go.RowKit

theorem tok_cellsR {w : World} {B n g cap e : Nat} {ts : List Tok} (h : w.ownsRow B e 4 (.slice (some ⟨g, 0, none⟩) n cap) n (tokCells ts)) (j : Nat) (hj : j < ts.length) :
    w.cell? ⟨g, j * 4, none⟩ = some (.int .i64 ts[j].line) ∧ w.cell? ⟨g, j * 4 + 1, none⟩ = some (.int .i64 (ts[j].col : Nat)) ∧ w.cell? ⟨g, j * 4 + 2, none⟩ = some (.int .i64 (ts[j].pos : Nat)) ∧ w.cell? ⟨g, j * 4 + 3, none⟩ = some (.string (mkS ts[j].word)) := by
  obtain ⟨a, b, c, d⟩ := tokCells_at ts j hj
  have f := fun i u hi => (show w.cell? ⟨g, i, none⟩ = some u by have := h.cells (g := g) rfl i u hi; rw [row_addr] at this; exact this)
  exact ⟨f _ _ a, f _ _ b, f _ _ c, f _ _ d⟩

set_option maxRecDepth 100000 in
set_option maxHeartbeats 4000000 in
theorem alike_same (v1 v2 : Value) (B1 B2 : Nat) (ts : List Tok) (w : World) (h1 : w.ownsRow B1 40 4 v1 ts.length (tokCells ts)) (h2 : w.ownsRow B2 77 4 v2 ts.length (tokCells ts)) (hl : ts.length ≤ 4294967296) :
    Calls Try.prog 27 #[v1, v2] w fun e w' => e = .returned (.bool true) ∧ Below w.heap.size w w' := by
  by_cases h0 : ts.length = 0
  · have e1 : ts = [] := List.eq_nil_of_length_eq_zero h0
    subst e1
    obtain ⟨A1, c1, rfl⟩ := own_slice h1
    obtain ⟨A2, c2, rfl⟩ := own_slice h2
    clear h1 h2
    go_enter Try.func27, Try.ntmps27
    go_wp2_with fail
    go_loopw [13] (fun i wr => i = .int .i64 0 ∧ wr = w) (fun i _ => 1)
    case atStart => exact ⟨rfl, rfl⟩
    case round =>
      obtain ⟨rfl, rfl⟩ := hrel
      go_wp2_with fail
      go_ret
      exact ⟨rfl, Below.refl _ _⟩
  · obtain ⟨g1, c1, rfl, hc1⟩ := own_some h1 h0
    obtain ⟨g2, c2, rfl, hc2⟩ := own_some h2 h0
    have H1 := Lib.hid h1
    have H2 := Lib.hid h2
    clear h1 h2 h0
    go_enter Try.func27, Try.ntmps27
    go_wp2_with fail
    go_loopw [13] (fun i wr => ∃ k m : Nat, k ≤ ts.length ∧ i = .int .i64 k ∧ wr = w.drewN m) (fun i _ => ts.length - (intOf i).toNat)
    case atStart => exact ⟨0, 0, Nat.zero_le _, rfl, rfl⟩
    case round =>
      obtain ⟨k, m, hk, rfl, rfl⟩ := hrel
      by_cases hlt : k < ts.length
      · obtain ⟨a0, a1, a2, a3⟩ := tok_cellsR H1.out k hlt
        obtain ⟨b0, b1, b2, b3⟩ := tok_cellsR H2.out k hlt
        obtain ⟨⟨tl, tc, tp, tw⟩, ht⟩ : ∃ t, ts[k] = t := ⟨_, rfl⟩
        rw [ht] at a0 a1 a2 a3 b0 b1 b2 b3
        dsimp only at a0 a1 a2 a3 b0 b1 b2 b3
        obtain ⟨wd, hwd⟩ : ∃ wd, mkS tw = wd := ⟨_, rfl⟩
        rw [hwd] at a3 b3
        clear ht hwd
        go_wp2_with fail
        go_quiet (fail)
        go_wp2_with fail
        go_roundw
        case rel => exact ⟨k + 1, _, by omega, by go_num, rfl⟩
        case measure => simp [intOf] <;> omega
      · obtain rfl : k = ts.length := by omega
        go_wp2_with fail
        go_ret
        exact ⟨rfl, below_drewN (Below.refl _ _) _⟩

set_option maxRecDepth 100000 in
set_option maxHeartbeats 4000000 in
theorem reportTokens_walk (s : ByteArray) (m : Int) (w : World) (h0 : 0 < w.heap.size) (hm : w.cell? ⟨0, 0, none⟩ = some (.int .i64 m)) :
    Calls Try.prog 7 #[.string s] w fun e w' => e = .returned (.bool true) ∧ Below w.heap.size w w' := by
  have HM := Lib.hid hm
  have H0 := Lib.hid h0
  clear hm h0
  go_enter Try.func7, Try.ntmps7
  go_wp2_with fail
  refine (Tokens_is s m _ H0.out HM.out).mono ?_
  rintro e w1 ⟨v1, rfl, ho, hb1⟩
  have HO := Lib.hid ho
  have HB1 := Lib.hid hb1
  clear ho hb1
  go_wp2_with fail
  refine (TokensR_any s _).mono ?_
  rintro e w2 ⟨v2, rfl, o2⟩
  have HO2 := Lib.hid (own_below HO.out o2.below)
  have HOr := Lib.hid o2.own
  have HB2 := Lib.hid (HB1.out.trans (o2.below.mono HB1.out.size))
  clear o2
  go_wp2_with fail
  refine (wakes26_any m _ (by have := HB2.out.size; have := H0.out; omega) ((HB2.out.cell (p := ⟨0, 0, none⟩) H0.out).trans HM.out)).mono ?_
  rintro e w3 ⟨rfl, hb3⟩
  have HO3 := Lib.hid (own_below HO2.out hb3)
  have HOr3 := Lib.hid (own_below HOr.out hb3)
  have HB3 := Lib.hid (HB2.out.trans (hb3.mono HB2.out.size))
  clear hb3
  go_wp2_with fail
  refine (alike_same v1 v2 _ _ (tkS s) _ HO3.out HOr3.out (tkS_len s)).mono ?_
  rintro e w4 ⟨rfl, hb4⟩
  have HB4 := Lib.hid (HB3.out.trans (hb4.mono HB3.out.size))
  clear hb4
  go_wp2_with fail
  go_ret
  exact ⟨rfl, HB4.out⟩
theorem reportTokens_sh (s : ByteArray) (W : World) (h : W.ShapedOpen Try.prog) :
    Calls Try.prog 7 #[.string s] W fun e w' => e = .returned (.bool true) ∧ Below W.heap.size W w' := by
  obtain ⟨m, hm⟩ := maxLen_of W h
  exact reportTokens_walk s m W (World.block_lt_of_cell? W _ hm) hm
end Go.Proofs.Ytdleoankkcemfaa
