/-
  The reference's table walked, over a contract of its Step.
-/
import Derived.Test.YthfndmpigpphoaaGreatRows
import Derived.Test.YthfndmpigpphoaaGreatJn3
namespace Go.Proofs.YthfndmpigpphoaaGreat
open Go.RowKit

theorem tab_ne {w : World} {B n m k : Nat} {ov : Value} {xs : List Value} {f : Nat → Bool} (h : w.ownsRow B 108 1 ov m xs) (hr : RowB w k n f) : ov.ownBlock ≠ some k := by
  obtain ⟨cs, hc, _⟩ := hr
  rcases h.2 with ⟨rfl, _⟩ | ⟨g, cap, cur, rfl, _, hg, _⟩
  · intro e; cases e
  · intro e
    have : g = k := by simpa [Value.ownBlock] using e
    subst this
    rw [hc] at hg
    injection hg with hg
    injection hg with _ e2
    exact absurd e2 (by decide)
set_option maxHeartbeats 2000000 in
set_option maxRecDepth 100000 in
theorem so_table_ (least : Int) (t : ByteArray) (X X0 X2 X3 : Option Addr) (g1 o1 l k l0 k0 k1 l2 k2 l3 k3 : Nat) (s : ByteArray) (A : List St) (w : World) (hn : s.size ≤ 1024) (hlow : Low A A.length 0)
    (hcell : ∀ W, Below w.heap.size w W → ∀ q (h : q < A.length), W.cell? ⟨g1, o1 + q * 2, none⟩ = some (.bool A[q].1))
    (hstep : ∀ W, Below w.heap.size w W → ∀ (q : Nat) (c : UInt8), q < A.length → Calls Tryz.prog 68 #[.slice (some ⟨g1, o1, none⟩) A.length k1, .int .i64 q, .int .u8 (c.toNat : Int)] W fun e w' => e = .returned (.int .i64 (stepV (A.getD q (false, [])).2 c)) ∧ w' = W) :
    Calls Tryz.prog 42 #[.agg #[.int .i64 least, .string t, .slice X l k, .slice X0 l0 k0, .slice (some ⟨g1, o1, none⟩) A.length k1, .slice X2 l2 k2, .slice X3 l3 k3], .string s] w fun e w' => ∃ v, e = .returned v ∧ TabAt w' v s.size (pieceB A least s.data.toList) ∧ Below w.heap.size w w' := by
  have HCl := Lib.hid hcell
  have HSt := Lib.hid hstep
  have HLo := Lib.hid hlow
  have B0 := Lib.hid ((Below.refl w.heap.size w).alloc (Nat.le_refl _) (.cells #[.int .i64 least, .string t, .slice X l k, .slice X0 l0 k0, .slice (some ⟨g1, o1, none⟩) A.length k1, .slice X2 l2 k2, .slice X3 l3 k3] 33))
  obtain ⟨e0, -, -, -, e4, -, -⟩ := cells_seven (heap_alloc_new w (.cells #[.int .i64 least, .string t, .slice X l k, .slice X0 l0 k0, .slice (some ⟨g1, o1, none⟩) A.length k1, .slice X2 l2 k2, .slice X3 l3 k3] 33))
  obtain ⟨w0, hw0⟩ : ∃ w0, w.alloc (.cells #[.int .i64 least, .string t, .slice X l k, .slice X0 l0 k0, .slice (some ⟨g1, o1, none⟩) A.length k1, .slice X2 l2 k2, .slice X3 l3 k3] 33) = w0 := ⟨_, rfl⟩
  rw [hw0] at B0 e0 e4
  have HW0 := Lib.hid hw0
  have E0 := Lib.hid e0
  have hsz0 := B0.out.size
  obtain ⟨i0, hi, hz0, hz1, hz2⟩ := info_parts bools_info
  clear hcell hstep hlow hw0 e0
  go_enter Tryz.func42, Tryz.ntmps42
  go_wp2_with fail
  rw [HW0.out]
  go_loopw [6, 7] (fun ov i wr => ∃ m : Nat, m ≤ s.size ∧ i = .int .i64 (m : Int) ∧ Hid (TabS wr w0.heap.size s.size m ov (pieceB A least s.data.toList)) ∧ Hid (Below w0.heap.size w0 wr)) (fun _ i _ => s.size - (intOf i).toNat)
  case atStart => exact ⟨0, Nat.zero_le _, rfl, Lib.hid ⟨[], rfl, World.ownsRow_nil _ _ _ _, fun j hj => by cases hj⟩, Below.refl _ _⟩
  case round =>
    obtain ⟨m, hm, rfl, HTb, HB⟩ := hrel
    by_cases hlt : m < s.size
    · have hmk := run_make_row' (P := Tryz.prog) 108 4 (.bool false) 1 Tryz.underlying108 bool_row rfl .i64 .i64 (s.size + 1) (by omega) (by omega) wr
      rw [show ((s.size + 1 : Nat) : Int) = (s.size : Int) + 1 from rfl] at hmk
      have HRn := Lib.hid (RowB.new wr s.size)
      have HBn := Lib.hid ((Below.refl wr.heap.size wr).alloc (Nat.le_refl _) (.cells (madeCells #[Value.bool false] (s.size + 1)) 4))
      obtain ⟨wo, rfl⟩ : ∃ wo : World, wo = wr := ⟨_, rfl⟩
      have hszo := HB.out.size
      go_wp2_with fail
      clear hmk
      go_loopw [9, 10] (fun at' kk wr => ∃ (kN : Nat) (q : Int) (D : List Nat), m ≤ kN ∧ kN ≤ s.size ∧ kk = .int .i64 (kN : Int) ∧ at' = .int .i64 q ∧ Hid (PcSt A least s.data.toList m kN q D) ∧ Hid (RowB wr wo.heap.size s.size (fun j => decide (j ∈ D))) ∧ Hid (Below wo.heap.size wo wr)) (fun _ kk _ => s.size - (intOf kk).toNat)
      case atStart => exact ⟨m, 0, [], Nat.le_refl _, hm, rfl, rfl, Lib.hid (.inr ⟨0, A.length, rfl, HLo.out, rfl⟩), Lib.hid (HRn.out.congr (fun j _ => by simp)), HBn⟩
      case round =>
        obtain ⟨kN, q, D, hk1, hk2, rfl, rfl, HP, HR, HBr⟩ := hrel
        by_cases hkn : kN < s.size
        · rcases HP.out with ⟨rfl, hD⟩ | ⟨x, h, rfl, hlx, hE⟩
          · clear HP
            have hEnd : pieceB A least s.data.toList m = fun j => decide (j ∈ D) := by funext j; unfold pieceB; rw [hD]
            have HRm := Lib.hid (HR.out.congr (f' := pieceB A least s.data.toList m) (fun j _ => by rw [hEnd]))
            have HT3 := Lib.hid (HTb.out.keep HBr.out)
            have hown3 := Lib.hid HT3.out.choose_spec.2.1
            have hszr := HBr.out.size
            clear hEnd hD
            go_wp2_with (at_builtin; refine wpList_push1 rfl _ _ 105 rfl w0.heap.size 108 i0 (.slice none 0 0) 24 Tryz.underlying105 hi hz0 hz1 hz2 rfl _ m _ rfl hown3.out _ rfl rfl (by unfold maxLen; omega) (by omega) (by omega) ?_; intro gg cc w4 hown hg4)
            have HT4 := Lib.hid (HT3.out.push HRm.out hown rfl hg4 (fun k f hk => tab_ne hown3.out hk))
            have HB4 := Lib.hid (below_push (B := w0.heap.size) (HB.out.trans (HBr.out.mono hszo)) hown3.out hg4 (Nat.le_refl _) (by omega))
            go_roundw
            case rel => exact ⟨m + 1, by omega, by go_num, HT4, HB4⟩
            case measure => simp [intOf]; omega
          · have hxl : x < A.length := by have := hlx.lt; simpa using this
            have hkl : kN < s.data.toList.length := by simpa using hkn
            have hst := PcSt.step hlx hE hkl
            have hb : s.data.toList[kN] = s[kN] := by simp [ByteArray.getElem_eq_getElem_data]
            rw [hb] at hst
            have hBw : Below w.heap.size w wr := (B0.out.trans (HB.out.mono hsz0)).trans (HBr.out.mono (by omega))
            have hBz : Below w0.heap.size w0 wr := HB.out.trans (HBr.out.mono hszo)
            have HS := Lib.hid (HSt.out wr hBw x s[kN] hxl)
            have eL := (hBz.cell (World.block_lt_of_cell? w0 _ E0.out)).trans E0.out
            clear hb
            cases hs : stepE (A.getD x (false, [])).2 s[kN] with
            | none =>
              rw [hs] at hst
              have hv : stepV (A.getD x (false, [])).2 s[kN] = -1 := by unfold stepV; rw [hs]
              rw [hv] at hst HS
              have HPn := Lib.hid hst
              clear hst hs hv hE hlx
              go_wp2_with fail
              refine HS.out.mono ?_
              rintro e w2 ⟨rfl, hw2⟩
              obtain rfl := hw2.symm
              clear hw2
              go_wp2_with fail
              go_roundw
              case rel => exact ⟨kN + 1, -1, D, by omega, by omega, by go_num, rfl, Lib.hid (by simpa using HPn.out), HR, HBr⟩
              case measure => simp [intOf]; omega
            | some tt =>
              rw [hs] at hst
              have hv : stepV (A.getD x (false, [])).2 s[kN] = tt := by unfold stepV; rw [hs]
              rw [hv] at hst HS
              obtain ⟨y, hy, hyl⟩ : ∃ y : Nat, tt = (y : Int) ∧ y < A.length := by
                cases h with
                | zero => cases hlx
                | succ h =>
                  have hlow := hlx.step (t := tt) (b := s[kN]) (by rw [Int.toNat_natCast]; exact hs)
                  exact ⟨tt.toNat, (Int.toNat_of_nonneg hlow.nn).symm, hlow.lt⟩
              subst hy
              have hc := HCl.out wr hBw y hyl
              have hfin : finB A (y : Int) = A[y].1 := by show (A.getD (y : Int).toNat (false, [])).1 = _; rw [Int.toNat_natCast]; simp [List.getD, hyl]
              simp only [hfin] at hst
              obtain ⟨fb, hfb⟩ : ∃ fb, A[y].1 = fb := ⟨_, rfl⟩
              simp only [hfb] at hst
              rw [hfb] at hc
              clear hs hv hE hlx hfin hfb
              cases hok : (fb && decide (least ≤ ((kN + 1 : Nat) : Int) - m))
              · simp only [hok] at hst
                have HPn := Lib.hid hst
                have HOK := Lib.hid hok
                clear hst hok
                cases fb
                · go_wp2_with fail
                  refine HS.out.mono ?_
                  rintro e w2 ⟨rfl, hw2⟩
                  obtain rfl := hw2.symm
                  clear hw2
                  go_wp2_with fail
                  go_roundw
                  case rel => exact ⟨kN + 1, _, D, by omega, by omega, by go_num, rfl, Lib.hid (by simpa using HPn.out), HR, HBr⟩
                  case measure => simp [intOf]; omega
                · have hq : ¬ least ≤ (kN : Int) + 1 - m := by have := HOK.out; simp at this; omega
                  go_wp2_with fail
                  refine HS.out.mono ?_
                  rintro e w2 ⟨rfl, hw2⟩
                  obtain rfl := hw2.symm
                  clear hw2
                  go_wp2_with fail
                  go_roundw
                  case rel => exact ⟨kN + 1, _, D, by omega, by omega, by go_num, rfl, Lib.hid (by simpa using HPn.out), HR, HBr⟩
                  case measure => simp [intOf]; omega
              · simp only [hok] at hst
                have HPn := Lib.hid hst
                have hf1 : fb = true := by rw [Bool.and_eq_true] at hok; exact hok.1
                have hq : least ≤ (kN : Int) + 1 - m := by rw [hf1] at hok; simp at hok; omega
                subst hf1
                have fz := HR.out.fz (kN + 1)
                have cz := HR.out.cell (kN + 1) (by omega)
                clear hst hok
                go_wp2_with fail
                refine HS.out.mono ?_
                rintro e w2 ⟨rfl, hw2⟩
                obtain rfl := hw2.symm
                clear hw2
                go_wp2_with fail
                go_roundw
                case rel => exact ⟨kN + 1, _, D ++ [kN + 1], by omega, by omega, by go_num, rfl, Lib.hid (by simpa using HPn.out), Lib.hid ((HR.out.set (kN + 1)).congr (fun j _ => by by_cases e : j = kN + 1 <;> simp [e])), Lib.hid (HBr.out.setCell (p := ⟨wo.heap.size, kN + 1, none⟩) (Nat.le_refl _) _)⟩
                case measure => simp [intOf]; omega
        · obtain rfl : kN = s.size := by omega
          have hD : endsOf A least s.data.toList m = D := by
            rcases HP.out with ⟨_, hD⟩ | ⟨x, h, _, _, hE⟩
            · exact hD
            · rw [hE, List.drop_of_length_le (by simp)]; simp [pcs]
          clear HP
          have hEnd : pieceB A least s.data.toList m = fun j => decide (j ∈ D) := by funext j; unfold pieceB; rw [hD]
          have HRm := Lib.hid (HR.out.congr (f' := pieceB A least s.data.toList m) (fun j _ => by rw [hEnd]))
          have HT3 := Lib.hid (HTb.out.keep HBr.out)
          have hown3 := Lib.hid HT3.out.choose_spec.2.1
          have hszr := HBr.out.size
          clear hEnd hD
          go_wp2_with (at_builtin; refine wpList_push1 rfl _ _ 105 rfl w0.heap.size 108 i0 (.slice none 0 0) 24 Tryz.underlying105 hi hz0 hz1 hz2 rfl _ m _ rfl hown3.out _ rfl rfl (by unfold maxLen; omega) (by omega) (by omega) ?_; intro gg cc w4 hown hg4)
          have HT4 := Lib.hid (HT3.out.push HRm.out hown rfl hg4 (fun k f hk => tab_ne hown3.out hk))
          have HB4 := Lib.hid (below_push (B := w0.heap.size) (HB.out.trans (HBr.out.mono hszo)) hown3.out hg4 (Nat.le_refl _) (by omega))
          go_roundw
          case rel => exact ⟨m + 1, by omega, by go_num, HT4, HB4⟩
          case measure => simp [intOf]; omega
    · obtain rfl : m = s.size := by omega
      have HTab := Lib.hid HTb.out.tab
      go_wp2_with fail
      go_ret
      exact ⟨_, rfl, HTab.out, B0.out.trans (HB.out.mono hsz0)⟩
end Go.Proofs.YthfndmpigpphoaaGreat
