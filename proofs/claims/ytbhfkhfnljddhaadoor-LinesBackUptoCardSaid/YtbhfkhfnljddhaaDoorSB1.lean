/-
  LinesBack walked.
-/
import Derived.Test.YtbhfkhfnljddhaaDoorRows
import Derived.Test.YtbhfkhfnljddhaaDoorSH5
import Derived.Test.YtbhfkhfnljddhaaDoorSB0
namespace Go.Proofs.YtbhfkhfnljddhaaDoor
open Go.RowKit

theorem zip_at (rs : List (List ByteArray)) (k : Nat) (h : k < rs.length) (h' : k < (((List.range' 1 rs.length).zip rs).map (fun x => (((x.1 : Nat) : Int), x.2))).length) :
    (((List.range' 1 rs.length).zip rs).map (fun x => (((x.1 : Nat) : Int), x.2)))[k] = ((k : Int) + 1, rs[k]) := by
  simp
  omega
theorem showText_bad (rs : List (List ByteArray)) (h : showErr rs ≠ 0) : mkS (showText rs) = ⟨#[]⟩ := by
  unfold showText; rw [if_neg h]; rfl
theorem rows_back (rs : List RowIn) (R : List (List ByteArray)) (h : rowAbs rs = ((List.range' 1 R.length).zip R).map (fun x => (((x.1 : Nat) : Int), x.2))) : rs.length = R.length ∧ ∀ k (h : k < rs.length) (h' : k < R.length), rs[k].1 = (k : Int) + 1 ∧ rs[k].2.2 = R[k] := by
  have hl : rs.length = R.length := by
    have := congrArg List.length h
    simpa [rowAbs] using this
  refine ⟨hl, fun k hk hk' => ?_⟩
  have e1 : (rowAbs rs)[k]'(by simpa [rowAbs] using hk) = (((List.range' 1 R.length).zip R).map (fun x => (((x.1 : Nat) : Int), x.2)))[k]'(by simpa using hk') := by simp only [h]
  rw [zip_at R k hk'] at e1
  simp only [rowAbs, List.getElem_map, Prod.mk.injEq] at e1
  exact e1

set_option maxHeartbeats 8000000 in
set_option maxRecDepth 100000 in
theorem linesBack_walk (v : Value) (gs : List (Value × List ByteArray)) (m : Int) (w : World) (h : RS w v gs) (hb : gs.length + sumR (rowsV gs) ≤ 1048576) (h0 : 0 < w.heap.size) (hm : w.cell? ⟨0, 0, none⟩ = some (.int .i64 m)) :
    Calls Tryd.prog 14 #[v] w fun e w' => e = .returned (.bool true) ∧ Below w.heap.size w w' := by
  have HV0 := Lib.hid h
  have HBk := Lib.hid hb
  have HM0 := Lib.hid hm
  have HM1 := Lib.hid (World.block_lt_of_cell? w _ hm)
  obtain ⟨p0, c0, rfl, -⟩ := h.at
  clear h hb hm
  obtain ⟨T, hT⟩ : ∃ T, mkS (showText (rowsV gs)) = T := ⟨_, rfl⟩
  obtain ⟨E, hE⟩ : ∃ E, showErr (rowsV gs) = E := ⟨_, rfl⟩
  have HT := Lib.hid hT
  have HE := Lib.hid hE
  clear hT hE
  go_enter Tryd.func14, Tryd.ntmps14
  go_wp2_with fail
  refine (wakes01_any _).mono ?_
  rintro e w1 ⟨rfl, b1⟩
  have HV1 := Lib.hid (HV0.out.keep b1)
  have HB1 := Lib.hid b1
  clear b1
  go_wp2_with fail
  refine (copied_any _ gs _ HV1.out HBk.out).mono ?_
  rintro e w2 ⟨v2, cs, rfl, r2, e2, b2⟩
  have HV2 := Lib.hid (HV1.out.keep b2)
  have HC2 := Lib.hid r2
  have HE2 := Lib.hid e2
  have HB2 := Lib.hid (HB1.out.trans (b2.mono HB1.out.size))
  have HL2 : Hid (cs.length = gs.length) := Lib.hid (by have := congrArg List.length e2; simpa [rowsV] using this)
  clear r2 e2 b2
  obtain ⟨p2, c2, rfl, -⟩ := HC2.out.at
  go_wp2_with fail
  refine (rShow_any _ cs _ HC2.out (by rw [HE2.out, HL2.out]; exact HBk.out)).mono ?_
  rw [HE2.out, HT.out, HE.out]
  rintro e w3 ⟨rfl, b3⟩
  have HV3 := Lib.hid (HV2.out.keep b3)
  have HB3 := Lib.hid (HB2.out.trans (b3.mono HB2.out.size))
  clear b3
  go_wp2_with fail
  refine (copied_any _ gs _ HV3.out HBk.out).mono ?_
  rintro e w4 ⟨v4, ds, rfl, r4, e4, b4⟩
  have HV4 := Lib.hid (HV3.out.keep b4)
  have HC4 := Lib.hid r4
  have HE4 := Lib.hid e4
  have HB4 := Lib.hid (HB3.out.trans (b4.mono HB3.out.size))
  have HL4 : Hid (ds.length = gs.length) := Lib.hid (by have := congrArg List.length e4; simpa [rowsV] using this)
  clear r4 e4 b4
  obtain ⟨p4, c4, rfl, -⟩ := HC4.out.at
  go_wp2_with fail
  refine (Show_any _ ds _ HC4.out (by rw [HE4.out, HL4.out]; exact HBk.out)).mono ?_
  rw [HE4.out, HT.out, HE.out]
  rintro e w5 ⟨rfl, b5⟩
  have HV5 := Lib.hid (HV4.out.keep b5)
  have HB5 := Lib.hid (HB4.out.trans (b5.mono HB4.out.size))
  clear b5
  by_cases hE0 : E = 0
  · subst hE0
    obtain ⟨HR5, HZ5⟩ : Hid (rowsOf (eachOf T.data.toList) = ((List.range' 1 (rowsV gs).length).zip (rowsV gs)).map (fun x => (((x.1 : Nat) : Int), x.2))) ∧ T.size ≤ 65536 := by
      obtain ⟨h1, h2⟩ := back_rows (rowsV gs) HE.out
      have e1 : showText (rowsV gs) = rowsText (rowsV gs) := by unfold showText; rw [if_pos HE.out]
      rw [← HT.out, e1, mkS_data, mkS_size]
      exact ⟨Lib.hid h1, h2⟩
    have HCd : Hid (codeS T = 0) := Lib.hid (if_neg (by omega))
    have hm5 := (HB5.out.cell (p := ⟨0, 0, none⟩) HM1.out).trans HM0.out
    have HM5 := Lib.hid hm5
    have hs5 : 0 < w5.heap.size := Nat.lt_of_lt_of_le h0 HB5.out.size
    have HS5 := Lib.hid hs5
    clear hm5 hs5
    go_wp2_with fail
    refine (Rows_any T m _ HS5.out HM5.out).mono ?_
    rw [HCd.out]
    rintro e w6 ⟨v6, rs, rfl, o6, r6, a6, b6⟩
    have hrows := rows_back rs (rowsV gs) (a6.trans HR5.out)
    have hlen : rs.length = gs.length := by rw [hrows.1]; simp [rowsV]
    have HRows := Lib.hid hrows.2
    have HO6 := Lib.hid o6
    have HRd := Lib.hid r6
    have HV6 := Lib.hid (HV5.out.keep b6)
    have HB6 := Lib.hid (HB5.out.trans (b6.mono HB5.out.size))
    clear hrows r6 a6 b6
    have hkb : gs.length ≤ 1048576 := by have := HBk.out; omega
    have HR : Hid (∀ k (h : k < gs.length), ∃ b off A cap, ∃ r : List ByteArray, (rowsV gs)[k]'(by simpa using h) = r ∧ p0 = some ⟨b, off, none⟩ ∧ w6.cell? ⟨b, off + k, none⟩ = some (.slice A r.length cap) ∧ Rd w6 1 (.slice A r.length cap) r.length (strV r)) := Lib.hid (by
      obtain ⟨p, c, hv, -, hh⟩ := HV6.out.row
      cases hv
      exact hh)
    have HL : Hid (∀ k (h : k < gs.length), ((rowsV gs)[k]'(by simpa using h)).length ≤ 1048576) := Lib.hid fun k hk => by
      have h1 := sumR_at (rowsV gs) k (by simpa using hk)
      have := bulkS_len ((rowsV gs)[k]'(by simpa using hk))
      have := HBk.out
      omega
    have HCap : Hid (gs.length ≤ c0) := Lib.hid (by
      obtain ⟨p, c, hv, hh, -⟩ := HV6.out.row
      cases hv
      exact hh)
    obtain ⟨A6, c6, rfl⟩ := own_slice o6
    have HC6 : Hid (∀ k (h : k < rs.length), ∃ g1, A6 = some ⟨g1, 0, none⟩ ∧ rs.length ≤ c6 ∧ w6.cell? ⟨g1, k * 2, none⟩ = some (.int .i64 rs[k].1) ∧ w6.cell? ⟨g1, k * 2 + 1, none⟩ = some rs[k].2.1) := Lib.hid fun k h => by
      obtain ⟨g1, cap, hv, hcap⟩ := own_some o6 (by omega)
      cases hv
      obtain ⟨a, b⟩ := rowCells_at rs k h
      rw [Nat.mul_comm] at a b
      have a' := o6.cells (g := g1) rfl _ _ a
      have b' := o6.cells (g := g1) rfl _ _ b
      rw [row_addr] at a' b'
      exact ⟨g1, rfl, hcap, a', b'⟩
    have HLen := Lib.hid hlen
    rw [hlen]
    clear o6 hlen
    go_wp2_with fail
    go_loopw [52] (fun i wr => ∃ k n : Nat, k ≤ gs.length ∧ i = .int .i64 k ∧ wr = w6.drewN n) (fun i _ => gs.length - (intOf i).toNat)
    case atStart => exact ⟨0, 0, Nat.zero_le _, rfl, rfl⟩
    case round =>
      obtain ⟨k, n, hk, rfl, rfl⟩ := hrel
      by_cases hlt : k < gs.length
      · obtain ⟨b, off, A, cap, r, hr, rfl, hc, hrd⟩ := HR.out k hlt
        have hlt2 : k < rs.length := by rw [HLen.out]; exact hlt
        obtain ⟨g1, rfl, hcp, a1, b1⟩ := HC6.out k hlt2
        obtain ⟨e1, e2⟩ := HRows.out k hlt2 (by simpa using hlt)
        have R1 := HRd.out rs[k] (List.getElem_mem _)
        have hl := HL.out k hlt
        rw [hr] at hl e2
        rw [e1] at a1
        rw [e2] at R1
        obtain ⟨u1, hu1⟩ : ∃ u, rs[k].2.1 = u := ⟨_, rfl⟩
        rw [hu1] at b1 R1
        have H1 := Lib.hid R1.rd
        obtain ⟨_, A1, cc1, hu1', _⟩ := R1
        subst hu1'
        have H2 := Lib.hid hrd
        rw [HLen.out] at hcp
        clear hr hrd e1 e2 hu1 hlt2
        go_wp2_with fail
        go_quiet (first | (go_at_call 16; exact sameWords_quiet _ _ r _ _ _ H1.out H2.out (by omega)))
        go_wp2_with fail
        go_roundw
        case rel => exact ⟨k + 1, _, by omega, by go_num, rfl⟩
        case measure => simp [intOf]; omega
      · obtain rfl : k = gs.length := by omega
        go_wp2_with fail
        go_ret
        exact ⟨rfl, below_drewN HB6.out n⟩
  · have q0 : (E != 0) = true := by rw [bne_iff_ne]; exact hE0
    have HT2 : Hid (T = ⟨#[]⟩) := Lib.hid (by rw [← HT.out]; exact showText_bad _ (by rw [HE.out]; exact hE0))
    rw [HT2.out]
    go_wp2_with fail
    go_ret
    exact ⟨rfl, HB5.out⟩
theorem linesBack_sh (v : Value) (gs : List (Value × List ByteArray)) (W : World) (h : RS W v gs) (hb : gs.length + sumR (rowsV gs) ≤ 1048576) (hsh : W.ShapedOpen Tryd.prog) :
    Calls Tryd.prog 14 #[v] W fun e w' => e = .returned (.bool true) ∧ Below W.heap.size W w' := by
  obtain ⟨m, hm⟩ := maxLen_of W hsh
  exact linesBack_walk v gs m W h hb (Nat.lt_of_le_of_lt (Nat.zero_le _) (World.block_lt_of_cell? W _ hm)) hm
end Go.Proofs.YtbhfkhfnljddhaaDoor
