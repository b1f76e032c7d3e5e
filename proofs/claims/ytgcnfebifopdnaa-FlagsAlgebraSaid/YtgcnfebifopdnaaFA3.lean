/-
  FlagsAlgebra walked.
-/
import Derived.Test.YtgcnfebifopdnaaRows
import Derived.Test.YtgcnfebifopdnaaFL10
import Derived.Test.YtgcnfebifopdnaaFA0
import Derived.Test.YtgcnfebifopdnaaFA1
import Derived.Test.YtgcnfebifopdnaaFA2
namespace Go.Proofs.Ytgcnfebifopdnaa
open Go.RowKit

/-- The plain law, each set by a name. -/
theorem algebra_plain (zs ts : List Int) : ∃ bo bo2 o1 re o2 bb : List Int, canon (zs ++ ts) = bo ∧ canon (ts ++ zs) = bo2 ∧ canon (outs zs ts) = o1 ∧ canon (outs ts bo) = re ∧ canon (outs ts zs) = o2 ∧ canon (outs bo bo) = bb ∧
    (canon bo).length = (canon zs).length + (canon o1).length ∧ decide (canon bo = canon bo2) = true ∧ ((canon (foldOuts (canon ts) [bo])).length == 0) = true ∧ (ts.any fun z => re.contains z) = false ∧ decide (canon re = canon o2) = true ∧ (canon bb).length = 0 ∧
    bo.length ≤ zs.length + ts.length ∧ bo2.length ≤ zs.length + ts.length ∧ o1.length ≤ ts.length ∧ re.length ≤ zs.length + ts.length ∧ o2.length ≤ zs.length ∧ bb.length ≤ zs.length + ts.length ∧ (canon zs).length ≤ zs.length ∧ (canon o1).length ≤ ts.length := by
  have l1 : (canon (zs ++ ts)).length ≤ zs.length + ts.length := Nat.le_trans (canon_le _) (by rw [List.length_append]; omega)
  refine ⟨_, _, _, _, _, _, rfl, rfl, rfl, rfl, rfl, rfl, count_law zs ts, ?_, ?_, rest_any zs ts, ?_, none_left _, l1, ?_, ?_, ?_, ?_, ?_, canon_le _, ?_⟩
  · rw [with_law zs ts]; simp
  · rw [all_law]; exact all_both zs ts
  · rw [rest_law zs ts]; simp
  · exact Nat.le_trans (canon_le _) (by rw [List.length_append]; omega)
  · exact Nat.le_trans (canon_le _) (outs_le _ _)
  · exact Nat.le_trans (Nat.le_trans (canon_le _) (outs_le _ _)) l1
  · exact Nat.le_trans (canon_le _) (outs_le _ _)
  · exact Nat.le_trans (Nat.le_trans (canon_le _) (outs_le _ _)) l1
  · exact Nat.le_trans (canon_le _) (Nat.le_trans (canon_le _) (outs_le _ _))

set_option maxHeartbeats 8000000 in
set_option maxRecDepth 1000000 in
theorem algebra_walk (v u : Value) (zs ts : List Int) (w : World) (h : FS w v zs) (hu : FS w u ts) (hbig : zs.length * 2 ≤ 140737488355328) (hbig2 : ts.length * 2 ≤ 140737488355328) :
    Calls Try.prog 4 #[v, u] w fun e w' => e = .returned (.bool true) ∧ Below w.heap.size w w' := by
  have hF := Lib.hid h
  have hU := Lib.hid hu
  clear h hu
  obtain ⟨bo, bo2, o1, re, o2, bb, e1, e2, e3, e4, e5, e6, hcnt, heq1, hall1, hany1, heq2, hcn0, lbo, lbo2, lo1, lre, lo2, lbb, lcz, lco⟩ := algebra_plain zs ts
  have E1 := Lib.hid e1
  have E2 := Lib.hid e2
  have E3 := Lib.hid e3
  have E4 := Lib.hid e4
  have E5 := Lib.hid e5
  have E6 := Lib.hid e6
  have CNT := Lib.hid hcnt
  have EQ1 := Lib.hid heq1
  have ALL1 := Lib.hid hall1
  have ANY1 := Lib.hid hany1
  have EQ2 := Lib.hid heq2
  have CN0 := Lib.hid hcn0
  clear e1 e2 e3 e4 e5 e6 hcnt heq1 hall1 hany1 heq2 hcn0
  obtain ⟨cB, hcB⟩ : ∃ n, (canon zs).length = n := ⟨_, rfl⟩
  obtain ⟨cC, hcC⟩ : ∃ n, (canon o1).length = n := ⟨_, rfl⟩
  rw [hcB] at lcz CNT
  rw [hcC] at lco CNT
  have CB := Lib.hid hcB
  have CC := Lib.hid hcC
  clear hcB hcC
  have l494 := Lib.hid (show (canon [4, 9, 4]).length ≤ 4 from Nat.le_trans (canon_le _) (by decide))
  have T2 := Lib.hid two_law
  go_enter Try.func4, Try.ntmps4
  go_wp2_with (go_at_call_of 5 v; refine (so_twin _ zs _ hF.out hbig).mono ?_; rintro e w1 ⟨x, rfl, h1, b1⟩; have X1 := Lib.hid h1.fs; have B1 := Lib.hid b1; clear h1 b1)
  have hs1 := B1.out.size
  go_wp2_with (go_at_call_of 5 u; refine (so_twin _ ts _ (hU.out.keep B1.out) hbig2).mono ?_; rintro e w2 ⟨y, rfl, h2, b2⟩; have Y2 := Lib.hid h2.fs; have X2 := Lib.hid (X1.out.keep b2); have B2 := Lib.hid (B1.out.trans (b2.mono hs1)); clear h2 b2)
  have hs2 := B2.out.size
  go_wp2_with (go_at_call 7; refine (so_Of _ [4, 9, 4] _ (fs_built _ _ _ _ _ rfl rfl) (by decide)).mono ?_; rintro e w3 ⟨z, rfl, h3, b3⟩; have Z3 := Lib.hid h3.fs; have D3 := Lib.hid (((Below.refl w2.heap.size w2).alloc (Nat.le_refl _) _).trans (b3.mono (by simp))); clear h3 b3)
  go_wp2_with (go_at_call_of 10 z; refine (so_Count _ _ _ Z3.out (by have := l494.out; omega)).mono ?_; rw [T2.out]; rintro e w4 ⟨rfl, b4⟩; have D4 := Lib.hid (D3.out.trans (b4.mono D3.out.size)); clear b4)
  have X4 := Lib.hid (X2.out.keep D4.out)
  have Y4 := Lib.hid (Y2.out.keep D4.out)
  have B4 := Lib.hid (B2.out.trans (D4.out.mono hs2))
  have hs4 := B4.out.size
  go_wp2_with (go_at_call 11; refine (so_With x y zs ts _ X4.out Y4.out (by omega)).mono ?_; rw [E1.out]; rintro e w5 ⟨o, rfl, h5, b5⟩; have O5 := Lib.hid h5.fs; have D5 := Lib.hid b5; clear h5 b5)
  have X5 := Lib.hid (X4.out.keep D5.out)
  have Y5 := Lib.hid (Y4.out.keep D5.out)
  have B5 := Lib.hid (B4.out.trans (D5.out.mono hs4))
  have hs5 := B5.out.size
  go_wp2_with (go_at_call_of 10 o; refine (so_Count _ _ _ O5.out (by omega)).mono ?_; rw [CNT.out]; rintro e w6 ⟨rfl, b6⟩; have D6 := Lib.hid b6; clear b6)
  have X6 := Lib.hid (X5.out.keep D6.out)
  have Y6 := Lib.hid (Y5.out.keep D6.out)
  have O6 := Lib.hid (O5.out.keep D6.out)
  have B6 := Lib.hid (B5.out.trans (D6.out.mono hs5))
  have hs6 := B6.out.size
  go_wp2_with (go_at_call_of 10 x; refine (so_Count _ _ _ X6.out (by omega)).mono ?_; rw [CB.out]; rintro e w7 ⟨rfl, b7⟩; have D7 := Lib.hid b7; clear b7)
  have X7 := Lib.hid (X6.out.keep D7.out)
  have Y7 := Lib.hid (Y6.out.keep D7.out)
  have O7 := Lib.hid (O6.out.keep D7.out)
  have B7 := Lib.hid (B6.out.trans (D7.out.mono hs6))
  have hs7 := B7.out.size
  go_wp2_with (go_at_call 12; refine (so_Without y x ts zs _ Y7.out X7.out (by omega) (by omega)).mono ?_; rw [E3.out]; rintro e w8 ⟨q, rfl, h8, b8⟩; have Q8 := Lib.hid h8.fs; have D8 := Lib.hid b8; clear h8 b8)
  have X8 := Lib.hid (X7.out.keep D8.out)
  have Y8 := Lib.hid (Y7.out.keep D8.out)
  have O8 := Lib.hid (O7.out.keep D8.out)
  have B8 := Lib.hid (B7.out.trans (D8.out.mono hs7))
  have hs8 := B8.out.size
  go_wp2_with (go_at_call_of 10 q; refine (so_Count _ _ _ Q8.out (by omega)).mono ?_; rw [CC.out]; rintro e w9 ⟨rfl, b9⟩; have D9 := Lib.hid b9; clear b9)
  have X9 := Lib.hid (X8.out.keep D9.out)
  have Y9 := Lib.hid (Y8.out.keep D9.out)
  have O9 := Lib.hid (O8.out.keep D9.out)
  have B9 := Lib.hid (B8.out.trans (D9.out.mono hs8))
  have hs9 := B9.out.size
  go_wp2_with (go_at_call 11; refine (so_With y x ts zs _ Y9.out X9.out (by omega)).mono ?_; rw [E2.out]; rintro e wa ⟨p, rfl, ha, ba⟩; have PA := Lib.hid ha.fs; have DA := Lib.hid ba; clear ha ba)
  have XA := Lib.hid (X9.out.keep DA.out)
  have YA := Lib.hid (Y9.out.keep DA.out)
  have OA := Lib.hid (O9.out.keep DA.out)
  have BA := Lib.hid (B9.out.trans (DA.out.mono hs9))
  have hsa := BA.out.size
  go_wp2_with (go_at_call 13; refine (so_SetEqual o p bo bo2 _ OA.out PA.out (by omega) (by omega)).mono ?_; rw [EQ1.out]; rintro e wb ⟨rfl, bb'⟩; have DB := Lib.hid bb'; clear bb')
  have XB := Lib.hid (XA.out.keep DB.out)
  have YB := Lib.hid (YA.out.keep DB.out)
  have OB := Lib.hid (OA.out.keep DB.out)
  have BB := Lib.hid (BA.out.trans (DB.out.mono hsa))
  have hsb := BB.out.size
  go_wp2_with (go_at_call 9; refine (so_All o y bo ts _ OB.out YB.out (by omega) (by omega)).mono ?_; rw [ALL1.out]; rintro e wc ⟨rfl, bc⟩; have DC := Lib.hid bc; clear bc)
  have XC := Lib.hid (XB.out.keep DC.out)
  have YC := Lib.hid (YB.out.keep DC.out)
  have OC := Lib.hid (OB.out.keep DC.out)
  have BC := Lib.hid (BB.out.trans (DC.out.mono hsb))
  have hsc := BC.out.size
  go_wp2_with (go_at_call 12; refine (so_Without o y bo ts _ OC.out YC.out (by omega) (by omega)).mono ?_; rw [E4.out]; rintro e wd ⟨r, rfl, hd, bd⟩; have RD := Lib.hid hd.fs; have DD := Lib.hid bd; clear hd bd)
  have XD := Lib.hid (XC.out.keep DD.out)
  have YD := Lib.hid (YC.out.keep DD.out)
  have OD := Lib.hid (OC.out.keep DD.out)
  have BD := Lib.hid (BC.out.trans (DD.out.mono hsc))
  have hsd := BD.out.size
  go_wp2_with (go_at_call 8; refine (so_Any y r ts re _ YD.out RD.out (by omega) (by omega)).mono ?_; rw [ANY1.out]; rintro e we ⟨rfl, hw⟩; obtain rfl : wd = we := hw.symm)
  go_wp2_with (go_at_call 12; refine (so_Without x y zs ts _ XD.out YD.out (by omega) (by omega)).mono ?_; rw [E5.out]; rintro e wf ⟨s, rfl, hf, bf⟩; have SF := Lib.hid hf.fs; have DF := Lib.hid bf; clear hf bf)
  have RF := Lib.hid (RD.out.keep DF.out)
  have OF := Lib.hid (OD.out.keep DF.out)
  have BF := Lib.hid (BD.out.trans (DF.out.mono hsd))
  have hsf := BF.out.size
  go_wp2_with (go_at_call 13; refine (so_SetEqual r s re o2 _ RF.out SF.out (by omega) (by omega)).mono ?_; rw [EQ2.out]; rintro e wg ⟨rfl, bg⟩; have DG := Lib.hid bg; clear bg)
  have OG := Lib.hid (OF.out.keep DG.out)
  have BG := Lib.hid (BF.out.trans (DG.out.mono hsf))
  have hsg := BG.out.size
  go_wp2_with (go_at_call 12; refine (so_Without o o bo bo _ OG.out OG.out (by omega) (by omega)).mono ?_; rw [E6.out]; rintro e wh ⟨t, rfl, hh, bh⟩; have TH := Lib.hid hh.fs; have DH := Lib.hid bh; clear hh bh)
  have BH := Lib.hid (BG.out.trans (DH.out.mono hsg))
  have hsh := BH.out.size
  go_wp2_with (go_at_call_of 10 t; refine (so_Count _ _ _ TH.out (by omega)).mono ?_; rw [CN0.out]; rintro e wi ⟨rfl, bi⟩; have BI := Lib.hid (BH.out.trans (bi.mono hsh)); clear bi)
  go_ret
  exact ⟨rfl, BI.out⟩
end Go.Proofs.Ytgcnfebifopdnaa
