/-
  FlagsSets walked.
-/
import Derived.Test.YtgcnfebifopdnaaDoorRows
import Derived.Test.YtgcnfebifopdnaaDoorFR14
import Derived.Test.YtgcnfebifopdnaaDoorGC
import Derived.Test.YtgcnfebifopdnaaDoorGB
namespace Go.Proofs.YtgcnfebifopdnaaDoor
open Go.RowKit

/-- What FlagsSets holds while it calls. -/
structure HS (W w : World) (v u x y a b : Value) (zs ts : List Int) : Prop where
  below : Below W.heap.size W w
  hv : FS w v zs
  hu : FS w u ts
  hx : FS w x zs
  hy : FS w y ts
  ha : IS w a zs
  hb : IS w b ts
theorem HS.keep {W w w' : World} {v u x y a b : Value} {zs ts : List Int} (h : HS W w v u x y a b zs ts) (hb : Below w.heap.size w w') : HS W w' v u x y a b zs ts :=
  ⟨h.below.trans (hb.mono h.below.size), h.hv.keep hb, h.hu.keep hb, h.hx.keep hb, h.hy.keep hb, h.ha.keep hb, h.hb.keep hb⟩
set_option maxHeartbeats 400000 in
set_option maxRecDepth 1000000 in
theorem sets_walk (v u : Value) (zs ts : List Int) (f : Int) (W : World) (h : FS W v zs) (hu : FS W u ts) (hbd : ∀ x ∈ zs, 0 ≤ x ∧ x ≤ 65535) (hbd2 : ∀ x ∈ ts, 0 ≤ x ∧ x ≤ 65535) (hf0 : 0 ≤ f) (hf1 : f ≤ 65535)
    (hbig : zs.length ≤ 4194304) (hbig2 : ts.length ≤ 4194304) (hsh : W.ShapedOpen Tryd.prog) :
    Calls Tryd.prog 8 #[v, u, .int .u16 f] W fun e w' => e = .returned (.bool true) ∧ Below W.heap.size W w' := by
  obtain ⟨m, hm⟩ := maxLen_of W hsh
  clear hsh
  have hF := Lib.hid h
  have hU := Lib.hid hu
  have D1 := Lib.hid hbd
  have D2 := Lib.hid hbd2
  clear h hu hbd hbd2
  obtain ⟨c1, hc1⟩ : ∃ c, canon zs = c := ⟨_, rfl⟩
  obtain ⟨c2, hc2⟩ : ∃ c, canon (zs ++ ts) = c := ⟨_, rfl⟩
  obtain ⟨c3, hc3⟩ : ∃ c, canon (outs ts zs) = c := ⟨_, rfl⟩
  obtain ⟨q1, hq1⟩ : ∃ c, zs.contains f = c := ⟨_, rfl⟩
  obtain ⟨q2, hq2⟩ : ∃ c, decide (canon zs = canon ts) = c := ⟨_, rfl⟩
  have l1 : c1.length ≤ 4194304 := by rw [← hc1]; exact Nat.le_trans (canon_le _) hbig
  have l2 : c2.length ≤ 8388608 := by rw [← hc2]; exact Nat.le_trans (canon_le _) (by rw [List.length_append]; omega)
  have l3 : c3.length ≤ 4194304 := by rw [← hc3]; exact Nat.le_trans (canon_le _) (Nat.le_trans (outs_le _ _) hbig)
  have E1 := Lib.hid (show ∀ x ∈ c1, 0 ≤ x ∧ x ≤ 65535 by rw [← hc1]; exact canon_bd D1.out)
  have E2 := Lib.hid (show ∀ x ∈ c2, 0 ≤ x ∧ x ≤ 65535 by rw [← hc2]; exact canon_bd (app_bd D1.out D2.out))
  have E3 := Lib.hid (show ∀ x ∈ c3, 0 ≤ x ∧ x ≤ 65535 by rw [← hc3]; exact canon_bd (outs_bd ts D1.out))
  have C3 := Lib.hid (show outs ts (canon zs) = c3 by rw [← without_law]; exact hc3)
  have C1 := Lib.hid hc1
  have C2 := Lib.hid hc2
  have C3' := Lib.hid hc3
  have Q1 := Lib.hid hq1
  have Q2 := Lib.hid hq2
  clear hc1 hc2 hc3 hq1 hq2
  go_enter Tryd.func8, Tryd.ntmps8
  go_wp2_with (go_at_call_of 18 v; refine (so_ints _ zs _ hF.out D1.out (by omega)).mono ?_; rintro e w1 ⟨a, rfl, h1, b1⟩; have A1 := Lib.hid h1; have B1 := Lib.hid b1; clear h1 b1)
  go_wp2_with (go_at_call_of 18 u; refine (so_ints _ ts _ (hU.out.keep B1.out) D2.out (by omega)).mono ?_; rintro e w2 ⟨b, rfl, h2, b2⟩; have A2 := Lib.hid (A1.out.keep b2); have BB2 := Lib.hid h2; have B2 := Lib.hid (B1.out.trans (b2.mono B1.out.size)); clear h2 b2)
  go_wp2_with (go_at_call_of 20 v; refine (so_twin _ zs _ (hF.out.keep B2.out) (by omega)).mono ?_; rintro e w3 ⟨x, rfl, h3, b3⟩; have A3 := Lib.hid (A2.out.keep b3); have BB3 := Lib.hid (BB2.out.keep b3); have X3 := Lib.hid h3.fs; have B3 := Lib.hid (B2.out.trans (b3.mono B2.out.size)); clear h3 b3)
  go_wp2_with (go_at_call_of 20 u; refine (so_twin _ ts _ (hU.out.keep B3.out) (by omega)).mono ?_; rintro e w4 ⟨y, rfl, h4, b4⟩; have H4 := Lib.hid (show HS W w4 v u x y a b zs ts from ⟨B3.out.trans (b4.mono B3.out.size), (hF.out.keep B3.out).keep b4, (hU.out.keep B3.out).keep b4, X3.out.keep b4, h4.fs, A3.out.keep b4, BB3.out.keep b4⟩); clear h4 b4)
  clear A1 A2 A3 BB2 BB3 X3 B1 B2 B3
  go_wp2_with (go_at_call 13; refine (so_wakes m _ ((H4.out.below.cell (World.block_lt_of_cell? W _ hm)).trans hm)).mono ?_; rintro e w5 ⟨rfl, b5⟩; have H5 := Lib.hid (H4.out.keep b5); clear b5)
  go_wp2_with (go_at_call 20; refine (so_twin _ zs _ H5.out.hv (by omega)).mono ?_; rintro e w6 ⟨p, rfl, h6, b6⟩; have P6 := Lib.hid h6.fs; have H6 := Lib.hid (H5.out.keep b6); clear h6 b6)
  go_wp2_with (go_at_call 25; refine (so_Of _ zs _ P6.out (by omega)).mono ?_; rw [C1.out]; rintro e w7 ⟨q, rfl, h7, b7⟩; have P7 := Lib.hid h7.fs; have H7 := Lib.hid (H6.out.keep b7); clear h7 b7)
  go_wp2_with (go_at_call 17; refine (so_rOf _ zs _ H7.out.ha (up_bd D1.out) (by omega)).mono ?_; rw [C1.out]; rintro e w8 ⟨r, rfl, h8, b8⟩; have P8 := Lib.hid (P7.out.keep b8); have R8 := Lib.hid h8; have H8 := Lib.hid (H7.out.keep b8); clear h8 b8)
  go_wp2_with (go_at_call 14; refine (so_is_same _ _ c1 _ P8.out R8.out E1.out (by omega)).mono ?_; rintro e w9 ⟨rfl, b9⟩; have H9 := Lib.hid (H8.out.keep b9); clear b9)
  have QQ : (q1 != q1) = false := by simp
  have QR : (q2 != q2) = false := by simp
  go_wp2_with (go_at_call 27; refine (so_Has _ zs f _ H9.out.hx (by omega)).mono ?_; rw [Q1.out]; rintro e w10 ⟨rfl, rfl⟩)
  go_wp2_with (go_at_call 28; refine (so_rHas _ zs f _ H9.out.ha (by omega)).mono ?_; rw [Q1.out]; rintro e w10 ⟨rfl, rfl⟩)
  go_wp2_with (go_at_call 29; refine (so_Count _ zs _ H9.out.hx (by omega)).mono ?_; rw [C1.out]; rintro e w10 ⟨rfl, b10⟩; have H10 := Lib.hid (H9.out.keep b10); clear b10)
  go_wp2_with (go_at_call 17; refine (so_rOf _ zs _ H10.out.ha (up_bd D1.out) (by omega)).mono ?_; rw [C1.out]; rintro e w11 ⟨r2, rfl, ⟨pr, cr, rfl, -, -⟩, b11⟩; have H11 := Lib.hid (H10.out.keep b11); clear b11)
  go_wp2_with (go_at_call 30; refine (so_SetEqual _ _ zs ts _ H11.out.hx H11.out.hy (by omega) (by omega)).mono ?_; rw [Q2.out]; rintro e w12 ⟨rfl, b12⟩; have H12 := Lib.hid (H11.out.keep b12); clear b12)
  go_wp2_with (go_at_call 31; refine (so_rEqual _ _ zs ts _ H12.out.ha H12.out.hb (up_bd D1.out) (up_bd D2.out) (by omega) (by omega)).mono ?_; rw [Q2.out]; rintro e w13 ⟨rfl, b13⟩; have H13 := Lib.hid (H12.out.keep b13); clear b13)
  go_wp2_with (go_at_call 22; refine (so_With _ _ zs ts _ H13.out.hx H13.out.hy (by omega)).mono ?_; rw [C2.out]; rintro e w14 ⟨s14, rfl, h14, b14⟩; have S14 := Lib.hid h14.fs; have H14 := Lib.hid (H13.out.keep b14); clear h14 b14)
  go_wp2_with (go_at_call 19; refine (so_rWith _ _ zs ts _ H14.out.ha H14.out.hb (up_bd D1.out) (up_bd D2.out) (by omega)).mono ?_; rw [C2.out]; rintro e w15 ⟨r15, rfl, h15, b15⟩; have R15 := Lib.hid h15; have S15 := Lib.hid (S14.out.keep b15); have H15 := Lib.hid (H14.out.keep b15); clear h15 b15)
  go_wp2_with (go_at_call 14; refine (so_is_same _ _ c2 _ S15.out R15.out E2.out (by omega)).mono ?_; rintro e w16 ⟨rfl, b16⟩; have H16 := Lib.hid (H15.out.keep b16); clear b16)
  go_wp2_with (go_at_call 24; refine (so_Without _ _ zs ts _ H16.out.hx H16.out.hy (by omega) (by omega)).mono ?_; rw [C3'.out]; rintro e w17 ⟨s17, rfl, h17, b17⟩; have S17 := Lib.hid h17.fs; have H17 := Lib.hid (H16.out.keep b17); clear h17 b17)
  go_wp2_with (go_at_call 23; refine (so_rWithout _ _ zs ts _ H17.out.ha H17.out.hb (up_bd D1.out) (by omega) (by omega)).mono ?_; rw [C3.out]; rintro e w18 ⟨r18, rfl, h18, b18⟩; have R18 := Lib.hid h18; have S18 := Lib.hid (S17.out.keep b18); have H18 := Lib.hid (H17.out.keep b18); clear h18 b18)
  go_wp2_with (go_at_call 14; refine (so_is_same _ _ c3 _ S18.out R18.out E3.out (by omega)).mono ?_; rintro e w19 ⟨rfl, b19⟩; have H19 := Lib.hid (H18.out.keep b19); clear b19)
  go_wp2_with (go_at_call_of 26 x; refine (so_same_same _ _ zs _ H19.out.hx H19.out.hv (by omega)).mono ?_; rintro e w20 ⟨rfl, b20⟩; have H20 := Lib.hid (H19.out.keep b20); clear b20)
  go_wp2_with (go_at_call_of 26 y; refine (so_same_same _ _ ts _ H20.out.hy H20.out.hu (by omega)).mono ?_; rintro e w21 ⟨rfl, b21⟩; have H21 := Lib.hid (H20.out.keep b21); clear b21)
  go_ret
  exact ⟨rfl, H21.out.below⟩
end Go.Proofs.YtgcnfebifopdnaaDoor
