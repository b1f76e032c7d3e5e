/-
  FlagsBack walked.
-/
import Derived.Test.YtgcnfebifopdnaaDoorRows
import Derived.Test.YtgcnfebifopdnaaDoorFS6
namespace Go.Proofs.YtgcnfebifopdnaaDoor
open Go.RowKit

theorem show_good (kind : Int) (zs : List Int) (hk : kind = 1 ∨ kind = 2 ∨ kind = 3) (hg : zs.all (goodF kind) = true) (hl : zs.length ≤ 64) : showF kind zs = (joinF kind zs, 0) := by
  unfold showF
  rw [if_neg (by rw [kindOk_of hk]; decide), if_neg (by rw [hg]; decide), if_neg (by omega)]
theorem so_equal_same (v u : Value) (zs : List Int) (w : World) (h : FS w v zs) (hu : FS w u zs) (hbig : zs.length * 2 ≤ 281474976710656) :
    Calls Tryd.prog 30 #[v, u] w fun e w' => e = .returned (.bool true) ∧ Below w.heap.size w w' :=
  (so_SetEqual v u zs zs w h hu hbig hbig).mono (fun e w' ⟨he, hw⟩ => ⟨by rw [he]; simp, hw⟩)

set_option maxHeartbeats 1000000 in
set_option maxRecDepth 100000 in
theorem back_walk (kind : Int) (s : ByteArray) (W : World) (hs : s.size ≤ 4194304) (ht : PowTab W) (hsh : W.ShapedOpen Tryd.prog) :
    Calls Tryd.prog 10 #[.int .i64 kind, .string s] W fun e w' => e = .returned (.bool true) ∧ Below W.heap.size W w' := by
  obtain ⟨m, hm⟩ := maxLen_of W hsh
  have hbd := readF_bd kind s.data.toList
  have hln := readF_len kind s.data.toList
  have hgd := readF_good kind s.data.toList
  obtain ⟨zs, hzs⟩ : ∃ zs, (readF kind s.data.toList).1 = zs := ⟨_, rfl⟩
  obtain ⟨y, hy⟩ : ∃ y, (readF kind s.data.toList).2 = y := ⟨_, rfl⟩
  rw [hzs] at hbd hln hgd
  rw [hy] at hgd
  have HZ := Lib.hid hzs
  have HY := Lib.hid hy
  have HBD := Lib.hid hbd
  have HT := Lib.hid ht
  clear hsh hzs hy hbd ht
  by_cases h0 : y = 0
  · subst h0
    obtain ⟨hk, hne, hg, hc⟩ := hgd rfl
    have HSH := Lib.hid (show showF kind (canon zs) = (joinF kind zs, 0) by rw [hc]; exact show_good kind zs hk hg hln)
    have HRD := Lib.hid (show readF kind (joinF kind zs) = (zs, 0) by rw [read_join kind hk zs hne hg hln, hc])
    have hjl := joinF_len kind zs HBD.out
    obtain ⟨t, ht⟩ : ∃ t, mkS (joinF kind zs) = t := ⟨_, rfl⟩
    have hts : t.size ≤ 4194304 := by rw [← ht, mkS_size]; omega
    have HSH1 := Lib.hid (show mkS (showF kind (canon zs)).1 = t by rw [HSH.out]; exact ht)
    have HSH2 := Lib.hid (show (showF kind (canon zs)).2 = 0 by rw [HSH.out])
    have HRD1 := Lib.hid (show (readF kind t.data.toList).1 = zs by rw [← ht]; exact congrArg Prod.fst HRD.out)
    have HRD2 := Lib.hid (show (readF kind t.data.toList).2 = 0 by rw [← ht]; exact congrArg Prod.snd HRD.out)
    clear hgd hk hne hg hc ht HSH HRD hjl
    go_enter Tryd.func10, Tryd.ntmps10
    go_wp2_with (go_at_call 13; refine (so_wakes m _ hm).mono ?_; rintro e w1 ⟨rfl, b1⟩; have B1 := Lib.hid b1; clear b1)
    go_wp2_with (go_at_call 12; refine (so_rRead kind s _ hs).mono ?_; rw [HZ.out, HY.out]; rintro e w2 ⟨v2, rfl, h2, b2⟩; have R2 := Lib.hid h2; have B2 := Lib.hid (B1.out.trans (b2.mono B1.out.size)); clear h2 b2)
    go_wp2_with (go_at_call 11; refine (so_Read kind s m _ hs ((B2.out.cell (World.block_lt_of_cell? W _ hm)).trans hm)).mono ?_; rw [HZ.out, HY.out]; rintro e w3 ⟨v3, rfl, h3, b3⟩; have A3 := Lib.hid h3.fs; have R3 := Lib.hid (R2.out.keep b3); have B3 := Lib.hid (B2.out.trans (b3.mono B2.out.size)); clear h3 b3)
    go_wp2_with (go_at_call 32; refine (so_Show kind _ zs _ A3.out HBD.out (by omega) (PowTab.below HT.out B3.out)).mono ?_; rw [HSH1.out, HSH2.out]; rintro e w4 ⟨rfl, b4⟩; have A4 := Lib.hid (A3.out.keep b4); have R4 := Lib.hid (R3.out.keep b4); have B4 := Lib.hid (B3.out.trans (b4.mono B3.out.size)); clear b4)
    go_wp2_with (go_at_call 11; refine (so_Read kind t m _ hts ((B4.out.cell (World.block_lt_of_cell? W _ hm)).trans hm)).mono ?_; rw [HRD1.out, HRD2.out]; rintro e w5 ⟨v5, rfl, h5, b5⟩; have V5 := Lib.hid h5.fs; have A5 := Lib.hid (A4.out.keep b5); have R5 := Lib.hid (R4.out.keep b5); have B5 := Lib.hid (B4.out.trans (b5.mono B4.out.size)); clear h5 b5)
    go_wp2_with (go_at_call 14; refine (so_is_same _ _ zs _ V5.out R5.out HBD.out (by omega)).mono ?_; rintro e w6 ⟨rfl, b6⟩; have V6 := Lib.hid (V5.out.keep b6); have A6 := Lib.hid (A5.out.keep b6); have B6 := Lib.hid (B5.out.trans (b6.mono B5.out.size)); clear b6)
    go_wp2_with (go_at_call 30; refine (so_equal_same _ _ zs _ A6.out V6.out (by omega)).mono ?_; rintro e w7 ⟨rfl, b7⟩; have V7 := Lib.hid (V6.out.keep b7); have B7 := Lib.hid (B6.out.trans (b7.mono B6.out.size)); clear b7)
    go_wp2_with (go_at_call 20; refine (so_twin _ zs _ V7.out (by omega)).mono ?_; rintro e w8 ⟨x, rfl, h8, b8⟩; have X8 := Lib.hid h8.fs; have B8 := Lib.hid (B7.out.trans (b8.mono B7.out.size)); clear h8 b8)
    go_wp2_with (go_at_call 32; refine (so_Show kind _ zs _ X8.out HBD.out (by omega) (PowTab.below HT.out B8.out)).mono ?_; rw [HSH1.out, HSH2.out]; rintro e w9 ⟨rfl, b9⟩; have B9 := Lib.hid (B8.out.trans (b9.mono B8.out.size)); clear b9)
    go_ret
    exact ⟨rfl, B9.out⟩
  · have hb : (y != 0) = true := by simpa using h0
    clear hgd h0
    go_enter Tryd.func10, Tryd.ntmps10
    go_wp2_with (go_at_call 13; refine (so_wakes m _ hm).mono ?_; rintro e w1 ⟨rfl, b1⟩; have B1 := Lib.hid b1; clear b1)
    go_wp2_with (go_at_call 12; refine (so_rRead kind s _ hs).mono ?_; rw [HZ.out, HY.out]; rintro e w2 ⟨v2, rfl, h2, b2⟩; have B2 := Lib.hid (B1.out.trans (b2.mono B1.out.size)); clear h2 b2)
    go_ret
    exact ⟨rfl, B2.out⟩
end Go.Proofs.YtgcnfebifopdnaaDoor
