/-
  FlagsShows walked.
-/
import Derived.Test.YtgcnfebifopdnaaDoorRows
import Derived.Test.YtgcnfebifopdnaaDoorFS5
namespace Go.Proofs.YtgcnfebifopdnaaDoor
open Go.RowKit

theorem vars_tab {W : World} {name : String} {k : IntKind} {zs : List Int} {rest : List (String × DataW Unit)} {g : Nat} {t e : TypeId} {n : Nat} {ps : List MemPlace}
    (hg : Tryd.prog.globalNamed name = some g) (hty : (Tryd.prog.globals[g]?).map (·.type) = some t) (ht : Tryd.prog.underlying t = some (.array n e)) (he : Tryd.prog.underlying e = some (.int k)) (hce : Tryd.prog.cellsOf e = 1) (hct : Tryd.prog.cellsOf t = n)
    (h : DataW.LaidVars Tryd.prog W ((name, Lib.tabData k zs) :: rest) ps) : Lib.TabIs Tryd.prog W name k zs := by
  obtain ⟨g', t', cs, fuel, p, q, hg', ht', hvar, hd, _, _⟩ := h
  obtain rfl := Option.some.inj (hg.symm.trans hg')
  obtain rfl := Option.some.inj (hty.symm.trans ht')
  unfold Lib.TabIs
  rw [hvar, ← Lib.cells_of_tab ht he hce hct hd]
theorem vars_tail {W : World} {x : String × DataW Unit} {rest : List (String × DataW Unit)} {ps : List MemPlace} (h : DataW.LaidVars Tryd.prog W (x :: rest) ps) : ∃ qs, DataW.LaidVars Tryd.prog W rest qs := by
  obtain ⟨g', t', cs, fuel, p, q, _, _, _, _, h2, _⟩ := h
  exact ⟨q, h2⟩
theorem powTab_shows {W : World} (h : laidMetH Tryd.prog Rows.flagsShowsUptoRow.laid W) : PowTab W := by
  have h1 : laidMet Tryd.prog Rows.flagsShowsUptoRow.laid W := h
  obtain ⟨ps, h2, _⟩ := h1
  obtain ⟨qs, h3⟩ := vars_tail h2
  obtain ⟨rs, h4⟩ := vars_tail h3
  exact vars_tab (g := 3) (by kernel_rfl) (by kernel_rfl) Tryd.underlying141 Tryd.underlying109 (by kernel_rfl) (by kernel_rfl) h4
theorem powTab_back {W : World} (h : laidMetH Tryd.prog Rows.flagsBackUptoRow.laid W) : PowTab W := by
  have h1 : laidMet Tryd.prog Rows.flagsBackUptoRow.laid W := h
  obtain ⟨ps, h2, _⟩ := h1
  obtain ⟨qs, h3⟩ := vars_tail h2
  obtain ⟨rs, h4⟩ := vars_tail h3
  exact vars_tab (g := 3) (by kernel_rfl) (by kernel_rfl) Tryd.underlying141 Tryd.underlying109 (by kernel_rfl) (by kernel_rfl) h4

set_option maxHeartbeats 1000000 in
set_option maxRecDepth 100000 in
theorem shows_walk (kind : Int) (v : Value) (zs : List Int) (W : World) (h : FS W v zs) (hbd : ∀ x ∈ zs, 0 ≤ x ∧ x ≤ 65535) (hbig : zs.length ≤ 4194304) (ht : PowTab W) (hsh : W.ShapedOpen Tryd.prog) :
    Calls Tryd.prog 9 #[.int .i64 kind, v] W fun e w' => e = .returned (.bool true) ∧ Below W.heap.size W w' := by
  obtain ⟨m, hm⟩ := maxLen_of W hsh
  have hF := Lib.hid h
  have D1 := Lib.hid hbd
  have HT := Lib.hid ht
  obtain ⟨s, hs⟩ : ∃ s, mkS (showF kind (canon zs)).1 = s := ⟨_, rfl⟩
  obtain ⟨y, hy⟩ : ∃ y, (showF kind (canon zs)).2 = y := ⟨_, rfl⟩
  have HS := Lib.hid hs
  have HY := Lib.hid hy
  clear h hbd ht hsh hs hy
  go_enter Tryd.func9, Tryd.ntmps9
  go_wp2_with (go_at_call 20; refine (so_twin _ zs _ hF.out (by omega)).mono ?_; rintro e w1 ⟨x, rfl, h1, b1⟩; have X1 := Lib.hid h1.fs; have B1 := Lib.hid b1; have P1 := Lib.hid (PowTab.below HT.out b1); clear h1 b1)
  go_wp2_with (go_at_call 32; refine (so_Show kind _ zs _ X1.out D1.out hbig P1.out).mono ?_; rw [HS.out, HY.out]; rintro e w2 ⟨rfl, b2⟩; have B2 := Lib.hid (B1.out.trans (b2.mono B1.out.size)); clear b2)
  go_wp2_with (go_at_call 18; refine (so_ints _ zs _ (hF.out.keep B2.out) D1.out (by omega)).mono ?_; rintro e w3 ⟨a, rfl, h3, b3⟩; have A3 := Lib.hid h3; have B3 := Lib.hid (B2.out.trans (b3.mono B2.out.size)); clear h3 b3)
  go_wp2_with (go_at_call 33; refine (so_rShow kind _ zs _ A3.out D1.out hbig).mono ?_; unfold ShowR; rw [HS.out, HY.out]; rintro e w4 ⟨rfl, b4⟩; have B4 := Lib.hid (B3.out.trans (b4.mono B3.out.size)); clear b4)
  go_wp2_with (go_at_call 13; refine (so_wakes m _ ((B4.out.cell (World.block_lt_of_cell? W _ hm)).trans hm)).mono ?_; rintro e w5 ⟨rfl, b5⟩; have B5 := Lib.hid (B4.out.trans (b5.mono B4.out.size)); clear b5)
  go_ret
  exact ⟨rfl, B5.out⟩
end Go.Proofs.YtgcnfebifopdnaaDoor
