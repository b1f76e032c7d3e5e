/-
  All; twin.
-/
import Derived.Test.YtgcnfebifopdnaaRows
import Derived.Test.YtgcnfebifopdnaaFL7
namespace Go.Proofs.Ytgcnfebifopdnaa
open Go.RowKit

set_option maxHeartbeats 1000000 in
set_option maxRecDepth 100000 in
theorem so_All (v u : Value) (zs ts : List Int) (w : World) (h : FS w v zs) (hu : FS w u ts) (hbig : zs.length * 2 ≤ 281474976710656) (hbig2 : ts.length * 2 ≤ 281474976710656) :
    Calls Try.prog 9 #[v, u] w fun e w' => e = .returned (.bool ((canon (foldOuts (canon ts) [zs])).length == 0)) ∧ Below w.heap.size w w' := by
  have hF := Lib.hid h
  have hU := Lib.hid hu
  have hcl := canon_le ts
  obtain ⟨p, c, rfl, hcap, -⟩ := h
  clear hu
  generalize hr : ((canon (foldOuts (canon ts) [zs])).length == 0) = r
  have HR := Lib.hid hr
  clear hr
  go_enter Try.func9, Try.ntmps9
  go_wp2_with (go_at_call 7; refine (so_Of _ ts _ hU.out (by omega)).mono ?_; rintro e w1 ⟨v1, rfl, h1, b1⟩)
  have H1 := Lib.hid h1.fs
  have B1 := Lib.hid b1
  have hs1 := b1.size
  clear h1 b1
  have hg := Lib.hid (show GS (w1.alloc (.cells #[.slice p zs.length c] 22)) (.slice (some ⟨w1.heap.size, 0, none⟩) 1 1) [(.slice p zs.length c, zs)] from
    ⟨_, 1, rfl, .inr ⟨w1.heap.size, 0, rfl, fun j hj => by
      have : j = 0 := by simpa using hj
      subst this
      simp⟩, fun x hx => by
      obtain rfl : x = _ := by simpa using hx
      exact hF.out.keep (B1.out.alloc (Nat.le_trans (Nat.le_refl _) hs1) _)⟩)
  have hb2 : ∀ x ∈ [((Value.slice p zs.length c), zs)], x.2.length * 2 ≤ 281474976710656 := by
    intro x hx
    obtain rfl : x = _ := by simpa using hx
    show zs.length * 2 ≤ _
    omega
  have HB2 := Lib.hid hb2
  clear hb2
  go_wp2_with (go_at_call 19; refine (so_FoldWithout _ _ (canon ts) [(.slice p zs.length c, zs)] _ (H1.out.keep ((Below.refl _ _).alloc (Nat.le_refl _) _)) hg.out (by omega) (by simp) HB2.out).mono ?_; rintro e w3 ⟨v3, rfl, ⟨p3, c3, rfl, -⟩, b3⟩)
  have B3 := Lib.hid ((B1.out.alloc hs1 _).trans (b3.mono (by simp; omega)))
  go_ret
  refine ⟨?_, B3.out⟩
  rw [← HR.out]
  generalize (canon (foldOuts (canon ts) [zs])).length = n
  have e : ((n : Int) == 0) = (n == 0) := by rw [Bool.eq_iff_iff]; simp
  rw [← e]
  rfl

set_option maxHeartbeats 1000000 in
set_option maxRecDepth 100000 in
theorem so_twin (v : Value) (zs : List Int) (w : World) (h : FS w v zs) (hbig : zs.length * 2 ≤ 140737488355328) :
    Calls Try.prog 5 #[v] w fun e w' => ∃ v', e = .returned v' ∧ FN w.heap.size w' v' zs ∧ Below w.heap.size w w' := by
  obtain ⟨p, c, rfl, hcap, hs⟩ := h
  obtain ⟨i0, hi, hz0, hz1, hz2⟩ := info_parts flag_info
  have hr := run_append_src (P := Try.prog) w w.heap.size 22 22 26 i0 (.int .u16 0) 1 2 Try.underlying22 hi hz0 hz1 hz2 rfl (by decide) (.slice none 0 0) 0 [] (World.ownsRow_nil _ _ _ _)
    p zs.length c (zs.map (Value.int .u16)) (by simp) (FS.news hs _ (Below.refl _ w)) (by intro u hu; obtain ⟨x, _, rfl⟩ := List.mem_map.1 hu; rfl) (by unfold maxLen; omega) (by omega) (Nat.le_refl _)
  obtain ⟨v', w1, hrun, hown, hg, -⟩ := hr
  have HR := Lib.hid hrun
  have HO := Lib.hid hown
  have HG := Lib.hid hg
  clear hrun hown hg hs
  go_enter Try.func5, Try.ntmps5
  go_wp2_with (at_builtin; refine Lib.wpList_append_run _ rfl _ _ _ _ rfl _ _ rfl rfl _ _ HR.out ?_)
  go_ret
  exact ⟨v', rfl, FN.of_own (e := 26) (by simpa using HO.out), (Below.refl _ w).grown HG.out (Nat.le_refl _) (by intro k hk; simp [Value.ownBlock] at hk)⟩
end Go.Proofs.Ytgcnfebifopdnaa
