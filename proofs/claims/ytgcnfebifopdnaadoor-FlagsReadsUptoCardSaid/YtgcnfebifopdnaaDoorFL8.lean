/-
  twin; slices that are written out.
-/
import Derived.Test.YtgcnfebifopdnaaDoorRows
import Derived.Test.YtgcnfebifopdnaaDoorFLA
namespace Go.Proofs.YtgcnfebifopdnaaDoor
open Go.RowKit

/-- A slice that is written out. -/
theorem fs_built (w : World) (zs : List Int) (cur : Array Value) (n : Nat) (ty : TypeId) (hc : cur = (zs.map (Value.int .u16)).toArray) (hn : n = zs.length) : FS (w.alloc (.cells cur ty)) (.slice (some ⟨w.heap.size, 0, none⟩) n n) zs := by
  subst hc hn
  refine ⟨_, zs.length, rfl, Nat.le_refl _, .inr ⟨w.heap.size, 0, rfl, fun j hj => ?_⟩⟩
  simp [List.getD, hj]

set_option maxHeartbeats 1000000 in
set_option maxRecDepth 100000 in
theorem so_twin (v : Value) (zs : List Int) (w : World) (h : FS w v zs) (hbig : zs.length * 2 ≤ 140737488355328) :
    Calls Tryd.prog 20 #[v] w fun e w' => ∃ v', e = .returned v' ∧ FN w.heap.size w' v' zs ∧ Below w.heap.size w w' := by
  obtain ⟨p, c, rfl, hcap, hs⟩ := h
  obtain ⟨i0, hi, hz0, hz1, hz2⟩ := info_parts flag_info
  have hr := run_append_src (P := Tryd.prog) w w.heap.size 22 22 34 i0 (.int .u16 0) 1 2 Tryd.underlying22 hi hz0 hz1 hz2 rfl (by decide) (.slice none 0 0) 0 [] (World.ownsRow_nil _ _ _ _)
    p zs.length c (zs.map (Value.int .u16)) (by simp) (FS.news hs _ (Below.refl _ w)) (by intro u hu; obtain ⟨x, _, rfl⟩ := List.mem_map.1 hu; rfl) (by unfold maxLen; omega) (by omega) (Nat.le_refl _)
  obtain ⟨v', w1, hrun, hown, hg, -⟩ := hr
  have HR := Lib.hid hrun
  have HO := Lib.hid hown
  have HG := Lib.hid hg
  clear hrun hown hg hs
  go_enter Tryd.func20, Tryd.ntmps20
  go_wp2_with (at_builtin; refine Lib.wpList_append_run _ rfl _ _ _ _ rfl _ _ rfl rfl _ _ HR.out ?_)
  go_ret
  exact ⟨v', rfl, FN.of_own (e := 34) (by simpa using HO.out), (Below.refl _ w).grown HG.out (Nat.le_refl _) (by intro k hk; simp [Value.ownBlock] at hk)⟩
end Go.Proofs.YtgcnfebifopdnaaDoor
