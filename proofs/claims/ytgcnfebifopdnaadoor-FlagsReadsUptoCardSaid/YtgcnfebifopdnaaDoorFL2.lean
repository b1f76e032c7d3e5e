/-
  slices.Clone over flags.
-/
import Derived.Test.YtgcnfebifopdnaaDoorRows
import Derived.Test.YtgcnfebifopdnaaDoorFLB
namespace Go.Proofs.YtgcnfebifopdnaaDoor
open Go.RowKit

set_option maxHeartbeats 2000000 in
set_option maxRecDepth 100000 in
theorem so_CloneF (v : Value) (zs : List Int) (w : World) (h : FS w v zs) (hbig : zs.length * 2 ≤ 281474976710656) :
    Calls Tryd.prog 40 #[v] w fun e w' => ∃ v', e = .returned v' ∧ FN w.heap.size w' v' zs ∧ Below w.heap.size w w' := by
  obtain ⟨p, c, rfl, hcap, hs⟩ := h
  obtain ⟨i0, hi, hz0, hz1, hz2⟩ := info_parts flag_info
  have qn : ∀ (w : World) (a : Option Addr) (n c n' c' : Nat), (binOp .eql 22 (.slice a n c) (.slice none n' c')).run Tryd.prog w = .ok (.bool a.isNone) w := fun w a n c n' c' => Lib.run_eql_slice_nil w _ _ a n c n' c' Tryd.underlying22
  have hS := Lib.hid hs
  clear hs
  cases p with
  | none =>
    have h0 : zs = [] := List.eq_nil_of_length_eq_zero (hS.out.resolve_right (by rintro ⟨b, off, hp, _⟩; cases hp))
    clear hS
    subst h0
    go_enter Tryd.func40, Tryd.ntmps40
    go_wp2
    go_ret
    exact ⟨_, rfl, FN.nil _ _ _ _, Below.refl _ _⟩
  | some ad =>
    have hr := run_append_new (P := Tryd.prog) (w.alloc (.cells #[] 34)) w.heap.size 22 22 34 i0 (.int .u16 0) 2 Tryd.underlying22 hi hz0 hz1 hz2 rfl w.heap.size (World.ownsRow_made w #[] 0 (Nat.le_refl _) (Nat.zero_le _) rfl) (by simp)
      (some ad) zs.length c (zs.map (Value.int .u16)) (by simp) (FS.news hS.out _ ((Below.refl _ w).alloc (Nat.le_refl _) _)) (by unfold maxLen; omega) hbig
    obtain ⟨v', w1, hrun, hown, hg⟩ := hr
    have HR := Lib.hid hrun
    have HO := Lib.hid hown
    have HG := Lib.hid hg
    clear hrun hown hg hS
    go_enter Tryd.func40, Tryd.ntmps40
    go_wp2_with (at_builtin; refine Lib.wpList_append_run _ rfl _ _ _ _ rfl _ _ rfl rfl _ _ HR.out ?_)
    go_ret
    refine ⟨v', rfl, FN.of_own (e := 34) HO.out, ?_⟩
    exact ((Below.refl _ w).alloc (Nat.le_refl _) _).trans (HG.out.mono (by simp))

set_option maxHeartbeats 2000000 in
set_option maxRecDepth 100000 in
theorem so_CloneS (v : Value) (zs : List Int) (w : World) (h : FS w v zs) (hbig : zs.length * 2 ≤ 281474976710656) :
    Calls Tryd.prog 39 #[v] w fun e w' => ∃ v', e = .returned v' ∧ FN w.heap.size w' v' zs ∧ Below w.heap.size w w' := by
  obtain ⟨p, c, rfl, hcap, hs⟩ := h
  obtain ⟨i0, hi, hz0, hz1, hz2⟩ := info_parts flag_info
  have qn : ∀ (w : World) (a : Option Addr) (n c n' c' : Nat), (binOp .eql 23 (.slice a n c) (.slice none n' c')).run Tryd.prog w = .ok (.bool a.isNone) w := fun w a n c n' c' => Lib.run_eql_slice_nil w _ _ a n c n' c' Tryd.underlying23
  have hS := Lib.hid hs
  clear hs
  cases p with
  | none =>
    have h0 : zs = [] := List.eq_nil_of_length_eq_zero (hS.out.resolve_right (by rintro ⟨b, off, hp, _⟩; cases hp))
    clear hS
    subst h0
    go_enter Tryd.func39, Tryd.ntmps39
    go_wp2
    go_ret
    exact ⟨_, rfl, FN.nil _ _ _ _, Below.refl _ _⟩
  | some ad =>
    have hr := run_append_new (P := Tryd.prog) (w.alloc (.cells #[] 34)) w.heap.size 23 23 34 i0 (.int .u16 0) 2 Tryd.underlying23 hi hz0 hz1 hz2 rfl w.heap.size (World.ownsRow_made w #[] 0 (Nat.le_refl _) (Nat.zero_le _) rfl) (by simp)
      (some ad) zs.length c (zs.map (Value.int .u16)) (by simp) (FS.news hS.out _ ((Below.refl _ w).alloc (Nat.le_refl _) _)) (by unfold maxLen; omega) hbig
    obtain ⟨v', w1, hrun, hown, hg⟩ := hr
    have HR := Lib.hid hrun
    have HO := Lib.hid hown
    have HG := Lib.hid hg
    clear hrun hown hg hS
    go_enter Tryd.func39, Tryd.ntmps39
    go_wp2_with (at_builtin; refine Lib.wpList_append_run _ rfl _ _ _ _ rfl _ _ rfl rfl _ _ HR.out ?_)
    go_ret
    refine ⟨v', rfl, FN.of_own (e := 34) HO.out, ?_⟩
    exact ((Below.refl _ w).alloc (Nat.le_refl _) _).trans (HG.out.mono (by simp))
end Go.Proofs.YtgcnfebifopdnaaDoor
