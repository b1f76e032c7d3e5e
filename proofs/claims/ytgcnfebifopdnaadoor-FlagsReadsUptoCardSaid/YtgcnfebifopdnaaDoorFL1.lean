/-
  Index, Contains, Has: they only read.
-/
import Derived.Test.YtgcnfebifopdnaaDoorRows
import Derived.Test.YtgcnfebifopdnaaDoorFL0
import Derived.Lib.Walk
namespace Go.Proofs.YtgcnfebifopdnaaDoor
open Go.RowKit

set_option maxHeartbeats 1000000 in
theorem so_Index (v : Value) (zs : List Int) (x : Int) (w : World) (h : FS w v zs) (hbig : zs.length ≤ 9223372036854775807) :
    Calls Tryd.prog 59 #[v, .int .u16 x] w fun e w' => e = .returned (.int .i64 (Lib.idxOf zs x)) ∧ w' = w := by
  obtain ⟨p, c, rfl, hcap, hs⟩ := h
  have hS := Lib.hid hs
  clear hs
  go_enter Tryd.func59, Tryd.ntmps59
  go_wp2
  go_loop [5, 8] (fun _ i => ∃ k : Nat, k ≤ zs.length ∧ i = .int .i64 k ∧ ∀ j, j < k → zs.getD j 0 ≠ x) (fun _ i => zs.length - (intOf i).toNat)
  case atStart => exact ⟨0, Nat.zero_le _, rfl, fun j hj => absurd hj (Nat.not_lt_zero _)⟩
  case round =>
    obtain ⟨k, hk, rfl, hne⟩ := hrel
    have hN := Lib.hid hne
    clear hne
    by_cases hlt : k < zs.length
    · obtain ⟨b, off, rfl, hc⟩ := hS.out.resolve_left (by omega)
      have hcell := hc k hlt
      generalize hz : zs.getD k 0 = z at hcell
      clear hc
      cases hq : (x == z)
      · go_wp2
        go_roundw
        case rel =>
          refine ⟨k + 1, by omega, by go_num, fun j hj => ?_⟩
          by_cases e : j = k
          · subst e; rw [hz]; intro e; rw [e] at hq; simp at hq
          · exact hN.out j (by omega)
        case measure => simp [intOf]; omega
      · go_wp2
        go_ret
        have := Lib.idxOf_hit zs zs.length k x hlt (Nat.le_refl _) (by rw [hz]; exact (beq_iff_eq.1 hq).symm) hN.out
        rw [List.take_length] at this
        exact ⟨by rw [this]; rfl, rfl⟩
    · have hke : k = zs.length := by omega
      subst hke
      go_wp2
      go_ret
      have := Lib.idxOf_miss zs zs.length x hN.out
      rw [List.take_length] at this
      exact ⟨by rw [this]; rfl, rfl⟩

theorem so_Contains (v : Value) (zs : List Int) (x : Int) (w : World) (h : FS w v zs) (hbig : zs.length ≤ 9223372036854775807) :
    Calls Tryd.prog 45 #[v, .int .u16 x] w fun e w' => e = .returned (.bool (zs.contains x)) ∧ w' = w := by
  have hb : zs.contains x = decide (0 ≤ Lib.idxOf zs x) := by
    rw [Bool.eq_iff_iff, decide_eq_true_eq, Lib.idxOf_nonneg_iff]
  have hbb := Lib.hid hb
  clear hb
  have hF := Lib.hid h
  obtain ⟨p, c, rfl, hcap, -⟩ := h
  go_enter Tryd.func45, Tryd.ntmps45
  go_wp2_with (go_at_call 59; refine (so_Index _ zs x _ hF.out hbig).mono ?_; rintro e w' ⟨rfl, rfl⟩)
  go_ret
  exact ⟨by rw [hbb.out]; rfl, rfl⟩

theorem so_Has (v : Value) (zs : List Int) (x : Int) (w : World) (h : FS w v zs) (hbig : zs.length ≤ 9223372036854775807) :
    Calls Tryd.prog 27 #[v, .int .u16 x] w fun e w' => e = .returned (.bool (zs.contains x)) ∧ w' = w := by
  have hF := Lib.hid h
  obtain ⟨q, hq⟩ : ∃ q, zs.contains x = q := ⟨_, rfl⟩
  have HQ := Lib.hid hq
  rw [hq]
  clear hq
  obtain ⟨p, c, rfl, hcap, -⟩ := h
  go_enter Tryd.func27, Tryd.ntmps27
  go_wp2_with (go_at_call 45; refine (so_Contains _ zs x _ hF.out hbig).mono ?_; rw [HQ.out]; rintro e w' ⟨rfl, rfl⟩)
  go_ret
  exact ⟨rfl, rfl⟩
end Go.Proofs.YtgcnfebifopdnaaDoor
