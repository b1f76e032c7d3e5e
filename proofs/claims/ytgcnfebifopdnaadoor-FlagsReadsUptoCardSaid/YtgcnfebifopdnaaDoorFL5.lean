/-
  IndexFunc over a set: the function is a set's Has.
-/
import Derived.Test.YtgcnfebifopdnaaDoorRows
import Derived.Test.YtgcnfebifopdnaaDoorFL1
namespace Go.Proofs.YtgcnfebifopdnaaDoor
open Go.RowKit

/-- The first place that is in ts. -/
def fstIn (ts zs : List Int) : Int := match zs.findIdx? (fun z => ts.contains z) with | some k => k | none => -1
theorem fstIn_hit (ts zs : List Int) (k : Nat) (hk : k < zs.length) (h : ts.contains (zs.getD k 0) = true) (hne : ∀ j, j < k → ts.contains (zs.getD j 0) = false) : fstIn ts zs = k := by
  have : zs.findIdx? (fun z => ts.contains z) = some k := by
    rw [List.findIdx?_eq_some_iff_getElem]
    refine ⟨hk, ?_, fun j hj => ?_⟩
    · have e : zs.getD k 0 = zs[k] := by simp [List.getD, hk]
      rw [← e]; exact h
    · have e : zs.getD j 0 = zs[j] := by simp [List.getD, show j < zs.length by omega]
      rw [← e, hne j hj]; simp
  unfold fstIn; rw [this]
theorem fstIn_miss (ts zs : List Int) (hne : ∀ j, j < zs.length → ts.contains (zs.getD j 0) = false) : fstIn ts zs = -1 := by
  have : zs.findIdx? (fun z => ts.contains z) = none := by
    rw [List.findIdx?_eq_none_iff]
    intro x hx
    obtain ⟨j, hj, rfl⟩ := List.getElem_of_mem hx
    have e : zs.getD j 0 = zs[j] := by simp [List.getD, hj]
    rw [← e]; exact hne j hj
  unfold fstIn; rw [this]
theorem fstIn_nonneg (ts zs : List Int) : decide (0 ≤ fstIn ts zs) = zs.any (fun z => ts.contains z) := by
  unfold fstIn
  cases h : zs.findIdx? (fun z => ts.contains z) with
  | none =>
    rw [List.findIdx?_eq_none_iff] at h
    have : zs.any (fun z => ts.contains z) = false := by rw [List.any_eq_false]; intro x hx; rw [h x hx]; simp
    rw [this]; decide
  | some k =>
    have h2 := (List.findIdx?_eq_some_iff_getElem.1 h)
    obtain ⟨hk, h3, _⟩ := h2
    have : zs.any (fun z => ts.contains z) = true := List.any_eq_true.2 ⟨zs[k], List.getElem_mem hk, h3⟩
    rw [this]; simp

set_option maxHeartbeats 1000000 in
theorem so_IndexFuncS (v u : Value) (zs ts : List Int) (w : World) (h : FS w v zs) (hu : FS w u ts) (hbig : zs.length ≤ 9223372036854775807) (hbig2 : ts.length ≤ 9223372036854775807) :
    Calls Tryd.prog 56 #[v, .func (.func 27) #[u] #[]] w fun e w' => e = .returned (.int .i64 (fstIn ts zs)) ∧ w' = w := by
  obtain ⟨p, c, rfl, hcap, hs⟩ := h
  have hS := Lib.hid hs
  have hU := Lib.hid hu
  clear hs hu
  go_enter Tryd.func56, Tryd.ntmps56
  go_wp2
  go_loop [5, 8] (fun _ i => ∃ k : Nat, k ≤ zs.length ∧ i = .int .i64 k ∧ ∀ j, j < k → ts.contains (zs.getD j 0) = false) (fun _ i => zs.length - (intOf i).toNat)
  case atStart => exact ⟨0, Nat.zero_le _, rfl, fun j hj => absurd hj (Nat.not_lt_zero _)⟩
  case round =>
    obtain ⟨k, hk, rfl, hne⟩ := hrel
    have hN := Lib.hid hne
    clear hne
    by_cases hlt : k < zs.length
    · obtain ⟨b, off, rfl, hc⟩ := hS.out.resolve_left (by omega)
      have hcell := hc k hlt
      generalize hz : zs.getD k 0 = z at hcell
      have HZ := Lib.hid hz
      clear hc hz
      cases hq : ts.contains z
      · have HQ := Lib.hid hq
        clear hq
        go_wp2_with (go_at_call 27; refine (so_Has _ ts z _ hU.out hbig2).mono ?_; rw [HQ.out]; rintro e w' ⟨rfl, rfl⟩)
        go_roundw
        case rel =>
          refine ⟨k + 1, by omega, by go_num, fun j hj => ?_⟩
          by_cases e : j = k
          · subst e; rw [HZ.out]; exact HQ.out
          · exact hN.out j (by omega)
        case measure => simp [intOf]; omega
      · have HQ := Lib.hid hq
        clear hq
        go_wp2_with (go_at_call 27; refine (so_Has _ ts z _ hU.out hbig2).mono ?_; rw [HQ.out]; rintro e w' ⟨rfl, rfl⟩)
        go_ret
        have := fstIn_hit ts zs k hlt (by rw [HZ.out]; exact HQ.out) hN.out
        exact ⟨by rw [this]; rfl, rfl⟩
    · have hke : k = zs.length := by omega
      subst hke
      go_wp2
      go_ret
      have := fstIn_miss ts zs hN.out
      exact ⟨by rw [this]; rfl, rfl⟩
end Go.Proofs.YtgcnfebifopdnaaDoor
