/-
  The law's 'is'.
-/
import Derived.Test.YtgcnfebifopdnaaDoorRows
import Derived.Test.YtgcnfebifopdnaaDoorFR1
import Derived.Test.YtgcnfebifopdnaaDoorFA1
namespace Go.Proofs.YtgcnfebifopdnaaDoor
open Go.RowKit

set_option maxHeartbeats 2000000 in
set_option maxRecDepth 100000 in
theorem so_is (v u : Value) (xs ys : List Int) (w : World) (h : FS w v xs) (hu : IS w u ys) (hbd : ∀ x ∈ xs, 0 ≤ x ∧ x ≤ 65535) (hbig : xs.length ≤ 9223372036854775807) (hbig2 : ys.length ≤ 9223372036854775807) :
    Calls Tryd.prog 14 #[v, u] w fun e w' => e = .returned (.bool (decide (xs = ys))) ∧ ∃ n, w' = w.drewN n := by
  obtain ⟨p, c, rfl, hcap, hs⟩ := h
  obtain ⟨p2, c2, rfl, hcap2, hs2⟩ := hu
  have hA := Lib.hid hs
  have hB := Lib.hid hs2
  have hD := Lib.hid hbd
  clear hs hs2 hbd
  by_cases hn : xs.length = ys.length
  · have HN := Lib.hid hn
    rw [← hn]
    clear hn
    go_enter Tryd.func14, Tryd.ntmps14
    go_wp2_with fail
    go_loopw [5, 13] (fun _ i wr => ∃ k m : Nat, k ≤ xs.length ∧ i = .int .i64 k ∧ wr = w.drewN m ∧ Hid (xs.take k = ys.take k)) (fun _ i _ => xs.length - (intOf i).toNat)
    case atStart => exact ⟨0, 0, Nat.zero_le _, rfl, rfl, rfl⟩
    case round =>
      obtain ⟨k, m, hk, rfl, rfl, HR⟩ := hrel
      by_cases hlt : k < xs.length
      · have hlt2 : k < ys.length := by have := HN.out; omega
        obtain ⟨b, off, rfl, hc⟩ := hA.out.resolve_left (by omega)
        obtain ⟨b2, off2, rfl, hc2⟩ := hB.out.resolve_left (by omega)
        have c1 := hc k hlt
        have c2' := hc2 k hlt2
        clear hc hc2
        obtain ⟨z0, z1⟩ := hD.out (xs.getD k 0) (by simp [List.getD, hlt])
        generalize hx : xs.getD k 0 = x at c1 z0 z1
        generalize hy : ys.getD k 0 = y at c2'
        have HX := Lib.hid hx
        have HY := Lib.hid hy
        clear hx hy
        cases hq : (x == y)
        · have hfin := Lib.hid (show decide (xs = ys) = false by
            rw [decide_eq_false_iff_not]; rintro rfl
            rw [HX.out] at HY
            rw [HY.out] at hq; simp at hq)
          go_wp2_with fail
          go_quiet (fail)
          go_wp2_with fail
          go_ret
          exact ⟨by rw [hfin.out]; rfl, _, by rw [World.drewN_drewN]⟩
        · have he := Lib.hid (take_snoc_eq hlt hlt2 HR.out (by rw [HX.out, HY.out]; simpa using hq))
          go_wp2_with fail
          go_quiet (fail)
          go_wp2_with fail
          go_roundw
          case rel => exact ⟨k + 1, _, by omega, by go_num, rfl, he.out⟩
          case measure => simp [intOf]; omega
      · have hke : k = xs.length := by omega
        subst hke
        have hfin := Lib.hid (show decide (xs = ys) = true by
          have h1 := HR.out
          have h2 := HN.out
          rw [List.take_length, h2, List.take_length] at h1
          rw [h1]; simp)
        go_wp2_with fail
        go_ret
        exact ⟨by rw [hfin.out]; rfl, _, rfl⟩
  · have hfin := Lib.hid (show decide (xs = ys) = false by
      rw [decide_eq_false_iff_not]; rintro rfl; exact hn rfl)
    have hne : ((xs.length : Int) == (ys.length : Int)) = false := by
      rw [beq_eq_false_iff_ne]; omega
    go_enter Tryd.func14, Tryd.ntmps14
    go_wp2_with fail
    go_ret
    exact ⟨by rw [hfin.out]; rfl, 0, rfl⟩

end Go.Proofs.YtgcnfebifopdnaaDoor
