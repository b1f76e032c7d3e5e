/-
  slices.Equal over flags; a set's Equal and Count.
-/
import Derived.Test.YtgcnfebifopdnaaDoorRows
import Derived.Test.YtgcnfebifopdnaaDoorFL7
import Derived.Deep.QuietTactic
import Derived.BigQuiet
import Derived.Deep.RegionWith
namespace Go.Proofs.YtgcnfebifopdnaaDoor
open Go.RowKit

theorem take_snoc_eq {xs ys : List Int} {k : Nat} (h1 : k < xs.length) (h2 : k < ys.length) (h : xs.take k = ys.take k) (e : xs.getD k 0 = ys.getD k 0) : xs.take (k + 1) = ys.take (k + 1) := by
  rw [List.take_add_one, List.take_add_one, h, List.getElem?_eq_getElem h1, List.getElem?_eq_getElem h2]
  simp only [List.getD, List.getElem?_eq_getElem h1, List.getElem?_eq_getElem h2, Option.getD_some] at e
  rw [e]

set_option maxHeartbeats 2000000 in
set_option maxRecDepth 100000 in
theorem so_Equal (v u : Value) (xs ys : List Int) (w : World) (h : FS w v xs) (hu : FS w u ys) (hbig : xs.length ≤ 9223372036854775807) (hbig2 : ys.length ≤ 9223372036854775807) :
    Calls Tryd.prog 46 #[v, u] w fun e w' => e = .returned (.bool (decide (xs = ys))) ∧ ∃ n, w' = w.drewN n := by
  obtain ⟨p, c, rfl, hcap, hs⟩ := h
  obtain ⟨p2, c2, rfl, hcap2, hs2⟩ := hu
  have hA := Lib.hid hs
  have hB := Lib.hid hs2
  clear hs hs2
  by_cases hn : xs.length = ys.length
  · have HN := Lib.hid hn
    rw [← hn]
    clear hn
    go_enter Tryd.func46, Tryd.ntmps46
    go_wp2_with fail
    go_loopw [5, 13] (fun _ i wr => ∃ k m : Nat, k ≤ xs.length ∧ i = .int .i64 k ∧ wr = w.drewN m ∧ Hid (xs.take k = ys.take k)) (fun _ i _ => xs.length - (intOf i).toNat)
    case atStart => exact ⟨0, 0, Nat.zero_le _, rfl, rfl, rfl⟩
    case round =>
      obtain ⟨k, m, hk, rfl, rfl, HR⟩ := hrel
      by_cases hlt : k < xs.length
      · have hlt2 : k < ys.length := by have := HN.out; omega
        obtain ⟨b, off, rfl, hc⟩ := hA.out.resolve_left (by omega)
        obtain ⟨b2, off2, rfl, hc2⟩ := hB.out.resolve_left (by omega)
        have c1 := hc k hlt
        have c2' := hc2 k hlt2
        clear hc hc2
        generalize hx : xs.getD k 0 = x at c1
        generalize hy : ys.getD k 0 = y at c2'
        have HX := Lib.hid hx
        have HY := Lib.hid hy
        clear hx hy
        cases hq : (x == y)
        · have hfin := Lib.hid (show decide (xs = ys) = false by
            rw [decide_eq_false_iff_not]; rintro rfl
            rw [HX.out] at HY
            rw [HY.out] at hq; simp at hq)
          go_wp2_with fail
          go_quiet (fail)
          go_wp2_with fail
          go_ret
          exact ⟨by rw [hfin.out]; rfl, _, by rw [World.drewN_drewN]⟩
        · have he := Lib.hid (take_snoc_eq hlt hlt2 HR.out (by rw [HX.out, HY.out]; simpa using hq))
          go_wp2_with fail
          go_quiet (fail)
          go_wp2_with fail
          go_roundw
          case rel => exact ⟨k + 1, _, by omega, by go_num, rfl, he.out⟩
          case measure => simp [intOf]; omega
      · have hke : k = xs.length := by omega
        subst hke
        have hfin := Lib.hid (show decide (xs = ys) = true by
          have h1 := HR.out
          have h2 := HN.out
          rw [List.take_length, h2, List.take_length] at h1
          rw [h1]; simp)
        go_wp2_with fail
        go_ret
        exact ⟨by rw [hfin.out]; rfl, _, rfl⟩
  · have hfin := Lib.hid (show decide (xs = ys) = false by
      rw [decide_eq_false_iff_not]; rintro rfl; exact hn rfl)
    have hne : ((xs.length : Int) == (ys.length : Int)) = false := by
      rw [beq_eq_false_iff_ne]; omega
    go_enter Tryd.func46, Tryd.ntmps46
    go_wp2_with fail
    go_ret
    exact ⟨by rw [hfin.out]; rfl, 0, rfl⟩

theorem below_draws {B : Nat} {a w : World} (h : Below B a w) (n : Nat) : Below B a (w.drewN n) := ⟨h.os, h.tape, h.output, h.size, h.block⟩

set_option maxHeartbeats 1000000 in
theorem so_SetEqual (v u : Value) (xs ys : List Int) (w : World) (h : FS w v xs) (hu : FS w u ys) (hbig : xs.length * 2 ≤ 281474976710656) (hbig2 : ys.length * 2 ≤ 281474976710656) :
    Calls Tryd.prog 30 #[v, u] w fun e w' => e = .returned (.bool (decide (canon xs = canon ys))) ∧ Below w.heap.size w w' := by
  have hF := Lib.hid h
  have hU := Lib.hid hu
  clear h hu
  generalize hr : decide (canon xs = canon ys) = r
  have HR := Lib.hid hr
  clear hr
  have l1 := Lib.hid (Nat.le_trans (canon_le xs) (show xs.length ≤ 9223372036854775807 by omega))
  have l2 := Lib.hid (Nat.le_trans (canon_le ys) (show ys.length ≤ 9223372036854775807 by omega))
  go_enter Tryd.func30, Tryd.ntmps30
  go_wp2_with (go_at_call_of 25 v; refine (so_Of _ xs _ hF.out hbig).mono ?_; rintro e w1 ⟨v1, rfl, h1, b1⟩)
  have H1 := Lib.hid h1.fs
  have B1 := Lib.hid b1
  have hs1 := b1.size
  clear h1 b1
  go_wp2_with (go_at_call_of 25 u; refine (so_Of _ ys _ (hU.out.keep B1.out) hbig2).mono ?_; rintro e w2 ⟨v2, rfl, h2, b2⟩)
  have H2 := Lib.hid h2.fs
  have K1 := Lib.hid (H1.out.keep b2)
  have B2 := Lib.hid (B1.out.trans (b2.mono hs1))
  clear h2 b2
  go_wp2_with (go_at_call 46; refine (so_Equal _ _ _ _ _ K1.out H2.out l1.out l2.out).mono ?_; rw [HR.out]; rintro e w3 ⟨rfl, hw⟩; have B3 := Lib.hid (show Below w.heap.size w w3 by obtain ⟨n, rfl⟩ := hw; exact below_draws B2.out n); clear hw)
  go_wp2
  go_ret
  exact ⟨rfl, B3.out⟩

set_option maxHeartbeats 1000000 in
theorem so_Count (v : Value) (xs : List Int) (w : World) (h : FS w v xs) (hbig : xs.length * 2 ≤ 281474976710656) :
    Calls Tryd.prog 29 #[v] w fun e w' => e = .returned (.int .i64 ((canon xs).length : Nat)) ∧ Below w.heap.size w w' := by
  have hF := Lib.hid h
  clear h
  go_enter Tryd.func29, Tryd.ntmps29
  go_wp2_with (go_at_call 25; refine (so_Of _ xs _ hF.out hbig).mono ?_; rintro e w1 ⟨v1, rfl, ⟨p1, c1, rfl, -⟩, b1⟩; have B1 := Lib.hid b1; clear b1)
  go_ret
  exact ⟨rfl, B1.out⟩
end Go.Proofs.YtgcnfebifopdnaaDoor
