/-
  Two lists of texts compared.
-/
import Derived.Test.YtbhfkhfnljddhaaDoorRows
import Derived.Test.YtbhfkhfnljddhaaDoorBase3
import Derived.Test.YtbhfkhfnljddhaaDoorLines7
namespace Go.Proofs.YtbhfkhfnljddhaaDoor
open Go.RowKit

theorem take_eq_snoc {xs ys : List ByteArray} {k : Nat} (h1 : k < xs.length) (h2 : k < ys.length) (h : xs.take k = ys.take k) (he : xs[k] = ys[k]) : xs.take (k + 1) = ys.take (k + 1) := by
  rw [List.take_succ_eq_append_getElem h1, List.take_succ_eq_append_getElem h2, h, he]

set_option maxHeartbeats 1000000 in
theorem sameWords_any (v1 v2 : Value) (xs ys : List ByteArray) (w : World) (h1 : Rd w 1 v1 xs.length (strV xs)) (h2 : Rd w 1 v2 ys.length (strV ys)) (hl : xs.length ≤ 4611686018427387904) :
    Calls Tryd.prog 16 #[v1, v2] w fun e w' => e = .returned (.bool (decide (xs = ys))) ∧ ∃ n, w' = w.drewN n := by
  obtain ⟨_, A, ca, rfl, _, ha⟩ := h1
  obtain ⟨_, B, cb, rfl, _, hb⟩ := h2
  by_cases hne : xs.length = ys.length
  · have ht : ((xs.length : Int) != (ys.length : Int)) = false := by rw [hne]; simp
    by_cases h0 : xs.length = 0
    · have e1 : xs = [] := List.eq_nil_of_length_eq_zero h0
      have e2 : ys = [] := List.eq_nil_of_length_eq_zero (by omega)
      subst e1 e2
      clear ha hb
      go_enter Tryd.func16, Tryd.ntmps16
      go_wp2_with fail
      go_loopw [13] (fun i wr => i = .int .i64 0 ∧ wr = w) (fun i _ => 1)
      case atStart => exact ⟨rfl, rfl⟩
      case round =>
        obtain ⟨rfl, rfl⟩ := hrel
        go_wp2_with fail
        go_ret
        exact ⟨rfl, 0, rfl⟩
    · obtain ⟨ga, oa, rfl, hca⟩ := ha.resolve_left h0
      obtain ⟨gb, ob, rfl, hcb⟩ := hb.resolve_left (by omega)
      have HA : Hid (∀ k (h : k < xs.length), w.cell? ⟨ga, oa + k, none⟩ = some (.string xs[k])) := Lib.hid fun k h => hca k _ (strV_get xs k h)
      have HB : Hid (∀ k (h : k < ys.length), w.cell? ⟨gb, ob + k, none⟩ = some (.string ys[k])) := Lib.hid fun k h => hcb k _ (strV_get ys k h)
      have HN := Lib.hid hne
      clear ha hb hca hcb h0 hne
      go_enter Tryd.func16, Tryd.ntmps16
      go_wp2_with fail
      go_loopw [13] (fun i wr => ∃ k m : Nat, k ≤ xs.length ∧ i = .int .i64 k ∧ wr = w.drewN m ∧ xs.take k = ys.take k) (fun i _ => xs.length - (intOf i).toNat)
      case atStart => exact ⟨0, 0, Nat.zero_le _, rfl, rfl, rfl⟩
      case round =>
        obtain ⟨k, m, hk, rfl, rfl, hrem⟩ := hrel
        have HR := Lib.hid hrem
        clear hrem
        by_cases hlt : k < xs.length
        · have hlt2 : k < ys.length := by have := HN.out; omega
          have c1 := HA.out k hlt
          have c2 := HB.out k hlt2
          have q0 := Lib.hid (beq_str xs[k] ys[k])
          cases q : (xs[k].toList == ys[k].toList)
          · have hfin := Lib.hid (show decide (xs = ys) = false by
              rw [decide_eq_false_iff_not]; rintro rfl
              simp at q)
            go_wp2_with fail
            go_quiet (fail)
            go_wp2_with fail
            go_ret
            exact ⟨ret_bool (by rw [hfin.out]), _, by rw [World.drewN_drewN]⟩
          · have he := Lib.hid (take_eq_snoc hlt hlt2 HR.out (of_decide_eq_true (q0.out.symm.trans q)))
            go_wp2_with fail
            go_quiet (fail)
            go_wp2_with fail
            go_roundw
            case rel => exact ⟨k + 1, _, by omega, by go_num, rfl, he.out⟩
            case measure => simp [intOf]; omega
        · obtain rfl : k = xs.length := by omega
          have hfin := Lib.hid (show decide (xs = ys) = true by
            rw [decide_eq_true_iff]
            have := HR.out
            rw [List.take_length, HN.out, List.take_length] at this; exact this)
          go_wp2_with fail
          go_ret
          exact ⟨ret_bool (by rw [hfin.out]), m, rfl⟩
  · have ht : ((xs.length : Int) != (ys.length : Int)) = true := by rw [bne_iff_ne]; omega
    go_enter Tryd.func16, Tryd.ntmps16
    go_wp2_with fail
    go_ret
    exact ⟨ret_bool (by rw [eq_comm, decide_eq_false_iff_not]; rintro rfl; exact hne rfl), 0, rfl⟩
theorem sameWords_bel (v1 v2 : Value) (xs ys : List ByteArray) (w : World) (h1 : Rd w 1 v1 xs.length (strV xs)) (h2 : Rd w 1 v2 ys.length (strV ys)) (hl : xs.length ≤ 4611686018427387904) :
    Calls Tryd.prog 16 #[v1, v2] w fun e w' => e = .returned (.bool (decide (xs = ys))) ∧ Below w.heap.size w w' :=
  (sameWords_any v1 v2 xs ys w h1 h2 hl).mono fun e w' ⟨he, n, hw⟩ => ⟨he, by rw [hw]; exact below_drewN (Below.refl _ _) n⟩

set_option maxHeartbeats 1000000 in
theorem linesFielded_walk (s : ByteArray) (w : World) (hs : s.size ≤ 1048576) :
    Calls Tryd.prog 3 #[.string s] w fun e w' => e = .returned (.bool true) ∧ Below w.heap.size w w' := by
  have hfl := fields_len s
  go_enter Tryd.func3, Tryd.ntmps3
  go_wp2_with fail
  refine (wakes01_any _).mono ?_
  rintro e w1 ⟨rfl, hb1⟩
  have HB1 := Lib.hid hb1
  clear hb1
  go_wp2_with fail
  refine (Fields_any s _ (by omega)).mono ?_
  rintro e w2 ⟨v2, rfl, o2⟩
  have O2 := Lib.hid o2
  have HB2 := Lib.hid (HB1.out.trans (o2.below.mono HB1.out.size))
  clear o2
  go_wp2_with fail
  refine (Fields01_any s _ (by omega)).mono ?_
  rintro e w3 ⟨v3, rfl, o3⟩
  have O3 := Lib.hid o3
  have HB3 := Lib.hid (HB2.out.trans (o3.below.mono HB2.out.size))
  have R2 := Lib.hid ((Rd.of_own O2.out.own).keep o3.below)
  clear o3
  go_wp2_with fail
  refine (sameWords_bel v2 v3 (fieldsS s) (fieldsS s) _ R2.out (Rd.of_own O3.out.own) (by omega)).mono ?_
  rw [decide_eq_true rfl]
  rintro e w4 ⟨rfl, hb4⟩
  have HB4 := Lib.hid (HB3.out.trans (hb4.mono HB3.out.size))
  clear hb4
  go_wp2_with fail
  go_ret
  exact ⟨rfl, HB4.out⟩
end Go.Proofs.YtbhfkhfnljddhaaDoor
