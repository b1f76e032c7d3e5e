/-
  LinesRowed walked.
-/
import Derived.Test.YtbhfkhfnljddhaaDoorRows
import Derived.Test.YtbhfkhfnljddhaaDoorRows4
namespace Go.Proofs.YtbhfkhfnljddhaaDoor
open Go.RowKit

theorem rowOf_small (n : Int) (l : ByteArray) (h : l.size ≤ 65536) : ∀ r ∈ rowOf n l, r.2.length ≤ 65537 := by
  intro r hr
  unfold rowOf at hr
  split at hr
  · cases hr
  · rw [List.mem_singleton.1 hr]
    have h1 := fields_len l
    have h2 := (List.takeWhile_sublist (fun f => !sharp f) (l := fieldsS l)).length_le
    show (keptS (fieldsS l)).length ≤ 65537
    unfold keptS; omega
theorem rows_small (rs : List RowIn) (pre : List (Int × ByteArray)) (h : rowAbs rs = rowsOf pre) : ∀ r ∈ rs, r.2.2.length ≤ 65537 := by
  intro r hr
  have hm : (r.1, r.2.2) ∈ rowAbs rs := List.mem_map.2 ⟨r, hr, rfl⟩
  rw [h] at hm
  obtain ⟨x, _, hx⟩ := List.mem_flatMap.1 hm
  exact rowOf_small _ _ (clamp_le _) _ hx

set_option maxHeartbeats 2000000 in
theorem linesRowed_walk (s : ByteArray) (m : Int) (w : World) (h0 : 0 < w.heap.size) (hm : w.cell? ⟨0, 0, none⟩ = some (.int .i64 m)) :
    Calls Tryd.prog 11 #[.string s] w fun e w' => e = .returned (.bool true) ∧ Below w.heap.size w w' := by
  go_enter Tryd.func11, Tryd.ntmps11
  go_wp2_with fail
  refine (Rows_any s m _ h0 hm).mono ?_
  rintro e w2 ⟨v2, rs2, rfl, o2, r2, a2, b2⟩
  have O2 := Lib.hid o2
  have R2 := Lib.hid r2
  have A2 := Lib.hid a2
  have HB2 := Lib.hid b2
  have hrl : rs2.length ≤ 65536 := by
    have h1 : rs2.length = (rowsOf (eachOf s.data.toList)).length := by rw [← a2]; simp [rowAbs]
    have h2 := rowsOf_len (eachOf s.data.toList)
    have h3 := eachOf_len s.data.toList
    omega
  clear o2 r2 a2 b2
  go_wp2_with fail
  refine (Rows01_any s _).mono ?_
  rintro e w3 ⟨v3, rs3, rfl, o3, r3, a3⟩
  have O3 := Lib.hid (own_below O2.out o3.below)
  have R3 : Hid (rowsRead w3 rs2) := Lib.hid fun r hr => (R2.out r hr).keep o3.below
  have O4 := Lib.hid o3.own
  have R4 := Lib.hid r3
  have HEq : Hid (rowAbs rs2 = rowAbs rs3) := Lib.hid (by rw [A2.out, a3])
  have HB3 := Lib.hid (HB2.out.trans (o3.below.mono HB2.out.size))
  clear o3 r3 a3
  go_wp2_with fail
  refine (wakes01_any _).mono ?_
  rintro e w1 ⟨rfl, hb1⟩
  have HB1 := Lib.hid (HB3.out.trans (hb1.mono HB3.out.size))
  have O5 := Lib.hid (own_below O3.out hb1)
  have O6 := Lib.hid (own_below O4.out hb1)
  have R5 : Hid (rowsRead w1 rs2) := Lib.hid fun r hr => (R3.out r hr).keep hb1
  have R6 : Hid (rowsRead w1 rs3) := Lib.hid fun r hr => (R4.out r hr).keep hb1
  clear hb1
  go_wp2_with fail
  refine (sameRows_same v2 v3 _ _ rs2 rs3 _ O5.out O6.out R5.out R6.out HEq.out hrl (rows_small _ _ A2.out)).mono ?_
  rintro e w4 ⟨rfl, hb4⟩
  have HB4 := Lib.hid (HB1.out.trans (hb4.mono HB1.out.size))
  clear hb4
  go_wp2_with fail
  go_ret
  exact ⟨rfl, HB4.out⟩
theorem linesRowed_sh (s : ByteArray) (W : World) (h : W.ShapedOpen Tryd.prog) :
    Calls Tryd.prog 11 #[.string s] W fun e w' => e = .returned (.bool true) ∧ Below W.heap.size W w' := by
  obtain ⟨m, hm⟩ := maxLen_of W h
  exact linesRowed_walk s m W (World.block_lt_of_cell? W _ hm) hm
end Go.Proofs.YtbhfkhfnljddhaaDoor
