/-
  The lines of a text: both programs.
-/
import Derived.Test.YtbhfkhfnljddhaaDoorRows
import Derived.Test.YtbhfkhfnljddhaaDoorSplit2
import Derived.Test.YtbhfkhfnljddhaaDoorLines6
import Derived.Test.YtbhfkhfnljddhaaDoorLines8
namespace Go.Proofs.YtbhfkhfnljddhaaDoor
open Go.RowKit

def splitS (s : ByteArray) : List ByteArray := if 65536 < s.size then [] else (linesOf s.data.toList).map mkS
def codeS (s : ByteArray) : Int := if 65536 < s.size then 10 else 0
theorem lineV_numbered (n : Nat) (r : List (List UInt8)) : lineV (numbered n r) = strV (r.map mkS) := by
  induction r generalizing n with
  | nil => rfl
  | cons a r ih =>
    have := ih (n + 1)
    simp [lineV, strV, numbered] at this ⊢
    exact this
theorem lineV_each (s : ByteArray) : lineV (eachOf s.data.toList) = strV (splitS s) ∧ (eachOf s.data.toList).length = (splitS s).length := by
  unfold eachOf splitS
  rw [len_toList]
  split
  · exact ⟨rfl, rfl⟩
  · exact ⟨lineV_numbered _ _, by rw [numbered_len, List.length_map]⟩
theorem Split_own (s : ByteArray) (m : Int) (w : World) (h0 : 0 < w.heap.size) (hm : w.cell? ⟨0, 0, none⟩ = some (.int .i64 m)) :
    Calls Tryd.prog 26 #[.string s] w fun e W' => ∃ v, e = .returned (.tuple #[v, .int .i64 (codeS s)]) ∧ Own w W' 9 1 v (splitS s).length (strV (splitS s)) := by
  refine (Split_any s m w h0 hm).mono ?_
  rintro e W' ⟨v, rfl, ho, hb⟩
  obtain ⟨e1, e2⟩ := lineV_each s
  rw [e1, e2] at ho
  exact ⟨v, rfl, hb, ho⟩

set_option maxHeartbeats 1000000 in
theorem Split01_any (s : ByteArray) (w : World) :
    Calls Tryd.prog 24 #[.string s] w fun e W' => ∃ v, e = .returned (.tuple #[v, .int .i64 (codeS s)]) ∧ Own w W' 9 1 v (splitS s).length (strV (splitS s)) := by
  by_cases hbig : 65536 < s.size
  · have HE : Hid (splitS s = []) := Lib.hid (if_pos hbig)
    go_enter Tryd.func24, Tryd.ntmps24
    go_wp2_with fail
    go_ret2
    exact ⟨.slice none 0 0, by simp [codeS, hbig], by rw [HE.out]; exact Own.nil_ _ _ _⟩
  · have HE : Hid (splitS s = (linesOf s.data.toList).map mkS) := Lib.hid (if_neg hbig)
    go_enter Tryd.func24, Tryd.ntmps24
    go_wp2_with fail
    refine (Lines01_any s _ (by omega)).mono ?_
    rintro e w2 ⟨v2, rfl, o2⟩
    have O2 := Lib.hid o2
    clear o2
    go_wp2_with fail
    go_ret2
    exact ⟨v2, by simp [codeS, hbig], by rw [HE.out, List.length_map]; exact O2.out⟩

set_option maxHeartbeats 2000000 in
theorem linesSplits_walk (s : ByteArray) (m : Int) (w : World) (h0 : 0 < w.heap.size) (hm : w.cell? ⟨0, 0, none⟩ = some (.int .i64 m)) :
    Calls Tryd.prog 9 #[.string s] w fun e w' => e = .returned (.bool true) ∧ Below w.heap.size w w' := by
  have hlen : (splitS s).length ≤ 65536 := by rw [← (lineV_each s).2]; exact eachOf_len _
  go_enter Tryd.func9, Tryd.ntmps9
  go_wp2_with fail
  refine (Split_own s m _ h0 hm).mono ?_
  rintro e w2 ⟨v2, rfl, o2⟩
  have O2 := Lib.hid o2
  clear o2
  go_wp2_with fail
  refine (Split01_any s _).mono ?_
  rintro e w3 ⟨v3, rfl, o3⟩
  have O3 := Lib.hid o3
  have HB3 := Lib.hid (O2.out.below.trans (o3.below.mono O2.out.below.size))
  have R2 := Lib.hid ((Rd.of_own O2.out.own).keep o3.below)
  clear o3
  go_wp2_with fail
  refine (wakes01_any _).mono ?_
  rintro e w1 ⟨rfl, hb1⟩
  have HB1 := Lib.hid (HB3.out.trans (hb1.mono HB3.out.size))
  have R2' := Lib.hid (R2.out.keep hb1)
  have R3' := Lib.hid ((Rd.of_own O3.out.own).keep hb1)
  clear hb1
  go_wp2_with fail
  refine (sameWords_bel v2 v3 (splitS s) (splitS s) _ R2'.out R3'.out (by omega)).mono ?_
  rw [decide_eq_true rfl]
  rintro e w4 ⟨rfl, hb4⟩
  have HB4 := Lib.hid (HB1.out.trans (hb4.mono HB1.out.size))
  clear hb4
  go_wp2_with fail
  go_ret
  exact ⟨rfl, HB4.out⟩

/-- The one variable of the library that the search for a line's end reads. -/
theorem maxLen_of (W : World) (h : W.ShapedOpen Tryd.prog) : ∃ m, W.cell? ⟨0, 0, none⟩ = some (.int .i64 m) :=
  Go.Proofs.cell_of_shapedOpen_int (zero := #[.int .i64 0]) h (by decide +kernel) (by kernel_rfl) rfl (by kernel_rfl) (by kernel_rfl) Tryd.underlying3
theorem linesSplits_sh (s : ByteArray) (W : World) (h : W.ShapedOpen Tryd.prog) :
    Calls Tryd.prog 9 #[.string s] W fun e w' => e = .returned (.bool true) ∧ Below W.heap.size W w' := by
  obtain ⟨m, hm⟩ := maxLen_of W h
  exact linesSplits_walk s m W (World.block_lt_of_cell? W _ hm) hm
end Go.Proofs.YtbhfkhfnljddhaaDoor
