/-
  FlagsOnes and FlagsReads walked.
-/
import Derived.Test.YtgcnfebifopdnaaDoorRows
import Derived.Test.YtgcnfebifopdnaaDoorFR13
import Derived.Test.YtgcnfebifopdnaaDoorFR12
import Derived.Test.YtgcnfebifopdnaaDoorGC
namespace Go.Proofs.YtgcnfebifopdnaaDoor
open Go.RowKit

/-- The two lists are the same. -/
theorem so_is_same (v u : Value) (zs : List Int) (w : World) (h : FS w v zs) (hu : IS w u zs) (hbd : ∀ x ∈ zs, 0 ≤ x ∧ x ≤ 65535) (hbig : zs.length ≤ 9223372036854775807) :
    Calls Tryd.prog 14 #[v, u] w fun e w' => e = .returned (.bool true) ∧ Below w.heap.size w w' :=
  (so_is v u zs zs w h hu hbd hbig hbig).mono (fun e w' ⟨he, n, hw⟩ => ⟨by rw [he]; simp, by rw [hw]; exact below_draws (Below.refl _ _) n⟩)

theorem so_same_same (v u : Value) (zs : List Int) (w : World) (h : FS w v zs) (hu : FS w u zs) (hbig : zs.length ≤ 9223372036854775807) :
    Calls Tryd.prog 26 #[v, u] w fun e w' => e = .returned (.bool true) ∧ Below w.heap.size w w' :=
  (so_same v u zs zs w h hu hbig hbig).mono (fun e w' ⟨he, n, hw⟩ => ⟨by rw [he]; simp, by rw [hw]; exact below_draws (Below.refl _ _) n⟩)

theorem up_bd {zs : List Int} (h : ∀ x ∈ zs, 0 ≤ x ∧ x ≤ 65535) : ∀ x ∈ zs, 0 ≤ x ∧ x ≤ 4611686018427387904 := fun x hx => ⟨(h x hx).1, by have := (h x hx).2; omega⟩
theorem canon_bd {zs : List Int} (h : ∀ x ∈ zs, 0 ≤ x ∧ x ≤ 65535) : ∀ x ∈ canon zs, 0 ≤ x ∧ x ≤ 65535 := fun x hx => h x ((mem_canon _ _).1 hx)
theorem app_bd {zs ts : List Int} (h : ∀ x ∈ zs, 0 ≤ x ∧ x ≤ 65535) (h2 : ∀ x ∈ ts, 0 ≤ x ∧ x ≤ 65535) : ∀ x ∈ zs ++ ts, 0 ≤ x ∧ x ≤ 65535 := fun x hx => (List.mem_append.1 hx).elim (h x) (h2 x)
theorem outs_bd {zs : List Int} (ts : List Int) (h : ∀ x ∈ zs, 0 ≤ x ∧ x ≤ 65535) : ∀ x ∈ outs ts zs, 0 ≤ x ∧ x ≤ 65535 := fun x hx => h x ((mem_outs _ _ _).1 hx).1

set_option maxHeartbeats 1000000 in
set_option maxRecDepth 100000 in
theorem ones_walk (kind : Int) (s : ByteArray) (W : World) (hs : s.size ≤ maxLen) (hsh : W.ShapedOpen Tryd.prog) :
    Calls Tryd.prog 4 #[.int .i64 kind, .string s] W fun e w' => e = .returned (.bool true) ∧ Below W.heap.size W w' := by
  obtain ⟨m, hm⟩ := maxLen_of W hsh
  obtain ⟨b0, b1⟩ := oneF_bd kind s.data.toList
  obtain ⟨x, hx⟩ : ∃ x, (oneF kind s.data.toList).1 = x := ⟨_, rfl⟩
  obtain ⟨y, hy⟩ : ∃ y, (oneF kind s.data.toList).2 = y := ⟨_, rfl⟩
  rw [hx] at b0 b1
  have HX := Lib.hid hx
  have HY := Lib.hid hy
  clear hx hy hsh
  go_enter Tryd.func4, Tryd.ntmps4
  go_wp2_with (first
    | (go_at_call 15; refine (so_One kind s _ hs).mono ?_; rw [HX.out, HY.out]; rintro e w1 ⟨rfl, n, hw1⟩; have B1 := Lib.hid (show Below W.heap.size W w1 by rw [hw1]; exact below_drewN (Below.refl _ _) n); clear hw1)
    | (go_at_call 16; refine (so_rOne kind s _ hs).mono ?_; rw [HX.out, HY.out]; rintro e w2 ⟨rfl, n2, hw2⟩; have B2 := Lib.hid (show Below W.heap.size W w2 by rw [hw2]; exact below_drewN B1.out n2); clear hw2)
    | (go_at_call 13; refine (so_wakes m _ ((B2.out.cell (World.block_lt_of_cell? W _ hm)).trans hm)).mono ?_; rintro e w3 ⟨rfl, b3⟩; have B3 := Lib.hid (B2.out.trans (b3.mono B2.out.size)); clear b3))
  go_ret
  exact ⟨rfl, B3.out⟩

set_option maxHeartbeats 1000000 in
set_option maxRecDepth 100000 in
theorem reads_walk (kind : Int) (s : ByteArray) (W : World) (hs : s.size ≤ 4194304) (hsh : W.ShapedOpen Tryd.prog) :
    Calls Tryd.prog 3 #[.int .i64 kind, .string s] W fun e w' => e = .returned (.bool true) ∧ Below W.heap.size W w' := by
  obtain ⟨m, hm⟩ := maxLen_of W hsh
  have hbd := readF_bd kind s.data.toList
  have hln := readF_len kind s.data.toList
  obtain ⟨zs, hzs⟩ : ∃ zs, (readF kind s.data.toList).1 = zs := ⟨_, rfl⟩
  obtain ⟨y, hy⟩ : ∃ y, (readF kind s.data.toList).2 = y := ⟨_, rfl⟩
  rw [hzs] at hbd hln
  have HZ := Lib.hid hzs
  have HY := Lib.hid hy
  have HBD := Lib.hid hbd
  clear hsh hzs hy hbd
  go_enter Tryd.func3, Tryd.ntmps3
  go_wp2_with (first
    | (go_at_call 11; refine (so_Read kind s m _ hs hm).mono ?_; rw [HZ.out, HY.out]; rintro e w1 ⟨v1, rfl, h1, b1⟩; have H1 := Lib.hid h1.fs; have B1 := Lib.hid b1; clear h1 b1)
    | (go_at_call 12; refine (so_rRead kind s _ hs).mono ?_; rw [HZ.out, HY.out]; rintro e w2 ⟨v2, rfl, h2, b2⟩; have K1 := Lib.hid (H1.out.keep b2); have H2 := Lib.hid h2; have B2 := Lib.hid (B1.out.trans (b2.mono B1.out.size)); clear h2 b2)
    | (go_at_call 13; refine (so_wakes m _ ((B2.out.cell (World.block_lt_of_cell? W _ hm)).trans hm)).mono ?_; rintro e w3 ⟨rfl, b3⟩; have B3 := Lib.hid (B2.out.trans (b3.mono B2.out.size)); have J1 := Lib.hid (K1.out.keep b3); have J2 := Lib.hid (H2.out.keep b3); clear b3)
    | (go_at_call 14; refine (so_is_same _ _ zs _ J1.out J2.out HBD.out (by omega)).mono ?_; rintro e w4 ⟨rfl, b4⟩; have B4 := Lib.hid (B3.out.trans (b4.mono B3.out.size)); clear b4))
  go_ret
  exact ⟨rfl, B4.out⟩
end Go.Proofs.YtgcnfebifopdnaaDoor
