/-
  ReportKnown walked.
-/
import Derived.Test.YthfndmpigpphoaaGreatRows
import Derived.Test.YthfndmpigpphoaaGreatJb10
import Derived.Test.YthfndmpigpphoaaGreatTok6
import Derived.Test.YthfndmpigpphoaaGreatOpen2
import Derived.Shelf.Vars
namespace Go.Proofs.YthfndmpigpphoaaGreat
open Go.RowKit Go.Shelf

set_option maxHeartbeats 2000000 in
set_option maxRecDepth 100000 in
theorem known_walk (s : ByteArray) (v : Value) (xs : List ByteArray) (m : Int) (W : World) (h : Rd W 1 v xs.length (strV xs)) (hs : s.size ≤ 140737488355327) (hx : ∀ x ∈ xs, x.size ≤ 140737488355328) (hl : xs.length ≤ 9223372036854775807)
    (h0 : 0 < W.heap.size) (hm : W.cell? ⟨0, 0, none⟩ = some (.int .i64 m)) :
    Calls Tryz.prog 3 #[.string s, v] W fun e w' => e = .returned (.bool true) ∧ Below W.heap.size W w' := by
  obtain ⟨-, Ad, cap, rfl, -, ha⟩ := h
  have HX := Lib.hid (show ∀ k (h : k < xs.length), ∃ g o, Ad = some ⟨g, o, none⟩ ∧ W.cell? ⟨g, o + k, none⟩ = some (.string xs[k]) from fun k h => by
    obtain ⟨g, o, hA, hc⟩ := ha.resolve_left (by omega)
    exact ⟨g, o, hA, hc k _ (strV_get xs k h)⟩)
  have HXS := Lib.hid hx
  have hLd := fun w => so_LoadL s w (by omega)
  have hDc := fun w => rDecode_b s w hs
  have HW26 := Lib.hid (wakes26_any m W h0 hm)
  clear ha hx h0 hm
  cases hr : decR s with
  | error code =>
    rw [hr] at hLd hDc
    have hcne : code ≠ 0 := decR_err hr
    have q1 : ((code : Int) != 0) = true := by rw [bne_iff_ne]; omega
    have q2 : ((code : Int) == 0) = false := by rw [beq_eq_false_iff_ne]; omega
    have HLd := Lib.hid hLd
    have HDc := Lib.hid hDc
    clear hLd hDc hr
    go_enter Tryz.func3, Tryz.ntmps3
    go_wp2_with fail
    refine HW26.out.mono ?_
    rintro e w1 ⟨rfl, b1⟩
    have B1 := Lib.hid b1
    clear b1
    go_wp2_with fail
    refine (HLd.out _).mono ?_
    rintro e w2 ⟨c, err, rfl, b2, rfl⟩
    have B2 := Lib.hid (B1.out.trans (b2.mono B1.out.size))
    clear b2
    go_wp2_with fail
    refine (HDc.out _).mono ?_
    rintro e w3 ⟨vr, v0, v1, v2, v3, rfl, b3, hk3⟩
    have B3 := Lib.hid (B2.out.trans (b3.mono B2.out.size))
    obtain ⟨X, k, X0, n0, k0, X1, n1, k1, X2, n2, k2, X3, n3, k3, rfl, rfl, rfl, rfl, rfl⟩ := hk3.form
    clear b3 hk3
    dsimp only [decB]
    go_wp2_with fail
    go_loopw [30] (fun i wr => ∃ j : Nat, j ≤ xs.length ∧ i = .int .i64 j ∧ Hid (Below W.heap.size W wr)) (fun i _ => xs.length - (intOf i).toNat)
    case atStart => exact ⟨0, Nat.zero_le _, rfl, Lib.hid (B3.out.alloc B3.out.size _)⟩
    case round =>
      obtain ⟨j, hj, rfl, HB⟩ := hrel
      by_cases hlt : j < xs.length
      · obtain ⟨g, o, rfl, hc⟩ := HX.out j hlt
        have ck := (HB.out.cell (World.block_lt_of_cell? W _ hc)).trans hc
        have hsz := HXS.out xs[j] (List.getElem_mem hlt)
        obtain ⟨x, hxx⟩ : ∃ x, xs[j] = x := ⟨_, rfl⟩
        rw [hxx] at ck hsz
        clear hc hxx
        go_wp2_with fail
        refine (so_Known_nil x _ hsz).mono ?_
        rintro e w4 ⟨rfl, b4⟩
        have B4 := Lib.hid (HB.out.trans (b4.mono HB.out.size))
        clear b4
        go_wp2_with fail
        refine ⟨⟨_, _, _, _, _, _, _, _, _, _, _, _, _, _, _, _, _, _, ⟨j + 1, by omega, rfl, B4⟩, rfl⟩, ?_⟩
        simp [intOf]; omega
      · obtain rfl : j = xs.length := by omega
        go_wp2_with fail
        go_ret
        exact ⟨rfl, HB.out⟩
  | ok b =>
    rw [hr] at hLd hDc
    obtain ⟨-, -, hbl, hbd⟩ := decR_bounds hr
    have HBL := Lib.hid hbl
    have HSH := Lib.hid (show ∀ A ∈ b.secs, shapeB A = true from fun A hA => (hbd A hA).1)
    have HLd := Lib.hid hLd
    have HDc := Lib.hid hDc
    clear hLd hDc hr hbl hbd
    go_enter Tryz.func3, Tryz.ntmps3
    go_wp2_with fail
    refine HW26.out.mono ?_
    rintro e w1 ⟨rfl, b1⟩
    have B1 := Lib.hid b1
    clear b1
    go_wp2_with fail
    refine (HLd.out _).mono ?_
    rintro e w2 ⟨c, err, rfl, b2, hck⟩
    have B2 := Lib.hid (B1.out.trans (b2.mono B1.out.size))
    have CK2 := Lib.hid (show CkL w2 c (b.least : Int) b.reps b.secs from hck)
    obtain ⟨cb, hcb⟩ : ∃ cb, c = .pointer (some ⟨cb, 0, none⟩) := by
      obtain ⟨cb, _, _, _, _, _, _, _, hc, _⟩ := CK2.out
      exact ⟨cb, hc⟩
    subst hcb
    clear b2 hck
    go_wp2_with fail
    refine (HDc.out _).mono ?_
    rintro e w3 ⟨vr, v0, v1, v2, v3, rfl, b3, hk3⟩
    have B3 := Lib.hid (B2.out.trans (b3.mono B2.out.size))
    have CK3 := Lib.hid (CK2.out.keep b3)
    have BK3 := Lib.hid (show BkAt w3 (fun _ => True) vr v0 v1 v2 v3 b.reps b.secs from hk3)
    obtain ⟨X, k, X0, n0, k0, X1, n1, k1, X2, n2, k2, X3, n3, k3, rfl, rfl, rfl, rfl, rfl⟩ := hk3.form
    clear b3 hk3
    dsimp only [decB]
    have hbn := heap_alloc_new w3 (.cells #[.int .i64 (b.least : Int), .string b.tryT, .slice X b.reps.length k, .slice X0 n0 k0, .slice X1 n1 k1, .slice X2 n2 k2, .slice X3 n3 k3] 33)
    have ba : Below w3.heap.size w3 (w3.alloc (.cells #[.int .i64 (b.least : Int), .string b.tryT, .slice X b.reps.length k, .slice X0 n0 k0, .slice X1 n1 k1, .slice X2 n2 k2, .slice X3 n3 k3] 33)) := below_alloc _ _
    obtain ⟨W4, hW4⟩ : ∃ W4, w3.alloc (.cells #[.int .i64 (b.least : Int), .string b.tryT, .slice X b.reps.length k, .slice X0 n0 k0, .slice X1 n1 k1, .slice X2 n2 k2, .slice X3 n3 k3] 33) = W4 := ⟨_, rfl⟩
    rw [hW4] at hbn ba
    have CK4 := Lib.hid (CK3.out.keep ba)
    have BK4 := Lib.hid (BK3.out.keep ba)
    have B4 := Lib.hid (B3.out.trans (ba.mono B3.out.size))
    have HBN := Lib.hid hbn
    have HW4 := Lib.hid hW4
    clear hW4 hbn ba
    go_wp2_with fail
    rw [HW4.out]
    go_loopw [30] (fun i wr => ∃ j : Nat, j ≤ xs.length ∧ i = .int .i64 j ∧ Hid (Below W4.heap.size W4 wr)) (fun i _ => xs.length - (intOf i).toNat)
    case atStart => exact ⟨0, Nat.zero_le _, rfl, Below.refl _ _⟩
    case round =>
      obtain ⟨j, hj, rfl, HB⟩ := hrel
      have HBW := Lib.hid (B4.out.trans (HB.out.mono B4.out.size))
      by_cases hlt : j < xs.length
      · obtain ⟨g, o, rfl, hc⟩ := HX.out j hlt
        have ck := (HBW.out.cell (World.block_lt_of_cell? W _ hc)).trans hc
        have hsz := HXS.out xs[j] (List.getElem_mem hlt)
        obtain ⟨x, hxx⟩ : ∃ x, xs[j] = x := ⟨_, rfl⟩
        rw [hxx] at ck hsz
        clear hc hxx
        obtain ⟨r, hrr⟩ : ∃ r, knownB b.secs (b.least : Int) x = r := ⟨_, rfl⟩
        have HRR := Lib.hid hrr
        clear hrr
        go_wp2_with fail
        refine (so_Known _ _ _ _ x _ (CK4.out.keep HB.out) HBL.out hsz).mono ?_
        rw [HRR.out]
        rintro e w5 ⟨rfl, b5⟩
        have HB5 := Lib.hid (HB.out.trans (b5.mono HB.out.size))
        have hw5 : w5.heap[w3.heap.size]? = _ := (HB5.out.block _ (block_lt HBN.out)).trans HBN.out
        obtain ⟨e0, e1, e2, e3, e4, e5, e6⟩ := cells_seven hw5
        clear b5 hw5
        go_wp2_with fail
        refine (so_rKnown _ _ b.reps b.secs _ _ _ _ _ _ _ _ _ _ _ _ _ _ _ x _ (BK4.out.keep HB5.out) HBL.out HSH.out hsz).mono ?_
        rw [HRR.out]
        rintro e w6 ⟨rfl, b6⟩
        have HB6 := Lib.hid (HB5.out.trans (b6.mono HB5.out.size))
        clear b6
        cases r
        all_goals
          go_wp2_with fail
          refine ⟨⟨_, _, _, _, _, _, _, _, _, _, _, _, _, _, _, _, _, _, ⟨j + 1, by omega, rfl, HB6⟩, rfl⟩, ?_⟩
          simp [intOf]; omega
      · obtain rfl : j = xs.length := by omega
        go_wp2_with fail
        go_ret
        exact ⟨rfl, HBW.out⟩
end Go.Proofs.YthfndmpigpphoaaGreat

namespace Go.Proofs.YthfndmpigpphoaaGreat
open Go.ChangeShapes Go.WideShapes Go.ChangeAt Go.RowKit

theorem strs_len {H : Type} {enc : TypeId × Value → H} {W : World} {v : Value} {d : DataW H} {p : List MemPlace} {n : Nat} {xs : List Value} (h : DataW.Trod enc Tryz.prog W 0 (fun _ => true) true 22 v d p) (hr : Rd W 1 v n xs) : n ≤ 9223372036854775807 := by
  obtain ⟨_, A, cap, rfl, hc, _⟩ := hr
  obtain ⟨fuel, hf⟩ := h
  rcases open_strings Tryz.underlying22 Tryz.underlying9 cells_str hf with ⟨hcs, hx⟩ | ⟨a, len', cap', ss, hcs, _, hl, hm, _⟩
  · simp only [Value.cells, List.cons.injEq, and_true, Value.slice.injEq] at hcs
    omega
  · simp only [Value.cells, List.cons.injEq, and_true, Value.slice.injEq] at hcs
    obtain ⟨rfl, rfl, rfl⟩ := hcs
    unfold maxLen at hm
    omega
/-- The library's own variable, in whatever world of the right shape. -/
theorem maxLen_of (W : World) (h : W.ShapedOpen Tryz.prog) : ∃ m, W.cell? ⟨0, 0, none⟩ = some (.int .i64 m) :=
  Go.Proofs.cell_of_shapedOpen_int (zero := #[.int .i64 0]) h (by decide +kernel) (by kernel_rfl) rfl (by kernel_rfl) (by kernel_rfl) Tryz.underlying3
theorem known_sh (s : ByteArray) (v : Value) (xs : List ByteArray) (W : World) (h : Rd W 1 v xs.length (strV xs)) (hs : s.size ≤ 140737488355327) (hx : ∀ x ∈ xs, x.size ≤ 140737488355328) (hl : xs.length ≤ 9223372036854775807) (hsh : W.ShapedOpen Tryz.prog) :
    Calls Tryz.prog 3 #[.string s, v] W fun e w' => e = .returned (.bool true) ∧ Below W.heap.size W w' := by
  obtain ⟨m, hm⟩ := maxLen_of W hsh
  have h0 := World.block_lt_of_cell? W _ hm
  exact known_walk s v xs m W h hs hx hl (Nat.lt_of_le_of_lt (Nat.zero_le _) h0) hm
end Go.Proofs.YthfndmpigpphoaaGreat
