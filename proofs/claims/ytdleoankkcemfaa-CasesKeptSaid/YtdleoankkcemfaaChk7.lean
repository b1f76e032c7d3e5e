/-
  CasesChecks walked.
-/
import Derived.Test.YtdleoankkcemfaaRows
import Derived.Test.YtdleoankkcemfaaChk6
namespace Go.Proofs.Ytdleoankkcemfaa
open Go.RowKit

theorem cells7 {w : World} {b e : Nat} {a0 a1 a2 a3 a4 a5 a6 : Value} (h : w.heap[b]? = some (.cells #[a0, a1, a2, a3, a4, a5, a6] e (0, 0))) :
    w.cell? ⟨b, 0, none⟩ = some a0 ∧ w.cell? ⟨b, 1, none⟩ = some a1 ∧ w.cell? ⟨b, 2, none⟩ = some a2 ∧ w.cell? ⟨b, 3, none⟩ = some a3 ∧ w.cell? ⟨b, 4, none⟩ = some a4 ∧ w.cell? ⟨b, 5, none⟩ = some a5 ∧ w.cell? ⟨b, 6, none⟩ = some a6 := by
  refine ⟨?_, ?_, ?_, ?_, ?_, ?_, ?_⟩ <;> · rw [Lib.cell_of_heap h]; rfl

set_option maxHeartbeats 1000000 in
set_option maxRecDepth 100000 in
theorem checks_walk (s : ByteArray) (v : Value) (xs : List ByteArray) (W : World) (h : Rd W 1 v xs.length (strV xs)) (hs : s.size ≤ 140737488355327) (hx : ∀ x ∈ xs, x.size ≤ 140737488355328) (hl : xs.length ≤ 9223372036854775807) :
    Calls Try.prog 10 #[.string s, v] W fun e w' => e = .returned (.bool true) ∧ Below W.heap.size W w' := by
  obtain ⟨-, Ad, cap, rfl, -, ha⟩ := h
  have HX := Lib.hid (show ∀ k (h : k < xs.length), ∃ g o, Ad = some ⟨g, o, none⟩ ∧ W.cell? ⟨g, o + k, none⟩ = some (.string xs[k]) from fun k h => by
    obtain ⟨g, o, hA, hc⟩ := ha.resolve_left (by omega)
    exact ⟨g, o, hA, hc k _ (strV_get xs k h)⟩)
  have HXS := Lib.hid hx
  have hLd := fun w => so_Load s w (by omega)
  have hDc := fun w => rDecode_b s w hs
  clear ha hx
  cases hr : decR s with
  | error code =>
    rw [hr] at hLd hDc
    have hcne : code ≠ 0 := decR_err hr
    have q1 : ((code : Int) != 0) = true := by rw [bne_iff_ne]; omega
    have q2 : ((code : Int) == 0) = false := by rw [beq_eq_false_iff_ne]; omega
    have HLd := Lib.hid hLd
    have HDc := Lib.hid hDc
    clear hLd hDc hr
    go_enter Try.func10, Try.ntmps10
    go_wp2_with fail
    refine (wakes22_any _).mono ?_
    rintro e w1 ⟨rfl, b1⟩
    have B1 := Lib.hid b1
    clear b1
    go_wp2_with fail
    refine (HLd.out _).mono ?_
    rintro e w2 ⟨c, err, rfl, b2, rfl⟩
    have B2 := Lib.hid (B1.out.trans (b2.mono B1.out.size))
    clear b2
    go_wp2_with fail
    refine (HDc.out _).mono ?_
    rintro e w3 ⟨vr, v0, v1, v2, v3, rfl, b3, hk3⟩
    have B3 := Lib.hid (B2.out.trans (b3.mono B2.out.size))
    obtain ⟨X, k, X0, n0, k0, X1, n1, k1, X2, n2, k2, X3, n3, k3, rfl, rfl, rfl, rfl, rfl⟩ := hk3.form
    clear b3 hk3
    dsimp only [decB]
    go_wp2_with fail
    go_loopw [34] (fun i wr => ∃ j : Nat, j ≤ xs.length ∧ i = .int .i64 j ∧ Hid (Below W.heap.size W wr)) (fun i _ => xs.length - (intOf i).toNat)
    case atStart => exact ⟨0, Nat.zero_le _, rfl, Lib.hid (B3.out.alloc B3.out.size _)⟩
    case round =>
      obtain ⟨j, hj, rfl, HB⟩ := hrel
      by_cases hlt : j < xs.length
      · obtain ⟨g, o, rfl, hc⟩ := HX.out j hlt
        have ck := (HB.out.cell (World.block_lt_of_cell? W _ hc)).trans hc
        have hsz := HXS.out xs[j] (List.getElem_mem hlt)
        obtain ⟨x, hxx⟩ : ∃ x, xs[j] = x := ⟨_, rfl⟩
        rw [hxx] at ck hsz
        clear hc hxx
        go_wp2_with fail
        refine (so_Check (fun _ => false) (fun _ => false) (.pointer none) x _ hsz (fun f W' _ _ => so_In_nil 0 f W') (fun f W' _ _ => so_In_nil 2 f W')).mono ?_
        rw [show chkB (fun _ => false) (fun _ => false) x = none from chkGo_none _ _ _]
        rintro e w4 ⟨rfl, b4⟩
        have B4 := Lib.hid (HB.out.trans (b4.mono HB.out.size))
        clear b4
        dsimp only [chkV]
        go_wp2_with fail
        go_roundw
        case rel => exact ⟨j + 1, by omega, by go_num, B4⟩
        case measure => simp [intOf]; omega
      · obtain rfl : j = xs.length := by omega
        go_wp2_with fail
        go_ret
        exact ⟨rfl, HB.out⟩
  | ok b =>
    rw [hr] at hLd hDc
    obtain ⟨-, -, hbl, hbd⟩ := decR_bounds hr
    obtain ⟨A0, hA0⟩ : ∃ A, b.secs[0]? = some A := ⟨_, List.getElem?_eq_getElem (by omega)⟩
    obtain ⟨A2, hA2⟩ : ∃ A, b.secs[2]? = some A := ⟨_, List.getElem?_eq_getElem (by omega)⟩
    have S0 := Lib.hid (hbd A0 (List.mem_of_getElem? hA0)).1
    have S2 := Lib.hid (hbd A2 (List.mem_of_getElem? hA2)).1
    have HA0 := Lib.hid hA0
    have HA2 := Lib.hid hA2
    have HLd := Lib.hid hLd
    have HDc := Lib.hid hDc
    clear hLd hDc hr hbl hbd hA0 hA2
    go_enter Try.func10, Try.ntmps10
    go_wp2_with fail
    refine (wakes22_any _).mono ?_
    rintro e w1 ⟨rfl, b1⟩
    have B1 := Lib.hid b1
    clear b1
    go_wp2_with fail
    refine (HLd.out _).mono ?_
    rintro e w2 ⟨c, err, rfl, b2, hck⟩
    have B2 := Lib.hid (B1.out.trans (b2.mono B1.out.size))
    have CK2 := Lib.hid (show CkAt w2 c b.secs from hck)
    obtain ⟨cb, hcb⟩ : ∃ cb, c = .pointer (some ⟨cb, 0, none⟩) := by
      obtain ⟨cb, _, _, _, _, _, _, _, _, hc, _⟩ := CK2.out
      exact ⟨cb, hc⟩
    subst hcb
    clear b2 hck
    go_wp2_with fail
    refine (HDc.out _).mono ?_
    rintro e w3 ⟨vr, v0, v1, v2, v3, rfl, b3, hk3⟩
    have B3 := Lib.hid (B2.out.trans (b3.mono B2.out.size))
    have CK3 := Lib.hid (CK2.out.keep b3)
    have BK3 := Lib.hid (show BkAt w3 (fun _ => True) vr v0 v1 v2 v3 b.reps b.secs from hk3)
    obtain ⟨X, k, X0, n0, k0, X1, n1, k1, X2, n2, k2, X3, n3, k3, rfl, rfl, rfl, rfl, rfl⟩ := hk3.form
    clear b3 hk3
    dsimp only [decB]
    have hbn := heap_alloc_new w3 (.cells #[.int .i64 (b.least : Int), .string b.tryT, .slice X b.reps.length k, .slice X0 n0 k0, .slice X1 n1 k1, .slice X2 n2 k2, .slice X3 n3 k3] 52)
    have ba : Below w3.heap.size w3 (w3.alloc (.cells #[.int .i64 (b.least : Int), .string b.tryT, .slice X b.reps.length k, .slice X0 n0 k0, .slice X1 n1 k1, .slice X2 n2 k2, .slice X3 n3 k3] 52)) := below_alloc _ _
    obtain ⟨W4, hW4⟩ : ∃ W4, w3.alloc (.cells #[.int .i64 (b.least : Int), .string b.tryT, .slice X b.reps.length k, .slice X0 n0 k0, .slice X1 n1 k1, .slice X2 n2 k2, .slice X3 n3 k3] 52) = W4 := ⟨_, rfl⟩
    rw [hW4] at hbn ba
    have CK4 := Lib.hid (CK3.out.keep ba)
    have BK4 := Lib.hid (BK3.out.keep ba)
    have B4 := Lib.hid (B3.out.trans (ba.mono B3.out.size))
    have HBN := Lib.hid hbn
    have HW4 := Lib.hid hW4
    clear hW4 hbn ba
    go_wp2_with fail
    rw [HW4.out]
    go_loopw [34] (fun i wr => ∃ j : Nat, j ≤ xs.length ∧ i = .int .i64 j ∧ Hid (Below W4.heap.size W4 wr)) (fun i _ => xs.length - (intOf i).toNat)
    case atStart => exact ⟨0, Nat.zero_le _, rfl, Below.refl _ _⟩
    case round =>
      obtain ⟨j, hj, rfl, HB⟩ := hrel
      have HBW := Lib.hid (B4.out.trans (HB.out.mono B4.out.size))
      by_cases hlt : j < xs.length
      · obtain ⟨g, o, rfl, hc⟩ := HX.out j hlt
        have ck := (HBW.out.cell (World.block_lt_of_cell? W _ hc)).trans hc
        have hsz := HXS.out xs[j] (List.getElem_mem hlt)
        obtain ⟨x, hxx⟩ : ∃ x, xs[j] = x := ⟨_, rfl⟩
        rw [hxx] at ck hsz
        clear hc hxx
        obtain ⟨r, hrr⟩ : ∃ r, chkB (accS A0) (accS A2) x = r := ⟨_, rfl⟩
        have HRR := Lib.hid hrr
        clear hrr
        have HCk := Lib.hid (so_Check (accS A0) (accS A2) (.pointer (some ⟨cb, 0, none⟩)) x wr hsz (fun f W' hf hb => so_In 0 (by omega) _ _ A0 f W' ((CK4.out.keep HB.out).keep hb) HA0.out hf) (fun f W' hf hb => so_In 2 (by omega) _ _ A2 f W' ((CK4.out.keep HB.out).keep hb) HA2.out hf))
        cases r with
        | none =>
          go_wp2_with fail
          refine HCk.out.mono ?_
          rw [HRR.out]
          rintro e w5 ⟨rfl, b5⟩
          have HB5 := Lib.hid (HB.out.trans (b5.mono HB.out.size))
          have hw5 : w5.heap[w3.heap.size]? = _ := (HB5.out.block _ (block_lt HBN.out)).trans HBN.out
          obtain ⟨e0, e1, e2, e3, e4, e5, e6⟩ := cells7 hw5
          clear b5 hw5
          dsimp only [chkV]
          go_wp2_with fail
          refine (so_rCheck _ _ b.reps b.secs A0 A2 _ _ _ _ _ x _ (BK4.out.keep HB5.out) HA0.out HA2.out S0.out S2.out hsz).mono ?_
          rw [HRR.out]
          rintro e w6 ⟨rfl, b6⟩
          have HB6 := Lib.hid (HB5.out.trans (b6.mono HB5.out.size))
          clear b6
          dsimp only [chkV]
          go_wp2_with fail
          go_roundw
          case rel => exact ⟨j + 1, by omega, by go_num, HB6⟩
          case measure => simp [intOf]; omega
        | some f =>
          go_wp2_with fail
          refine HCk.out.mono ?_
          rw [HRR.out]
          rintro e w5 ⟨rfl, b5⟩
          have HB5 := Lib.hid (HB.out.trans (b5.mono HB.out.size))
          have hw5 : w5.heap[w3.heap.size]? = _ := (HB5.out.block _ (block_lt HBN.out)).trans HBN.out
          obtain ⟨e0, e1, e2, e3, e4, e5, e6⟩ := cells7 hw5
          clear b5 hw5
          dsimp only [chkV]
          go_wp2_with fail
          refine (so_rCheck _ _ b.reps b.secs A0 A2 _ _ _ _ _ x _ (BK4.out.keep HB5.out) HA0.out HA2.out S0.out S2.out hsz).mono ?_
          rw [HRR.out]
          rintro e w6 ⟨rfl, b6⟩
          have HB6 := Lib.hid (HB5.out.trans (b6.mono HB5.out.size))
          clear b6
          dsimp only [chkV]
          go_wp2_with fail
          go_roundw
          case rel => exact ⟨j + 1, by omega, by go_num, HB6⟩
          case measure => simp [intOf]; omega
      · obtain rfl : j = xs.length := by omega
        go_wp2_with fail
        go_ret
        exact ⟨rfl, HBW.out⟩
end Go.Proofs.Ytdleoankkcemfaa
