/-
  LinesShown walked.
-/
import Derived.Test.YtbhfkhfnljddhaaDoorRows
import Derived.Test.YtbhfkhfnljddhaaDoorSH3
import Derived.Test.YtbhfkhfnljddhaaDoorSH4
import Derived.Test.YtbhfkhfnljddhaaDoorRows4
import Derived.Test.YtbhfkhfnljddhaaDoorSO1
namespace Go.Proofs.YtbhfkhfnljddhaaDoor
open Go.RowKit

theorem RS.row {w : World} {g : Value} {gs : List (Value × List ByteArray)} (h : RS w g gs) : ∃ (p : Option Addr) (c : Nat), g = .slice p gs.length c ∧ gs.length ≤ c ∧
    ∀ k (h : k < gs.length), ∃ b off A cap, ∃ r : List ByteArray, (rowsV gs)[k]'(by simpa using h) = r ∧ p = some ⟨b, off, none⟩ ∧ w.cell? ⟨b, off + k, none⟩ = some (.slice A r.length cap) ∧ Rd w 1 (.slice A r.length cap) r.length (strV r) := by
  obtain ⟨p, c, rfl, hc, h1, h2⟩ := h
  refine ⟨p, c, rfl, hc, fun k hk => ?_⟩
  obtain ⟨b, off, hp, hc⟩ := h1.resolve_left (by omega)
  have hx := h2 gs[k] (List.getElem_mem _)
  have hck := hc k hk
  obtain ⟨_, A, cap, hv, -, -⟩ := hx
  have hx := h2 gs[k] (List.getElem_mem _)
  rw [hv] at hck hx
  exact ⟨b, off, A, cap, _, by simp [rowsV], hp, hck, hx⟩

set_option maxHeartbeats 4000000 in
set_option maxRecDepth 100000 in
theorem linesShown_walk (v : Value) (gs : List (Value × List ByteArray)) (w : World) (h : RS w v gs) (hb : gs.length + sumR (rowsV gs) ≤ 1048576) :
    Calls Tryd.prog 13 #[v] w fun e w' => e = .returned (.bool true) ∧ Below w.heap.size w w' := by
  have HV0 := Lib.hid h
  have HBk := Lib.hid hb
  obtain ⟨p0, c0, rfl, -⟩ := h.at
  clear h hb
  go_enter Tryd.func13, Tryd.ntmps13
  go_wp2_with fail
  refine (copied_any _ gs _ HV0.out HBk.out).mono ?_
  rintro e w1 ⟨v1, cs, rfl, r1, e1, b1⟩
  have HV1 := Lib.hid (HV0.out.keep b1)
  have HC1 := Lib.hid r1
  have HE1 := Lib.hid e1
  have HB1 := Lib.hid b1
  have hlen : cs.length = gs.length := by have := congrArg List.length e1; simpa [rowsV] using this
  clear r1 e1 b1
  obtain ⟨T, hT⟩ : ∃ T, mkS (showText (rowsV gs)) = T := ⟨_, rfl⟩
  obtain ⟨E, hE⟩ : ∃ E, showErr (rowsV gs) = E := ⟨_, rfl⟩
  have HT := Lib.hid hT
  have HE := Lib.hid hE
  obtain ⟨p1, c1, hv1, -⟩ := HC1.out.at
  rw [hlen] at hv1
  subst hv1
  have HLen := Lib.hid hlen
  clear hT hE hlen
  go_wp2_with fail
  refine (Show_any _ gs _ HV1.out HBk.out).mono ?_
  rw [HT.out, HE.out]
  rintro e w2 ⟨rfl, b2⟩
  have HV2 := Lib.hid (HV1.out.keep b2)
  have HC2 := Lib.hid (HC1.out.keep b2)
  have HB2 := Lib.hid (HB1.out.trans (b2.mono HB1.out.size))
  clear b2
  go_wp2_with fail
  refine (rShow_any _ cs _ HC2.out (by rw [HE1.out, HLen.out]; exact HBk.out)).mono ?_
  rw [HE1.out, HT.out, HE.out]
  rintro e w3 ⟨rfl, b3⟩
  have HV3 := Lib.hid (HV2.out.keep b3)
  have HC3 := Lib.hid (HC2.out.keep b3)
  have HB3 := Lib.hid (HB2.out.trans (b3.mono HB2.out.size))
  clear b3
  have hkb : gs.length ≤ 1048576 := by have := HBk.out; omega
  have HR : Hid (∀ k (h : k < gs.length), ∃ b off A cap, ∃ r : List ByteArray, (rowsV gs)[k]'(by simpa using h) = r ∧ p0 = some ⟨b, off, none⟩ ∧ w3.cell? ⟨b, off + k, none⟩ = some (.slice A r.length cap) ∧ Rd w3 1 (.slice A r.length cap) r.length (strV r)) := Lib.hid (by
    obtain ⟨p, c, hv, -, hh⟩ := HV3.out.row
    cases hv
    exact hh)
  have HS : Hid (∀ k (h : k < gs.length), ∃ b off A cap, ∃ r : List ByteArray, (rowsV gs)[k]'(by simpa using h) = r ∧ p1 = some ⟨b, off, none⟩ ∧ w3.cell? ⟨b, off + k, none⟩ = some (.slice A r.length cap) ∧ Rd w3 1 (.slice A r.length cap) r.length (strV r)) := Lib.hid (by
    obtain ⟨p, c, hv, -, hh⟩ := HC3.out.row
    injection hv with q1 q2 q3
    subst q1 q3
    intro k hk
    obtain ⟨b, off, A, cap, r, h1, h2⟩ := hh k (by rw [HLen.out]; exact hk)
    refine ⟨b, off, A, cap, r, ?_, h2⟩
    rw [← h1]
    simp only [HE1.out])
  have HL : Hid (∀ k (h : k < gs.length), ((rowsV gs)[k]'(by simpa using h)).length ≤ 1048576) := Lib.hid fun k hk => by
    have h1 := sumR_at (rowsV gs) k (by simpa using hk)
    have := bulkS_len ((rowsV gs)[k]'(by simpa using hk))
    have := HBk.out
    omega
  have HCap : Hid (gs.length ≤ c0 ∧ gs.length ≤ c1) := Lib.hid (by
    constructor
    · obtain ⟨p, c, hv, hh, -⟩ := HV3.out.row
      cases hv
      exact hh
    · obtain ⟨p, c, hv, hh, -⟩ := HC3.out.row
      injection hv with q1 q2 q3
      subst q1 q3
      rw [← HLen.out]; exact hh)
  go_wp2_with fail
  go_loopw [38] (fun i wr => ∃ k m : Nat, k ≤ gs.length ∧ i = .int .i64 k ∧ wr = w3.drewN m) (fun i _ => gs.length - (intOf i).toNat)
  case atStart => exact ⟨0, 0, Nat.zero_le _, rfl, rfl⟩
  case round =>
    obtain ⟨k, m, hk, rfl, rfl⟩ := hrel
    by_cases hlt : k < gs.length
    · obtain ⟨b, off, A, cap, r, hr, rfl, hc, hrd⟩ := HR.out k hlt
      obtain ⟨b2, off2, A2, cap2, r2, hr2, rfl, hc2, hrd2⟩ := HS.out k hlt
      have hl := HL.out k hlt
      obtain rfl : r = r2 := hr.symm.trans hr2
      rw [hr] at hl
      have H1 := Lib.hid hrd
      have H2 := Lib.hid hrd2
      clear hr hr2 hrd hrd2
      go_wp2_with fail
      go_quiet (first | (go_at_call 16; exact sameWords_quiet _ _ r _ _ _ H1.out H2.out (by omega)))
      go_wp2_with fail
      go_roundw
      case rel => exact ⟨k + 1, _, by omega, by go_num, rfl⟩
      case measure => simp [intOf]; omega
    · obtain rfl : k = gs.length := by omega
      go_wp2_with fail
      refine (wakes01_any _).mono ?_
      rintro e w4 ⟨rfl, hb4⟩
      have HB4 := Lib.hid ((below_drewN HB3.out m).trans (hb4.mono HB3.out.size))
      clear hb4
      go_wp2_with fail
      go_ret
      exact ⟨rfl, HB4.out⟩
theorem linesShown_sh (v : Value) (gs : List (Value × List ByteArray)) (W : World) (h : RS W v gs) (hb : gs.length + sumR (rowsV gs) ≤ 1048576) (_ : W.ShapedOpen Tryd.prog) :
    Calls Tryd.prog 13 #[v] W fun e w' => e = .returned (.bool true) ∧ Below W.heap.size W w' := linesShown_walk v gs W h hb
end Go.Proofs.YtbhfkhfnljddhaaDoor
