/-
  The forms' statement walked: the lists of forms are new memory.
-/
import Derived.Test.YtdleoankkcemfaaRows
import Derived.Test.YtdleoankkcemfaaCases9
namespace Go.Proofs.Ytdleoankkcemfaa
open Go.RowKit

theorem grown_trans' {a b c : World} {row : Option Nat} (h : a.grownBy b row) (k : b.grownBy c row) : a.grownBy c row :=
  ⟨k.os.trans h.os, k.tape.trans h.tape, k.output.trans h.output, Nat.le_trans h.size k.size, fun i hi hr => (k.block i (Nat.lt_of_lt_of_le hi h.size) hr).trans (h.block i hi hr)⟩
theorem grown_setCell {a w : World} {g : Nat} (h : a.grownBy w (some g)) (i : Nat) (u : Value) : a.grownBy (w.setCell ⟨g, i, none⟩ u) (some g) :=
  ⟨h.os, h.tape, h.output, by simpa [World.setCell] using h.size, fun k hk hne => (Below.heap_setCell w ⟨g, i, none⟩ u k (by rintro rfl; exact hne rfl)).trans (h.block k hk hne)⟩
theorem below_grown {B : Nat} {a b : World} {g : Nat} (h : a.grownBy b (some g)) (hB : B ≤ g) (hw : B ≤ a.heap.size) : Below B a b :=
  (Below.refl B a).grown h hw (fun k hk => by injection hk with hk; omega)
/-- A row of cells that may be written. -/
def RowAt (w : World) (g e n : Nat) : Prop := ∃ cs, w.heap[g]? = some (.cells cs e (0, 0)) ∧ n ≤ cs.size
theorem RowAt.of_own {w : World} {B e n g cap : Nat} {xs : List Value} (h : w.ownsRow B e 1 (.slice (some ⟨g, 0, none⟩) n cap) n xs) : RowAt w g e n := by
  rcases h.2 with ⟨hv, _⟩ | ⟨g', cap', cur, hv, _, hg, h1, _, h2, _⟩
  · cases hv
  · injection hv with hv _ h4
    injection hv with hv
    injection hv with hv
    subst hv h4
    exact ⟨cur, hg, by omega⟩
theorem RowAt.set_ {w : World} {g e n : Nat} (h : RowAt w g e n) (i : Nat) (u : Value) : RowAt (w.setCell ⟨g, i, none⟩ u) g e n := by
  obtain ⟨cs, h1, h2⟩ := h
  exact ⟨cs.setIfInBounds i u, by simp [World.setCell, Array.getElem?_modify, h1], by simpa using h2⟩
theorem RowAt.cell {w : World} {g e n : Nat} (h : RowAt w g e n) (i : Nat) (hi : i < n) : ∃ u, w.cell? ⟨g, i, none⟩ = some u := by
  obtain ⟨cs, h1, h2⟩ := h
  exact ⟨cs[i], by rw [Lib.cell_of_heap h1, Array.getElem?_eq_getElem (by omega)]⟩
theorem RowAt.frozen {w : World} {g e n : Nat} (h : RowAt w g e n) (i : Nat) : w.frozen? ⟨g, i, none⟩ = false := by
  obtain ⟨cs, h1, h2⟩ := h
  exact Lib.frozen_of_heap h1 i
theorem own_grown {w w' : World} {B e size n g cap ga : Nat} {xs : List Value} (h : w.ownsRow B e size (.slice (some ⟨g, 0, none⟩) n cap) n xs) (hg : w.grownBy w' (some ga)) (hne : g ≠ ga) : w'.ownsRow B e size (.slice (some ⟨g, 0, none⟩) n cap) n xs :=
  h.kept hg (.inr (by simp [Value.ownBlock, hne]))
theorem own_bd {w : World} {B e size n g cap : Nat} {xs : List Value} (h : w.ownsRow B e size (.slice (some ⟨g, 0, none⟩) n cap) n xs) : B ≤ g ∧ g < w.heap.size := h.lt g rfl

theorem formsOf_len (s : ByteArray) : (formsOf s).length ≤ 3 := by
  unfold formsOf
  have a1 := addS_len [s] (headS s)
  have a2 := addS_len (addS [s] (headS s)) (lowS s)
  have a3 := addS_len [s] (lowS s)
  simp at a1 a3
  (repeat' split) <;> simp <;> omega

theorem same_bel (v1 v2 : Value) (xs ys : List ByteArray) (w : World) (h1 : Rd w 1 v1 xs.length (strV xs)) (h2 : Rd w 1 v2 ys.length (strV ys)) (hl : xs.length ≤ 4611686018427387904) :
    Calls Try.prog 23 #[v1, v2] w fun e w' => e = .returned (.bool (decide (xs = ys))) ∧ Below w.heap.size w w' :=
  (same_any v1 v2 xs ys w h1 h2 hl).mono fun e w' ⟨he, n, hw⟩ => ⟨he, by rw [hw]; exact below_drewN (Below.refl _ _) n⟩

set_option maxHeartbeats 4000000 in
theorem casesForms_walk (s : ByteArray) (w : World) (hs : s.size ≤ 140737488355328) :
    Calls Try.prog 5 #[.string s] w fun e w' => e = .returned (.bool true) ∧ Below w.heap.size w w' := by
  have hfl := formsOf_len s
  go_enter Try.func5, Try.ntmps5
  go_wp2_with fail
  refine (Forms22_any _ _ hs).mono ?_
  rw [← forms_eq]
  rintro e w1 ⟨⟨gw, cw, rfl, ow⟩, hb1⟩
  have OW := Lib.hid ow; have HB := Lib.hid hb1
  obtain ⟨gw1, gw2⟩ := own_bd ow
  clear ow hb1
  go_wp2_with fail
  refine (Forms_any _ _ hs).mono ?_
  rintro e w2 ⟨⟨ga, ca, rfl, oa⟩, hb2⟩
  have OA := Lib.hid oa; have HB2 := Lib.hid (HB.out.trans (hb2.mono HB.out.size)); have OW2 := Lib.hid (own_below OW.out hb2)
  obtain ⟨ga1, ga2⟩ := own_bd oa
  clear oa hb2
  go_wp2_with fail
  refine (Forms_any _ _ hs).mono ?_
  rintro e w3 ⟨⟨gb, cb, rfl, ob⟩, hb3⟩
  have OB := Lib.hid ob; have HB3 := Lib.hid (HB2.out.trans (hb3.mono HB2.out.size)); have OW3 := Lib.hid (own_below OW2.out hb3); have OA3 := Lib.hid (own_below OA.out hb3)
  obtain ⟨gb1, gb2⟩ := own_bd ob
  clear ob hb3
  go_wp2_with fail
  refine (wakes22_any _).mono ?_
  rintro e w4 ⟨rfl, hb4⟩
  have HB4 := Lib.hid (HB3.out.trans (hb4.mono HB3.out.size)); have OW4 := Lib.hid (own_below OW3.out hb4); have OA4 := Lib.hid (own_below OA3.out hb4); have OB4 := Lib.hid (own_below OB.out hb4)
  have hz4 := hb4.size
  have hz3 := HB3.out.size
  clear hb4
  go_wp2_with fail
  refine (same_bel _ _ (formsOf s) (formsOf s) _ (Rd.of_own OA4.out) (Rd.of_own OW4.out) (by omega)).mono ?_
  rintro e w5 ⟨rfl, hb5⟩
  have HB5 := Lib.hid (HB4.out.trans (hb5.mono HB4.out.size)); have OW5 := Lib.hid (own_below OW4.out hb5); have OA5 := Lib.hid (own_below OA4.out hb5); have OB5 := Lib.hid (own_below OB4.out hb5)
  have hz5 := hb5.size
  clear hb5
  rw [decide_eq_true rfl]
  go_wp2_with fail
  refine (same_bel _ _ (formsOf s) (formsOf s) _ (Rd.of_own OB5.out) (Rd.of_own OW5.out) (by omega)).mono ?_
  rintro e w6 ⟨rfl, hb6⟩
  have HB6 := Lib.hid (HB5.out.trans (hb6.mono HB5.out.size)); have OW6 := Lib.hid (own_below OW5.out hb6); have OA6 := Lib.hid (own_below OA5.out hb6); have OB6 := Lib.hid (own_below OB5.out hb6)
  have hz6 := hb6.size
  clear hb6
  rw [decide_eq_true rfl]
  go_wp2_with fail
  go_loopw [29] (fun i wr => ∃ k : Nat, k ≤ (formsOf s).length ∧ i = .int .i64 k ∧ RowAt wr ga 9 (formsOf s).length ∧ w6.grownBy wr (some ga)) (fun i _ => (formsOf s).length - (intOf i).toNat)
  case atStart => exact ⟨0, Nat.zero_le _, rfl, RowAt.of_own OA6.out, ⟨rfl, rfl, rfl, Nat.le_refl _, fun _ _ _ => rfl⟩⟩
  case round =>
    obtain ⟨k, hk, rfl, hr, hg⟩ := hrel
    have HR := Lib.hid hr
    have HG := Lib.hid hg
    clear hr hg
    by_cases hlt : k < (formsOf s).length
    · obtain ⟨u, hu⟩ := HR.out.cell k hlt
      have hf := HR.out.frozen k
      go_wp2_with fail
      go_roundw
      case rel => exact ⟨k + 1, by omega, by go_num, HR.out.set_ _ _, grown_setCell HG.out _ _⟩
      case measure => simp [intOf]; omega
    · have OB7 := Lib.hid (own_grown OB6.out HG.out (by omega))
      have OW7 := Lib.hid (own_grown OW6.out HG.out (by omega))
      have HB7 := Lib.hid (HB6.out.trans (below_grown HG.out (B := w.heap.size) (by omega) HB6.out.size))
      have hz7 := HG.out.size
      clear hk
      go_wp2_with fail
      refine (same_bel _ _ (formsOf s) (formsOf s) _ (Rd.of_own OB7.out) (Rd.of_own OW7.out) (by omega)).mono ?_
      rintro e w8 ⟨rfl, hb8⟩
      have HB8 := Lib.hid (HB7.out.trans (hb8.mono HB7.out.size)); have OW8 := Lib.hid (own_below OW7.out hb8)
      clear hb8
      rw [decide_eq_true rfl]
      go_wp2_with fail
      refine (Forms_any _ _ hs).mono ?_
      rintro e w9 ⟨⟨gc, cc, rfl, oc⟩, hb9⟩
      have OC := Lib.hid oc; have HB9 := Lib.hid (HB8.out.trans (hb9.mono HB8.out.size)); have OW9 := Lib.hid (own_below OW8.out hb9)
      clear oc hb9
      go_wp2_with fail
      refine (same_bel _ _ (formsOf s) (formsOf s) _ (Rd.of_own OC.out) (Rd.of_own OW9.out) (by omega)).mono ?_
      rintro e w10 ⟨rfl, hb10⟩
      have HB10 := Lib.hid (HB9.out.trans (hb10.mono HB9.out.size))
      clear hb10
      rw [decide_eq_true rfl]
      go_wp2_with fail
      go_ret
      exact ⟨rfl, HB10.out⟩
end Go.Proofs.Ytdleoankkcemfaa
