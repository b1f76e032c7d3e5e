/-
  The forms of a word: cases.Forms.
-/
import Derived.Test.YthfndmpigpphoaaGreatRows
import Derived.Test.YthfndmpigpphoaaGreatKA
import Derived.Test.YthfndmpigpphoaaGreatShelf
import Derived.Test.YthfndmpigpphoaaGreatShelf2
import Derived.Test.YthfndmpigpphoaaGreatCases4
import Derived.Lib.SlicesS
namespace Go.Proofs.YthfndmpigpphoaaGreat
open Go.RowKit

/-- One text more, if it is not among them. -/
def addS (ss : List ByteArray) (f : ByteArray) : List ByteArray := if Lib.containsS ss f then ss else ss ++ [f]

/-- The variable in block bv holds a list of texts of the call's own. -/
def FormsAt (B bv : Nat) (ss : List ByteArray) (w : World) : Prop :=
  B ≤ bv ∧ ∃ g cap, w.heap[bv]? = some (.cells #[.slice (some ⟨g, 0, none⟩) ss.length cap] 22 (0, 0)) ∧ w.ownsRow B 9 1 (.slice (some ⟨g, 0, none⟩) ss.length cap) ss.length (strV ss)

theorem FormsAt.put {B bv : Nat} {ss : List ByteArray} {w : World} {v : Value} {g cap : Nat} (hB : B ≤ bv) (hb : w.heap[bv]? = some (.cells #[v] 22 (0, 0)))
    (hown : w.ownsRow B 9 1 (.slice (some ⟨g, 0, none⟩) ss.length cap) ss.length (strV ss)) : FormsAt B bv ss (w.setCell ⟨bv, 0, none⟩ (.slice (some ⟨g, 0, none⟩) ss.length cap)) := by
  have hne := Lib.ownBlock_ne hown hb (by decide)
  refine ⟨hB, g, cap, ?_, ?_⟩
  · simp [World.setCell, Array.getElem?_modify, hb]
  · exact hown.kept (row := some bv) ⟨rfl, rfl, rfl, by simp [World.setCell], fun k _ hk => Below.heap_setCell _ _ _ _ (fun e => hk (by simp [e]))⟩ (Or.inr hne)

set_option maxHeartbeats 1000000 in
theorem forms1_any (B bv fb : Nat) (ss : List ByteArray) (f : ByteArray) (w : World) (ho : FormsAt B bv ss w) (hf : w.cell? ⟨fb, 0, none⟩ = some (.string f)) (hn : ss.length ≤ 1000) (hBw : B ≤ w.heap.size) :
    Calls Tryz.prog 57 #[.slice (some ⟨fb, 0, none⟩) 1 1, .pointer (some ⟨bv, 0, none⟩)] w fun e w' => e = .returned (.tuple #[]) ∧ FormsAt B bv (addS ss f) w' ∧ Below B w w' := by
  obtain ⟨i0, hi, hz0, hz1, hz2⟩ := info_parts str_info
  go_enter Tryz.func57, Tryz.ntmps57
  go_wp2_with fail
  go_loopw [7] (fun i wr => ∃ k : Nat, k ≤ 1 ∧ i = .int .i64 k ∧ (k = 0 → wr = w) ∧ (k = 1 → FormsAt B bv (addS ss f) wr ∧ Below B w wr)) (fun i _ => 1 - (intOf i).toNat)
  case atStart => exact ⟨0, by omega, rfl, fun _ => rfl, by omega⟩
  case round =>
    obtain ⟨k, hk, rfl, h0, h1⟩ := hrel
    rcases (show k = 0 ∨ k = 1 by omega) with rfl | rfl
    · obtain rfl := h0 rfl
      obtain ⟨hB, g, cap, hb, hown⟩ := ho
      have c1 : wr.cell? ⟨bv, 0, none⟩ = some (.slice (some ⟨g, 0, none⟩) ss.length cap) := by rw [Lib.cell_of_heap hb]; rfl
      have HC := Lib.hid (own_strD hown)
      have HO := Lib.hid hown
      have HBV := Lib.hid hb
      clear hown hb h0 h1
      have hc2 : Lib.containsS (ss.take ss.length) f = Lib.containsS ss f := by rw [List.take_length]
      have HC2 := Lib.hid hc2
      clear hc2
      cases hc : Lib.containsS ss f
      · have HA := Lib.hid (show addS ss f = ss ++ [f] by rw [addS, hc]; rfl)
        have HC' := Lib.hid hc
        clear hc
        go_wp2_with (first
          | (go_at_call 58; refine (Tryz.slices_Contains_string g 0 ss.length cap ss f _ (Nat.le_refl _) (by omega) HC.out).mono ?_; rw [HC2.out, HC'.out]; rintro e w' ⟨rfl, hw'⟩; obtain rfl := hw'.symm; clear hw')
          | (at_builtin; refine wpList_push1 rfl _ _ 22 rfl B 9 i0 (.string ByteArray.empty) 16 Tryz.underlying22 hi hz0 hz1 hz2 rfl _ ss.length _ rfl HO.out _ rfl rfl ?c3 ?c4 hBw ?_))
        case c3 => unfold maxLen; omega
        case c4 => omega
        intro g' cap' w2 hown' hg
        have hlt : bv < wr.heap.size := by
          rcases Nat.lt_or_ge bv wr.heap.size with h' | h'
          · exact h'
          · have := HBV.out; simp [Array.getElem?_eq_none h'] at this
        have hne := Lib.ownBlock_ne HO.out HBV.out (by decide)
        have hb2 : w2.heap[bv]? = some (.cells #[.slice (some ⟨g, 0, none⟩) ss.length cap] 22 (0, 0)) := by
          rw [hg.block bv hlt (fun e => hne e.symm)]
          exact HBV.out
        have d0 : w2.cell? ⟨bv, 0, none⟩ = some (.slice (some ⟨g, 0, none⟩) ss.length cap) := by rw [Lib.cell_of_heap hb2]; rfl
        have f1 : w2.frozen? ⟨bv, 0, none⟩ = false := Lib.frozen_of_heap hb2 0
        have hfin : FormsAt B bv (addS ss f) (w2.setCell ⟨bv, 0, none⟩ (.slice (some ⟨g', 0, none⟩) (ss.length + 1) cap')) := by
          have hl : (ss ++ [f]).length = ss.length + 1 := by simp
          rw [HA.out, ← hl]
          refine FormsAt.put hB hb2 ?_
          rw [hl, ← strV_snoc]; exact hown'
        have hbl : Below B wr (w2.setCell ⟨bv, 0, none⟩ (.slice (some ⟨g', 0, none⟩) (ss.length + 1) cap')) :=
          (below_push (Below.refl B wr) HO.out hg (Nat.le_refl _) hBw).setCell (p := ⟨bv, 0, none⟩) hB _
        have HF := Lib.hid hfin
        have HB2 := Lib.hid hbl
        clear hfin hbl hb2 hown' hg
        go_wp2
        go_roundw
        case rel => exact ⟨1, by omega, rfl, by omega, fun _ => ⟨HF.out, HB2.out⟩⟩
        case measure => simp [intOf]
      · have HA := Lib.hid (show addS ss f = ss by rw [addS, hc]; rfl)
        have HC' := Lib.hid hc
        clear hc
        go_wp2_with (go_at_call 58; refine (Tryz.slices_Contains_string g 0 ss.length cap ss f _ (Nat.le_refl _) (by omega) HC.out).mono ?_; rw [HC2.out, HC'.out]; rintro e w' ⟨rfl, hw'⟩; obtain rfl := hw'.symm; clear hw')
        go_roundw
        case rel => exact ⟨1, by omega, rfl, by omega, fun _ => ⟨by rw [HA.out]; exact ⟨hB, g, cap, HBV.out, HO.out⟩, Below.refl _ _⟩⟩
        case measure => simp [intOf]
    · obtain ⟨h2, h3⟩ := h1 rfl
      have H2 := Lib.hid h2
      have H3 := Lib.hid h3
      clear h2 h3 h0 h1
      go_wp2
      go_end0
      exact ⟨rfl, H2.out, H3.out⟩

theorem FormsAt.keep {B bv : Nat} {ss : List ByteArray} {w w' : World} (h : FormsAt B bv ss w) (hb : Below w.heap.size w w') : FormsAt B bv ss w' := by
  obtain ⟨hB, g, cap, h1, h2⟩ := h
  exact ⟨hB, g, cap, (hb.block bv (block_lt h1)).trans h1, own_below h2 hb⟩
theorem FormsAt.lt {B bv : Nat} {ss : List ByteArray} {w : World} (h : FormsAt B bv ss w) : bv < w.heap.size := by
  obtain ⟨hB, g, cap, h1, h2⟩ := h
  exact block_lt h1
theorem below_alloc (w : World) (o : Obj) : Below w.heap.size w (w.alloc o) := (Below.refl _ _).alloc (Nat.le_refl _) o
theorem out_start (w : World) (s : ByteArray) : FormsAt w.heap.size (w.heap.size + 1) [s] ((w.alloc (.cells #[.string s] 9)).alloc (.cells #[.slice (some ⟨w.heap.size, 0, none⟩) 1 1] 22)) := by
  refine ⟨by omega, w.heap.size, 1, ?_, ?_⟩
  · have := heap_alloc_new (w.alloc (.cells #[.string s] 9)) (.cells #[.slice (some ⟨w.heap.size, 0, none⟩) 1 1] 22)
    rwa [World.size_alloc] at this
  · exact (own_laid w 9 1 1 #[.string s] rfl (by unfold maxLen; omega)).alloc _

/-- A list of texts that the call has made is handed back. -/
def RetStrs (B : Nat) (ss : List ByteArray) (e : Ending) (w : World) : Prop :=
  ∃ g cap, e = .returned (.slice (some ⟨g, 0, none⟩) ss.length cap) ∧ w.ownsRow B 9 1 (.slice (some ⟨g, 0, none⟩) ss.length cap) ss.length (strV ss)

def headS (s : ByteArray) : ByteArray := ⟨(headOf s.data.toList).toArray⟩
def lowS (s : ByteArray) : ByteArray := ⟨(s.data.toList.map lowB).toArray⟩
def upS (s : ByteArray) : ByteArray := ⟨(s.data.toList.map upB).toArray⟩
/-- The forms of a word, as the program finds them. -/
def formsOf (s : ByteArray) : List ByteArray :=
  if kindOf s.data.toList = 3 then addS (addS [s] (headS s)) (lowS s) else if kindOf s.data.toList = 2 then addS [s] (lowS s) else [s]
theorem addS_len (ss : List ByteArray) (f : ByteArray) : (addS ss f).length ≤ ss.length + 1 := by unfold addS; split <;> simp

set_option maxHeartbeats 2000000 in
theorem Forms_any (s : ByteArray) (w : World) (hs : s.size ≤ 140737488355328) :
    Calls Tryz.prog 37 #[.string s] w fun e w' => RetStrs w.heap.size (formsOf s) e w' ∧ Below w.heap.size w w' := by
  have hm : s.size ≤ maxLen := by unfold maxLen; omega
  have HS := Lib.hid (out_start w s)
  have hfin : ∀ (ss : List ByteArray) (wa wb : World), FormsAt w.heap.size (w.heap.size + 1) ss wb → Below w.heap.size w wb → formsOf s = ss →
      ∃ g cap, wb.cell? ⟨w.heap.size + 1, 0, none⟩ = some (.slice (some ⟨g, 0, none⟩) ss.length cap) ∧ Hid (RetStrs w.heap.size (formsOf s) (.returned (.slice (some ⟨g, 0, none⟩) ss.length cap)) wb ∧ Below w.heap.size w wb) := by
    rintro ss wa wb ⟨hB, g, cap, hb, hown⟩ hbl rfl
    exact ⟨g, cap, by rw [Lib.cell_of_heap hb]; rfl, ⟨g, cap, rfl, hown⟩, hbl⟩
  have HFin := Lib.hid hfin
  clear hfin
  have HB0 := Lib.hid (((Below.refl w.heap.size w).alloc (Nat.le_refl _) (.cells #[.string s] 9)).alloc (by simp) (.cells #[.slice (some ⟨w.heap.size, 0, none⟩) 1 1] 22))
  by_cases h3 : kindOf s.data.toList = 3
  · have hf := Lib.hid (show formsOf s = addS (addS [s] (headS s)) (lowS s) by rw [formsOf, if_pos h3])
    have t3 : (kindOf s.data.toList == 3) = true := by simp [h3]
    clear h3
    go_enter Tryz.func37, Tryz.ntmps37
    go_wp2_with (first
      | (go_at_call 59; refine (of_any _ _ hm).mono ?_; rintro e w' ⟨rfl, rfl⟩)
      | (go_at_call 60; refine (Headed_any _ _ hs).mono ?_; rintro e w1 ⟨rfl, hb1⟩; have HB1 := Lib.hid hb1; have hz1 := hb1.size; clear hb1))
    simp only [World.size_alloc] at hz1
    have ho1 := Lib.hid ((HS.out.keep HB1.out).keep (below_alloc w1 (.cells #[.string (headS s)] 9)))
    have hb1 := Lib.hid ((HB0.out.trans (HB1.out.mono (by simp; omega))).alloc (by omega) (.cells #[.string (headS s)] 9))
    refine (forms1_any w.heap.size (w.heap.size + 1) w1.heap.size [s] (headS s) _ ho1.out (by go_simp) (by simp) (by simp; omega)).mono ?_
    rintro e w2 ⟨rfl, ho2, hb2⟩
    have HO2 := Lib.hid ho2
    have HB2 := Lib.hid (hb1.out.trans hb2)
    have hz2 := HB2.out.size
    have hlt2 := ho2.lt
    clear ho2 hb2
    go_wp2_with fail
    refine (Lower_any _ _ hs).mono ?_
    rintro e w3 ⟨rfl, hb3⟩
    have HB3 := Lib.hid hb3
    have hz3 := hb3.size
    clear hb3
    have ho3 := Lib.hid ((HO2.out.keep HB3.out).keep (below_alloc w3 (.cells #[.string (lowS s)] 9)))
    have hb3 := Lib.hid ((HB2.out.trans (HB3.out.mono (by omega))).alloc (by omega) (.cells #[.string (lowS s)] 9))
    go_wp2_with fail
    refine (forms1_any w.heap.size (w.heap.size + 1) w3.heap.size (addS [s] (headS s)) (lowS s) _ ho3.out (by go_simp) (by have := addS_len [s] (headS s); simp at this; omega) (by simp; omega)).mono ?_
    rintro e w4 ⟨rfl, ho4, hb4⟩
    obtain ⟨g, cap, hc, HR⟩ := HFin.out _ w w4 ho4 (hb3.out.trans hb4) hf.out
    clear ho4 hb4
    go_wp2_with fail
    go_ret
    exact HR.out
  · by_cases h2 : kindOf s.data.toList = 2
    · have hf := Lib.hid (show formsOf s = addS [s] (lowS s) by rw [formsOf, if_neg h3, if_pos h2])
      have t3 : (kindOf s.data.toList == 3) = false := by simp [h3]
      have t2 : (kindOf s.data.toList == 2) = true := by simp [h2]
      clear h3 h2
      go_enter Tryz.func37, Tryz.ntmps37
      go_wp2_with (first
        | (go_at_call 59; refine (of_any _ _ hm).mono ?_; rintro e w' ⟨rfl, rfl⟩)
        | (go_at_call 61; refine (Lower_any _ _ hs).mono ?_; rintro e w1 ⟨rfl, hb1⟩; have HB1 := Lib.hid hb1; have hz1 := hb1.size; clear hb1))
      simp only [World.size_alloc] at hz1
      have ho1 := Lib.hid ((HS.out.keep HB1.out).keep (below_alloc w1 (.cells #[.string (lowS s)] 9)))
      have hb1 := Lib.hid ((HB0.out.trans (HB1.out.mono (by simp; omega))).alloc (by omega) (.cells #[.string (lowS s)] 9))
      refine (forms1_any w.heap.size (w.heap.size + 1) w1.heap.size [s] (lowS s) _ ho1.out (by go_simp) (by simp) (by simp; omega)).mono ?_
      rintro e w2 ⟨rfl, ho2, hb2⟩
      obtain ⟨g, cap, hc, HR⟩ := HFin.out _ w w2 ho2 (hb1.out.trans hb2) hf.out
      clear ho2 hb2
      go_wp2_with fail
      go_ret
      exact HR.out
    · have hf := Lib.hid (show formsOf s = [s] by rw [formsOf, if_neg h3, if_neg h2])
      have t3 : (kindOf s.data.toList == 3) = false := by simp [h3]
      have t2 : (kindOf s.data.toList == 2) = false := by simp [h2]
      clear h3 h2
      go_enter Tryz.func37, Tryz.ntmps37
      go_wp2_with (first
        | (go_at_call 59; refine (of_any _ _ hm).mono ?_; rintro e w' ⟨rfl, rfl⟩))
      go_ret
      exact ⟨⟨w.heap.size, 1, by rw [hf.out]; rfl, by rw [hf.out]; exact (own_laid w 9 1 1 #[.string s] rfl (by unfold maxLen; omega)).alloc _⟩, HB0.out⟩
end Go.Proofs.YthfndmpigpphoaaGreat
