/-
  Words turned twice; what turning says of a word's kind.
-/
import Derived.Test.YtdleoankkcemfaaRows
import Derived.Test.YtdleoankkcemfaaCases8
namespace Go.Proofs.Ytdleoankkcemfaa
open Go.RowKit

theorem all_bytes (P : UInt8 → Bool) (h : (List.range 256).all (fun n => P (UInt8.ofNat n)) = true) (b : UInt8) : P b = true := by
  have := List.all_eq_true.1 h b.toNat (List.mem_range.2 b.toNat_lt)
  simpa using this
theorem low_low (b : UInt8) : lowB (lowB b) = lowB b := by have := all_bytes (fun b => lowB (lowB b) == lowB b) (by kernel_rfl) b; simpa using this
theorem low_up (b : UInt8) : lowB (upB b) = lowB b := by have := all_bytes (fun b => lowB (upB b) == lowB b) (by kernel_rfl) b; simpa using this
theorem up_low (b : UInt8) : upB (lowB b) = upB b := by have := all_bytes (fun b => upB (lowB b) == upB b) (by kernel_rfl) b; simpa using this
theorem up_up (b : UInt8) : upB (upB b) = upB b := by have := all_bytes (fun b => upB (upB b) == upB b) (by kernel_rfl) b; simpa using this
theorem low_iff (b : UInt8) : lowB b = b ↔ capB b = false := by have := all_bytes (fun b => (lowB b == b) == !capB b) (by kernel_rfl) b; simp at this; cases h : capB b <;> simp_all
theorem up_iff (b : UInt8) : upB b = b ↔ smallB b = false := by have := all_bytes (fun b => (upB b == b) == !smallB b) (by kernel_rfl) b; simp at this; cases h : smallB b <;> simp_all

theorem lowS_low (s : ByteArray) : lowS (lowS s) = lowS s := by simp [lowS, Function.comp_def, low_low]
theorem lowS_up (s : ByteArray) : lowS (upS s) = lowS s := by simp [lowS, upS, Function.comp_def, low_up]
theorem upS_low (s : ByteArray) : upS (lowS s) = upS s := by simp [lowS, upS, Function.comp_def, up_low]
theorem upS_up (s : ByteArray) : upS (upS s) = upS s := by simp [upS, Function.comp_def, up_up]
theorem headS_head (s : ByteArray) : headS (headS s) = headS s := by
  unfold headS
  cases s.data.toList with
  | nil => rfl
  | cons b l => simp [headOf, Function.comp_def, low_low, up_up]
theorem lowS_head (s : ByteArray) : lowS (headS s) = lowS s := by
  unfold headS lowS
  cases s.data.toList with
  | nil => rfl
  | cons b l => simp [headOf, Function.comp_def, low_low, low_up]
theorem lowS_size (s : ByteArray) : (lowS s).size = s.size := by
  show ((s.data.toList.map lowB).toArray).size = s.size
  rw [List.size_toArray, List.length_map, len_toList]
theorem upS_size (s : ByteArray) : (upS s).size = s.size := by
  show ((s.data.toList.map upB).toArray).size = s.size
  rw [List.size_toArray, List.length_map, len_toList]
theorem headS_size (s : ByteArray) : (headS s).size = s.size := by
  rw [← len_toList s]
  unfold headS
  cases s.data.toList with
  | nil => rfl
  | cons b l => simp [headOf, ByteArray.size]
theorem map_id_iff (f : UInt8 → UInt8) (p : UInt8 → Bool) (h : ∀ b, f b = b ↔ p b = false) (l : List UInt8) : l.map f = l ↔ cnt p l = 0 := by
  unfold cnt
  induction l with
  | nil => simp
  | cons a l ih =>
    rw [List.map_cons, List.cons.injEq, ih, h, List.countP_cons]
    cases p a <;> simp
theorem lowS_iff (s : ByteArray) : (lowS s).toList = s.toList ↔ cnt capB s.data.toList = 0 := by
  rw [← map_id_iff lowB capB low_iff, Lib.toList_data, Lib.toList_data]; rfl
theorem upS_iff (s : ByteArray) : (upS s).toList = s.toList ↔ cnt smallB s.data.toList = 0 := by
  rw [← map_id_iff upB smallB up_iff, Lib.toList_data, Lib.toList_data]; rfl
theorem headS_iff (s : ByteArray) : (headS s).toList = s.toList ↔ (s.data.toList.head?.map smallB ≠ some true ∧ cnt capB s.data.toList.tail = 0) := by
  rw [Lib.toList_data, Lib.toList_data]
  show headOf s.data.toList = s.data.toList ↔ _
  cases s.data.toList with
  | nil => simp [headOf, cnt]
  | cons b l =>
    rw [headOf, List.cons.injEq, map_id_iff lowB capB low_iff, up_iff]
    simp

/-- What the kinds say. -/
theorem turn_kinds (s : ByteArray) :
    (kindOf s.data.toList = 0 → (lowS s).toList = s.toList ∧ (upS s).toList = s.toList) ∧ (kindOf s.data.toList = 1 → (lowS s).toList = s.toList) ∧
    (kindOf s.data.toList = 2 → (headS s).toList = s.toList) ∧ (kindOf s.data.toList = 3 → (upS s).toList = s.toList) ∧
    (kindOf s.data.toList = 4 → (lowS s).toList ≠ s.toList ∧ (upS s).toList ≠ s.toList ∧ (headS s).toList ≠ s.toList) ∧ 0 ≤ kindOf s.data.toList ∧ kindOf s.data.toList ≤ 4 := by
  simp only [lowS_iff, upS_iff, headS_iff, ne_eq]
  cases s.data.toList with
  | nil => simp [kindOf, cnt]
  | cons b l =>
    have h3 := not_both b
    simp only [kindOf, cnt, List.countP_cons, List.head?_cons, List.tail_cons, Option.map_some, Option.some.injEq]
    generalize hc : List.countP capB l = c
    generalize hd : List.countP smallB l = d
    clear hc hd
    cases q1 : smallB b <;> cases q2 : capB b <;> simp_all <;> (repeat' split) <;> simp_all <;> omega

theorem Lower_s (s : ByteArray) (w : World) (hs : s.size ≤ 140737488355328) :
    Calls Try.prog 15 #[.string s] w fun e w' => e = .returned (.string (lowS s)) ∧ Below w.heap.size w w' := Lower_any s w hs
theorem Upper_s (s : ByteArray) (w : World) (hs : s.size ≤ 140737488355328) :
    Calls Try.prog 17 #[.string s] w fun e w' => e = .returned (.string (upS s)) ∧ Below w.heap.size w w' := Upper_any s w hs
theorem Headed_s (s : ByteArray) (w : World) (hs : s.size ≤ 140737488355328) :
    Calls Try.prog 19 #[.string s] w fun e w' => e = .returned (.string (headS s)) ∧ Below w.heap.size w w' := Headed_any s w hs

set_option maxHeartbeats 4000000 in
theorem casesTurn_walk (s : ByteArray) (w : World) (hs : s.size ≤ 140737488355328) :
    Calls Try.prog 6 #[.string s] w fun e w' => e = .returned (.bool true) ∧ Below w.heap.size w w' := by
  have hm : s.size ≤ maxLen := by unfold maxLen; omega
  obtain ⟨k0, k1, k2, k3, k4, kl, kh⟩ := turn_kinds s
  have HB := Lib.hid (Below.refl w.heap.size w)
  have hl : (lowS s).size ≤ 140737488355328 := by rw [lowS_size]; exact hs
  have hu : (upS s).size ≤ 140737488355328 := by rw [upS_size]; exact hs
  have hh : (headS s).size ≤ 140737488355328 := by rw [headS_size]; exact hs
  have L1 : (((lowS s).size : Int) != (s.size : Int)) = false := by rw [lowS_size]; simp
  have L2 : (((upS s).size : Int) != (s.size : Int)) = false := by rw [upS_size]; simp
  have E1 := lowS_low s; have E2 := lowS_up s; have E3 := upS_low s; have E4 := upS_up s; have E5 := headS_head s; have E6 := lowS_head s
  have b1 : ∀ x y : List UInt8, x = y → (x == y) = true := fun x y h => by rw [h]; simp
  have b0 : ∀ x y : List UInt8, x ≠ y → (x == y) = false := fun x y h => by simpa using h
  have B1 := Lib.hid b1; have B0 := Lib.hid b0
  clear b1 b0
  rcases (show kindOf s.data.toList = 0 ∨ kindOf s.data.toList = 1 ∨ kindOf s.data.toList = 2 ∨ kindOf s.data.toList = 3 ∨ kindOf s.data.toList = 4 by omega) with h | h | h | h | h
  case inl =>
    have H := Lib.hid h
    have q1 := B1.out _ _ (k0 h).1; have q2 := B1.out _ _ (k0 h).2
    clear k0 k1 k2 k3 k4 kl kh h
    go_enter Try.func6, Try.ntmps6
    go_wp2_with (first
      | (go_at_call 12; refine (wakes22_any _).mono ?_; rintro e w1 ⟨rfl, hb1⟩; have HB' := Lib.hid (HB.out.trans (hb1.mono HB.out.size)); clear hb1 HB; have HB := HB'; clear HB')
      | (go_at_call 15; refine (Lower_s _ _ (by assumption)).mono ?_; rintro e w1 ⟨rfl, hb1⟩; have HB' := Lib.hid (HB.out.trans (hb1.mono HB.out.size)); clear hb1 HB; have HB := HB'; clear HB')
      | (go_at_call 17; refine (Upper_s _ _ (by assumption)).mono ?_; rintro e w1 ⟨rfl, hb1⟩; have HB' := Lib.hid (HB.out.trans (hb1.mono HB.out.size)); clear hb1 HB; have HB := HB'; clear HB')
      | (go_at_call 19; refine (Headed_s _ _ (by assumption)).mono ?_; rintro e w1 ⟨rfl, hb1⟩; have HB' := Lib.hid (HB.out.trans (hb1.mono HB.out.size)); clear hb1 HB; have HB := HB'; clear HB')
      | (go_at_call 13; refine (of_any _ _ hm).mono ?_; rw [H.out]; rintro e w' ⟨rfl, rfl⟩))
    go_ret
    exact ⟨rfl, HB.out⟩
  case inr.inl =>
    have H := Lib.hid h
    have q1 := B1.out _ _ (k1 h)
    clear k0 k1 k2 k3 k4 kl kh h
    go_enter Try.func6, Try.ntmps6
    go_wp2_with (first
      | (go_at_call 12; refine (wakes22_any _).mono ?_; rintro e w1 ⟨rfl, hb1⟩; have HB' := Lib.hid (HB.out.trans (hb1.mono HB.out.size)); clear hb1 HB; have HB := HB'; clear HB')
      | (go_at_call 15; refine (Lower_s _ _ (by assumption)).mono ?_; rintro e w1 ⟨rfl, hb1⟩; have HB' := Lib.hid (HB.out.trans (hb1.mono HB.out.size)); clear hb1 HB; have HB := HB'; clear HB')
      | (go_at_call 17; refine (Upper_s _ _ (by assumption)).mono ?_; rintro e w1 ⟨rfl, hb1⟩; have HB' := Lib.hid (HB.out.trans (hb1.mono HB.out.size)); clear hb1 HB; have HB := HB'; clear HB')
      | (go_at_call 19; refine (Headed_s _ _ (by assumption)).mono ?_; rintro e w1 ⟨rfl, hb1⟩; have HB' := Lib.hid (HB.out.trans (hb1.mono HB.out.size)); clear hb1 HB; have HB := HB'; clear HB')
      | (go_at_call 13; refine (of_any _ _ hm).mono ?_; rw [H.out]; rintro e w' ⟨rfl, rfl⟩))
    go_ret
    exact ⟨rfl, HB.out⟩
  case inr.inr.inl =>
    have H := Lib.hid h
    have q3 := B1.out _ _ (k2 h)
    clear k0 k1 k2 k3 k4 kl kh h
    cases q1 : ((lowS s).toList == s.toList) <;> cases q2 : ((upS s).toList == s.toList)
    all_goals
      go_enter Try.func6, Try.ntmps6
      go_wp2_with (first
        | (go_at_call 12; refine (wakes22_any _).mono ?_; rintro e w1 ⟨rfl, hb1⟩; have HB' := Lib.hid (HB.out.trans (hb1.mono HB.out.size)); clear hb1 HB; have HB := HB'; clear HB')
        | (go_at_call 15; refine (Lower_s _ _ (by assumption)).mono ?_; rintro e w1 ⟨rfl, hb1⟩; have HB' := Lib.hid (HB.out.trans (hb1.mono HB.out.size)); clear hb1 HB; have HB := HB'; clear HB')
        | (go_at_call 17; refine (Upper_s _ _ (by assumption)).mono ?_; rintro e w1 ⟨rfl, hb1⟩; have HB' := Lib.hid (HB.out.trans (hb1.mono HB.out.size)); clear hb1 HB; have HB := HB'; clear HB')
        | (go_at_call 19; refine (Headed_s _ _ (by assumption)).mono ?_; rintro e w1 ⟨rfl, hb1⟩; have HB' := Lib.hid (HB.out.trans (hb1.mono HB.out.size)); clear hb1 HB; have HB := HB'; clear HB')
        | (go_at_call 13; refine (of_any _ _ hm).mono ?_; rw [H.out]; rintro e w' ⟨rfl, rfl⟩))
      go_ret
      exact ⟨rfl, HB.out⟩
  case inr.inr.inr.inl =>
    have H := Lib.hid h
    have q2 := B1.out _ _ (k3 h)
    clear k0 k1 k2 k3 k4 kl kh h
    cases q1 : ((lowS s).toList == s.toList)
    all_goals
      go_enter Try.func6, Try.ntmps6
      go_wp2_with (first
        | (go_at_call 12; refine (wakes22_any _).mono ?_; rintro e w1 ⟨rfl, hb1⟩; have HB' := Lib.hid (HB.out.trans (hb1.mono HB.out.size)); clear hb1 HB; have HB := HB'; clear HB')
        | (go_at_call 15; refine (Lower_s _ _ (by assumption)).mono ?_; rintro e w1 ⟨rfl, hb1⟩; have HB' := Lib.hid (HB.out.trans (hb1.mono HB.out.size)); clear hb1 HB; have HB := HB'; clear HB')
        | (go_at_call 17; refine (Upper_s _ _ (by assumption)).mono ?_; rintro e w1 ⟨rfl, hb1⟩; have HB' := Lib.hid (HB.out.trans (hb1.mono HB.out.size)); clear hb1 HB; have HB := HB'; clear HB')
        | (go_at_call 19; refine (Headed_s _ _ (by assumption)).mono ?_; rintro e w1 ⟨rfl, hb1⟩; have HB' := Lib.hid (HB.out.trans (hb1.mono HB.out.size)); clear hb1 HB; have HB := HB'; clear HB')
        | (go_at_call 13; refine (of_any _ _ hm).mono ?_; rw [H.out]; rintro e w' ⟨rfl, rfl⟩))
      go_ret
      exact ⟨rfl, HB.out⟩
  case inr.inr.inr.inr =>
    have H := Lib.hid h
    have q1 := B0.out _ _ (k4 h).1; have q2 := B0.out _ _ (k4 h).2.1; have q3 := B0.out _ _ (k4 h).2.2
    clear k0 k1 k2 k3 k4 kl kh h
    go_enter Try.func6, Try.ntmps6
    go_wp2_with (first
      | (go_at_call 12; refine (wakes22_any _).mono ?_; rintro e w1 ⟨rfl, hb1⟩; have HB' := Lib.hid (HB.out.trans (hb1.mono HB.out.size)); clear hb1 HB; have HB := HB'; clear HB')
      | (go_at_call 15; refine (Lower_s _ _ (by assumption)).mono ?_; rintro e w1 ⟨rfl, hb1⟩; have HB' := Lib.hid (HB.out.trans (hb1.mono HB.out.size)); clear hb1 HB; have HB := HB'; clear HB')
      | (go_at_call 17; refine (Upper_s _ _ (by assumption)).mono ?_; rintro e w1 ⟨rfl, hb1⟩; have HB' := Lib.hid (HB.out.trans (hb1.mono HB.out.size)); clear hb1 HB; have HB := HB'; clear HB')
      | (go_at_call 19; refine (Headed_s _ _ (by assumption)).mono ?_; rintro e w1 ⟨rfl, hb1⟩; have HB' := Lib.hid (HB.out.trans (hb1.mono HB.out.size)); clear hb1 HB; have HB := HB'; clear HB')
      | (go_at_call 13; refine (of_any _ _ hm).mono ?_; rw [H.out]; rintro e w' ⟨rfl, rfl⟩))
    go_ret
    exact ⟨rfl, HB.out⟩
end Go.Proofs.Ytdleoankkcemfaa
