/-
  May a text stand as a field? The program's and the document's.
-/
import Derived.Test.YtbhfkhfnljddhaaDoorRows
import Derived.Test.YtbhfkhfnljddhaaDoorSA2
import Derived.Test.YtbhfkhfnljddhaaDoorSH0
import Derived.Test.YtbhfkhfnljddhaaDoorSplit2
namespace Go.Proofs.YtbhfkhfnljddhaaDoor
open Go.RowKit

theorem HasPrefix_is (s t : ByteArray) (w : World) (b : Bool) (h : Lib.hasPrefix s.data.toList t.data.toList = b) :
    Calls Tryd.prog 54 #[.string s, .string t] w fun e w' => e = .returned (.bool b) ∧ w = w' :=
  (Tryd.strings_HasPrefix _ _ w).mono fun e w' ⟨h1, h2⟩ => ⟨h1.trans (by rw [← h]), h2.symm⟩

theorem fit_sharp (f : ByteArray) (b : Bool) (hp : 0 < f.size) (h : sharp f = true) : fitS f b = false := by
  unfold fitS; rw [h]; simp
theorem fit_blank (f : ByteArray) (b : Bool) (h : f.data.toList.any blanks.contains = true) : fitS f b = false := by
  unfold fitS; rw [h]; simp
theorem fit_rest (f : ByteArray) (b : Bool) (hp : 0 < f.size) (h1 : sharp f = false) (h : f.data.toList.any blanks.contains = false) : fitS f b = !(b && Lib.hasPrefix f.data.toList [239, 187, 191]) := by
  have he : f.data.toList.isEmpty = false := by rw [← Lib.toList_data]; exact notEmpty f hp
  unfold fitS; rw [he, h1, h]; simp

set_option maxHeartbeats 4000000 in
set_option maxRecDepth 100000 in
theorem fit_any (f : ByteArray) (b : Bool) (w : World) (hs : f.size ≤ 1048576) :
    Calls Tryd.prog 42 #[.string f, .bool b] w fun e w' => e = .returned (.bool (fitS f b)) ∧ Below w.heap.size w w' := by
  by_cases h0 : f.size = 0
  · have he := isEmpty1 f h0
    have HF := Lib.hid (fit_empty f b h0)
    go_enter Tryd.func42, Tryd.ntmps42
    go_wp2_with fail
    go_ret
    exact ⟨by rw [HF.out]; rfl, Below.refl _ _⟩
  · have hp : 0 < f.size := by omega
    have he := notEmpty f hp
    have hsh := sharp_at f hp
    by_cases h1 : sharp f = true
    · rw [h1] at hsh
      have q := hsh.symm
      have HF := Lib.hid (fit_sharp f b hp h1)
      clear hsh h1
      go_enter Tryd.func42, Tryd.ntmps42
      go_wp2_with fail
      go_ret
      exact ⟨by rw [HF.out]; rfl, Below.refl _ _⟩
    · have h1' : sharp f = false := by simpa using h1
      rw [h1'] at hsh
      have q := hsh.symm
      clear hsh h1
      cases hb : f.data.toList.any blanks.contains
      · have HR := Lib.hid (fit_rest f b hp h1' hb)
        have HB := Lib.hid hb
        clear h1' hb
        cases hm : Lib.hasPrefix f.data.toList [239, 187, 191]
        all_goals
          have HM := Lib.hid hm
          cases b
          all_goals
            have HF := Lib.hid (HR.out.trans (by rw [hm]))
            clear hm
            go_enter Tryd.func42, Tryd.ntmps42
            go_wp2_with first
              | (go_at_call 53; refine (ContainsAny_is f _ _ hs HB.out).mono ?_; rintro e w1 ⟨rfl, hb1⟩; have HBl := Lib.hid hb1; clear hb1)
              | (go_at_call 54; refine (HasPrefix_is f ⟨#[239, 187, 191]⟩ _ _ HM.out).mono ?_; rintro e w1 ⟨rfl, rfl⟩)
            go_ret
            exact ⟨by rw [HF.out]; rfl, HBl.out⟩
      · have HF := Lib.hid (fit_blank f b hb)
        have HB := Lib.hid hb
        clear h1' hb
        go_enter Tryd.func42, Tryd.ntmps42
        go_wp2_with first
          | (go_at_call 53; refine (ContainsAny_is f _ _ hs HB.out).mono ?_; rintro e w1 ⟨rfl, hb1⟩; have HBl := Lib.hid hb1; clear hb1)
        go_ret
        exact ⟨by rw [HF.out]; rfl, HBl.out⟩

/-- A byte that is a blank, in the walk's spelling. -/
theorem blank_at (b : UInt8) (h : blanks.contains b = true) : (((b.toNat : Int) == 32) = true) ∨ ((((b.toNat : Int) == 32) = false) ∧ (((b.toNat : Int) == 9) = true)) ∨ ((((b.toNat : Int) == 32) = false) ∧ (((b.toNat : Int) == 9) = false) ∧ (((b.toNat : Int) == 10) = true)) ∨ ((((b.toNat : Int) == 32) = false) ∧ (((b.toNat : Int) == 9) = false) ∧ (((b.toNat : Int) == 10) = false) ∧ (((b.toNat : Int) == 13) = true)) := by
  have e : ∀ n : Nat, n < 256 → ((b.toNat : Int) == (n : Int)) = (UInt8.ofNat n == b) := fun n hn => byteEq b n hn
  have e32 := e 32 (by omega); have e9 := e 9 (by omega); have e10 := e 10 (by omega); have e13 := e 13 (by omega)
  simp [blanks] at h
  rcases h with rfl | rfl | rfl | rfl <;> decide
theorem noblank_at (b : UInt8) (h : blanks.contains b = false) : (((b.toNat : Int) == 32) = false) ∧ (((b.toNat : Int) == 9) = false) ∧ (((b.toNat : Int) == 10) = false) ∧ (((b.toNat : Int) == 13) = false) := by
  simp [blanks] at h
  obtain ⟨h1, h2, h3, h4⟩ := h
  have k : ∀ n : Nat, n < 256 → b ≠ UInt8.ofNat n → ((b.toNat : Int) == (n : Int)) = false := fun n hn hne => by
    rw [beq_eq_false_iff_ne]
    intro e
    apply hne
    have : b.toNat = n := by omega
    rw [← this]; simp
  exact ⟨k 32 (by omega) h1, k 9 (by omega) h2, k 10 (by omega) h3, k 13 (by omega) h4⟩
theorem any_snoc (f : ByteArray) (k : Nat) (h : k < f.size) (ha : (f.data.toList.take k).any blanks.contains = false) (hb : blanks.contains f[k] = false) : (f.data.toList.take (k + 1)).any blanks.contains = false := by
  rw [List.take_succ_eq_append_getElem (by rw [len_toList]; exact h), List.any_append, ha]
  have e : f.data.toList[k]'(by rw [len_toList]; exact h) = f[k] := rfl
  rw [e]
  simp only [List.any_cons, List.any_nil, hb, Bool.or_false]
theorem any_hit (f : ByteArray) (k : Nat) (h : k < f.size) (hb : blanks.contains f[k] = true) : f.data.toList.any blanks.contains = true := by
  rw [List.any_eq_true]
  exact ⟨f[k], Array.getElem_mem_toList _, hb⟩

set_option maxHeartbeats 4000000 in
set_option maxRecDepth 100000 in
/-- The document's. -/
theorem rfit_any (f : ByteArray) (b : Bool) (w : World) (hs : f.size ≤ 1048576) :
    Calls Tryd.prog 47 #[.string f, .bool b] w fun e w' => e = .returned (.bool (fitS f b)) ∧ w = w' := by
  by_cases h0 : f.size = 0
  · have HF := Lib.hid (fit_empty f b h0)
    go_enter Tryd.func47, Tryd.ntmps47
    go_wp2_with fail
    go_ret
    exact ⟨by rw [HF.out]; rfl, rfl⟩
  · have hp : 0 < f.size := by omega
    have q0 : ((f.size : Int) == 0) = false := by rw [beq_eq_false_iff_ne]; omega
    have hsh := sharp_at f hp
    by_cases h1 : sharp f = true
    · rw [h1] at hsh
      have q := hsh.symm
      have HF := Lib.hid (fit_sharp f b hp h1)
      clear hsh h1
      go_enter Tryd.func47, Tryd.ntmps47
      go_wp2_with fail
      go_ret
      exact ⟨by rw [HF.out]; rfl, rfl⟩
    · have h1' : sharp f = false := by simpa using h1
      rw [h1'] at hsh
      have q := hsh.symm
      have HR := Lib.hid (fit_rest f b hp h1')
      have HB := Lib.hid (fit_blank f b)
      have HA := Lib.hid (any_hit f)
      have HS := Lib.hid (any_snoc f)
      clear hsh h1 h1'
      have hlen := len_toList f
      cases hm : (b && Lib.hasPrefix f.data.toList [239, 187, 191])
      · have HR2 : Hid (f.data.toList.any blanks.contains = false → fitS f b = true) := Lib.hid fun h => by rw [HR.out h, hm]; rfl
        have hbm : (b = true ∧ Hid (Lib.hasPrefix f.data.toList [239, 187, 191] = false)) ∨ b = false := by
          cases b
          · exact .inr rfl
          · exact .inl ⟨rfl, Lib.hid (by simpa using hm)⟩
        clear hm
        rcases hbm with ⟨rfl, HM⟩ | rfl
        all_goals
          go_enter Tryd.func47, Tryd.ntmps47
          go_wp2_with (go_at_call 28; refine (Marked_is f _ _ HM.out).mono ?_; rintro e w1 ⟨rfl, rfl⟩)
          go_loopw [5] (fun i wr => ∃ k : Nat, k ≤ f.size ∧ i = .int .i64 k ∧ wr = w ∧ Hid ((f.data.toList.take k).any blanks.contains = false)) (fun i _ => f.size - (intOf i).toNat)
          case atStart => exact ⟨0, Nat.zero_le _, rfl, rfl, Lib.hid rfl⟩
          case round =>
            obtain ⟨k, hk, rfl, rfl, HK⟩ := hrel
            by_cases hlt : k < f.size
            · cases hbl : blanks.contains f[k]
              · obtain ⟨q1, q2, q3, q4⟩ := noblank_at f[k] hbl
                have HK2 := Lib.hid (HS.out k hlt HK.out hbl)
                clear hbl
                go_wp2_with fail
                go_roundw
                case rel => exact ⟨k + 1, hlt, by go_num, (by first | rfl | trivial), HK2⟩
                case measure => simp [intOf]; omega
              · have HF := Lib.hid (HB.out (HA.out k hlt hbl))
                have hcs := blank_at f[k] hbl
                clear hbl
                rcases hcs with q1 | ⟨q1, q2⟩ | ⟨q1, q2, q3⟩ | ⟨q1, q2, q3, q4⟩
                all_goals
                  go_wp2_with fail
                  go_ret
                  exact ⟨by rw [HF.out]; rfl, rfl⟩
            · obtain rfl : k = f.size := by omega
              have HF : Hid (fitS f _ = true) := Lib.hid (HR2.out (by
                have := HK.out
                rwa [← len_toList, List.take_length] at this))
              go_wp2_with fail
              go_ret
              exact ⟨by rw [HF.out]; rfl, rfl⟩
      · have HF : Hid (fitS f b = false) := Lib.hid (by
          cases h2 : f.data.toList.any blanks.contains
          · rw [HR.out h2, hm]; rfl
          · exact HB.out h2)
        obtain ⟨rfl, hm2⟩ := (Bool.and_eq_true _ _).mp hm
        have HM := Lib.hid hm2
        clear hm hm2
        go_enter Tryd.func47, Tryd.ntmps47
        go_wp2_with (go_at_call 28; refine (Marked_is f _ _ HM.out).mono ?_; rintro e w1 ⟨rfl, rfl⟩)
        go_ret
        exact ⟨by rw [HF.out]; rfl, rfl⟩
end Go.Proofs.YtbhfkhfnljddhaaDoor
