/-
  The reference's Value; known; One on both sides.
-/
import Derived.Test.YtgcnfebifopdnaaDoorRows
import Derived.Test.YtgcnfebifopdnaaDoorFR8
namespace Go.Proofs.YtgcnfebifopdnaaDoor
open Go.RowKit

theorem numErr_cases (l : List UInt8) (m : Int) : numErr l m = 0 ∨ (numErr l m = 13 ∧ numVal l m = 0) := by
  unfold numErr numVal
  split
  · exact .inl rfl
  · exact .inr ⟨rfl, rfl⟩

set_option maxHeartbeats 2000000 in
set_option maxRecDepth 100000 in
theorem so_Value (kind : Int) (s : ByteArray) (w : World) (hk : kind = 1 ∨ kind = 2 ∨ kind = 3) (hs : s.size ≤ maxLen) :
    Calls Tryd.prog 38 #[.int .i64 kind, .string s] w fun e w' => e = .returned (.int .i64 (numF kind s.data.toList)) ∧ ∃ n, w' = w.drewN n := by
  have hs' := hs
  unfold maxLen at hs'
  rcases hk with rfl | rfl | rfl
  · by_cases h1 : s.size = 1
    · have hlt : 0 < s.size := by omega
      have hR := Lib.hid (show numF 1 s.data.toList = if signB (s[0]'hlt) = true then ((s[0]'hlt).toNat : Int) else 0 by rw [data1 s h1, numF_1])
      have hlen : ((s.size : Int) == 1) = true := by rw [h1]; rfl
      have hlen2 : ((s.size : Int) != 1) = false := by rw [h1]; rfl
      have hb := s[0].toNat_lt
      clear h1
      cases hq : signB s[0]
      all_goals
        have HQ := Lib.hid hq
        clear hq
        go_enter Tryd.func38, Tryd.ntmps38
        go_wp2_with (go_at_call 53; refine (so_rsign _ _).mono ?_; rw [HQ.out]; rintro e w1 ⟨rfl, rfl⟩)
        go_ret
        exact ⟨by rw [hR.out, HQ.out]; rfl, 0, rfl⟩
    · have hR := Lib.hid (numF1_no s.data.toList (by simpa using h1))
      have hlen : ((s.size : Int) == 1) = false := by rw [beq_eq_false_iff_ne]; omega
      have hlen2 : ((s.size : Int) != 1) = true := by rw [bne_iff_ne]; omega
      go_enter Tryd.func38, Tryd.ntmps38
      go_wp2_with fail
      go_ret
      exact ⟨by rw [hR.out]; rfl, 0, rfl⟩
  · by_cases h1 : s.size = 2
    · have hlt : 0 < s.size := by omega
      have hlt1 : 1 < s.size := by omega
      have hR := Lib.hid (show numF 2 s.data.toList = if signB (s[0]'hlt) = true ∧ signB (s[1]'hlt1) = true then ((s[0]'hlt).toNat : Int) * (256 : Int) + ((s[1]'hlt1).toNat : Int) else 0 by rw [data2 s h1, numF_2])
      have hlen : ((s.size : Int) == 2) = true := by rw [h1]; rfl
      have hlen2 : ((s.size : Int) != 2) = false := by rw [h1]; rfl
      have ha := s[0].toNat_lt
      have hb := s[1].toNat_lt
      clear h1
      cases hq : signB s[0]
      all_goals
        have HQ := Lib.hid hq
        clear hq
        cases hq2 : signB s[1]
        all_goals
          have HQ2 := Lib.hid hq2
          clear hq2
          go_enter Tryd.func38, Tryd.ntmps38
          go_wp2_with (go_at_call 53; refine (so_rsign _ _).mono ?_; (first | rw [HQ.out] | rw [HQ2.out]); rintro e w1 ⟨rfl, rfl⟩)
          try go_quiet (fail)
          try go_wp2_with fail
          go_ret
          first
            | exact ⟨by rw [hR.out, HQ.out, HQ2.out]; rfl, 0, rfl⟩
            | exact ⟨by rw [hR.out, HQ.out, HQ2.out]; simp; omega, _, rfl⟩
    · have hR := Lib.hid (numF2_no s.data.toList (by simpa using h1))
      have hlen : ((s.size : Int) == 2) = false := by rw [beq_eq_false_iff_ne]; omega
      have hlen2 : ((s.size : Int) != 2) = true := by rw [bne_iff_ne]; omega
      go_enter Tryd.func38, Tryd.ntmps38
      go_wp2_with fail
      go_ret
      exact ⟨by rw [hR.out]; rfl, 0, rfl⟩
  · have hR := Lib.hid (numF_3 s.data.toList)
    have hc := numErr_cases s.data.toList 65535
    obtain ⟨x, hx⟩ : ∃ x, numVal s.data.toList 65535 = x := ⟨_, rfl⟩
    have HX := Lib.hid hx
    obtain ⟨y, hy⟩ : ∃ y, numErr s.data.toList 65535 = y := ⟨_, rfl⟩
    have HY := Lib.hid hy
    rw [hx, hy] at hc
    clear hx hy
    rcases hc with rfl | ⟨rfl, rfl⟩
    all_goals
      go_enter Tryd.func38, Tryd.ntmps38
      go_wp2_with (go_at_call 54; refine (Number01_any s 65535 _ hs (by decide) (by decide)).mono ?_; rintro e w1 ⟨hn, rfl⟩; rw [NumRet, HX.out, HY.out] at hn; subst hn)
      go_ret
      exact ⟨by rw [hR.out, HX.out]; rfl, 0, rfl⟩

def kindOk (kind : Int) : Bool := decide (1 ≤ kind ∧ kind ≤ 3)
theorem kind_cases (kind : Int) : (kindOk kind = true ∧ (kind = 1 ∨ kind = 2 ∨ kind = 3)) ∨ (kindOk kind = false ∧ (kind < 1 ∨ 3 < kind)) := by
  unfold kindOk
  by_cases h : 1 ≤ kind ∧ kind ≤ 3
  · exact .inl ⟨decide_eq_true h, by omega⟩
  · exact .inr ⟨decide_eq_false h, by omega⟩

set_option maxHeartbeats 400000 in
theorem so_known (kind : Int) (w : World) :
    Calls Tryd.prog 34 #[.int .i64 kind] w fun e w' => e = .returned (.bool (kindOk kind)) ∧ w = w' := by
  rcases kind_cases kind with ⟨h, hk⟩ | ⟨h, hk⟩
  · rw [h]
    rcases hk with rfl | rfl | rfl
    all_goals
      go_enter Tryd.func34, Tryd.ntmps34
      go_wp2
      go_ret
      exact ⟨rfl, rfl⟩
  · rw [h]
    rcases hk with hk | hk
    · have h1 : ¬ 1 ≤ kind := by omega
      go_enter Tryd.func34, Tryd.ntmps34
      go_wp2
      go_ret
      exact ⟨rfl, rfl⟩
    · have h1 : 1 ≤ kind := by omega
      have h2 : ¬ kind ≤ 3 := by omega
      go_enter Tryd.func34, Tryd.ntmps34
      go_wp2
      go_ret
      exact ⟨rfl, rfl⟩

def oneF (kind : Int) (l : List UInt8) : Int × Int := if kindOk kind = true then (if numF kind l = 0 then (0, 31) else (numF kind l, 0)) else (0, 30)
theorem oneF_bd (kind : Int) (l : List UInt8) : 0 ≤ (oneF kind l).1 ∧ (oneF kind l).1 ≤ 65535 := by
  have := numF_bd kind l
  unfold oneF
  split
  · split
    · simp
    · exact this
  · simp

set_option maxHeartbeats 1000000 in
set_option maxRecDepth 100000 in
theorem so_One (kind : Int) (s : ByteArray) (w : World) (hs : s.size ≤ maxLen) :
    Calls Tryd.prog 15 #[.int .i64 kind, .string s] w fun e w' => e = .returned (.tuple #[.int .u16 (oneF kind s.data.toList).1, .int .i64 (oneF kind s.data.toList).2]) ∧ ∃ n, w' = w.drewN n := by
  rcases kind_cases kind with ⟨h, hk⟩ | ⟨h, hk⟩
  · have HK := Lib.hid h
    have HKK := Lib.hid hk
    clear h hk
    obtain ⟨b0, b1⟩ := numF_bd kind s.data.toList
    by_cases h0 : numF kind s.data.toList = 0
    · have hR := Lib.hid (show oneF kind s.data.toList = (0, 31) by rw [oneF, if_pos HK.out, if_pos h0])
      have H0 := Lib.hid h0
      clear h0 b0 b1
      go_enter Tryd.func15, Tryd.ntmps15
      go_wp2_with (first
        | (go_at_call 34; refine (so_known _ _).mono ?_; rw [HK.out]; rintro e w1 ⟨rfl, rfl⟩)
        | (go_at_call 36; refine (so_number kind s _ HKK.out hs).mono ?_; rw [H0.out]; rintro e w1 ⟨rfl, n, rfl⟩))
      go_ret2
      exact ⟨by rw [hR.out]; rfl, _, rfl⟩
    · have hR := Lib.hid (show oneF kind s.data.toList = (numF kind s.data.toList, 0) by rw [oneF, if_pos HK.out, if_neg h0])
      obtain ⟨x, hx⟩ : ∃ x, numF kind s.data.toList = x := ⟨_, rfl⟩
      rw [hx] at h0 b0 b1
      have HX := Lib.hid hx
      have hne : (x == 0) = false := by rw [beq_eq_false_iff_ne]; exact h0
      clear hx h0
      go_enter Tryd.func15, Tryd.ntmps15
      go_wp2_with (first
        | (go_at_call 34; refine (so_known _ _).mono ?_; rw [HK.out]; rintro e w1 ⟨rfl, rfl⟩)
        | (go_at_call 36; refine (so_number kind s _ HKK.out hs).mono ?_; rw [HX.out]; rintro e w1 ⟨rfl, n, rfl⟩))
      go_ret2
      exact ⟨by rw [hR.out, HX.out]; rfl, _, rfl⟩
  · have HK := Lib.hid h
    have hR := Lib.hid (show oneF kind s.data.toList = (0, 30) by rw [oneF, if_neg (by rw [h]; decide)])
    clear h hk
    go_enter Tryd.func15, Tryd.ntmps15
    go_wp2_with (go_at_call 34; refine (so_known _ _).mono ?_; rw [HK.out]; rintro e w1 ⟨rfl, rfl⟩)
    go_ret2
    exact ⟨by rw [hR.out]; rfl, 0, rfl⟩

set_option maxHeartbeats 1000000 in
set_option maxRecDepth 100000 in
theorem so_rOne (kind : Int) (s : ByteArray) (w : World) (hs : s.size ≤ maxLen) :
    Calls Tryd.prog 16 #[.int .i64 kind, .string s] w fun e w' => e = .returned (.tuple #[.int .i64 (oneF kind s.data.toList).1, .int .i64 (oneF kind s.data.toList).2]) ∧ ∃ n, w' = w.drewN n := by
  rcases kind_cases kind with ⟨h, hk⟩ | ⟨h, hk⟩
  · have HK := Lib.hid h
    have HKK := Lib.hid hk
    have k1 : ¬ kind < 1 := by omega
    have k2 : ¬ 3 < kind := by omega
    clear h hk
    obtain ⟨b0, b1⟩ := numF_bd kind s.data.toList
    by_cases h0 : numF kind s.data.toList = 0
    · have hR := Lib.hid (show oneF kind s.data.toList = (0, 31) by rw [oneF, if_pos HK.out, if_pos h0])
      have H0 := Lib.hid h0
      clear h0 b0 b1
      go_enter Tryd.func16, Tryd.ntmps16
      go_wp2_with (go_at_call 38; refine (so_Value kind s _ HKK.out hs).mono ?_; rw [H0.out]; rintro e w1 ⟨rfl, n, rfl⟩)
      go_ret2
      exact ⟨by rw [hR.out]; rfl, _, rfl⟩
    · have hR := Lib.hid (show oneF kind s.data.toList = (numF kind s.data.toList, 0) by rw [oneF, if_pos HK.out, if_neg h0])
      obtain ⟨x, hx⟩ : ∃ x, numF kind s.data.toList = x := ⟨_, rfl⟩
      rw [hx] at h0 b0 b1
      have HX := Lib.hid hx
      have hne : (x == 0) = false := by rw [beq_eq_false_iff_ne]; exact h0
      clear hx h0
      go_enter Tryd.func16, Tryd.ntmps16
      go_wp2_with (go_at_call 38; refine (so_Value kind s _ HKK.out hs).mono ?_; rw [HX.out]; rintro e w1 ⟨rfl, n, rfl⟩)
      go_ret2
      exact ⟨by rw [hR.out, HX.out]; rfl, _, rfl⟩
  · have hR := Lib.hid (show oneF kind s.data.toList = (0, 30) by rw [oneF, if_neg (by rw [h]; decide)])
    rcases hk with hk | hk
    · go_enter Tryd.func16, Tryd.ntmps16
      go_wp2_with fail
      go_ret2
      exact ⟨by rw [hR.out]; rfl, 0, rfl⟩
    · have k1 : ¬ kind < 1 := by omega
      go_enter Tryd.func16, Tryd.ntmps16
      go_wp2_with fail
      go_ret2
      exact ⟨by rw [hR.out]; rfl, 0, rfl⟩
end Go.Proofs.YtgcnfebifopdnaaDoor
