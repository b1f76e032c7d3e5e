/-
  The flag that a piece writes: the program's number and the reference's Value; One on both sides.
-/
import Derived.Test.YtgcnfebifopdnaaDoorRows
import Derived.Test.YtgcnfebifopdnaaDoorFP1
import Derived.Test.YtgcnfebifopdnaaDoorLines3
import Derived.Laws.BitsLemmas
import Derived.Lib.EndianBits
import Derived.BigQuiet
import Derived.Deep.QuietTactic
import Derived.Deep.RegionWith
namespace Go.Proofs.YtgcnfebifopdnaaDoor
open Go.RowKit

theorem signB_eq (b : UInt8) : signB b = (decide (32 < (b.toNat : Int)) && (decide ((b.toNat : Int) < 127) && (!((b.toNat : Int) == 47) && (!((b.toNat : Int) == 44) && !((b.toNat : Int) == 35))))) := by
  unfold signB; rw [Bool.eq_iff_iff]; simp; omega

theorem sign_cases (b : UInt8) : ∃ x : Int, x = b.toNat ∧ ((¬ 32 < x ∧ ¬ 33 ≤ x ∧ signB b = false) ∨ (32 < x ∧ 33 ≤ x ∧ ¬ x < 127 ∧ ¬ x ≤ 126 ∧ signB b = false) ∨ (32 < x ∧ 33 ≤ x ∧ x < 127 ∧ x ≤ 126 ∧ (x != 47) = false ∧ signB b = false) ∨ (32 < x ∧ 33 ≤ x ∧ x < 127 ∧ x ≤ 126 ∧ (x != 47) = true ∧ (x != 44) = false ∧ signB b = false) ∨
    (32 < x ∧ 33 ≤ x ∧ x < 127 ∧ x ≤ 126 ∧ (x != 47) = true ∧ (x != 44) = true ∧ (x != 35) = false ∧ signB b = false) ∨ (32 < x ∧ 33 ≤ x ∧ x < 127 ∧ x ≤ 126 ∧ (x != 47) = true ∧ (x != 44) = true ∧ (x != 35) = true ∧ signB b = true)) := by
  refine ⟨_, rfl, ?_⟩
  rw [signB_eq]
  generalize (b.toNat : Int) = x
  by_cases h1 : 32 < x
  · by_cases h2 : x < 127
    · by_cases h3 : x = 47
      · simp [h3]
      · by_cases h4 : x = 44
        · simp [h4]
        · by_cases h5 : x = 35
          · simp [h5]
          · simp [h1, h2, h3, h4, h5]; omega
    · simp [h1, h2]; omega
  · simp [h1]; omega

set_option maxHeartbeats 1000000 in
set_option maxRecDepth 100000 in
theorem so_sign (b : UInt8) (w : World) :
    Calls Tryd.prog 51 #[.int .u8 b.toNat] w fun e w' => e = .returned (.bool (signB b)) ∧ w = w' := by
  obtain ⟨x, hx, h⟩ := sign_cases b
  rw [← hx]
  clear hx
  rcases h with ⟨h1, -, hR⟩ | ⟨h1, -, h2, -, hR⟩ | ⟨h1, -, h2, -, h3, hR⟩ | ⟨h1, -, h2, -, h3, h4, hR⟩ | ⟨h1, -, h2, -, h3, h4, h5, hR⟩ | ⟨h1, -, h2, -, h3, h4, h5, hR⟩
  all_goals
    rw [hR]
    clear hR
    go_enter Tryd.func51, Tryd.ntmps51
    go_wp2
    go_ret
    exact ⟨rfl, rfl⟩

set_option maxHeartbeats 1000000 in
set_option maxRecDepth 100000 in
theorem so_rsign (b : UInt8) (w : World) :
    Calls Tryd.prog 53 #[.int .u8 b.toNat] w fun e w' => e = .returned (.bool (signB b)) ∧ w = w' := by
  obtain ⟨x, hx, h⟩ := sign_cases b
  rw [← hx]
  clear hx
  rcases h with ⟨-, h1, hR⟩ | ⟨-, h1, -, h2, hR⟩ | ⟨-, h1, -, h2, h3, hR⟩ | ⟨-, h1, -, h2, h3, h4, hR⟩ | ⟨-, h1, -, h2, h3, h4, h5, hR⟩ | ⟨-, h1, -, h2, h3, h4, h5, hR⟩
  all_goals
    rw [hR]
    clear hR
    go_enter Tryd.func53, Tryd.ntmps53
    go_wp2
    go_ret
    exact ⟨rfl, rfl⟩

theorem data0 (s : ByteArray) (h : s.size = 0) : s.data.toList = [] := List.eq_nil_of_length_eq_zero (by simpa using h)
theorem data1 (s : ByteArray) (h : s.size = 1) : s.data.toList = [s[0]] := by
  have := drop_cons s 0 (by omega)
  have h1 := drop_all s
  rw [h] at h1
  rw [List.drop_zero] at this
  rw [this, h1]
theorem data2 (s : ByteArray) (h : s.size = 2) : s.data.toList = [s[0], s[1]] := by
  have := drop_cons s 0 (by omega)
  have h0 := drop_cons s 1 (by omega)
  have h1 := drop_all s
  rw [h] at h1
  rw [List.drop_zero] at this
  rw [this, h0, h1]
theorem numF1_no (l : List UInt8) (h : l.length ≠ 1) : numF 1 l = 0 := by
  unfold numF
  rw [if_pos rfl]
  split
  · simp at h
  · rfl
theorem numF2_no (l : List UInt8) (h : l.length ≠ 2) : numF 2 l = 0 := by
  unfold numF
  rw [if_neg (by decide), if_pos rfl]
  split
  · simp at h
  · rfl
theorem numF_1 (a : UInt8) : numF 1 [a] = if signB a = true then (a.toNat : Int) else 0 := rfl
theorem numF_2 (a b : UInt8) : numF 2 [a, b] = if signB a = true ∧ signB b = true then (a.toNat : Int) * 256 + b.toNat else 0 := rfl
theorem numF_3 (l : List UInt8) : numF 3 l = numVal l 65535 := rfl
theorem shl8 (a : UInt8) : (a.toNat : Int) * 256 % 65536 = (a.toNat : Int) * 256 := by have := a.toNat_lt; omega
theorem join16 (a b : UInt8) : bits .or .u16 ((a.toNat : Int) * 256) (b.toNat : Int) = (a.toNat : Int) * 256 + b.toNat := by
  have h1 := a.toNat_lt
  have h2 := b.toNat_lt
  exact bits_join .u16 16 (by decide) wraps_u16 8 _ _ (by omega) (by omega) (by omega) (by omega) (by omega) (by omega)

set_option maxHeartbeats 2000000 in
set_option maxRecDepth 100000 in
theorem so_number (kind : Int) (s : ByteArray) (w : World) (hk : kind = 1 ∨ kind = 2 ∨ kind = 3) (hs : s.size ≤ maxLen) :
    Calls Tryd.prog 36 #[.int .i64 kind, .string s] w fun e w' => e = .returned (.int .u16 (numF kind s.data.toList)) ∧ ∃ n, w' = w.drewN n := by
  have hs' := hs
  unfold maxLen at hs'
  rcases hk with rfl | rfl | rfl
  · by_cases h1 : s.size = 1
    · have hlt : 0 < s.size := by omega
      have hR := Lib.hid (show numF 1 s.data.toList = if signB (s[0]'hlt) = true then ((s[0]'hlt).toNat : Int) else 0 by rw [data1 s h1, numF_1])
      have hlen : ((s.size : Int) == 1) = true := by rw [h1]; rfl
      have hb := s[0].toNat_lt
      clear h1
      cases hq : signB s[0]
      · have HQ := Lib.hid hq
        clear hq
        go_enter Tryd.func36, Tryd.ntmps36
        go_wp2_with (go_at_call 51; refine (so_sign _ _).mono ?_; rw [HQ.out]; rintro e w1 ⟨rfl, rfl⟩)
        go_ret
        exact ⟨by rw [hR.out, HQ.out]; rfl, 0, rfl⟩
      · have HQ := Lib.hid hq
        clear hq
        go_enter Tryd.func36, Tryd.ntmps36
        go_wp2_with (go_at_call 51; refine (so_sign _ _).mono ?_; rw [HQ.out]; rintro e w1 ⟨rfl, rfl⟩)
        go_ret
        exact ⟨by rw [hR.out, HQ.out]; rfl, 0, rfl⟩
    · have hR := Lib.hid (numF1_no s.data.toList (by simpa using h1))
      have hlen : ((s.size : Int) == 1) = false := by rw [beq_eq_false_iff_ne]; omega
      go_enter Tryd.func36, Tryd.ntmps36
      go_wp2_with fail
      go_ret
      exact ⟨by rw [hR.out]; rfl, 0, rfl⟩
  · by_cases h1 : s.size = 2
    · have hlt : 0 < s.size := by omega
      have hlt1 : 1 < s.size := by omega
      have hR := Lib.hid (show numF 2 s.data.toList = if signB (s[0]'hlt) = true ∧ signB (s[1]'hlt1) = true then ((s[0]'hlt).toNat : Int) * (256 : Int) + ((s[1]'hlt1).toNat : Int) else 0 by rw [data2 s h1, numF_2])
      have hlen : ((s.size : Int) == 2) = true := by rw [h1]; rfl
      have ha := s[0].toNat_lt
      have hb := s[1].toNat_lt
      have hsh := shl8 s[0]
      have hjo := join16 s[0] s[1]
      clear h1
      cases hq : signB s[0]
      · have HQ := Lib.hid hq
        clear hq
        go_enter Tryd.func36, Tryd.ntmps36
        go_wp2_with (go_at_call 51; refine (so_sign _ _).mono ?_; rw [HQ.out]; rintro e w1 ⟨rfl, rfl⟩)
        go_ret
        exact ⟨by rw [hR.out, HQ.out]; rfl, 0, rfl⟩
      · have HQ := Lib.hid hq
        clear hq
        cases hq2 : signB s[1]
        · have HQ2 := Lib.hid hq2
          clear hq2
          go_enter Tryd.func36, Tryd.ntmps36
          go_wp2_with (go_at_call 51; refine (so_sign _ _).mono ?_; (first | rw [HQ.out] | rw [HQ2.out]); rintro e w1 ⟨rfl, rfl⟩)
          go_ret
          exact ⟨by rw [hR.out, HQ.out, HQ2.out]; rfl, 0, rfl⟩
        · have HQ2 := Lib.hid hq2
          clear hq2
          go_enter Tryd.func36, Tryd.ntmps36
          go_wp2_with (go_at_call 51; refine (so_sign _ _).mono ?_; (first | rw [HQ.out] | rw [HQ2.out]); rintro e w1 ⟨rfl, rfl⟩)
          go_quiet (fail)
          go_wp2_with fail
          go_ret
          exact ⟨by rw [hR.out, HQ.out, HQ2.out]; rfl, _, rfl⟩
    · have hR := Lib.hid (numF2_no s.data.toList (by simpa using h1))
      have hlen : ((s.size : Int) == 2) = false := by rw [beq_eq_false_iff_ne]; omega
      go_enter Tryd.func36, Tryd.ntmps36
      go_wp2_with fail
      go_ret
      exact ⟨by rw [hR.out]; rfl, 0, rfl⟩
  · obtain ⟨b0, b1⟩ := numVal_bd s.data.toList 65535 (by omega)
    have hR := Lib.hid (numF_3 s.data.toList)
    have hw : numVal s.data.toList 65535 % 65536 = numVal s.data.toList 65535 := by omega
    obtain ⟨x, hx⟩ : ∃ x, numVal s.data.toList 65535 = x := ⟨_, rfl⟩
    rw [hx] at b0 b1 hw
    have HX := Lib.hid hx
    obtain ⟨y, hy⟩ : ∃ y, numErr s.data.toList 65535 = y := ⟨_, rfl⟩
    have HY := Lib.hid hy
    clear hx hy
    go_enter Tryd.func36, Tryd.ntmps36
    go_wp2_with (go_at_call 52; refine (Number_any s 65535 _ hs (by decide) (by decide)).mono ?_; rintro e w1 ⟨hn, rfl⟩; rw [NumRet, HX.out, HY.out] at hn; subst hn)
    go_ret
    exact ⟨by rw [hR.out, HX.out]; rfl, 0, rfl⟩
end Go.Proofs.YtgcnfebifopdnaaDoor
