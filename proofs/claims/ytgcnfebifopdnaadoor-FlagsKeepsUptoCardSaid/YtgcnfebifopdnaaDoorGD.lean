/-
  Plain: a text cut at its commas; pieces of one length; the flag that a piece writes.
  The flag that a piece writes: the program's number and the reference's Value; One on both sides.
  The reference's Value; known; One on both sides.
-/
import Derived.Test.YtgcnfebifopdnaaDoorRows
import Derived.Test.YtgcnfebifopdnaaDoorLines2
import Derived.Lib.Split
import Derived.Test.YtgcnfebifopdnaaDoorLines3
import Derived.Laws.BitsLemmas
import Derived.Lib.EndianBits
import Derived.BigQuiet
import Derived.Deep.QuietTactic
import Derived.Deep.RegionWith
namespace Go.Proofs.YtgcnfebifopdnaaDoor
section
open Go.RowKit

/-- The pieces between the commas of what is left, where 'cur' is the piece that is open. -/
def cgo (cur : List UInt8) : List UInt8 → List (List UInt8)
  | [] => [cur]
  | b :: l => if b.toNat = 44 then cur :: cgo [] l else cgo (cur ++ [b]) l
theorem index_comma_cons (b : UInt8) (l : List UInt8) : Lib.index (b :: l) [44] = if b.toNat = 44 then 0 else if Lib.index l [44] = -1 then -1 else Lib.index l [44] + 1 := by
  have e : (44 : UInt8) == b ↔ b.toNat = 44 := by
    rw [beq_iff_eq]
    constructor
    · rintro rfl; rfl
    · intro h; exact (UInt8.toNat_inj.1 (h.trans (by rfl))).symm
  by_cases h : b.toNat = 44
  · have h2 := e.2 h
    rw [if_pos h, Lib.index, if_pos (by simpa [List.isPrefixOf] using h2)]
  · have h2 : ¬ ((44 : UInt8) == b) = true := fun hh => h (e.1 hh)
    rw [if_neg h, Lib.index, if_neg (by simpa [List.isPrefixOf] using h2)]
    simp only [beq_iff_eq]
theorem cgo_index (l : List UInt8) : ∀ cur, (Lib.index l [44] = -1 ∧ cgo cur l = [cur ++ l]) ∨ ∃ i : Nat, Lib.index l [44] = i ∧ i < l.length ∧ cgo cur l = (cur ++ l.take i) :: cgo [] (l.drop (i + 1)) := by
  induction l with
  | nil => intro cur; exact .inl ⟨rfl, by simp [cgo]⟩
  | cons b l ih =>
    intro cur
    rw [index_comma_cons]
    by_cases h : b.toNat = 44
    · rw [if_pos h]
      exact .inr ⟨0, rfl, by simp, by simp [cgo, h]⟩
    · rw [if_neg h]
      rcases ih (cur ++ [b]) with ⟨h1, h2⟩ | ⟨i, h1, h2, h3⟩
      · exact .inl ⟨by rw [if_pos h1], by rw [cgo, if_neg h, h2]; simp⟩
      · refine .inr ⟨i + 1, by rw [h1, if_neg (by omega)]; omega, by simpa using h2, ?_⟩
        rw [cgo, if_neg h, h3]; simp
theorem splitK_comma : ∀ (n : Nat) (l : List UInt8), l.length ≤ n → Lib.splitK [44] 0 (Lib.count l [44]) l = cgo [] l
  | n, l, hn => by
    rcases cgo_index l [] with ⟨h1, h2⟩ | ⟨i, h1, h2, h3⟩
    · rw [Lib.count_miss h1, h2]; rfl
    · cases n with
      | zero => omega
      | succ n =>
        rw [Lib.count_hit (by simp) h1, Nat.add_comm 1, Lib.splitK, if_neg (by rw [h1]; simp), h1, h3]
        have := splitK_comma n (l.drop (i + 1)) (by simp; omega)
        simp only [List.length_cons, List.length_nil, Int.toNat_natCast, Nat.add_zero, Nat.zero_add, List.nil_append]
        rw [this]
/-- strings.Split at a comma. -/
theorem split_comma (s : ByteArray) : (Lib.splitB ⟨#[44]⟩ 0 (Lib.countB s ⟨#[44]⟩) s).map (·.data.toList) = cgo [] s.data.toList := by
  rw [Lib.splitB_data]
  exact splitK_comma _ _ (Nat.le_refl _)
theorem cgo_ne (l : List UInt8) : ∀ cur, cgo cur l ≠ [] := by
  induction l with
  | nil => intro cur; simp [cgo]
  | cons b l ih =>
    intro cur
    rw [cgo]
    split
    · simp
    · exact ih _
theorem cgo_len (l : List UInt8) : ∀ cur, (cgo cur l).length ≤ l.length + 1 := by
  induction l with
  | nil => intro cur; simp [cgo]
  | cons b l ih =>
    intro cur
    rw [cgo]
    split
    · have := ih []; simp; omega
    · have := ih (cur ++ [b]); simp; omega

/-- Pieces of k letters each, the last as long as it is. -/
def chop (k : Nat) : Nat → List UInt8 → List (List UInt8)
  | 0, _ => []
  | n + 1, l => if l = [] then [] else l.take k :: chop k n (l.drop k)
theorem chop_step (k n : Nat) (l : List UInt8) (h : l ≠ []) (hn : l.length ≤ n) : chop k n l = l.take k :: chop k (n - 1) (l.drop k) := by
  cases n with
  | zero => exact absurd (List.eq_nil_of_length_eq_zero (by omega)) h
  | succ n => rw [chop, if_neg h]; rfl
theorem chop_nil (k n : Nat) : chop k n [] = [] := by cases n <;> simp [chop]
theorem chop_fuel (k : Nat) (hk : 0 < k) : ∀ (n m : Nat) (l : List UInt8), l.length ≤ n → l.length ≤ m → chop k n l = chop k m l
  | 0, m, l, h1, _ => by
    have : l = [] := List.eq_nil_of_length_eq_zero (by omega)
    subst this; rw [chop_nil, chop_nil]
  | n + 1, m, l, h1, h2 => by
    by_cases h : l = []
    · subst h; rw [chop_nil, chop_nil]
    · have hp := List.length_pos_iff.2 h
      cases m with
      | zero => omega
      | succ m =>
        rw [chop, chop, if_neg h, if_neg h, chop_fuel k hk n m _ (by simp; omega) (by simp; omega)]
theorem chop_len (k : Nat) : ∀ (n : Nat) (l : List UInt8), (chop k n l).length ≤ n
  | 0, _ => by simp [chop]
  | n + 1, l => by
    rw [chop]
    split
    · simp
    · have := chop_len k n (l.drop k); simp; omega
/-- The pieces of a text of this kind. -/
def piecesOf (kind : Int) (l : List UInt8) : List (List UInt8) := if kind = 3 then cgo [] l else chop kind.toNat l.length l
theorem piecesOf_len (kind : Int) (l : List UInt8) : (piecesOf kind l).length ≤ l.length + 1 := by
  unfold piecesOf
  split
  · exact cgo_len _ _
  · have := chop_len kind.toNat l.length l; omega

/-- May the byte stand in a flag? -/
def signB (b : UInt8) : Bool := decide (32 < b.toNat ∧ b.toNat < 127 ∧ b.toNat ≠ 47 ∧ b.toNat ≠ 44 ∧ b.toNat ≠ 35)
/-- The flag that the piece writes, 0 if none. -/
def numF (kind : Int) (l : List UInt8) : Int :=
  if kind = 1 then (match l with | [a] => if signB a = true then a.toNat else 0 | _ => 0)
  else if kind = 2 then (match l with | [a, b] => if signB a = true ∧ signB b = true then a.toNat * 256 + b.toNat else 0 | _ => 0)
  else numVal l 65535
theorem numVal_bd (l : List UInt8) (m : Int) (hm : 0 ≤ m) : 0 ≤ numVal l m ∧ numVal l m ≤ m := by
  unfold numVal
  split
  · rename_i h; exact ⟨by omega, h.2⟩
  · omega
theorem numF_bd (kind : Int) (l : List UInt8) : 0 ≤ numF kind l ∧ numF kind l ≤ 65535 := by
  unfold numF
  split
  · split
    · rename_i a
      have := a.toNat_lt
      split <;> omega
    · omega
  · split
    · split
      · rename_i a b
        have := a.toNat_lt
        have := b.toNat_lt
        split <;> omega
      · omega
    · exact numVal_bd _ _ (by omega)
end

section
open Go.RowKit

theorem signB_eq (b : UInt8) : signB b = (decide (32 < (b.toNat : Int)) && (decide ((b.toNat : Int) < 127) && (!((b.toNat : Int) == 47) && (!((b.toNat : Int) == 44) && !((b.toNat : Int) == 35))))) := by
  unfold signB; rw [Bool.eq_iff_iff]; simp; omega

theorem sign_cases (b : UInt8) : ∃ x : Int, x = b.toNat ∧ ((¬ 32 < x ∧ ¬ 33 ≤ x ∧ signB b = false) ∨ (32 < x ∧ 33 ≤ x ∧ ¬ x < 127 ∧ ¬ x ≤ 126 ∧ signB b = false) ∨ (32 < x ∧ 33 ≤ x ∧ x < 127 ∧ x ≤ 126 ∧ (x != 47) = false ∧ signB b = false) ∨ (32 < x ∧ 33 ≤ x ∧ x < 127 ∧ x ≤ 126 ∧ (x != 47) = true ∧ (x != 44) = false ∧ signB b = false) ∨
    (32 < x ∧ 33 ≤ x ∧ x < 127 ∧ x ≤ 126 ∧ (x != 47) = true ∧ (x != 44) = true ∧ (x != 35) = false ∧ signB b = false) ∨ (32 < x ∧ 33 ≤ x ∧ x < 127 ∧ x ≤ 126 ∧ (x != 47) = true ∧ (x != 44) = true ∧ (x != 35) = true ∧ signB b = true)) := by
  refine ⟨_, rfl, ?_⟩
  rw [signB_eq]
  generalize (b.toNat : Int) = x
  by_cases h1 : 32 < x
  · by_cases h2 : x < 127
    · by_cases h3 : x = 47
      · simp [h3]
      · by_cases h4 : x = 44
        · simp [h4]
        · by_cases h5 : x = 35
          · simp [h5]
          · simp [h1, h2, h3, h4, h5]; omega
    · simp [h1, h2]; omega
  · simp [h1]; omega

set_option maxHeartbeats 1000000 in
set_option maxRecDepth 100000 in
theorem so_sign (b : UInt8) (w : World) :
    Calls Tryd.prog 51 #[.int .u8 b.toNat] w fun e w' => e = .returned (.bool (signB b)) ∧ w = w' := by
  obtain ⟨x, hx, h⟩ := sign_cases b
  rw [← hx]
  clear hx
  rcases h with ⟨h1, -, hR⟩ | ⟨h1, -, h2, -, hR⟩ | ⟨h1, -, h2, -, h3, hR⟩ | ⟨h1, -, h2, -, h3, h4, hR⟩ | ⟨h1, -, h2, -, h3, h4, h5, hR⟩ | ⟨h1, -, h2, -, h3, h4, h5, hR⟩
  all_goals
    rw [hR]
    clear hR
    go_enter Tryd.func51, Tryd.ntmps51
    go_wp2
    go_ret
    exact ⟨rfl, rfl⟩

set_option maxHeartbeats 1000000 in
set_option maxRecDepth 100000 in
theorem so_rsign (b : UInt8) (w : World) :
    Calls Tryd.prog 53 #[.int .u8 b.toNat] w fun e w' => e = .returned (.bool (signB b)) ∧ w = w' := by
  obtain ⟨x, hx, h⟩ := sign_cases b
  rw [← hx]
  clear hx
  rcases h with ⟨-, h1, hR⟩ | ⟨-, h1, -, h2, hR⟩ | ⟨-, h1, -, h2, h3, hR⟩ | ⟨-, h1, -, h2, h3, h4, hR⟩ | ⟨-, h1, -, h2, h3, h4, h5, hR⟩ | ⟨-, h1, -, h2, h3, h4, h5, hR⟩
  all_goals
    rw [hR]
    clear hR
    go_enter Tryd.func53, Tryd.ntmps53
    go_wp2
    go_ret
    exact ⟨rfl, rfl⟩

theorem data0 (s : ByteArray) (h : s.size = 0) : s.data.toList = [] := List.eq_nil_of_length_eq_zero (by simpa using h)
theorem data1 (s : ByteArray) (h : s.size = 1) : s.data.toList = [s[0]] := by
  have := drop_cons s 0 (by omega)
  have h1 := drop_all s
  rw [h] at h1
  rw [List.drop_zero] at this
  rw [this, h1]
theorem data2 (s : ByteArray) (h : s.size = 2) : s.data.toList = [s[0], s[1]] := by
  have := drop_cons s 0 (by omega)
  have h0 := drop_cons s 1 (by omega)
  have h1 := drop_all s
  rw [h] at h1
  rw [List.drop_zero] at this
  rw [this, h0, h1]
theorem numF1_no (l : List UInt8) (h : l.length ≠ 1) : numF 1 l = 0 := by
  unfold numF
  rw [if_pos rfl]
  split
  · simp at h
  · rfl
theorem numF2_no (l : List UInt8) (h : l.length ≠ 2) : numF 2 l = 0 := by
  unfold numF
  rw [if_neg (by decide), if_pos rfl]
  split
  · simp at h
  · rfl
theorem numF_1 (a : UInt8) : numF 1 [a] = if signB a = true then (a.toNat : Int) else 0 := rfl
theorem numF_2 (a b : UInt8) : numF 2 [a, b] = if signB a = true ∧ signB b = true then (a.toNat : Int) * 256 + b.toNat else 0 := rfl
theorem numF_3 (l : List UInt8) : numF 3 l = numVal l 65535 := rfl
theorem shl8 (a : UInt8) : (a.toNat : Int) * 256 % 65536 = (a.toNat : Int) * 256 := by have := a.toNat_lt; omega
theorem join16 (a b : UInt8) : bits .or .u16 ((a.toNat : Int) * 256) (b.toNat : Int) = (a.toNat : Int) * 256 + b.toNat := by
  have h1 := a.toNat_lt
  have h2 := b.toNat_lt
  exact bits_join .u16 16 (by decide) wraps_u16 8 _ _ (by omega) (by omega) (by omega) (by omega) (by omega) (by omega)

set_option maxHeartbeats 2000000 in
set_option maxRecDepth 100000 in
theorem so_number (kind : Int) (s : ByteArray) (w : World) (hk : kind = 1 ∨ kind = 2 ∨ kind = 3) (hs : s.size ≤ maxLen) :
    Calls Tryd.prog 36 #[.int .i64 kind, .string s] w fun e w' => e = .returned (.int .u16 (numF kind s.data.toList)) ∧ ∃ n, w' = w.drewN n := by
  have hs' := hs
  unfold maxLen at hs'
  rcases hk with rfl | rfl | rfl
  · by_cases h1 : s.size = 1
    · have hlt : 0 < s.size := by omega
      have hR := Lib.hid (show numF 1 s.data.toList = if signB (s[0]'hlt) = true then ((s[0]'hlt).toNat : Int) else 0 by rw [data1 s h1, numF_1])
      have hlen : ((s.size : Int) == 1) = true := by rw [h1]; rfl
      have hb := s[0].toNat_lt
      clear h1
      cases hq : signB s[0]
      · have HQ := Lib.hid hq
        clear hq
        go_enter Tryd.func36, Tryd.ntmps36
        go_wp2_with (go_at_call 51; refine (so_sign _ _).mono ?_; rw [HQ.out]; rintro e w1 ⟨rfl, rfl⟩)
        go_ret
        exact ⟨by rw [hR.out, HQ.out]; rfl, 0, rfl⟩
      · have HQ := Lib.hid hq
        clear hq
        go_enter Tryd.func36, Tryd.ntmps36
        go_wp2_with (go_at_call 51; refine (so_sign _ _).mono ?_; rw [HQ.out]; rintro e w1 ⟨rfl, rfl⟩)
        go_ret
        exact ⟨by rw [hR.out, HQ.out]; rfl, 0, rfl⟩
    · have hR := Lib.hid (numF1_no s.data.toList (by simpa using h1))
      have hlen : ((s.size : Int) == 1) = false := by rw [beq_eq_false_iff_ne]; omega
      go_enter Tryd.func36, Tryd.ntmps36
      go_wp2_with fail
      go_ret
      exact ⟨by rw [hR.out]; rfl, 0, rfl⟩
  · by_cases h1 : s.size = 2
    · have hlt : 0 < s.size := by omega
      have hlt1 : 1 < s.size := by omega
      have hR := Lib.hid (show numF 2 s.data.toList = if signB (s[0]'hlt) = true ∧ signB (s[1]'hlt1) = true then ((s[0]'hlt).toNat : Int) * (256 : Int) + ((s[1]'hlt1).toNat : Int) else 0 by rw [data2 s h1, numF_2])
      have hlen : ((s.size : Int) == 2) = true := by rw [h1]; rfl
      have ha := s[0].toNat_lt
      have hb := s[1].toNat_lt
      have hsh := shl8 s[0]
      have hjo := join16 s[0] s[1]
      clear h1
      cases hq : signB s[0]
      · have HQ := Lib.hid hq
        clear hq
        go_enter Tryd.func36, Tryd.ntmps36
        go_wp2_with (go_at_call 51; refine (so_sign _ _).mono ?_; rw [HQ.out]; rintro e w1 ⟨rfl, rfl⟩)
        go_ret
        exact ⟨by rw [hR.out, HQ.out]; rfl, 0, rfl⟩
      · have HQ := Lib.hid hq
        clear hq
        cases hq2 : signB s[1]
        · have HQ2 := Lib.hid hq2
          clear hq2
          go_enter Tryd.func36, Tryd.ntmps36
          go_wp2_with (go_at_call 51; refine (so_sign _ _).mono ?_; (first | rw [HQ.out] | rw [HQ2.out]); rintro e w1 ⟨rfl, rfl⟩)
          go_ret
          exact ⟨by rw [hR.out, HQ.out, HQ2.out]; rfl, 0, rfl⟩
        · have HQ2 := Lib.hid hq2
          clear hq2
          go_enter Tryd.func36, Tryd.ntmps36
          go_wp2_with (go_at_call 51; refine (so_sign _ _).mono ?_; (first | rw [HQ.out] | rw [HQ2.out]); rintro e w1 ⟨rfl, rfl⟩)
          go_quiet (fail)
          go_wp2_with fail
          go_ret
          exact ⟨by rw [hR.out, HQ.out, HQ2.out]; rfl, _, rfl⟩
    · have hR := Lib.hid (numF2_no s.data.toList (by simpa using h1))
      have hlen : ((s.size : Int) == 2) = false := by rw [beq_eq_false_iff_ne]; omega
      go_enter Tryd.func36, Tryd.ntmps36
      go_wp2_with fail
      go_ret
      exact ⟨by rw [hR.out]; rfl, 0, rfl⟩
  · obtain ⟨b0, b1⟩ := numVal_bd s.data.toList 65535 (by omega)
    have hR := Lib.hid (numF_3 s.data.toList)
    have hw : numVal s.data.toList 65535 % 65536 = numVal s.data.toList 65535 := by omega
    obtain ⟨x, hx⟩ : ∃ x, numVal s.data.toList 65535 = x := ⟨_, rfl⟩
    rw [hx] at b0 b1 hw
    have HX := Lib.hid hx
    obtain ⟨y, hy⟩ : ∃ y, numErr s.data.toList 65535 = y := ⟨_, rfl⟩
    have HY := Lib.hid hy
    clear hx hy
    go_enter Tryd.func36, Tryd.ntmps36
    go_wp2_with (go_at_call 52; refine (Number_any s 65535 _ hs (by decide) (by decide)).mono ?_; rintro e w1 ⟨hn, rfl⟩; rw [NumRet, HX.out, HY.out] at hn; subst hn)
    go_ret
    exact ⟨by rw [hR.out, HX.out]; rfl, 0, rfl⟩
end

section
open Go.RowKit

theorem numErr_cases (l : List UInt8) (m : Int) : numErr l m = 0 ∨ (numErr l m = 13 ∧ numVal l m = 0) := by
  unfold numErr numVal
  split
  · exact .inl rfl
  · exact .inr ⟨rfl, rfl⟩

set_option maxHeartbeats 2000000 in
set_option maxRecDepth 100000 in
theorem so_Value (kind : Int) (s : ByteArray) (w : World) (hk : kind = 1 ∨ kind = 2 ∨ kind = 3) (hs : s.size ≤ maxLen) :
    Calls Tryd.prog 38 #[.int .i64 kind, .string s] w fun e w' => e = .returned (.int .i64 (numF kind s.data.toList)) ∧ ∃ n, w' = w.drewN n := by
  have hs' := hs
  unfold maxLen at hs'
  rcases hk with rfl | rfl | rfl
  · by_cases h1 : s.size = 1
    · have hlt : 0 < s.size := by omega
      have hR := Lib.hid (show numF 1 s.data.toList = if signB (s[0]'hlt) = true then ((s[0]'hlt).toNat : Int) else 0 by rw [data1 s h1, numF_1])
      have hlen : ((s.size : Int) == 1) = true := by rw [h1]; rfl
      have hlen2 : ((s.size : Int) != 1) = false := by rw [h1]; rfl
      have hb := s[0].toNat_lt
      clear h1
      cases hq : signB s[0]
      all_goals
        have HQ := Lib.hid hq
        clear hq
        go_enter Tryd.func38, Tryd.ntmps38
        go_wp2_with (go_at_call 53; refine (so_rsign _ _).mono ?_; rw [HQ.out]; rintro e w1 ⟨rfl, rfl⟩)
        go_ret
        exact ⟨by rw [hR.out, HQ.out]; rfl, 0, rfl⟩
    · have hR := Lib.hid (numF1_no s.data.toList (by simpa using h1))
      have hlen : ((s.size : Int) == 1) = false := by rw [beq_eq_false_iff_ne]; omega
      have hlen2 : ((s.size : Int) != 1) = true := by rw [bne_iff_ne]; omega
      go_enter Tryd.func38, Tryd.ntmps38
      go_wp2_with fail
      go_ret
      exact ⟨by rw [hR.out]; rfl, 0, rfl⟩
  · by_cases h1 : s.size = 2
    · have hlt : 0 < s.size := by omega
      have hlt1 : 1 < s.size := by omega
      have hR := Lib.hid (show numF 2 s.data.toList = if signB (s[0]'hlt) = true ∧ signB (s[1]'hlt1) = true then ((s[0]'hlt).toNat : Int) * (256 : Int) + ((s[1]'hlt1).toNat : Int) else 0 by rw [data2 s h1, numF_2])
      have hlen : ((s.size : Int) == 2) = true := by rw [h1]; rfl
      have hlen2 : ((s.size : Int) != 2) = false := by rw [h1]; rfl
      have ha := s[0].toNat_lt
      have hb := s[1].toNat_lt
      clear h1
      cases hq : signB s[0]
      all_goals
        have HQ := Lib.hid hq
        clear hq
        cases hq2 : signB s[1]
        all_goals
          have HQ2 := Lib.hid hq2
          clear hq2
          go_enter Tryd.func38, Tryd.ntmps38
          go_wp2_with (go_at_call 53; refine (so_rsign _ _).mono ?_; (first | rw [HQ.out] | rw [HQ2.out]); rintro e w1 ⟨rfl, rfl⟩)
          try go_quiet (fail)
          try go_wp2_with fail
          go_ret
          first
            | exact ⟨by rw [hR.out, HQ.out, HQ2.out]; rfl, 0, rfl⟩
            | exact ⟨by rw [hR.out, HQ.out, HQ2.out]; simp; omega, _, rfl⟩
    · have hR := Lib.hid (numF2_no s.data.toList (by simpa using h1))
      have hlen : ((s.size : Int) == 2) = false := by rw [beq_eq_false_iff_ne]; omega
      have hlen2 : ((s.size : Int) != 2) = true := by rw [bne_iff_ne]; omega
      go_enter Tryd.func38, Tryd.ntmps38
      go_wp2_with fail
      go_ret
      exact ⟨by rw [hR.out]; rfl, 0, rfl⟩
  · have hR := Lib.hid (numF_3 s.data.toList)
    have hc := numErr_cases s.data.toList 65535
    obtain ⟨x, hx⟩ : ∃ x, numVal s.data.toList 65535 = x := ⟨_, rfl⟩
    have HX := Lib.hid hx
    obtain ⟨y, hy⟩ : ∃ y, numErr s.data.toList 65535 = y := ⟨_, rfl⟩
    have HY := Lib.hid hy
    rw [hx, hy] at hc
    clear hx hy
    rcases hc with rfl | ⟨rfl, rfl⟩
    all_goals
      go_enter Tryd.func38, Tryd.ntmps38
      go_wp2_with (go_at_call 54; refine (Number01_any s 65535 _ hs (by decide) (by decide)).mono ?_; rintro e w1 ⟨hn, rfl⟩; rw [NumRet, HX.out, HY.out] at hn; subst hn)
      go_ret
      exact ⟨by rw [hR.out, HX.out]; rfl, 0, rfl⟩

def kindOk (kind : Int) : Bool := decide (1 ≤ kind ∧ kind ≤ 3)
theorem kind_cases (kind : Int) : (kindOk kind = true ∧ (kind = 1 ∨ kind = 2 ∨ kind = 3)) ∨ (kindOk kind = false ∧ (kind < 1 ∨ 3 < kind)) := by
  unfold kindOk
  by_cases h : 1 ≤ kind ∧ kind ≤ 3
  · exact .inl ⟨decide_eq_true h, by omega⟩
  · exact .inr ⟨decide_eq_false h, by omega⟩

set_option maxHeartbeats 400000 in
theorem so_known (kind : Int) (w : World) :
    Calls Tryd.prog 34 #[.int .i64 kind] w fun e w' => e = .returned (.bool (kindOk kind)) ∧ w = w' := by
  rcases kind_cases kind with ⟨h, hk⟩ | ⟨h, hk⟩
  · rw [h]
    rcases hk with rfl | rfl | rfl
    all_goals
      go_enter Tryd.func34, Tryd.ntmps34
      go_wp2
      go_ret
      exact ⟨rfl, rfl⟩
  · rw [h]
    rcases hk with hk | hk
    · have h1 : ¬ 1 ≤ kind := by omega
      go_enter Tryd.func34, Tryd.ntmps34
      go_wp2
      go_ret
      exact ⟨rfl, rfl⟩
    · have h1 : 1 ≤ kind := by omega
      have h2 : ¬ kind ≤ 3 := by omega
      go_enter Tryd.func34, Tryd.ntmps34
      go_wp2
      go_ret
      exact ⟨rfl, rfl⟩

def oneF (kind : Int) (l : List UInt8) : Int × Int := if kindOk kind = true then (if numF kind l = 0 then (0, 31) else (numF kind l, 0)) else (0, 30)
theorem oneF_bd (kind : Int) (l : List UInt8) : 0 ≤ (oneF kind l).1 ∧ (oneF kind l).1 ≤ 65535 := by
  have := numF_bd kind l
  unfold oneF
  split
  · split
    · simp
    · exact this
  · simp

set_option maxHeartbeats 1000000 in
set_option maxRecDepth 100000 in
theorem so_One (kind : Int) (s : ByteArray) (w : World) (hs : s.size ≤ maxLen) :
    Calls Tryd.prog 15 #[.int .i64 kind, .string s] w fun e w' => e = .returned (.tuple #[.int .u16 (oneF kind s.data.toList).1, .int .i64 (oneF kind s.data.toList).2]) ∧ ∃ n, w' = w.drewN n := by
  rcases kind_cases kind with ⟨h, hk⟩ | ⟨h, hk⟩
  · have HK := Lib.hid h
    have HKK := Lib.hid hk
    clear h hk
    obtain ⟨b0, b1⟩ := numF_bd kind s.data.toList
    by_cases h0 : numF kind s.data.toList = 0
    · have hR := Lib.hid (show oneF kind s.data.toList = (0, 31) by rw [oneF, if_pos HK.out, if_pos h0])
      have H0 := Lib.hid h0
      clear h0 b0 b1
      go_enter Tryd.func15, Tryd.ntmps15
      go_wp2_with (first
        | (go_at_call 34; refine (so_known _ _).mono ?_; rw [HK.out]; rintro e w1 ⟨rfl, rfl⟩)
        | (go_at_call 36; refine (so_number kind s _ HKK.out hs).mono ?_; rw [H0.out]; rintro e w1 ⟨rfl, n, rfl⟩))
      go_ret2
      exact ⟨by rw [hR.out]; rfl, _, rfl⟩
    · have hR := Lib.hid (show oneF kind s.data.toList = (numF kind s.data.toList, 0) by rw [oneF, if_pos HK.out, if_neg h0])
      obtain ⟨x, hx⟩ : ∃ x, numF kind s.data.toList = x := ⟨_, rfl⟩
      rw [hx] at h0 b0 b1
      have HX := Lib.hid hx
      have hne : (x == 0) = false := by rw [beq_eq_false_iff_ne]; exact h0
      clear hx h0
      go_enter Tryd.func15, Tryd.ntmps15
      go_wp2_with (first
        | (go_at_call 34; refine (so_known _ _).mono ?_; rw [HK.out]; rintro e w1 ⟨rfl, rfl⟩)
        | (go_at_call 36; refine (so_number kind s _ HKK.out hs).mono ?_; rw [HX.out]; rintro e w1 ⟨rfl, n, rfl⟩))
      go_ret2
      exact ⟨by rw [hR.out, HX.out]; rfl, _, rfl⟩
  · have HK := Lib.hid h
    have hR := Lib.hid (show oneF kind s.data.toList = (0, 30) by rw [oneF, if_neg (by rw [h]; decide)])
    clear h hk
    go_enter Tryd.func15, Tryd.ntmps15
    go_wp2_with (go_at_call 34; refine (so_known _ _).mono ?_; rw [HK.out]; rintro e w1 ⟨rfl, rfl⟩)
    go_ret2
    exact ⟨by rw [hR.out]; rfl, 0, rfl⟩

set_option maxHeartbeats 1000000 in
set_option maxRecDepth 100000 in
theorem so_rOne (kind : Int) (s : ByteArray) (w : World) (hs : s.size ≤ maxLen) :
    Calls Tryd.prog 16 #[.int .i64 kind, .string s] w fun e w' => e = .returned (.tuple #[.int .i64 (oneF kind s.data.toList).1, .int .i64 (oneF kind s.data.toList).2]) ∧ ∃ n, w' = w.drewN n := by
  rcases kind_cases kind with ⟨h, hk⟩ | ⟨h, hk⟩
  · have HK := Lib.hid h
    have HKK := Lib.hid hk
    have k1 : ¬ kind < 1 := by omega
    have k2 : ¬ 3 < kind := by omega
    clear h hk
    obtain ⟨b0, b1⟩ := numF_bd kind s.data.toList
    by_cases h0 : numF kind s.data.toList = 0
    · have hR := Lib.hid (show oneF kind s.data.toList = (0, 31) by rw [oneF, if_pos HK.out, if_pos h0])
      have H0 := Lib.hid h0
      clear h0 b0 b1
      go_enter Tryd.func16, Tryd.ntmps16
      go_wp2_with (go_at_call 38; refine (so_Value kind s _ HKK.out hs).mono ?_; rw [H0.out]; rintro e w1 ⟨rfl, n, rfl⟩)
      go_ret2
      exact ⟨by rw [hR.out]; rfl, _, rfl⟩
    · have hR := Lib.hid (show oneF kind s.data.toList = (numF kind s.data.toList, 0) by rw [oneF, if_pos HK.out, if_neg h0])
      obtain ⟨x, hx⟩ : ∃ x, numF kind s.data.toList = x := ⟨_, rfl⟩
      rw [hx] at h0 b0 b1
      have HX := Lib.hid hx
      have hne : (x == 0) = false := by rw [beq_eq_false_iff_ne]; exact h0
      clear hx h0
      go_enter Tryd.func16, Tryd.ntmps16
      go_wp2_with (go_at_call 38; refine (so_Value kind s _ HKK.out hs).mono ?_; rw [HX.out]; rintro e w1 ⟨rfl, n, rfl⟩)
      go_ret2
      exact ⟨by rw [hR.out, HX.out]; rfl, _, rfl⟩
  · have hR := Lib.hid (show oneF kind s.data.toList = (0, 30) by rw [oneF, if_neg (by rw [h]; decide)])
    rcases hk with hk | hk
    · go_enter Tryd.func16, Tryd.ntmps16
      go_wp2_with fail
      go_ret2
      exact ⟨by rw [hR.out]; rfl, 0, rfl⟩
    · have k1 : ¬ kind < 1 := by omega
      go_enter Tryd.func16, Tryd.ntmps16
      go_wp2_with fail
      go_ret2
      exact ⟨by rw [hR.out]; rfl, 0, rfl⟩
end
end Go.Proofs.YtgcnfebifopdnaaDoor
