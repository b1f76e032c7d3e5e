/-
  What the functions of 'cases' and of its reference compute on bytes: the kinds of letters and of words.
-/
import Derived.Test.YthfndmpigpphoaaGreatRows
import Derived.Test.YthfndmpigpphoaaGreatKA
namespace Go.Proofs.YthfndmpigpphoaaGreat
open Go.RowKit

def smallB (b : UInt8) : Bool := decide (97 ≤ b.toNat ∧ b.toNat ≤ 122)
def capB (b : UInt8) : Bool := decide (65 ≤ b.toNat ∧ b.toNat ≤ 90)
theorem smallB_eq (b : UInt8) : smallB b = (decide (97 ≤ (b.toNat : Int)) && decide ((b.toNat : Int) ≤ 122)) := by
  unfold smallB
  rw [Bool.eq_iff_iff]; simp; omega
theorem capB_eq (b : UInt8) : capB b = (decide (65 ≤ (b.toNat : Int)) && decide ((b.toNat : Int) ≤ 90)) := by
  unfold capB
  rw [Bool.eq_iff_iff]; simp; omega

set_option maxHeartbeats 400000 in
theorem small_any (b : UInt8) (w : World) :
    Calls Tryz.prog 79 #[.int .u8 b.toNat] w fun e w' => e = .returned (.bool (smallB b)) ∧ w = w' := by
  have H := Lib.hid (smallB_eq b)
  go_enter Tryz.func79, Tryz.ntmps79
  go_wp2
  all_goals go_ret
  all_goals exact ⟨ret_bool (by rw [H.out]; simp [*] <;> omega), rfl⟩
set_option maxHeartbeats 400000 in
theorem capital_any (b : UInt8) (w : World) :
    Calls Tryz.prog 80 #[.int .u8 b.toNat] w fun e w' => e = .returned (.bool (capB b)) ∧ w = w' := by
  have H := Lib.hid (capB_eq b)
  go_enter Tryz.func80, Tryz.ntmps80
  go_wp2
  all_goals go_ret
  all_goals exact ⟨ret_bool (by rw [H.out]; simp [*] <;> omega), rfl⟩

def cnt (p : UInt8 → Bool) (l : List UInt8) : Nat := l.countP p
theorem cnt_le (p : UInt8 → Bool) (l : List UInt8) : cnt p l ≤ l.length := List.countP_le_length
theorem cnt_snoc (p : UInt8 → Bool) (l : List UInt8) (c : UInt8) : cnt p (l ++ [c]) = cnt p l + if p c then 1 else 0 := by
  unfold cnt; rw [List.countP_append]; simp [List.countP_cons]
theorem not_both (a : UInt8) : ¬ (smallB a = true ∧ capB a = true) := by simp [smallB, capB]; omega
theorem cnt_two (l : List UInt8) : cnt smallB l + cnt capB l ≤ l.length := by
  unfold cnt
  induction l with
  | nil => simp
  | cons a l ih =>
    simp only [List.countP_cons, List.length_cons]
    have := not_both a
    split <;> split <;> simp_all <;> omega

/-- The kind of a word: 0 no letters, 1 small, 2 as a title, 3 capitals, 4 mixed. -/
def kindOf (l : List UInt8) : Int :=
  if cnt smallB l + cnt capB l = 0 then 0
  else if cnt capB l = 0 then 1
  else if cnt capB l = 1 ∧ (l.head?.map capB) = some true then 2
  else if cnt smallB l = 0 then 3 else 4

set_option maxHeartbeats 1000000 in
theorem of_any (s : ByteArray) (w : World) (hs : s.size ≤ maxLen) :
    Calls Tryz.prog 59 #[.string s] w fun e w' => e = .returned (.int .i64 (kindOf s.data.toList)) ∧ w = w' := by
  unfold maxLen at hs
  go_enter Tryz.func59, Tryz.ntmps59
  go_wp2_with fail
  go_loop [3, 4, 8] (fun a b i => ∃ k : Nat, k ≤ s.size ∧ i = .int .i64 k ∧ a = .int .i64 (cnt smallB (s.data.toList.take k)) ∧ b = .int .i64 (cnt capB (s.data.toList.take k))) (fun _ _ i => s.size - (intOf i).toNat)
  case atStart => exact ⟨0, Nat.zero_le _, rfl, rfl, rfl⟩
  case round =>
    obtain ⟨k, hk, rfl, rfl, rfl⟩ := hrel
    by_cases hlt : k < s.size
    · have b1 := cnt_le smallB (s.data.toList.take k)
      have b2 := cnt_le capB (s.data.toList.take k)
      have b3 : (s.data.toList.take k).length ≤ k := List.length_take_le _ _
      have ht := Lib.hid (take_snoc s k hlt)
      have hx := not_both s[k]
      cases h1 : smallB s[k] <;> cases h2 : capB s[k]
      case true.true => exact absurd ⟨h1, h2⟩ hx
      all_goals clear hx
      all_goals
        go_wp2_with (first | (go_at_call 79; refine (small_any _ _).mono ?_; rintro e w' ⟨rfl, rfl⟩) | (go_at_call 80; refine (capital_any _ _).mono ?_; rintro e w' ⟨rfl, rfl⟩))
      all_goals
        go_round
        case rel => exact ⟨k + 1, by omega, by go_num, by rw [ht.out, cnt_snoc, h1]; first | rfl | go_num, by rw [ht.out, cnt_snoc, h2]; first | rfl | go_num⟩
        case measure => simp [intOf]; omega
    · obtain rfl : k = s.size := by omega
      have ht : s.data.toList.take s.size = s.data.toList := List.take_of_length_le (by simp)
      rw [ht]
      have b1 := cnt_le smallB s.data.toList
      have b2 := cnt_le capB s.data.toList
      have b4 := cnt_two s.data.toList
      have b3 : s.data.toList.length = s.size := by simp
      clear ht
      by_cases hz : cnt smallB s.data.toList + cnt capB s.data.toList = 0
      · go_wp2_with fail
        go_ret
        exact ⟨ret_int (by rw [kindOf, if_pos hz]), rfl⟩
      · have hp : 0 < s.size := by omega
        have H2 := Lib.hid (head_at s hp)
        go_wp2_with (first | (go_at_call 80; refine (capital_any _ _).mono ?_; rintro e w' ⟨rfl, rfl⟩))
        all_goals go_ret
        all_goals refine ⟨ret_int ?_, rfl⟩
        all_goals
          have h3 := H2.out
          unfold kindOf
          rw [h3]
          simp only [beq_iff_eq, beq_eq_false_iff_ne, ne_eq, Option.map_some, Option.some.injEq] at *
          (repeat' split) <;> first | rfl | (exfalso; first | omega | (simp_all <;> omega))

/-- The reference's sort of a byte. -/
def sortOf (b : UInt8) : Int := if smallB b then 1 else if capB b then 2 else 0
set_option maxHeartbeats 400000 in
theorem letter22_any (b : UInt8) (w : World) :
    Calls Tryz.prog 91 #[.int .u8 b.toNat] w fun e w' => e = .returned (.int .i64 (sortOf b)) ∧ w = w' := by
  have H1 := Lib.hid (smallB_eq b)
  have H2 := Lib.hid (capB_eq b)
  go_enter Tryz.func91, Tryz.ntmps91
  go_wp2
  all_goals go_ret
  all_goals exact ⟨ret_int (by rw [sortOf, H1.out, H2.out]; simp [*] <;> omega), rfl⟩

def allSort (k : Int) (l : List UInt8) : Bool := l.all fun b => sortOf b == 0 || sortOf b == k
theorem sortOf_bd (b : UInt8) : 0 ≤ sortOf b ∧ sortOf b ≤ 2 := by unfold sortOf; (repeat' split) <;> omega
set_option maxHeartbeats 400000 in
theorem all_any (s : ByteArray) (n : Nat) (k : Int) (w : World) (hs : s.size ≤ maxLen) (hn : n ≤ s.size) :
    Calls Tryz.prog 90 #[.string s, .int .i64 n, .int .i64 k] w fun e w' => e = .returned (.bool (allSort k (s.data.toList.drop n))) ∧ w = w' := by
  unfold maxLen at hs
  go_enter Tryz.func90, Tryz.ntmps90
  go_wp2_with fail
  go_loop [7] (fun i => ∃ j : Nat, j ≤ s.size ∧ i = .int .i64 j ∧ allSort k (s.data.toList.drop j) = allSort k (s.data.toList.drop n)) (fun i => s.size - (intOf i).toNat)
  case atStart => exact ⟨n, hn, rfl, rfl⟩
  case round =>
    obtain ⟨j, hj, rfl, hrem⟩ := hrel
    have HR := Lib.hid hrem
    clear hrem
    by_cases hlt : j < s.size
    · have hd := Lib.hid (drop_cons s j hlt)
      have hb := sortOf_bd s[j]
      by_cases h0 : (sortOf s[j] == 0) = true
      · have h0' : (sortOf s[j] != 0) = false := by simp at h0; simp [h0]
        go_wp2_with (go_at_call 91; refine (letter22_any _ _).mono ?_; rintro e w' ⟨rfl, rfl⟩)
        go_round
        case rel => exact ⟨j + 1, by omega, by go_num, by rw [← HR.out, hd.out, allSort, allSort, List.all_cons, h0]; simp⟩
        case measure => simp [intOf]; omega
      · have h0' : (sortOf s[j] != 0) = true := by simpa using h0
        have h0f : (sortOf s[j] == 0) = false := by simpa using h0
        by_cases h1 : (sortOf s[j] == k) = true
        · have h1' : (sortOf s[j] != k) = false := by simp at h1; simp [h1]
          go_wp2_with (go_at_call 91; refine (letter22_any _ _).mono ?_; rintro e w' ⟨rfl, rfl⟩)
          go_round
          case rel => exact ⟨j + 1, by omega, by go_num, by rw [← HR.out, hd.out, allSort, allSort, List.all_cons, h1]; simp⟩
          case measure => simp [intOf]; omega
        · have h1' : (sortOf s[j] != k) = true := by simpa using h1
          have h1f : (sortOf s[j] == k) = false := by simpa using h1
          go_wp2_with (go_at_call 91; refine (letter22_any _ _).mono ?_; rintro e w' ⟨rfl, rfl⟩)
          go_ret
          exact ⟨ret_bool (by rw [← HR.out, hd.out, allSort, List.all_cons, h0f, h1f]; simp), rfl⟩
    · obtain rfl : j = s.size := by omega
      go_wp2
      go_ret
      exact ⟨ret_bool (by rw [← HR.out, drop_all]; rfl), rfl⟩

theorem all_at (s : ByteArray) (n k : Int) (w : World) (hs : s.size ≤ maxLen) (h0 : 0 ≤ n) (hn : n ≤ s.size) :
    Calls Tryz.prog 90 #[.string s, .int .i64 n, .int .i64 k] w fun e w' => e = .returned (.bool (allSort k (s.data.toList.drop n.toNat))) ∧ w = w' := by
  obtain ⟨m, rfl⟩ := Int.eq_ofNat_of_zero_le h0
  exact all_any s m k w hs (by omega)

/-- The reference's kind of a word. -/
def kindRef (l : List UInt8) : Int :=
  if allSort 1 l && allSort 2 l then 0
  else if allSort 1 l then 1
  else if (l.head?.map sortOf) == some 2 && allSort 1 l.tail then 2
  else if allSort 2 l then 3 else 4

set_option maxHeartbeats 1000000 in
theorem of22_any (s : ByteArray) (w : World) (hs : s.size ≤ maxLen) :
    Calls Tryz.prog 65 #[.string s] w fun e w' => e = .returned (.int .i64 (kindRef s.data.toList)) ∧ w = w' := by
  have hm := hs
  unfold maxLen at hs
  have e0 : s.data.toList.drop (0 : Int).toNat = s.data.toList := rfl
  have e1 : s.data.toList.drop (1 : Int).toNat = s.data.toList.tail := by simp
  have E0 := Lib.hid e0; clear e0
  have E1 := Lib.hid e1; clear e1
  have hne : s.size = 0 → allSort 1 s.data.toList = true ∧ allSort 2 s.data.toList = true := by
    intro h
    have : s.data.toList = [] := by rw [← List.length_eq_zero_iff]; simpa using h
    rw [this]; exact ⟨rfl, rfl⟩
  cases h1 : allSort 1 s.data.toList <;> cases h2 : allSort 2 s.data.toList
  case true.true =>
    go_enter Tryz.func65, Tryz.ntmps65
    go_wp2_with (go_at_call 90; refine (all_at _ _ _ _ hm (by omega) (by omega)).mono ?_; rw [E0.out]; rintro e w' ⟨rfl, rfl⟩)
    go_ret
    exact ⟨ret_int (by simp [kindRef, h1, h2]), rfl⟩
  case true.false =>
    go_enter Tryz.func65, Tryz.ntmps65
    go_wp2_with (go_at_call 90; refine (all_at _ _ _ _ hm (by omega) (by omega)).mono ?_; rw [E0.out]; rintro e w' ⟨rfl, rfl⟩)
    go_ret
    exact ⟨ret_int (by simp [kindRef, h1, h2]), rfl⟩
  all_goals
    have hp : 0 < s.size := by
      rcases Nat.eq_zero_or_pos s.size with h | h
      · have := (hne h).1; rw [h1] at this; cases this
      · exact h
    have H := Lib.hid (head_at s hp)
    clear hne
    cases h3 : allSort 1 s.data.toList.tail
    all_goals
      cases h4 : (sortOf s[0] == 2)
      all_goals
        go_enter Tryz.func65, Tryz.ntmps65
        go_wp2_with (first
          | (go_at_call 90; refine (all_at _ _ _ _ hm (by omega) (by omega)).mono ?_; (first | rw [E0.out] | rw [E1.out]); rintro e w' ⟨rfl, rfl⟩)
          | (go_at_call 91; refine (letter22_any _ _).mono ?_; rintro e w' ⟨rfl, rfl⟩))
        go_ret
        exact ⟨ret_int (by simp [kindRef, h1, h2, H.out, h3]; try simpa using h4), rfl⟩
end Go.Proofs.YthfndmpigpphoaaGreat
