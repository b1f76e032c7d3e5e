/-
  What should be one flag each: the program's pieces and the reference's parts.
-/
import Derived.Test.YtgcnfebifopdnaaDoorRows
import Derived.Test.YtgcnfebifopdnaaDoorGD
import Derived.Test.YtgcnfebifopdnaaDoorShelf
namespace Go.Proofs.YtgcnfebifopdnaaDoor
open Go.RowKit

/-- Pieces of k letters each. -/
def chopF (k : Nat) (l : List UInt8) : List (List UInt8) := chop k l.length l
theorem chopF_nil (k : Nat) : chopF k [] = [] := rfl
theorem chopF_step (k : Nat) (l : List UInt8) (hk : 0 < k) (h : l ≠ []) : chopF k l = l.take k :: chopF k (l.drop k) := by
  have hp := List.length_pos_iff.2 h
  unfold chopF
  rw [chop_step k l.length l h (Nat.le_refl _), chop_fuel k hk (l.length - 1) (l.drop k).length _ (by simp; omega) (Nat.le_refl _)]
theorem chopF_len (k : Nat) (l : List UInt8) : (chopF k l).length ≤ l.length := chop_len _ _ _
theorem chopF_at (c : Nat) (hc : 0 < c) (s : ByteArray) (k : Nat) (hk : k < s.size) (e : Nat) (he : e = min (k + c) s.size) :
    chopF c (s.data.toList.drop k) = (s.extract k e).data.toList :: chopF c (s.data.toList.drop (k + c)) := by
  have hne : s.data.toList.drop k ≠ [] := by
    intro h
    have h1 := congrArg List.length h
    simp at h1
    omega
  rw [chopF_step c _ hc hne, List.drop_drop, extract_mkS, mkS_data]
  congr 1
  rw [he]
  by_cases h : k + c ≤ s.size
  · rw [Nat.min_eq_left h]; congr 1; omega
  · rw [Nat.min_eq_right (by omega), List.take_of_length_le (by simp; omega), List.take_of_length_le (by simp)]
theorem drop_end (s : ByteArray) (k : Nat) (h : ¬ k < s.size) : s.data.toList.drop k = [] := List.drop_of_length_le (by simp; omega)
def piecesS (kind : Int) (s : ByteArray) : List ByteArray := (piecesOf kind s.data.toList).map mkS
theorem piecesS_len (kind : Int) (s : ByteArray) : (piecesS kind s).length = (piecesOf kind s.data.toList).length := by unfold piecesS; simp
theorem mkS_self (x : ByteArray) : mkS x.data.toList = x := by cases x; rfl
theorem map_mkS (ss : List ByteArray) (ls : List (List UInt8)) (h : ss.map (·.data.toList) = ls) : ss = ls.map mkS := by
  subst h
  rw [List.map_map]
  exact (List.map_id ss).symm
theorem piecesOf_12 (c : Nat) (hc : c = 1 ∨ c = 2) (l : List UInt8) : piecesOf (c : Int) l = chopF c l := by
  rcases hc with rfl | rfl <;> rfl

set_option maxHeartbeats 4000000 in
set_option maxRecDepth 100000 in
theorem so_pieces (kind : Int) (s : ByteArray) (m : Int) (w : World) (hk : kind = 1 ∨ kind = 2 ∨ kind = 3) (hs : s.size ≤ 4194304) (hm : w.cell? ⟨0, 0, none⟩ = some (.int .i64 m)) :
    Calls Tryd.prog 35 #[.int .i64 kind, .string s] w fun e w' => ∃ v', e = .returned v' ∧ Rd w' 1 v' (piecesS kind s).length (strV (piecesS kind s)) ∧ Below w.heap.size w w' := by
  obtain ⟨i0, hi, hz0, hz1, hz2⟩ := info_parts str_info
  have hk' : kind = 3 ∨ ∃ c : Nat, (c = 1 ∨ c = 2) ∧ kind = (c : Int) := by
    rcases hk with rfl | rfl | rfl
    · exact .inr ⟨1, .inl rfl, rfl⟩
    · exact .inr ⟨2, .inr rfl, rfl⟩
    · exact .inl rfl
  clear hk
  rcases hk' with rfl | ⟨c, hc, rfl⟩
  · have hR := Lib.hid (show (Lib.splitB ⟨#[44]⟩ 0 (Lib.countB s ⟨#[44]⟩) s) = piecesS 3 s from map_mkS _ _ (split_comma s))
    have hl := Lib.hid (Lib.splitB_all ⟨#[44]⟩ (by decide) 0 _ s rfl)
    go_enter Tryd.func35, Tryd.ntmps35
    go_wp2_with (go_at_call 50; refine (Tryd.strings_Split s ⟨#[44]⟩ m _ (by omega) hm (by decide)).mono ?_; rintro e w1 ⟨rfl, rfl⟩)
    go_ret
    have h2 := hl.out
    rw [hR.out] at h2
    refine ⟨_, rfl, ?_, (Below.refl _ _).alloc (Nat.le_refl _) _⟩
    rw [← h2, hR.out]
    exact Rd.of_own (own_laid w 9 1 (piecesS 3 s).length ((piecesS 3 s).map Value.string).toArray (by simp) (by
      rw [piecesS_len]
      have := piecesOf_len 3 s.data.toList
      rw [len_toList] at this
      unfold maxLen; omega))
  · have hT := Lib.hid (show piecesS c s = (chopF c s.data.toList).map mkS by unfold piecesS; rw [piecesOf_12 c hc])
    have hcl := chopF_len c s.data.toList
    rw [len_toList] at hcl
    have hcp : 0 < c ∧ c ≤ 2 ∧ ((c : Int) == 3) = false := by rcases hc with rfl | rfl <;> decide
    obtain ⟨hc0, hc2, hc3⟩ := hcp
    clear hc
    generalize hN : (chopF c s.data.toList).length = N at *
    have HN := Lib.hid hN
    clear hN
    go_enter Tryd.func35, Tryd.ntmps35
    go_wp2
    go_loopw [5, 6] (fun o i wr => ∃ (k : Nat) (acc : List ByteArray), k ≤ s.size + 2 ∧ acc.length ≤ N ∧ i = .int .i64 k ∧ Hid (acc.map (·.data.toList) ++ chopF c (s.data.toList.drop k) = chopF c s.data.toList) ∧ Hid (Own w wr 9 1 o acc.length (strV acc))) (fun _ i _ => s.size + 2 - (intOf i).toNat)
    case atStart => exact ⟨0, [], by omega, Nat.zero_le _, rfl, by show _ = _; simp, Own.nil_ _ _ _⟩
    case round =>
      obtain ⟨k, acc, hkk, hal, rfl, HA, HO⟩ := hrel
      have hsz := HO.out.size
      by_cases hlt : k < s.size
      · have hst : ∀ e, e = min (k + c) s.size → acc.length + 1 ≤ N ∧ (acc ++ [s.extract k e]).map (·.data.toList) ++ chopF c (s.data.toList.drop (k + c)) = chopF c s.data.toList := by
          intro e he
          have h1 := chopF_at c hc0 s k hlt e he
          have h2 := HA.out
          rw [h1] at h2
          refine ⟨?_, by rw [← h2]; simp⟩
          rw [← HN.out, ← h2]; simp
        by_cases hkc : k + c ≤ s.size
        · obtain ⟨s1, s2⟩ := hst (k + c) (Nat.min_eq_left hkc).symm
          have S2 := Lib.hid s2
          clear hst s2
          have hmin : min ((k : Int) + c) (s.size : Int) = (k : Int) + c := by omega
          go_wp2_with (at_builtin; refine wpList_push1 rfl _ _ 61 rfl w.heap.size 9 i0 (.string ByteArray.empty) 16 Tryd.underlying61 hi hz0 hz1 hz2 rfl _ acc.length _ rfl HO.out.own _ rfl rfl (by unfold maxLen; omega) (by omega) hsz ?_; intro gg cap w5 hown hg5; have HO' := Lib.hid (HO.out.push hown hg5); clear hown hg5)
          go_roundw
          case rel => exact ⟨k + c, acc ++ [s.extract k (k + c)], by omega, by simpa using s1, by go_num, S2.out, Lib.hid (by simpa [strV] using HO'.out)⟩
          case measure => simp [intOf]; omega
        · obtain ⟨s1, s2⟩ := hst s.size (Nat.min_eq_right (by omega)).symm
          have S2 := Lib.hid s2
          clear hst s2
          have hmin : min ((k : Int) + c) (s.size : Int) = (s.size : Int) := by omega
          go_wp2_with (at_builtin; refine wpList_push1 rfl _ _ 61 rfl w.heap.size 9 i0 (.string ByteArray.empty) 16 Tryd.underlying61 hi hz0 hz1 hz2 rfl _ acc.length _ rfl HO.out.own _ rfl rfl (by unfold maxLen; omega) (by omega) hsz ?_; intro gg cap w5 hown hg5; have HO' := Lib.hid (HO.out.push hown hg5); clear hown hg5)
          go_roundw
          case rel => exact ⟨k + c, acc ++ [s.extract k s.size], by omega, by simpa using s1, by go_num, S2.out, Lib.hid (by simpa [strV] using HO'.out)⟩
          case measure => simp [intOf]; omega
      · have hfin := Lib.hid (show acc = piecesS c s by
          have h2 := HA.out
          rw [drop_end s k hlt, chopF_nil, List.append_nil] at h2
          rw [hT.out]; exact map_mkS _ _ h2)
        go_wp2
        go_ret
        refine ⟨_, rfl, ?_, HO.out.below⟩
        rw [← hfin.out]
        exact Rd.of_own HO.out.own

theorem ext_snoc (s : ByteArray) (f k : Nat) (hf : f ≤ k) (hk : k < s.size) : (s.extract f (k + 1)).data.toList = (s.extract f k).data.toList ++ [s[k]] := by
  rw [extract_mkS, extract_mkS, mkS_data, mkS_data, show k + 1 - f = (k - f) + 1 by omega, List.take_succ_eq_append_getElem (by simp; omega)]
  congr 2
  rw [List.getElem_drop]
  have e : f + (k - f) = k := by omega
  simp only [e]
  rfl
theorem ext_nil (s : ByteArray) (k : Nat) : (s.extract k k).data.toList = [] := by rw [extract_mkS, mkS_data]; simp
/-- The search for commas: k letters have been looked at, the piece that is open begins at f. -/
def CutAt (s : ByteArray) (k f : Nat) (acc : List ByteArray) : Prop :=
  (k ≤ s.size ∧ f ≤ k ∧ acc.map (·.data.toList) ++ cgo (s.extract f k).data.toList (s.data.toList.drop k) = cgo [] s.data.toList) ∨ (k = s.size + 1 ∧ acc.map (·.data.toList) = cgo [] s.data.toList)
theorem CutAt.start (s : ByteArray) : CutAt s 0 0 [] := .inl ⟨Nat.zero_le _, Nat.le_refl _, by rw [ext_nil]; simp⟩
theorem CutAt.end_ {s : ByteArray} {f : Nat} {acc : List ByteArray} (h : CutAt s s.size f acc) : CutAt s (s.size + 1) (s.size + 1) (acc ++ [s.extract f s.size]) := by
  rcases h with ⟨_, _, h⟩ | ⟨h, _⟩
  · rw [drop_end s s.size (by omega), cgo] at h
    exact .inr ⟨rfl, by rw [← h]; simp⟩
  · omega
theorem CutAt.hit {s : ByteArray} {k f : Nat} {acc : List ByteArray} (h : CutAt s k f acc) (hk : k < s.size) (h44 : s[k].toNat = 44) : CutAt s (k + 1) (k + 1) (acc ++ [s.extract f k]) := by
  rcases h with ⟨_, _, h⟩ | ⟨h, _⟩
  · rw [drop_cons s k hk, cgo, if_pos h44] at h
    exact .inl ⟨by omega, Nat.le_refl _, by rw [← h, ext_nil]; simp⟩
  · omega
theorem CutAt.pass {s : ByteArray} {k f : Nat} {acc : List ByteArray} (h : CutAt s k f acc) (hk : k < s.size) (h44 : s[k].toNat ≠ 44) : CutAt s (k + 1) f acc := by
  rcases h with ⟨_, hf, h⟩ | ⟨h, _⟩
  · rw [drop_cons s k hk, cgo, if_neg h44] at h
    exact .inl ⟨by omega, by omega, by rw [← h, ext_snoc s f k hf hk]⟩
  · omega
theorem CutAt.le {s : ByteArray} {k f : Nat} {acc : List ByteArray} (h : CutAt s k f acc) (hk : k ≤ s.size) : f ≤ k := by
  rcases h with ⟨_, hf, _⟩ | ⟨h, _⟩ <;> omega
theorem CutAt.done {s : ByteArray} {k f : Nat} {acc : List ByteArray} (h : CutAt s k f acc) (hk : ¬ k ≤ s.size) : acc.map (·.data.toList) = cgo [] s.data.toList := by
  rcases h with ⟨h, _⟩ | ⟨_, h⟩
  · omega
  · exact h
theorem CutAt.len {s : ByteArray} {k f : Nat} {acc : List ByteArray} (h : CutAt s k f acc) : acc.length ≤ s.size + 1 := by
  have hl := cgo_len s.data.toList []
  rw [len_toList] at hl
  rcases h with ⟨_, _, h⟩ | ⟨_, h⟩
  · have := congrArg List.length h
    rw [List.length_append, List.length_map] at this
    omega
  · have := congrArg List.length h
    rw [List.length_map] at this
    omega

set_option maxHeartbeats 4000000 in
set_option maxRecDepth 100000 in
theorem so_parts (kind : Int) (s : ByteArray) (w : World) (hk : kind = 1 ∨ kind = 2 ∨ kind = 3) (hs : s.size ≤ 4194304) :
    Calls Tryd.prog 37 #[.int .i64 kind, .string s] w fun e w' => ∃ v', e = .returned v' ∧ Rd w' 1 v' (piecesS kind s).length (strV (piecesS kind s)) ∧ Below w.heap.size w w' := by
  obtain ⟨i0, hi, hz0, hz1, hz2⟩ := info_parts str_info
  have hk' : kind = 3 ∨ ∃ c : Nat, (c = 1 ∨ c = 2) ∧ kind = (c : Int) := by
    rcases hk with rfl | rfl | rfl
    · exact .inr ⟨1, .inl rfl, rfl⟩
    · exact .inr ⟨2, .inr rfl, rfl⟩
    · exact .inl rfl
  clear hk
  rcases hk' with rfl | ⟨c, hc, rfl⟩
  · have hT := Lib.hid (show piecesS 3 s = (cgo [] s.data.toList).map mkS from rfl)
    go_enter Tryd.func37, Tryd.ntmps37
    go_wp2
    go_loopw [5, 6, 7] (fun o fr i wr => ∃ (k f : Nat) (acc : List ByteArray), k ≤ s.size + 1 ∧ acc.length ≤ s.size + 1 ∧ fr = .int .i64 f ∧ i = .int .i64 k ∧ Hid (CutAt s k f acc) ∧ Hid (Own w wr 9 1 o acc.length (strV acc))) (fun _ _ i _ => s.size + 1 - (intOf i).toNat)
    case atStart => exact ⟨0, 0, [], Nat.zero_le _, Nat.zero_le _, rfl, rfl, CutAt.start s, Own.nil_ _ _ _⟩
    case round =>
      obtain ⟨k, f, acc, hkk, hal, rfl, rfl, HA, HO⟩ := hrel
      have hsz := HO.out.size
      by_cases hle : k ≤ s.size
      · have hfk := HA.out.le hle
        have hle' : (k : Int) ≤ (s.size : Int) := by omega
        by_cases hlt : k < s.size
        · have hne : ((k : Int) == (s.size : Int)) = false := by rw [beq_eq_false_iff_ne]; omega
          by_cases h44 : s[k].toNat = 44
          · have S2 := Lib.hid (HA.out.hit hlt h44)
            have hlen := S2.out.len
            have hq : ((s[k].toNat : Int) == 44) = true := by rw [h44]; rfl
            clear h44
            go_wp2_with (at_builtin; refine wpList_push1 rfl _ _ 61 rfl w.heap.size 9 i0 (.string ByteArray.empty) 16 Tryd.underlying61 hi hz0 hz1 hz2 rfl _ acc.length _ rfl HO.out.own _ rfl rfl (by unfold maxLen; omega) (by omega) hsz ?_; intro gg cap w5 hown hg5; have HO' := Lib.hid (HO.out.push hown hg5); clear hown hg5)
            go_roundw
            case rel => exact ⟨k + 1, k + 1, acc ++ [s.extract f k], by omega, hlen, by go_num, by go_num, S2.out, Lib.hid (by simpa [strV] using HO'.out)⟩
            case measure => simp [intOf]; omega
          · have S2 := Lib.hid (HA.out.pass hlt h44)
            have hq : ((s[k].toNat : Int) == 44) = false := by rw [beq_eq_false_iff_ne]; omega
            clear h44
            go_wp2
            go_roundw
            case rel => exact ⟨k + 1, f, acc, by omega, hal, rfl, by go_num, S2.out, HO.out⟩
            case measure => simp [intOf]; omega
        · obtain rfl : k = s.size := by omega
          have S2 := Lib.hid (HA.out.end_)
          have hlen := S2.out.len
          go_wp2_with (at_builtin; refine wpList_push1 rfl _ _ 61 rfl w.heap.size 9 i0 (.string ByteArray.empty) 16 Tryd.underlying61 hi hz0 hz1 hz2 rfl _ acc.length _ rfl HO.out.own _ rfl rfl (by unfold maxLen; omega) (by omega) hsz ?_; intro gg cap w5 hown hg5; have HO' := Lib.hid (HO.out.push hown hg5); clear hown hg5)
          go_roundw
          case rel => exact ⟨s.size + 1, s.size + 1, acc ++ [s.extract f s.size], by omega, hlen, by go_num, by go_num, S2.out, Lib.hid (by simpa [strV] using HO'.out)⟩
          case measure => simp [intOf]
      · have hfin := Lib.hid (show acc = piecesS 3 s by rw [hT.out]; exact map_mkS _ _ (HA.out.done hle))
        have hle' : ¬ (k : Int) ≤ (s.size : Int) := by omega
        go_wp2
        go_ret
        refine ⟨_, rfl, ?_, HO.out.below⟩
        rw [← hfin.out]
        exact Rd.of_own HO.out.own
  · have hT := Lib.hid (show piecesS c s = (chopF c s.data.toList).map mkS by unfold piecesS; rw [piecesOf_12 c hc])
    have hcl := chopF_len c s.data.toList
    rw [len_toList] at hcl
    have hcp : 0 < c ∧ c ≤ 2 ∧ ((c : Int) == 3) = false := by rcases hc with rfl | rfl <;> decide
    obtain ⟨hc0, hc2, hc3⟩ := hcp
    clear hc
    generalize hN : (chopF c s.data.toList).length = N at *
    have HN := Lib.hid hN
    clear hN
    go_enter Tryd.func37, Tryd.ntmps37
    go_wp2
    go_loopw [5, 8, 9] (fun o i _ wr => ∃ (k : Nat) (acc : List ByteArray), k ≤ s.size + 2 ∧ acc.length ≤ N ∧ i = .int .i64 k ∧ Hid (acc.map (·.data.toList) ++ chopF c (s.data.toList.drop k) = chopF c s.data.toList) ∧ Hid (Own w wr 9 1 o acc.length (strV acc))) (fun _ i _ _ => s.size + 2 - (intOf i).toNat)
    case atStart => exact ⟨0, [], by omega, Nat.zero_le _, rfl, by show _ = _; simp, Own.nil_ _ _ _⟩
    case round =>
      obtain ⟨k, acc, hkk, hal, rfl, HA, HO⟩ := hrel
      have hsz := HO.out.size
      by_cases hlt : k < s.size
      · have hst : ∀ e, e = min (k + c) s.size → acc.length + 1 ≤ N ∧ (acc ++ [s.extract k e]).map (·.data.toList) ++ chopF c (s.data.toList.drop (k + c)) = chopF c s.data.toList := by
          intro e he
          have h1 := chopF_at c hc0 s k hlt e he
          have h2 := HA.out
          rw [h1] at h2
          refine ⟨?_, by rw [← h2]; simp⟩
          rw [← HN.out, ← h2]; simp
        by_cases hkc : k + c ≤ s.size
        · obtain ⟨s1, s2⟩ := hst (k + c) (Nat.min_eq_left hkc).symm
          have S2 := Lib.hid s2
          clear hst s2
          have hnb : ¬ (s.size : Int) < (k : Int) + c := by omega
          go_wp2_with (at_builtin; refine wpList_push1 rfl _ _ 61 rfl w.heap.size 9 i0 (.string ByteArray.empty) 16 Tryd.underlying61 hi hz0 hz1 hz2 rfl _ acc.length _ rfl HO.out.own _ rfl rfl (by unfold maxLen; omega) (by omega) hsz ?_; intro gg cap w5 hown hg5; have HO' := Lib.hid (HO.out.push hown hg5); clear hown hg5)
          go_roundw
          case rel => exact ⟨k + c, acc ++ [s.extract k (k + c)], by omega, by simpa using s1, by go_num, S2.out, Lib.hid (by simpa [strV] using HO'.out)⟩
          case measure => simp [intOf]; omega
        · obtain ⟨s1, s2⟩ := hst s.size (Nat.min_eq_right (by omega)).symm
          have S2 := Lib.hid s2
          clear hst s2
          have hnb : (s.size : Int) < (k : Int) + c := by omega
          go_wp2_with (at_builtin; refine wpList_push1 rfl _ _ 61 rfl w.heap.size 9 i0 (.string ByteArray.empty) 16 Tryd.underlying61 hi hz0 hz1 hz2 rfl _ acc.length _ rfl HO.out.own _ rfl rfl (by unfold maxLen; omega) (by omega) hsz ?_; intro gg cap w5 hown hg5; have HO' := Lib.hid (HO.out.push hown hg5); clear hown hg5)
          go_roundw
          case rel => exact ⟨k + c, acc ++ [s.extract k s.size], by omega, by simpa using s1, by go_num, S2.out, Lib.hid (by simpa [strV] using HO'.out)⟩
          case measure => simp [intOf]; omega
      · have hfin := Lib.hid (show acc = piecesS c s by
          have h2 := HA.out
          rw [drop_end s k hlt, chopF_nil, List.append_nil] at h2
          rw [hT.out]; exact map_mkS _ _ h2)
        go_wp2
        go_ret
        refine ⟨_, rfl, ?_, HO.out.below⟩
        rw [← hfin.out]
        exact Rd.of_own HO.out.own
end Go.Proofs.YtgcnfebifopdnaaDoor
