/-
  The reference's lines.
-/
import Derived.Test.YtbhfkhfnljddhaaDoorRows
import Derived.Test.YtbhfkhfnljddhaaDoorBase3
import Derived.Test.YtbhfkhfnljddhaaDoorSplit
import Derived.Test.YtbhfkhfnljddhaaDoorLines5
namespace Go.Proofs.YtbhfkhfnljddhaaDoor
open Go.RowKit

theorem index_no (l : List UInt8) (h : (10 : UInt8) ∉ l) : Lib.index l [10] = -1 := by
  induction l with
  | nil => rfl
  | cons a l ih =>
    have h1 : ¬ (10 : UInt8) = a := fun e => h (by simp [e])
    have h2 := ih (fun e => h (by simp [e]))
    have h3 : ([10] : List UInt8).isPrefixOf (a :: l) = false := by simpa [List.isPrefixOf] using h1
    rw [Lib.index, h3, h2]; rfl
theorem index_at (l r : List UInt8) (h : (10 : UInt8) ∉ l) : Lib.index (l ++ 10 :: r) [10] = (l.length : Int) := by
  induction l with
  | nil => simp [Lib.index, List.isPrefixOf]
  | cons a l ih =>
    have h1 : ¬ (10 : UInt8) = a := fun e => h (by simp [e])
    have h2 := ih (fun e => h (by simp [e]))
    have h3 : ([10] : List UInt8).isPrefixOf (a :: (l ++ 10 :: r)) = false := by simpa [List.isPrefixOf] using h1
    rw [List.cons_append, Lib.index, h3, h2]
    have : ¬ ((l.length : Int) == -1) = true := by simp
    simp [this]
theorem cut_no (l : List UInt8) (h : (10 : UInt8) ∉ l) : Lib.cut l [10] = (l, [], false) := by
  unfold Lib.cut; rw [index_no l h, if_neg (by omega)]
theorem cut_at (l r : List UInt8) (h : (10 : UInt8) ∉ l) : Lib.cut (l ++ 10 :: r) [10] = (l, r, true) := by
  unfold Lib.cut; rw [index_at l r h]
  rw [if_pos (by omega)]
  simp

/-- The reference's lines: what is left of the text, the line begun. -/
def rgo : List UInt8 → List UInt8 → List (List UInt8)
  | [], cur => if cur = [] then [] else [ended cur]
  | b :: r, cur => if b = 10 then ended cur :: rgo r [] else rgo r (cur ++ [b])
theorem rgo_eq : ∀ (l cur : List UInt8) (n : Nat), (10 : UInt8) ∉ cur → (cur ++ l).length ≤ n → rgo l cur = linesFrom n (cur ++ l)
  | [], cur, n, hc, hn => by
    by_cases h : cur = []
    · subst h; simp [rgo, linesFrom_nil]
    · rw [List.append_nil] at hn ⊢
      rw [rgo, if_neg h, linesFrom_step n cur h hn, cut_no cur hc]; simp [linesFrom_nil]
  | b :: r, cur, n, hc, hn => by
    by_cases hb : b = 10
    · subst hb
      rw [rgo, if_pos rfl, linesFrom_step n _ (by simp) hn, cut_at cur r hc]
      simp at hn
      have := rgo_eq r [] (n - 1) (by simp) (by simp; omega)
      simpa using this
    · rw [rgo, if_neg hb, rgo_eq r (cur ++ [b]) n (by simp [hc]; exact fun e => hb e.symm) (by simpa using hn)]; simp
theorem rgo_lines (l : List UInt8) : rgo (unmarked l) [] = linesOf l := by
  rw [rgo_eq _ _ l.length (by simp) (by simpa using unmarked_le l)]; rfl
theorem rgo_brk (r cur : List UInt8) : rgo (10 :: r) cur = ended cur :: rgo r [] := by rw [rgo, if_pos rfl]
theorem rgo_more (b : UInt8) (r cur : List UInt8) (h : b ≠ 10) : rgo (b :: r) cur = rgo r (cur ++ [b]) := by rw [rgo, if_neg h]

/-- Another row, behind an append onto this one. -/
theorem Own.beside {w W W' : World} {e size n e' size' n' : Nat} {v v' : Value} {xs xs' : List Value} (h : Own w W e size v n xs) (k : Own w W e' size' v' n' xs') (hne : e ≠ e') (hg : W.grownBy W' v'.ownBlock) : Own w W' e size v n xs := by
  refine ⟨below_push k.below k.own hg (Nat.le_refl _) k.below.size, h.own.kept hg ?_⟩
  rcases h.own.2 with ⟨rfl, _⟩ | ⟨g, cap, cur, rfl, _, hh, _⟩
  · exact .inl rfl
  · refine .inr fun hc => ?_
    rcases k.own.2 with ⟨rfl, _⟩ | ⟨g', cap', cur', rfl, _, hh', _⟩
    · simp [Value.ownBlock] at hc
    · obtain rfl : g = g' := by simpa [Value.ownBlock] using hc
      rw [hh] at hh'; cases hh'; exact hne rfl

theorem ended_some (l : List UInt8) (a : UInt8) : ended (l ++ [a]) = if a = 13 then l else l ++ [a] := by
  unfold ended Lib.trimSuffix Lib.hasSuffix
  by_cases h : a = 13
  · subst h
    rw [if_pos rfl, if_pos]
    · simp
    · rw [List.isSuffixOf_iff_suffix]; exact ⟨l, rfl⟩
  · rw [if_neg h, if_neg]
    rw [List.isSuffixOf_iff_suffix]
    rintro ⟨m, hm⟩
    have := congrArg List.getLast? hm
    simp at this; exact h this.symm
theorem ended_nil : ended [] = [] := by unfold ended Lib.trimSuffix Lib.hasSuffix; rfl

/-- The front of a row. -/
theorem own_front {w : World} {B e : Nat} {g cap n : Nat} {l : List UInt8} {a : UInt8} (h : w.ownsRow B e 1 (.slice (some ⟨g, 0, none⟩) (n + 1) cap) (n + 1) (Lib.byteCells (l ++ [a]))) : w.ownsRow B e 1 (.slice (some ⟨g, 0, none⟩) n cap) n (Lib.byteCells l) := by
  obtain ⟨h1, h2⟩ := h
  have hl : l.length = n := by simpa [Lib.byteCells] using h1
  refine ⟨by simp [Lib.byteCells, hl], ?_⟩
  rcases h2 with ⟨hv, _⟩ | ⟨g', cap', cur, hv, hb, hh, hn, hm, hs, ht⟩
  · cases hv
  · cases hv
    refine .inr ⟨_, _, cur, rfl, hb, hh, by omega, hm, hs, ?_⟩
    have := congrArg (List.take n) ht
    rw [List.take_take] at this
    rw [show min n ((n + 1) * 1) = n * 1 by omega] at this
    rw [this]
    simp [Lib.byteCells, ← hl]

set_option maxHeartbeats 1000000 in
theorem ended01_any (v : Value) (B : Nat) (l : List UInt8) (w : World) (h : w.ownsRow B 5 1 v l.length (Lib.byteCells l)) (hl : l.length ≤ 65536) :
    Calls Tryd.prog 49 #[v] w fun e w' => e = .returned (.string (mkS (ended l))) ∧ w = w' := by
  rcases List.eq_nil_or_concat l with rfl | ⟨m, a, rfl⟩
  · have HB := Lib.hid h
    have hcv := run_string_of_own h 36 9 Tryd.underlying36 Tryd.underlying5 Tryd.underlying9
    obtain ⟨A, cap, rfl⟩ : ∃ A cap, v = .slice A 0 cap := by
      rcases h.2 with ⟨rfl, _⟩ | ⟨g, cap, cur, rfl, _⟩
      · exact ⟨_, _, rfl⟩
      · exact ⟨_, _, rfl⟩
    clear h
    go_enter Tryd.func49, Tryd.ntmps49
    go_wp2_with fail
    go_ret
    exact ⟨rfl, rfl⟩
  · rw [List.concat_eq_append] at h hl ⊢
    have hlen : (m ++ [a]).length = m.length + 1 := by simp
    rw [hlen] at h hl
    rcases h.2 with ⟨_, h0⟩ | ⟨g, cap, cur, rfl, _, _, hcap, _⟩
    · omega
    · have hcv := run_string_of_own h 36 9 Tryd.underlying36 Tryd.underlying5 Tryd.underlying9
      have hcf := run_string_of_own (own_front h) 36 9 Tryd.underlying36 Tryd.underlying5 Tryd.underlying9
      have hc : w.cell? ⟨g, m.length, none⟩ = some (.int .u8 a.toNat) := by
        have := h.cells (g := g) rfl m.length (.int .u8 a.toNat) (by simp [Lib.byteCells])
        rw [row_addr] at this; exact this
      have HE := Lib.hid (ended_some m a)
      clear h
      by_cases ha : a = 13
      · have q : ((a.toNat : Int) == 13) = true := by rw [ha]; rfl
        have HE2 : Hid (ended (m ++ [a]) = m) := Lib.hid (by rw [HE.out, if_pos ha])
        go_enter Tryd.func49, Tryd.ntmps49
        go_wp2_with fail
        go_ret
        exact ⟨by rw [HE2.out]; rfl, rfl⟩
      · have q : ((a.toNat : Int) == 13) = false := by
          have : a.toNat ≠ 13 := fun e => ha (UInt8.toNat_inj.1 e)
          simp; omega
        have HE2 : Hid (ended (m ++ [a]) = m ++ [a]) := Lib.hid (by rw [HE.out, if_neg ha])
        go_enter Tryd.func49, Tryd.ntmps49
        go_wp2_with fail
        go_ret
        exact ⟨by rw [HE2.out]; rfl, rfl⟩

theorem byteEq (b : UInt8) (n : Nat) (hn : n < 256) : ((b.toNat : Int) == (n : Int)) = (UInt8.ofNat n == b) := by
  rw [Bool.eq_iff_iff, beq_iff_eq, beq_iff_eq]
  constructor
  · intro h
    have : b.toNat = n := by omega
    rw [← this]; simp
  · rintro rfl
    simp [Nat.mod_eq_of_lt hn]
theorem hasMark (s : ByteArray) (h : 3 ≤ s.size) : Lib.hasPrefix s.data.toList [239, 187, 191] = (((s[0].toNat : Int) == 239) && (((s[1].toNat : Int) == 187) && ((s[2].toNat : Int) == 191))) := by
  have e : s.data.toList = s[0] :: s[1] :: s[2] :: s.data.toList.drop 3 := by
    have h0 := drop_cons s 0 (by omega)
    have h1 := drop_cons s 1 (by omega)
    have h2 := drop_cons s 2 (by omega)
    rw [List.drop_zero] at h0
    rw [← h2, ← h1, ← h0]
  have e0 : ((s[0].toNat : Int) == 239) = ((239 : UInt8) == s[0]) := byteEq s[0] 239 (by omega)
  have e1 : ((s[1].toNat : Int) == 187) = ((187 : UInt8) == s[1]) := byteEq s[1] 187 (by omega)
  have e2 : ((s[2].toNat : Int) == 191) = ((191 : UInt8) == s[2]) := byteEq s[2] 191 (by omega)
  rw [e, e0, e1, e2]
  simp [Lib.hasPrefix, List.isPrefixOf]
theorem noMark (s : ByteArray) (h : s.size < 3) : Lib.hasPrefix s.data.toList [239, 187, 191] = false := by
  rw [Bool.eq_false_iff]
  intro hp
  have := (List.isPrefixOf_iff_prefix.1 hp).length_le
  rw [len_toList] at this
  simp at this; omega

theorem Marked_any (s : ByteArray) (w : World) :
    Calls Tryd.prog 28 #[.string s] w fun e w' => e = .returned (.bool (Lib.hasPrefix s.data.toList [239, 187, 191])) ∧ w = w' := by
  by_cases h3 : 3 ≤ s.size
  · have HM := Lib.hid (hasMark s h3)
    cases q0 : ((s[0].toNat : Int) == 239) <;> cases q1 : ((s[1].toNat : Int) == 187) <;> cases q2 : ((s[2].toNat : Int) == 191)
    all_goals
      have HM2 := Lib.hid (HM.out.trans (by rw [q0, q1, q2]))
      go_enter Tryd.func28, Tryd.ntmps28
      go_wp2_with fail
      go_ret
      exact ⟨by rw [HM2.out]; rfl, rfl⟩
  · have HM := Lib.hid (noMark s (by omega))
    go_enter Tryd.func28, Tryd.ntmps28
    go_wp2_with fail
    go_ret
    exact ⟨by rw [HM.out]; rfl, rfl⟩

theorem Marked_is (s : ByteArray) (w : World) (b : Bool) (h : Lib.hasPrefix s.data.toList [239, 187, 191] = b) :
    Calls Tryd.prog 28 #[.string s] w fun e w' => e = .returned (.bool b) ∧ w = w' := h ▸ Marked_any s w

set_option maxRecDepth 100000 in
set_option maxHeartbeats 2000000 in
theorem Lines01_any (s : ByteArray) (w : World) (hs : s.size ≤ 65536) :
    Calls Tryd.prog 37 #[.string s] w fun e w' => ∃ v, e = .returned v ∧ Own w w' 9 1 v (linesOf s.data.toList).length (strV ((linesOf s.data.toList).map mkS)) := by
  obtain ⟨i0, hi, hz0, hz1, hz2⟩ := info_parts str_info
  obtain ⟨j0, hj, hy0, hy1, hy2⟩ := info_parts byte_info
  have hlo := len_toList s
  cases hm : Lib.hasPrefix s.data.toList [239, 187, 191]
  all_goals
    have HM := Lib.hid hm
    clear hm
  · have HU : Hid (rgo (s.data.toList) [] = linesOf s.data.toList) := Lib.hid (by rw [← rgo_lines, unmarked, Lib.trimPrefix, HM.out]; rfl)
    clear hlo
    go_enter Tryd.func37, Tryd.ntmps37
    go_wp2_with (go_at_call 28; refine (Marked_is s _ _ HM.out).mono ?_; rintro e w1 ⟨rfl, rfl⟩)
    go_loopw [3, 4, 5, 6] (fun v b op i wr => ∃ (k : Nat) (acc : List (List UInt8)) (cur : List UInt8) (o : Bool), k ≤ s.size ∧ i = .int .i64 k ∧ acc.length ≤ k ∧ cur.length ≤ k ∧ op = .bool o ∧ o = !cur.isEmpty ∧
      Own w wr 9 1 v acc.length (strV (acc.map mkS)) ∧ Own w wr 5 1 b cur.length (Lib.byteCells cur) ∧ acc ++ rgo (s.data.toList.drop k) cur = linesOf s.data.toList) (fun _ _ _ i _ => s.size - (intOf i).toNat)
    case atStart => exact ⟨0, [], [], false, Nat.zero_le _, rfl, Nat.le_refl _, Nat.le_refl _, rfl, rfl, (Own.nil_ w _ _).alloc _, Own.empty w _ _, HU.out⟩
    case round =>
      obtain ⟨k, acc, cur, o, hk, rfl, hal, hcl, rfl, ho, hl, hb, hrem⟩ := hrel
      have HO := Lib.hid ho
      have HL := Lib.hid hl
      have HB := Lib.hid hb
      have HR := Lib.hid hrem
      clear ho hl hb hrem
      by_cases hlt : k < s.size
      · have HD := Lib.hid (drop_cons s k hlt)
        by_cases hb : s[k] = 10
        · have q : ((s[k].toNat : Int) != 10) = false := by rw [hb]; rfl
          have HS : Hid (acc ++ ended cur :: rgo (s.data.toList.drop (k + 1)) [] = linesOf s.data.toList) := Lib.hid (by rw [← HR.out, HD.out, hb, rgo_brk])
          clear hb
          go_wp2_with first
            | (go_at_call 49; refine (ended01_any _ _ cur _ HB.out.own (by omega)).mono ?_; rintro e w1 ⟨rfl, rfl⟩)
            | (at_builtin; refine wpList_push1 rfl _ _ 24 rfl w.heap.size 9 i0 (.string ByteArray.empty) 16 Tryd.underlying24 hi hz0 hz1 hz2 rfl _ acc.length _ rfl HL.out.own _ rfl rfl (by unfold maxLen; omega) (by omega) HL.out.size ?_; intro gg cap w5 hown hg5; have HL' := Lib.hid (HL.out.push hown hg5); clear hown hg5)
          go_roundw
          case rel =>
            refine ⟨k + 1, acc ++ [ended cur], [], false, by omega, by go_num, by simp; omega, by simp, rfl, rfl, ?_, (Own.empty _ _ _).from_ HL'.out.below, by rw [← HS.out]; simp⟩
            have := HL'.out.alloc (.cells #[] 5)
            rw [strV_snoc] at this
            simpa using this
          case measure => simp [intOf] <;> omega
        · have q : ((s[k].toNat : Int) != 10) = true := by
            have : s[k].toNat ≠ 10 := fun e => hb (UInt8.toNat_inj.1 e)
            simp; omega
          have HS : Hid (acc ++ rgo (s.data.toList.drop (k + 1)) (cur ++ [s[k]]) = linesOf s.data.toList) := Lib.hid (by rw [← HR.out, HD.out, rgo_more _ _ _ hb])
          clear hb
          go_wp2_with (at_builtin; refine wpList_push1 rfl _ _ 36 rfl w.heap.size 5 j0 (.int .u8 0) 1 Tryd.underlying36 hj hy0 hy1 hy2 rfl _ _ _ rfl HB.out.own _ rfl rfl (by unfold maxLen; omega) (by omega) HB.out.size ?_; intro gg cap w5 hown hg5; have HB' := Lib.hid (HB.out.push hown hg5); have HL' := Lib.hid (HL.out.beside HB.out (by decide) hg5); clear hown hg5)
          go_roundw
          case rel =>
            refine ⟨k + 1, acc, cur ++ [s[k]], true, by omega, by go_num, by omega, by simp; omega, rfl, by simp, HL'.out, ?_, HS.out⟩
            have h5 := HB'.out
            rw [bytes_snoc] at h5
            simpa using h5
          case measure => simp [intOf] <;> omega
      · obtain rfl : k = s.size := by omega
        have HE := Lib.hid (drop_all s)
        cases o
        · have HC : Hid (linesOf s.data.toList = acc) := Lib.hid (by
            have h1 : cur = [] := by have := HO.out; simpa using this
            rw [← HR.out, HE.out, h1]; simp [rgo])
          go_wp2_with fail
          go_ret
          exact ⟨_, rfl, by rw [HC.out]; exact HL.out⟩
        · have HC : Hid (linesOf s.data.toList = acc ++ [ended cur]) := Lib.hid (by
            have h1 : cur ≠ [] := by have := HO.out; intro h; rw [h] at this; cases this
            rw [← HR.out, HE.out, rgo, if_neg h1])
          go_wp2_with first
            | (go_at_call 49; refine (ended01_any _ _ cur _ HB.out.own (by omega)).mono ?_; rintro e w1 ⟨rfl, rfl⟩)
            | (at_builtin; refine wpList_push1 rfl _ _ 24 rfl w.heap.size 9 i0 (.string ByteArray.empty) 16 Tryd.underlying24 hi hz0 hz1 hz2 rfl _ acc.length _ rfl HL.out.own _ rfl rfl (by unfold maxLen; omega) (by omega) HL.out.size ?_; intro gg cap w5 hown hg5; have HL' := Lib.hid (HL.out.push hown hg5); clear hown hg5)
          go_ret
          refine ⟨_, rfl, ?_⟩
          have := HL'.out
          rw [strV_snoc] at this
          rw [HC.out]; simpa using this
  · obtain ⟨t, ht⟩ : ∃ t, t = s.extract 3 s.size := ⟨_, rfl⟩
    have htd : t.data.toList = s.data.toList.drop 3 := by rw [ht, ← Lib.toList_data, Lib.extract_toList, List.take_of_length_le]; simp [hlo]
    have HU : Hid (rgo (t.data.toList) [] = linesOf s.data.toList) := Lib.hid (by rw [htd, ← rgo_lines, unmarked, Lib.trimPrefix, HM.out]; rfl)
    have h3 : 3 ≤ s.size := by
      have := (List.isPrefixOf_iff_prefix.1 HM.out).length_le
      rw [len_toList] at this; simpa using this
    have htl : t.size ≤ 65536 := by rw [← len_toList, htd, List.length_drop]; omega
    clear hlo htd
    go_enter Tryd.func37, Tryd.ntmps37
    go_wp2_with (go_at_call 28; refine (Marked_is s _ _ HM.out).mono ?_; rintro e w1 ⟨rfl, rfl⟩)
    rw [← ht]
    clear ht hs h3
    go_loopw [3, 4, 5, 6] (fun v b op i wr => ∃ (k : Nat) (acc : List (List UInt8)) (cur : List UInt8) (o : Bool), k ≤ t.size ∧ i = .int .i64 k ∧ acc.length ≤ k ∧ cur.length ≤ k ∧ op = .bool o ∧ o = !cur.isEmpty ∧
      Own w wr 9 1 v acc.length (strV (acc.map mkS)) ∧ Own w wr 5 1 b cur.length (Lib.byteCells cur) ∧ acc ++ rgo (t.data.toList.drop k) cur = linesOf s.data.toList) (fun _ _ _ i _ => t.size - (intOf i).toNat)
    case atStart => exact ⟨0, [], [], false, Nat.zero_le _, rfl, Nat.le_refl _, Nat.le_refl _, rfl, rfl, (Own.nil_ w _ _).alloc _, Own.empty w _ _, HU.out⟩
    case round =>
      obtain ⟨k, acc, cur, o, hk, rfl, hal, hcl, rfl, ho, hl, hb, hrem⟩ := hrel
      have HO := Lib.hid ho
      have HL := Lib.hid hl
      have HB := Lib.hid hb
      have HR := Lib.hid hrem
      clear ho hl hb hrem
      by_cases hlt : k < t.size
      · have HD := Lib.hid (drop_cons t k hlt)
        by_cases hb : t[k] = 10
        · have q : ((t[k].toNat : Int) != 10) = false := by rw [hb]; rfl
          have HS : Hid (acc ++ ended cur :: rgo (t.data.toList.drop (k + 1)) [] = linesOf s.data.toList) := Lib.hid (by rw [← HR.out, HD.out, hb, rgo_brk])
          clear hb
          go_wp2_with first
            | (go_at_call 49; refine (ended01_any _ _ cur _ HB.out.own (by omega)).mono ?_; rintro e w1 ⟨rfl, rfl⟩)
            | (at_builtin; refine wpList_push1 rfl _ _ 24 rfl w.heap.size 9 i0 (.string ByteArray.empty) 16 Tryd.underlying24 hi hz0 hz1 hz2 rfl _ acc.length _ rfl HL.out.own _ rfl rfl (by unfold maxLen; omega) (by omega) HL.out.size ?_; intro gg cap w5 hown hg5; have HL' := Lib.hid (HL.out.push hown hg5); clear hown hg5)
          go_roundw
          case rel =>
            refine ⟨k + 1, acc ++ [ended cur], [], false, by omega, by go_num, by simp; omega, by simp, rfl, rfl, ?_, (Own.empty _ _ _).from_ HL'.out.below, by rw [← HS.out]; simp⟩
            have := HL'.out.alloc (.cells #[] 5)
            rw [strV_snoc] at this
            simpa using this
          case measure => simp [intOf] <;> omega
        · have q : ((t[k].toNat : Int) != 10) = true := by
            have : t[k].toNat ≠ 10 := fun e => hb (UInt8.toNat_inj.1 e)
            simp; omega
          have HS : Hid (acc ++ rgo (t.data.toList.drop (k + 1)) (cur ++ [t[k]]) = linesOf s.data.toList) := Lib.hid (by rw [← HR.out, HD.out, rgo_more _ _ _ hb])
          clear hb
          go_wp2_with (at_builtin; refine wpList_push1 rfl _ _ 36 rfl w.heap.size 5 j0 (.int .u8 0) 1 Tryd.underlying36 hj hy0 hy1 hy2 rfl _ _ _ rfl HB.out.own _ rfl rfl (by unfold maxLen; omega) (by omega) HB.out.size ?_; intro gg cap w5 hown hg5; have HB' := Lib.hid (HB.out.push hown hg5); have HL' := Lib.hid (HL.out.beside HB.out (by decide) hg5); clear hown hg5)
          go_roundw
          case rel =>
            refine ⟨k + 1, acc, cur ++ [t[k]], true, by omega, by go_num, by omega, by simp; omega, rfl, by simp, HL'.out, ?_, HS.out⟩
            have h5 := HB'.out
            rw [bytes_snoc] at h5
            simpa using h5
          case measure => simp [intOf] <;> omega
      · obtain rfl : k = t.size := by omega
        have HE := Lib.hid (drop_all t)
        cases o
        · have HC : Hid (linesOf s.data.toList = acc) := Lib.hid (by
            have h1 : cur = [] := by have := HO.out; simpa using this
            rw [← HR.out, HE.out, h1]; simp [rgo])
          go_wp2_with fail
          go_ret
          exact ⟨_, rfl, by rw [HC.out]; exact HL.out⟩
        · have HC : Hid (linesOf s.data.toList = acc ++ [ended cur]) := Lib.hid (by
            have h1 : cur ≠ [] := by have := HO.out; intro h; rw [h] at this; cases this
            rw [← HR.out, HE.out, rgo, if_neg h1])
          go_wp2_with first
            | (go_at_call 49; refine (ended01_any _ _ cur _ HB.out.own (by omega)).mono ?_; rintro e w1 ⟨rfl, rfl⟩)
            | (at_builtin; refine wpList_push1 rfl _ _ 24 rfl w.heap.size 9 i0 (.string ByteArray.empty) 16 Tryd.underlying24 hi hz0 hz1 hz2 rfl _ acc.length _ rfl HL.out.own _ rfl rfl (by unfold maxLen; omega) (by omega) HL.out.size ?_; intro gg cap w5 hown hg5; have HL' := Lib.hid (HL.out.push hown hg5); clear hown hg5)
          go_ret
          refine ⟨_, rfl, ?_⟩
          have := HL'.out
          rw [strV_snoc] at this
          rw [HC.out]; simpa using this
end Go.Proofs.YtbhfkhfnljddhaaDoor
