/-
  The reference's words of a text walked.
-/
import Derived.Test.YtdleoankkcemfaaRows
import Derived.Test.YtdleoankkcemfaaRefTok3
namespace Go.Proofs.Ytdleoankkcemfaa
open Go.RowKit

theorem rmiss_info : (Try.prog.info? 77).map (fun i => (i.zero, i.size, i.bytes)) = some (some (.agg #[.int .i64 0, .int .i64 0, .int .i64 0, .string ByteArray.empty]), 4, 40) := by kernel_rfl
/-- Words so far, and the lines that are still to come. -/
def Rest (T : List UInt8) (L : List (List UInt8)) (k a : Nat) (dn : List Tok) : Prop :=
  (∃ f rest, T.drop a = rest ∧ a ≤ T.length ∧ L.drop k = linesFrom f rest ∧ rest.length ≤ f ∧ dn ++ toks colsOf T a (numB (k + 1) (linesFrom f rest)) = textToks colsOf T) ∨ (k = L.length ∧ dn = textToks colsOf T)
theorem Rest.start (T : List UInt8) : Rest T (linesOf T) 0 (startOf T) [] :=
  .inl ⟨T.length, unmarked T, start_drop T, start_le T, rfl, unmarked_le T, rfl⟩
theorem Rest.done {T : List UInt8} {L : List (List UInt8)} {a : Nat} {dn : List Tok} (h : Rest T L L.length a dn) : dn = textToks colsOf T := by
  rcases h with ⟨f, rest, h1, h2, h3, h4, h5⟩ | ⟨_, h⟩
  · rw [List.drop_length] at h3
    rw [← h3] at h5
    simpa [numB, toks] using h5
  · exact h
/-- Behind a line, at the place that the search for its end has found. -/
theorem Rest.next {T : List UInt8} {L : List (List UInt8)} {k a z : Nat} {dn : List Tok} (h : Rest T L k a dn) (hk : k < L.length) (haz : a ≤ z) (hz : z ≤ T.length) (hno : ∀ j, a ≤ j → j < z → byteAt T j ≠ 10) (hstop : z = T.length ∨ byteAt T z = 10) :
    Rest T L (k + 1) (z + 1) (dn ++ lineToks colsOf ((k + 1 : Nat) : Int) a L[k]) := by
  rcases h with ⟨f, rest, h1, h2, h3, h4, h5⟩ | ⟨h, _⟩
  · obtain ⟨e1, e2, hne⟩ := drop_lines L k f rest hk h3 h4
    have e3 : linesFrom f rest = L[k] :: linesFrom (f - 1) (Lib.cut rest [10]).2.1 := by rw [linesFrom_step f rest hne h4, e1]
    rw [e3] at h5
    have h5' : dn ++ lineToks colsOf ((k + 1 : Nat) : Int) a L[k] ++ toks colsOf T (nextAt T a) (numB (k + 1 + 1) (linesFrom (f - 1) (Lib.cut rest [10]).2.1)) = textToks colsOf T := by
      rw [← h5, List.append_assoc]; rfl
    have hc := cut_cases rest
    rcases hc with ⟨m, r, he, hm, hcu, hi⟩ | ⟨h10, hcu, hi⟩
    · rw [hcu] at h5' e2
      have hzz := search_stop T a z haz hz hno hstop m r (by rw [h1, he]) hm
      have hnx : nextAt T a = z + 1 := by
        unfold nextAt; rw [h1, hi, if_pos (by omega)]; omega
      rw [hnx] at h5'
      have hl := congrArg List.length (h1.trans he)
      rw [List.length_drop, List.length_append, List.length_cons] at hl
      refine .inl ⟨f - 1, r, ?_, by omega, e2, ?_, h5'⟩
      · rw [show z + 1 = a + (m.length + 1) by omega, ← List.drop_drop, h1, he]; simp
      · have := congrArg List.length he
        rw [List.length_append, List.length_cons] at this; omega
    · rw [hcu] at h5' e2
      simp only [linesFrom_nil] at h5' e2
      refine .inr ⟨?_, by simpa [numB, toks] using h5'⟩
      have := congrArg List.length e2
      rw [List.length_drop, List.length_nil] at this; omega
  · omega
theorem Rest.le {T : List UInt8} {L : List (List UInt8)} {k a : Nat} {dn : List Tok} (h : Rest T L k a dn) (hk : k < L.length) : a ≤ T.length := by
  rcases h with ⟨_, _, _, h, _⟩ | ⟨h, _⟩
  · exact h
  · omega
theorem belongs_beyond (L : List UInt8) (k : Nat) (h : L.length ≤ k) : belongs L k = false := by
  unfold belongs; rw [byteAt_beyond L k h, letter0]; rfl
theorem rtok_snoc (ts : List Tok) (k cc a q x : Nat) (sl : ByteArray) : tokCells ts ++ [.int .i64 ((k : Int) + 1), .int .i64 (cc : Nat), .int .i64 ((a : Int) + (q : Int)), .string (sl.extract q x)] = tokCells (ts ++ [⟨((k + 1 : Nat) : Int), cc, a + q, (sl.data.toList.take x).drop q⟩]) := by
  rw [tokCells_snoc, extract_mkS, List.drop_take]; rfl
theorem belongsR_at (s : ByteArray) (i : Nat) (z : Int) (b : Bool) (w : World) (hs : s.size ≤ 65536) (hi : i < s.size) (hz : z = (i : Int)) (hb : belongs s.data.toList i = b) :
    Calls Try.prog 54 #[.string s, .int .i64 z] w fun e w' => e = .returned (.bool b) ∧ w = w' := by
  subst hz; exact hb ▸ belongsR_any s i w hs hi

set_option maxRecDepth 100000 in
set_option maxHeartbeats 8000000 in
theorem TokensR_any (s : ByteArray) (w : World) :
    Calls Try.prog 25 #[.string s] w fun e W' => ∃ v, e = .returned (.tuple #[v, .int .i64 (codeS s)]) ∧ Own w W' 77 4 v (tkS s).length (tokCells (tkS s)) := by
  by_cases hbig : 65536 < s.size
  · have HE := Lib.hid (tkS_big s hbig)
    have HC : Hid (codeS s = 10) := Lib.hid (if_pos hbig)
    go_enter Try.func25, Try.ntmps25
    go_wp2_with fail
    go_ret2
    exact ⟨.slice none 0 0, by rw [HC.out]; rfl, by rw [HE.out]; exact Own.nil_ _ _ _⟩
  · have hss : s.size ≤ 65536 := by omega
    have HC : Hid (codeS s = 0) := Lib.hid (if_neg hbig)
    have HE := Lib.hid (tkS_small s hss)
    obtain ⟨i0, hi, hz0, hz1, hz2⟩ := info_parts rmiss_info
    have HLo := Lib.hid (len_toList s)
    have hll : (linesOf s.data.toList).length ≤ 65536 := by
      have := linesFrom_len s.data.toList.length (unmarked s.data.toList)
      rw [len_toList] at this
      unfold linesOf; rw [len_toList]; omega
    have hle : ∀ l ∈ linesOf s.data.toList, l.length ≤ 65536 := fun l hl => by
      have := linesOf_each _ l hl
      rw [len_toList] at this; omega
    have hrs := Rest.start s.data.toList
    have hL01 := fun w' => Lines01_any s w' hss
    obtain ⟨L, hL⟩ : ∃ L, linesOf s.data.toList = L := ⟨_, rfl⟩
    rw [hL] at hll hle hrs hL01
    have HLe := Lib.hid hle
    have HRs := Lib.hid hrs
    have HL01 := Lib.hid hL01
    clear hle hrs hL01 hL hbig
    cases hm : Lib.hasPrefix s.data.toList [239, 187, 191]
    all_goals
      have HM := Lib.hid hm
      have hst : startOf s.data.toList = (if Lib.hasPrefix s.data.toList [239, 187, 191] then 3 else 0) := rfl
      rw [hm] at hst
      have HSt := Lib.hid hst
      clear hm hst
      go_enter Try.func25, Try.ntmps25
      go_wp2_with (go_at_call 52; refine (Marked_is s _ _ HM.out).mono ?_; rintro e w' ⟨rfl, rfl⟩)
      refine (HL01.out _).mono ?_
      rintro e w2 ⟨v2, rfl, o2⟩
      obtain ⟨AL, cL, rfl⟩ := own_slice o2.own
      have O2 := Lib.hid o2
      clear o2
      go_wp2_with fail
      go_loopw [4, 7, 8] (fun st v i wr => ∃ (k a : Nat) (dn : List Tok), k ≤ L.length ∧ i = .int .i64 k ∧ st = .int .i64 a ∧ a ≤ 65537 ∧ dn.length ≤ k * 65536 ∧ Rest s.data.toList L k a dn ∧ Own w wr 77 4 v dn.length (tokCells dn) ∧
        Own w wr 9 1 (.slice AL L.length cL) L.length (strV (L.map mkS))) (fun _ _ i _ => L.length - (intOf i).toNat)
      case atStart =>
        have h := HRs.out
        rw [HSt.out] at h
        first
          | exact ⟨0, 3, [], Nat.zero_le _, rfl, rfl, by omega, by simp, h, ⟨O2.out.below, World.ownsRow_nil _ _ _ _⟩, by simpa using O2.out⟩
          | exact ⟨0, 0, [], Nat.zero_le _, rfl, rfl, by omega, by simp, h, ⟨O2.out.below, World.ownsRow_nil _ _ _ _⟩, by simpa using O2.out⟩
      case round =>
        obtain ⟨k, a, dn, hk, rfl, rfl, ha, hdl, hre, ho, hol⟩ := hrel
        have HRe := Lib.hid hre
        have HO := Lib.hid ho
        have HOL := Lib.hid hol
        clear hre ho hol
        by_cases hlt : k < L.length
        · have hl2 := HLe.out L[k] (List.getElem_mem _)
          have haT : a ≤ s.size := by have := HRe.out.le hlt; rw [HLo.out] at this; exact this
          obtain ⟨g, cap, he, hcg⟩ := own_some HOL.out.own (by omega)
          injection he with he1 he2 he3
          subst he1 he3
          have hc : wr.cell? ⟨g, k, none⟩ = some (.string (mkS L[k])) := by
            have := HOL.out.own.cells (g := g) rfl k (.string (mkS L[k])) (by simp [strV, hlt])
            rw [row_addr] at this; exact this
          obtain ⟨sl, hsl⟩ : ∃ sl, mkS L[k] = sl := ⟨_, rfl⟩
          have HD : Hid (sl.data.toList = L[k]) := Lib.hid (by rw [← hsl]; rfl)
          rw [hsl] at hc
          have hszl : sl.size ≤ 65536 := by rw [← hsl, mkS_size]; exact hl2
          have HLs := Lib.hid (len_toList sl)
          have HNxt : Hid (∀ z, a ≤ z → z ≤ s.data.toList.length → (∀ j, a ≤ j → j < z → byteAt s.data.toList j ≠ 10) → (z = s.data.toList.length ∨ byteAt s.data.toList z = 10) → Rest s.data.toList L (k + 1) (z + 1) (dn ++ lineToks colsOf ((k + 1 : Nat) : Int) a sl.data.toList)) := Lib.hid (fun z h1 h2 h3 h4 => by
            rw [HD.out]; exact HRe.out.next hlt h1 h2 h3 h4)
          clear hsl hl2
          go_wp2_with fail
          clear hc
          obtain ⟨wo, rfl⟩ : ∃ wo : World, wo = wr := ⟨_, rfl⟩
          go_loopw [7, 10] (fun v i wr => ∃ (q f : Nat) (d2 : List Tok), q ≤ sl.size ∧ i = .int .i64 q ∧ sl.size - q ≤ f ∧ d2.length ≤ q ∧ (q = 0 ∨ belongs sl.data.toList (q - 1) = false ∨ belongs sl.data.toList q = false) ∧ d2 ++ (wordsF sl.data.toList f q).map (tokOf colsOf ((k + 1 : Nat) : Int) a sl.data.toList) = lineToks colsOf ((k + 1 : Nat) : Int) a sl.data.toList ∧
            Own w wr 77 4 v (dn ++ d2).length (tokCells (dn ++ d2)) ∧ Own w wr 9 1 (.slice (some ⟨g, 0, none⟩) L.length cL) L.length (strV (L.map mkS))) (fun _ i _ => sl.size - (intOf i).toNat)
          case atStart => exact ⟨0, sl.size, [], Nat.zero_le _, rfl, by omega, by simp, .inl rfl, by rw [← HLs.out]; rfl, by rw [List.append_nil]; exact HO.out, HOL.out⟩
          case round =>
            obtain ⟨q, f, d2, hq, rfl, hf, hd2, hbnd, hdone, ho, hol⟩ := hrel
            have HBnd := Lib.hid hbnd
            have HDone := Lib.hid hdone
            have HO2 := Lib.hid ho
            have HOL2 := Lib.hid hol
            clear hbnd hdone ho hol
            by_cases hqn : q < sl.size
            · cases hb : belongs sl.data.toList q
              · have HB := Lib.hid hb
                have HW := Lib.hid (wordsF_no sl.data.toList f q (by rw [HLs.out]; exact hqn) (by rw [HLs.out]; exact hf) (letter_no hb))
                clear hb
                go_wp2_with (go_at_call 54; refine (belongsR_at sl q _ false _ hszl hqn rfl HB.out).mono ?_; rintro e w' ⟨rfl, rfl⟩)
                go_roundw
                case rel => exact ⟨q + 1, f - 1, d2, by omega, by go_num, by omega, by omega, .inr (.inl (by rw [Nat.add_sub_cancel]; exact HB.out)), by rw [← HW.out]; exact HDone.out, HO2.out, HOL2.out⟩
                case measure => simp [intOf] <;> omega
              · have HB := Lib.hid hb
                have HLet := Lib.hid (begins_letter hb HBnd.out)
                have HW := Lib.hid (wordsF_yes sl.data.toList f q (by rw [HLs.out]; exact hqn) (by rw [HLs.out]; exact hf) HLet.out)
                clear hb
                go_wp2_with (go_at_call 54; refine (belongsR_at sl q _ true _ hszl hqn rfl HB.out).mono ?_; rintro e w' ⟨rfl, rfl⟩)
                obtain ⟨wi, rfl⟩ : ∃ wi : World, wi = wr := ⟨_, rfl⟩
                go_loop [11, 12] (fun inn z => ∃ (x : Nat) (b : Bool), q ≤ x ∧ x ≤ sl.size ∧ z = .int .i64 x ∧ inn = .bool b ∧ (b = true → x < sl.size ∧ belongs sl.data.toList x = true) ∧ (b = false → x = sl.size ∨ belongs sl.data.toList x = false) ∧ ∀ j, q ≤ j → j < x → belongs sl.data.toList j = true) (fun _ z => sl.size - (intOf z).toNat)
                case atStart => exact ⟨q, true, Nat.le_refl _, hq, rfl, rfl, fun _ => ⟨hqn, HB.out⟩, fun h => (by cases h), fun j h1 h2 => by omega⟩
                case round =>
                  obtain ⟨x, b, hqx, hxs, rfl, rfl, hbt, hbf, hall⟩ := hrel
                  have HBt := Lib.hid hbt
                  have HBf := Lib.hid hbf
                  have HAll := Lib.hid hall
                  clear hbt hbf hall
                  cases b
                  · have HStop := Lib.hid (HBf.out rfl)
                    have HEn : Hid (endOf sl.data.toList q = x) := Lib.hid ((endOf_is sl.data.toList q (by rw [HLs.out]; omega)).unique ⟨hqx, by rw [HLs.out]; exact hxs, HAll.out, fun h => by
                      rcases HStop.out with h1 | h1
                      · rw [HLs.out] at h; omega
                      · exact h1⟩)
                    have hqx2 : q < x := by rw [← HEn.out]; exact endOf_lt _ _ HLet.out
                    have HBx : Hid (belongs sl.data.toList x = false) := Lib.hid (by
                      rcases HStop.out with h1 | h1
                      · exact belongs_beyond _ _ (by rw [HLs.out]; omega)
                      · exact h1)
                    obtain ⟨cc, hcc⟩ : ∃ cc, (colsOf sl.data.toList).getD q 0 = cc := ⟨_, rfl⟩
                    have HCC := Lib.hid hcc
                    clear hcc
                    obtain ⟨Tk, hTk⟩ : ∃ Tk, dn ++ d2 = Tk := ⟨_, rfl⟩
                    have hok := HO2.out
                    rw [hTk] at hok
                    have hlt4 : Tk.length ≤ 4295032832 := by
                      rw [← hTk, List.length_append]
                      have : k * 65536 ≤ 65536 * 65536 := Nat.mul_le_mul (by omega) (Nat.le_refl _)
                      omega
                    have HTk := Lib.hid hTk
                    have HOk := Lib.hid hok
                    have HDn : Hid ((d2 ++ [⟨((k + 1 : Nat) : Int), cc, a + q, (sl.data.toList.take x).drop q⟩]) ++ (wordsF sl.data.toList (f - 1) x).map (tokOf colsOf ((k + 1 : Nat) : Int) a sl.data.toList) = lineToks colsOf ((k + 1 : Nat) : Int) a sl.data.toList) := Lib.hid (by
                      rw [← HDone.out, HW.out, HEn.out, List.map_cons, ← HCC.out, List.append_assoc]; rfl)
                    clear hTk hok
                    by_cases hxl : x < sl.size
                    all_goals
                      go_wp2_with first
                        | (go_at_call 55; refine (columnR_any sl q cc _ hszl hqn HCC.out).mono ?_; rintro e w' ⟨rfl, rfl⟩)
                        | (at_builtin; refine wpList_push rfl _ _ 35 rfl w.heap.size 77 i0 (.agg #[.int .i64 0, .int .i64 0, .int .i64 0, .string ByteArray.empty]) 4 40 Try.underlying35 hi hz0 hz1 hz2 rfl (by decide) _ Tk.length _ rfl HOk.out.own #[.int .i64 ((k : Int) + 1), .int .i64 (cc : Nat), .int .i64 ((a : Int) + (q : Int)), .string (sl.extract q x)] rfl (by simp [Value.oneCell']) rfl (by unfold maxLen; omega) (by omega) HOk.out.size ?_; intro gg cap2 w5 hown hg5; have HO5 := Lib.hid (HOk.out.push hown hg5); have HOL5 := Lib.hid (HOL2.out.beside HOk.out (by decide) hg5); clear hown hg5)
                      go_roundw
                      case rel =>
                        refine ⟨x, f - 1, d2 ++ [⟨((k + 1 : Nat) : Int), cc, a + q, (sl.data.toList.take x).drop q⟩], hxs, rfl, by omega, by rw [List.length_append, List.length_singleton]; omega, .inr (.inr HBx.out), HDn.out, ?_, HOL5.out⟩
                        rw [← List.append_assoc, HTk.out, List.length_append, List.length_singleton, ← rtok_snoc]
                        exact HO5.out
                      case measure => simp [intOf] <;> omega
                  · obtain ⟨hx2, hbx⟩ := HBt.out rfl
                    have HAll2 : Hid (∀ j, q ≤ j → j < x + 1 → belongs sl.data.toList j = true) := Lib.hid (fun j h1 h2 => by
                      rcases Nat.lt_or_ge j x with h | h
                      · exact HAll.out j h1 h
                      · have : j = x := by omega
                        rw [this]; exact hbx)
                    clear hbx
                    by_cases hx1 : x + 1 < sl.size
                    · cases hb1 : belongs sl.data.toList (x + 1)
                      all_goals
                        have HB1 := Lib.hid hb1
                        clear hb1
                        go_wp2_with (go_at_call 54; refine (belongsR_at sl (x + 1) _ _ _ hszl hx1 (by omega) HB1.out).mono ?_; rintro e w' ⟨rfl, rfl⟩)
                        go_round
                        case rel => first | exact ⟨x + 1, false, by omega, by omega, by go_num, rfl, fun h => (by cases h), fun _ => .inr HB1.out, HAll2.out⟩ | exact ⟨x + 1, true, by omega, by omega, by go_num, rfl, fun _ => ⟨hx1, HB1.out⟩, fun h => (by cases h), HAll2.out⟩
                        case measure => simp [intOf]; omega
                    · go_wp2_with fail
                      go_round
                      case rel => exact ⟨x + 1, false, by omega, by omega, by go_num, rfl, fun h => (by cases h), fun _ => .inl (by omega), HAll2.out⟩
                      case measure => simp [intOf]; omega
            · obtain rfl : q = sl.size := by omega
              have HD2 : Hid (d2 = lineToks colsOf ((k + 1 : Nat) : Int) a sl.data.toList) := Lib.hid (by rw [← HDone.out, wordsF_end _ _ _ (by rw [HLs.out]; exact Nat.le_refl _)]; simp)
              go_wp2_with fail
              obtain ⟨wi, rfl⟩ : ∃ wi : World, wi = wr := ⟨_, rfl⟩
              go_loop [4] (fun st => ∃ z : Nat, a ≤ z ∧ z ≤ s.size ∧ st = .int .i64 z ∧ ∀ j, a ≤ j → j < z → byteAt s.data.toList j ≠ 10) (fun st => s.size - (intOf st).toNat)
              case atStart => exact ⟨a, Nat.le_refl _, haT, rfl, fun j h1 h2 => by omega⟩
              case round =>
                obtain ⟨z, haz, hzs, rfl, hno⟩ := hrel
                have HNo := Lib.hid hno
                clear hno
                have hgo : (z < s.size ∧ ∃ h : z < s.size, ((s[z].toNat : Int) != 10) = true ∧ Hid (byteAt s.data.toList z ≠ 10)) ∨ ((z < s.size ∧ ∃ h : z < s.size, ((s[z].toNat : Int) != 10) = false ∧ Hid (byteAt s.data.toList z = 10)) ∨ z = s.size) := by
                  by_cases h : z < s.size
                  · have hb := byteAt_lt s z h
                    by_cases hx : s[z] = 10
                    · exact .inr (.inl ⟨h, h, by rw [hx]; rfl, Lib.hid (by rw [hb]; exact hx)⟩)
                    · refine .inl ⟨h, h, ?_, Lib.hid (by rw [hb]; exact hx)⟩
                      have : s[z].toNat ≠ 10 := fun e' => hx (UInt8.toNat_inj.1 e')
                      simp; omega
                  · exact .inr (.inr (by omega))
                rcases hgo with ⟨hzlt, _, hq10, hne⟩ | hstop
                · have HNo2 : Hid (∀ j, a ≤ j → j < z + 1 → byteAt s.data.toList j ≠ 10) := Lib.hid (fun j h1 h2 => by
                    rcases Nat.lt_or_ge j z with h | h
                    · exact HNo.out j h1 h
                    · have : j = z := by omega
                      rw [this]; exact hne.out)
                  go_wp2_with fail
                  go_round
                  case rel => exact ⟨z + 1, by omega, by omega, by go_num, HNo2.out⟩
                  case measure => simp [intOf]; omega
                · have HR2 : Hid (Rest s.data.toList L (k + 1) (z + 1) (dn ++ d2)) := Lib.hid (by
                    rw [HD2.out]
                    refine HNxt.out z haz (by rw [HLo.out]; exact hzs) HNo.out ?_
                    rcases hstop with ⟨_, _, _, h⟩ | h
                    · exact .inr h.out
                    · exact .inl (by rw [HLo.out]; exact h))
                  rcases hstop with ⟨hzlt, _, hq10, _⟩ | hz
                  · go_wp2_with fail
                    go_roundw
                    case rel => exact ⟨k + 1, z + 1, dn ++ d2, by omega, by go_num, by go_num, by omega, by rw [List.length_append, Nat.succ_mul]; omega, HR2.out, HO2.out, HOL2.out⟩
                    case measure => simp [intOf] <;> omega
                  · subst hz
                    go_wp2_with fail
                    go_roundw
                    case rel => exact ⟨k + 1, s.size + 1, dn ++ d2, by omega, by go_num, by go_num, by omega, by rw [List.length_append, Nat.succ_mul]; omega, HR2.out, HO2.out, HOL2.out⟩
                    case measure => simp [intOf] <;> omega
        · obtain rfl : k = L.length := by omega
          go_wp2_with fail
          go_ret2
          have hd := HRe.out.done
          exact ⟨_, by rw [HC.out]; rfl, by rw [HE.out, ← hd]; exact HO.out⟩
end Go.Proofs.Ytdleoankkcemfaa
