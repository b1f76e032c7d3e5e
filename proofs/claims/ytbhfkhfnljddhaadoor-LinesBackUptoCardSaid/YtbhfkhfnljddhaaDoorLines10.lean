/-
  LinesBlanks walked: fields with blanks and tabs about them are these fields.
-/
import Derived.Test.YtbhfkhfnljddhaaDoorRows
import Derived.Test.YtbhfkhfnljddhaaDoorLines9
namespace Go.Proofs.YtbhfkhfnljddhaaDoor
open Go.RowKit

def strip (l : List UInt8) : List UInt8 := l.filter fun b => !gapB b
theorem strip_nogap (l : List UInt8) : ∀ b ∈ strip l, gapB b = false := by
  intro b hb
  have := (List.mem_filter.1 hb).2
  simpa using this
theorem fgo_gaps (g rest : List UInt8) (h : ∀ b ∈ g, gapB b = true) : fgo (g ++ rest) none = fgo rest none := by
  induction g with
  | nil => rfl
  | cons b g ih =>
    rw [List.cons_append, fgo_skip _ _ (h b (by simp))]
    exact ih fun c hc => h c (by simp [hc])
theorem fgo_word (p rest : List UInt8) : ∀ c : List UInt8, (∀ b ∈ p, gapB b = false) → fgo (p ++ rest) (some c) = fgo rest (some (c ++ p)) := by
  induction p with
  | nil => intro c _; simp
  | cons b p ih =>
    intro c h
    rw [List.cons_append, fgo_more _ _ _ (h b (by simp)), ih _ fun d hd => h d (by simp [hd])]
    simp
theorem fgo_piece (p rest : List UInt8) (hp : p ≠ []) (h : ∀ b ∈ p, gapB b = false) : fgo (p ++ 32 :: rest) none = p :: fgo rest none := by
  cases p with
  | nil => exact absurd rfl hp
  | cons b p =>
    rw [List.cons_append, fgo_first _ _ (h b (by simp)), fgo_word p _ _ fun d hd => h d (by simp [hd]), fgo_end _ _ (.inr ⟨32, rest, rfl, rfl⟩), fgo_skip _ _ rfl]
    rfl
theorem strip_snoc (s : ByteArray) (k : Nat) (h : k < s.size) : strip (s.data.toList.take (k + 1)) = if gapB s[k] then strip (s.data.toList.take k) else strip (s.data.toList.take k) ++ [s[k]] := by
  rw [take_snoc s k h, strip, List.filter_append]
  cases h2 : gapB s[k] <;> simp [strip, h2]
theorem extract_one (s : ByteArray) (k : Nat) (h : k < s.size) : s.extract k (k + 1) = mkS [s[k]] := by
  rw [extract_mkS, drop_cons s k h]
  have : k + 1 - k = 1 := by omega
  rw [this]; rfl
theorem bulkS_take (ss : List ByteArray) (i : Nat) (h : i < ss.length) : bulkS (ss.take (i + 1)) = bulkS (ss.take i) + (ss[i].size + 1) := by
  rw [List.take_succ_eq_append_getElem h]
  unfold bulkS
  rw [List.map_append, List.sum_append]
  rfl
theorem bulkS_le (ss : List ByteArray) (i : Nat) : bulkS (ss.take i) ≤ bulkS ss := by
  conv => rhs; rw [← List.take_append_drop i ss]
  unfold bulkS
  rw [List.map_append, List.sum_append]
  exact Nat.le_add_right _ _
theorem bulk_at (ss : List ByteArray) (i : Nat) (h : i < ss.length) : ss[i].size + 1 ≤ bulkS ss := by
  have h1 := bulkS_take ss i h
  have h2 := bulkS_le ss (i + 1)
  omega
theorem strip_len (l : List UInt8) : (strip l).length ≤ l.length := List.length_filter_le _ _

/-- What has been put together when i fields are over: the line's bytes, the fields that are wanted. -/
def Put (L : List UInt8) (W : List (List UInt8)) : Prop := ∀ rest, fgo (L ++ rest) none = W ++ fgo rest none
theorem Put.start (l : List UInt8) : Put (gapOf l 0) [] := fun _ => fgo_gaps _ _ (gapOf_gap l 0)
theorem Put.more {L : List UInt8} {W : List (List UInt8)} (h : Put L W) (p : List UInt8) (hp : p ≠ []) (hn : ∀ b ∈ p, gapB b = false) (l : List UInt8) (i : Nat) : Put (L ++ ((p ++ [32]) ++ gapOf l i)) (W ++ [p]) := by
  intro rest
  have e : L ++ ((p ++ [32]) ++ gapOf l i) ++ rest = L ++ (p ++ 32 :: (gapOf l i ++ rest)) := by simp
  rw [e, h, fgo_piece _ _ hp hn, fgo_gaps _ _ (gapOf_gap l i)]
  simp
theorem Put.fields {L : List UInt8} {W : List (List UInt8)} (h : Put L W) : fieldsS (mkS L) = W.map mkS := by
  have := h []
  simp [fgo] at this
  rw [fieldsS, mkS_data, fieldsOf, this]

set_option maxHeartbeats 4000000 in
set_option maxRecDepth 100000 in
theorem linesBlanks_walk (v1 v2 : Value) (ss : List ByteArray) (l : List UInt8) (w : World) (h1 : Rd w 1 v1 ss.length (strV ss)) (h2 : Rd w 1 v2 l.length (Lib.byteCells l)) (hb : bulkS ss ≤ 1048576) (hl : l.length ≤ 1048576) :
    Calls Tryd.prog 7 #[v1, v2] w fun e w' => e = .returned (.bool true) ∧ Below w.heap.size w w' := by
  obtain ⟨i0, hi, hz0, hz1, hz2⟩ := info_parts str_info
  have hlen := bulkS_len ss
  obtain ⟨_, A, cap, rfl, _, ha⟩ := h1
  have HV2 := Lib.hid h2
  have HC : Hid (∀ k (h : k < ss.length), ∃ g o, A = some ⟨g, o, none⟩ ∧ w.cell? ⟨g, o + k, none⟩ = some (.string ss[k])) := Lib.hid fun k h => by
    obtain ⟨g, o, hA, hc⟩ := ha.resolve_left (by omega)
    exact ⟨g, o, hA, hc k _ (strV_get ss k h)⟩
  clear h2 ha
  obtain ⟨w0, hw0⟩ : ∃ w0, w0 = w := ⟨_, rfl⟩
  have HAddr : Hid (0 < ss.length → ∃ g o, A = some ⟨g, o, none⟩) := Lib.hid fun h => by obtain ⟨g, o, h, _⟩ := HC.out 0 h; exact ⟨g, o, h⟩
  by_cases hne : 0 < ss.length
  · obtain ⟨g, o, rfl⟩ := HAddr.out hne
    have HC2 : Hid (∀ k (h : k < ss.length), w.cell? ⟨g, o + k, none⟩ = some (.string ss[k])) := Lib.hid fun k h => by
      obtain ⟨g', o', hA, hc⟩ := HC.out k h
      injection hA with hA; injection hA with h1 h2
      subst h1 h2; exact hc
    clear HC HAddr hw0
    go_enter Tryd.func7, Tryd.ntmps7
    go_wp2_with fail
    refine (wakes01_any _).mono ?_
    rintro e w1 ⟨rfl, hb1⟩
    have HB := Lib.hid hb1
    clear hb1
    go_wp2_with fail
    refine (gapLaw_any v2 l 0 _ (HV2.out.keep HB.out) hl (by omega)).mono ?_
    rintro e w2 ⟨rfl, rfl⟩
    go_wp2_with fail
    go_loopw [5, 6, 17] (fun ln wt i wr => ∃ (k : Nat) (L : List UInt8) (W : List (List UInt8)), k ≤ ss.length ∧ i = .int .i64 k ∧ ln = .string (mkS L) ∧ L.length ≤ 3 + 4 * bulkS (ss.take k) ∧ W.length ≤ k ∧ Put L W ∧ Own w wr 9 1 wt W.length (strV (W.map mkS))) (fun _ _ i _ => ss.length - (intOf i).toNat)
    case atStart => exact ⟨0, gapOf l 0, [], Nat.zero_le _, rfl, rfl, by have := gapOf_len l 0; omega, by simp, Put.start l, ⟨HB.out, World.ownsRow_nil _ _ _ _⟩⟩
    case round =>
      obtain ⟨k, L, W, hk, rfl, rfl, hL, hW, hput, ho⟩ := hrel
      have HO := Lib.hid ho
      have HP := Lib.hid hput
      have hbt := bulkS_le ss k
      clear ho hput
      by_cases hlt : k < ss.length
      · have hc := (HO.out.below.cell (World.block_lt_of_cell? _ _ (HC2.out k hlt))).trans (HC2.out k hlt)
        have hs1 := bulk_at ss k hlt
        have HBT := Lib.hid (bulkS_take ss k hlt)
        have hbt1 := bulkS_le ss (k + 1)
        rw [HBT.out] at hbt1
        go_wp2_with fail
        obtain ⟨wo, hwo⟩ : ∃ wo : World, wr = wo := ⟨_, rfl⟩
        rw [hwo] at hc ⊢
        have HO2 := Lib.hid (by rw [← hwo]; exact HO.out : Own w wo 9 1 _ W.length (strV (W.map mkS)))
        clear HO hwo
        go_loop [9, 10] (fun p j => ∃ m : Nat, m ≤ ss[k].size ∧ j = .int .i64 m ∧ p = .string (mkS (strip (ss[k].data.toList.take m)))) (fun _ j => ss[k].size - (intOf j).toNat)
        case atStart => exact ⟨0, Nat.zero_le _, rfl, rfl⟩
        case round =>
          obtain ⟨m, hm, rfl, rfl⟩ := hrel
          by_cases hlm : m < ss[k].size
          · have HS := Lib.hid (strip_snoc ss[k] m hlm)
            have hsz : (mkS (strip (ss[k].data.toList.take m))).size ≤ 1048576 := by
              rw [mkS_size]
              have h3 := strip_len (ss[k].data.toList.take m)
              rw [List.length_take] at h3
              omega
            have HE := Lib.hid (extract_one ss[k] m hlm)
            cases hg : gapB (ss[k])[m]
            · obtain ⟨n1, n2, n3, n4⟩ := nogap _ hg
              have HG : Hid (strip (ss[k].data.toList.take (m + 1)) = strip (ss[k].data.toList.take m) ++ [(ss[k])[m]]) := Lib.hid (by rw [HS.out, hg]; rfl)
              clear hg
              go_wp2_with fail
              go_round
              case rel => exact ⟨m + 1, by omega, by go_num, by rw [HG.out, ← mkS_append, HE.out]⟩
              case measure => simp [intOf]; omega
            · have HG : Hid (strip (ss[k].data.toList.take (m + 1)) = strip (ss[k].data.toList.take m)) := Lib.hid (by rw [HS.out, hg]; rfl)
              rcases isgap' _ hg with q1 | ⟨q1, q2⟩
              all_goals
                clear hg
                go_wp2_with fail
                go_round
                case rel => exact ⟨m + 1, by omega, by go_num, by rw [HG.out]⟩
                case measure => simp [intOf]; omega
          · obtain rfl : m = ss[k].size := by omega
            have HS : Hid (strip (ss[k].data.toList.take ss[k].size) = strip ss[k].data.toList) := Lib.hid (by rw [List.take_of_length_le (by simp)])
            rw [HS.out]
            have hpl : (strip ss[k].data.toList).length ≤ 1048576 := by
              have h3 := strip_len ss[k].data.toList
              rw [len_toList] at h3
              omega
            have hplk : (strip ss[k].data.toList).length ≤ ss[k].size := by
              have h3 := strip_len ss[k].data.toList
              rwa [len_toList] at h3
            have hgl := gapOf_len l k
            have hs3 : (mkS (gapOf l k)).size ≤ 3 := by rw [mkS_size]; exact hgl
            have hs4 : (mkS L).size ≤ 5000000 := by rw [mkS_size]; omega
            have hs5 : (mkS (strip ss[k].data.toList)).size ≤ 1048576 := by rw [mkS_size]; exact hpl
            have HN := Lib.hid (strip_nogap ss[k].data.toList)
            cases hq : (mkS (strip ss[k].data.toList)).toList.isEmpty
            · have HNE : Hid (strip ss[k].data.toList ≠ []) := Lib.hid (by
                intro h
                rw [h, Lib.toList_data] at hq
                cases hq)
              have HG : Hid (mkS L ++ ((mkS (strip ss[k].data.toList) ++ ⟨#[32]⟩) ++ mkS (gapOf l k)) = mkS (L ++ ((strip ss[k].data.toList ++ [32]) ++ gapOf l k))) := Lib.hid (by
                have e : (⟨#[32]⟩ : ByteArray) = mkS [32] := rfl
                rw [e, mkS_append, mkS_append, mkS_append])
              go_wp2_with (first
                | (at_builtin; refine wpList_push1 rfl _ _ 24 rfl w.heap.size 9 i0 (.string ByteArray.empty) 16 Tryd.underlying24 hi hz0 hz1 hz2 rfl _ W.length _ rfl HO2.out.own _ rfl rfl (by unfold maxLen; omega) (by omega) HO2.out.size ?_; intro gg cap w6 hown hg6; have HO3 := Lib.hid (HO2.out.push hown hg6); clear hown hg6)
                | (go_at_call 23; refine (gapLaw_any v2 l k _ (HV2.out.keep HO3.out.below) hl (by omega)).mono ?_; rintro e w7 ⟨rfl, rfl⟩))
              go_roundw
              case rel =>
                refine ⟨k + 1, _, W ++ [strip ss[k].data.toList], by omega, by go_num, by rw [← HG.out], ?_, by simp; omega, HP.out.more _ HNE.out HN.out l k, ?_⟩
                · rw [HBT.out]
                  simp only [List.length_append, List.length_cons, List.length_nil]
                  omega
                · have h5 := HO3.out
                  rw [strV_snoc] at h5
                  simpa using h5
              case measure => simp [intOf]; omega
            · go_wp2_with fail
              go_roundw
              case rel => exact ⟨k + 1, L, W, by omega, by go_num, rfl, by rw [HBT.out]; omega, by omega, HP.out, HO2.out⟩
              case measure => simp [intOf]; omega
      · obtain rfl : k = ss.length := by omega
        have HF : Hid (fieldsS (mkS L) = W.map mkS) := Lib.hid HP.out.fields
        have hL2 : L.length ≤ 5000000 := by omega
        go_wp2_with fail
        refine (Fields_any _ _ (by rw [mkS_size]; omega)).mono ?_
        rintro e w5 ⟨v5, rfl, o5⟩
        rw [HF.out] at o5
        have O5 := Lib.hid o5
        have RW := Lib.hid ((Rd.of_own HO.out.own).keep o5.below)
        have HB5 := Lib.hid (HO.out.below.trans (o5.below.mono HO.out.size))
        clear o5
        have hml : (W.map mkS).length = W.length := by simp
        have RW2 : Hid (Rd w5 1 _ (W.map mkS).length (strV (W.map mkS))) := Lib.hid (by rw [hml]; exact RW.out)
        go_wp2_with fail
        refine (sameWords_bel v5 _ (W.map mkS) (W.map mkS) _ (Rd.of_own O5.out.own) RW2.out (by omega)).mono ?_
        rw [decide_eq_true rfl]
        rintro e w6 ⟨rfl, hb6⟩
        have HB6 := Lib.hid (HB5.out.trans (hb6.mono HB5.out.size))
        clear hb6
        go_wp2_with fail
        go_ret
        exact ⟨rfl, HB6.out⟩
  · have h0 : ss.length = 0 := by omega
    obtain rfl : ss = [] := List.eq_nil_of_length_eq_zero h0
    clear HC HAddr hw0 hne
    go_enter Tryd.func7, Tryd.ntmps7
    go_wp2_with fail
    refine (wakes01_any _).mono ?_
    rintro e w1 ⟨rfl, hb1⟩
    have HB := Lib.hid hb1
    clear hb1
    go_wp2_with fail
    refine (gapLaw_any v2 l 0 _ (HV2.out.keep HB.out) hl (by omega)).mono ?_
    rintro e w2 ⟨rfl, rfl⟩
    go_wp2_with fail
    go_loopw [5, 6, 17] (fun ln wt i wr => i = .int .i64 0 ∧ ln = .string (mkS (gapOf l 0)) ∧ wt = .slice none 0 0 ∧ Below w.heap.size w wr) (fun _ _ i _ => 1)
    case atStart => exact ⟨rfl, rfl, rfl, HB.out⟩
    case round =>
      obtain ⟨rfl, rfl, rfl, hbw⟩ := hrel
      have HBW := Lib.hid hbw
      clear hbw
      have hgl := gapOf_len l 0
      go_wp2_with fail
      refine (Fields_any _ _ (by rw [mkS_size]; omega)).mono ?_
      rintro e w5 ⟨v5, rfl, o5⟩
      have HF : Hid (fieldsS (mkS (gapOf l 0)) = []) := Lib.hid (Put.start l).fields
      rw [HF.out] at o5
      have O5 := Lib.hid o5
      clear o5
      go_wp2_with fail
      refine (sameWords_bel v5 _ [] [] _ (Rd.of_own O5.out.own) ⟨rfl, none, 0, rfl, Nat.le_refl _, .inl rfl⟩ (by simp)).mono ?_
      rintro e w6 ⟨rfl, hb6⟩
      have HB6 := Lib.hid ((HBW.out.trans (O5.out.below.mono HBW.out.size)).trans (hb6.mono (Nat.le_trans HBW.out.size O5.out.below.size)))
      clear hb6
      go_wp2_with fail
      go_ret
      exact ⟨rfl, HB6.out⟩
end Go.Proofs.YtbhfkhfnljddhaaDoor
