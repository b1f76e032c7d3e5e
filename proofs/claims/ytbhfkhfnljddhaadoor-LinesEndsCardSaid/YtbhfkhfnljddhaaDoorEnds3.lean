/-
  LinesEnds walked.
-/
import Derived.Test.YtbhfkhfnljddhaaDoorRows
import Derived.Test.YtbhfkhfnljddhaaDoorOpen2
import Derived.Test.YtbhfkhfnljddhaaDoorEnds2
namespace Go.Proofs.YtbhfkhfnljddhaaDoor
open Go.RowKit

theorem ended_parts (a l : List UInt8) : (mkS a ++ mkS l) ++ (⟨#[10]⟩ : ByteArray) = mkS (a ++ lineEnd (l, false)) := by
  have e : (⟨#[10]⟩ : ByteArray) = mkS [10] := rfl
  rw [e, mkS_append, mkS_append]; simp [lineEnd]
theorem ended_parts_cr (a l : List UInt8) : ((mkS a ++ mkS l) ++ (⟨#[13]⟩ : ByteArray)) ++ (⟨#[10]⟩ : ByteArray) = mkS (a ++ lineEnd (l, true)) := by
  have e : (⟨#[10]⟩ : ByteArray) = mkS [10] := rfl
  have e2 : (⟨#[13]⟩ : ByteArray) = mkS [13] := rfl
  rw [e, e2, mkS_append, mkS_append, mkS_append]; simp [lineEnd]

set_option maxHeartbeats 4000000 in
set_option maxRecDepth 100000 in
theorem linesEnds_walk (v1 v2 : Value) (ss : List ByteArray) (bs : List Bool) (m : Int) (w : World) (h1 : Rd w 1 v1 ss.length (strV ss)) (h2 : Rd w 1 v2 bs.length (bs.map Value.bool)) (hsz : ∀ s ∈ ss, s.size ≤ 140737488351232)
    (h0 : 0 < w.heap.size) (hm : w.cell? ⟨0, 0, none⟩ = some (.int .i64 m)) :
    Calls Tryd.prog 10 #[v1, v2] w fun e w' => e = .returned (.bool true) ∧ Below w.heap.size w w' := by
  obtain ⟨i0, hi, hz0, hz1, hz2⟩ := info_parts str_info
  obtain ⟨_, A1, cap1, rfl, hcap1, ha1⟩ := h1
  obtain ⟨_, A2, cap2, rfl, hcap2, ha2⟩ := h2
  have HC : Hid (∀ k (h : k < ss.length), ∃ g o, A1 = some ⟨g, o, none⟩ ∧ w.cell? ⟨g, o + k, none⟩ = some (.string ss[k])) := Lib.hid fun k h => by
    obtain ⟨g, o, hA, hc⟩ := ha1.resolve_left (by omega)
    exact ⟨g, o, hA, hc k _ (strV_get ss k h)⟩
  have HD : Hid (∀ k (h : k < bs.length), ∃ g o, A2 = some ⟨g, o, none⟩ ∧ w.cell? ⟨g, o + k, none⟩ = some (.bool bs[k])) := Lib.hid fun k h => by
    obtain ⟨g, o, hA, hc⟩ := ha2.resolve_left (by omega)
    exact ⟨g, o, hA, hc k _ (by simp [h])⟩
  have HSZ := Lib.hid hsz
  clear ha1 ha2 hsz
  go_enter Tryd.func10, Tryd.ntmps10
  go_wp2_with fail
  refine (wakes01_any _).mono ?_
  rintro e w1 ⟨rfl, hb1⟩
  have HB := Lib.hid hb1
  clear hb1
  go_wp2_with fail
  go_loopw [5, 6, 16] (fun tx wt i wr => ∃ (k : Nat) (ps : List (List UInt8 × Bool)), k ≤ ss.length ∧ i = .int .i64 k ∧ tx = .string (mkS (endsText ps)) ∧ ps.length = k ∧ (endsText ps).length ≤ 65536 ∧
    (∀ p ∈ ps, GoodLine p.1) ∧ (∀ p r, ps = p :: r → Lib.hasPrefix p.1 [239, 187, 191] = false) ∧ Own w wr 9 1 wt (ps.map (·.1)).length (strV ((ps.map (·.1)).map mkS))) (fun _ _ i _ => ss.length - (intOf i).toNat)
  case atStart => exact ⟨0, [], Nat.zero_le _, rfl, rfl, rfl, Nat.zero_le _, (by simp), (by simp), ⟨HB.out, World.ownsRow_nil _ _ _ _⟩⟩
  case round =>
    obtain ⟨k, ps, hk, rfl, rfl, hpk, hpl, hgood, hfirst, ho⟩ := hrel
    have HO := Lib.hid ho
    have HG := Lib.hid hgood
    have HF := Lib.hid hfirst
    have hpe := ends_len ps
    clear ho hgood hfirst
    by_cases hlt : k < ss.length
    · obtain ⟨g, o, hA, hc0⟩ := HC.out k hlt
      have hc := (HO.out.below.cell (World.block_lt_of_cell? _ _ hc0)).trans hc0
      have hs1 := HSZ.out ss[k] (List.getElem_mem _)
      clear hc0
      subst hA
      have hl := plain_le ss[k].data.toList
      rw [len_toList] at hl
      have hgl := plain_good ss[k].data.toList
      obtain ⟨l, hle⟩ : ∃ l, l = plainOf ss[k].data.toList := ⟨_, rfl⟩
      rw [← hle] at hl hgl
      have HLg := Lib.hid hgl
      have hls : (mkS l).size ≤ 140737488351232 := by rw [mkS_size]; omega
      have hes : (mkS (endsText ps)).size ≤ 65536 := by rw [mkS_size]; exact hpl
      clear hgl
      go_wp2_with fail
      refine (plain_any ss[k] _ hs1).mono ?_
      rw [← hle]
      rintro e w2 ⟨rfl, hb2⟩
      have HO2 := Lib.hid (HO.out.call hb2)
      clear hb2 hle HO
      by_cases hret : k = 0 ∧ Lib.hasPrefix l [239, 187, 191] = true
      · obtain ⟨hk0, hmk⟩ := hret
        have q0 : ((k : Int) == 0) = true := by simp [hk0]
        have HMk := Lib.hid hmk
        clear hmk hk0
        go_wp2_with (go_at_call 28; refine (Marked_is (mkS l) _ _ HMk.out).mono ?_; rintro e w1 ⟨rfl, rfl⟩)
        go_ret
        exact ⟨rfl, HO2.out.below⟩
      · have HMk : Hid (k = 0 → Lib.hasPrefix l [239, 187, 191] = false) := Lib.hid fun h => by
          cases hq : Lib.hasPrefix l [239, 187, 191]
          · rfl
          · exact absurd ⟨h, hq⟩ hret
        have hk0s : (((k : Int) == 0) = true ∧ Hid (k = 0)) ∨ (((k : Int) == 0) = false) := by
          by_cases h : k = 0
          · exact .inl ⟨by simp [h], Lib.hid h⟩
          · exact .inr (by simp; omega)
        have hcase : (∃ g2 o2, A2 = some ⟨g2, o2, none⟩ ∧ k < bs.length ∧ w.cell? ⟨g2, o2 + k, none⟩ = some (.bool true)) ∨ (∃ g2 o2, A2 = some ⟨g2, o2, none⟩ ∧ k < bs.length ∧ w.cell? ⟨g2, o2 + k, none⟩ = some (.bool false)) ∨ ¬ k < bs.length := by
          by_cases h : k < bs.length
          · obtain ⟨g2, o2, hA, hd⟩ := HD.out k h
            cases hv : bs[k]
            · rw [hv] at hd; exact .inr (.inl ⟨g2, o2, hA, h, hd⟩)
            · rw [hv] at hd; exact .inl ⟨g2, o2, hA, h, hd⟩
          · exact .inr (.inr h)
        clear hret
        rcases hk0s with ⟨q0, HK0⟩ | q0
        all_goals
          clear hl
          rcases hcase with ⟨g2, o2, rfl, hkb, hd⟩ | ⟨g2, o2, rfl, hkb, hd⟩ | hkb
          · have HE0 : Hid (((mkS (endsText ps) ++ mkS l) ++ (⟨#[13]⟩ : ByteArray)) ++ (⟨#[10]⟩ : ByteArray) = mkS (endsText (ps ++ [(l, true)]))) := Lib.hid (by rw [endsText_snoc]; exact ended_parts_cr _ _)
            obtain ⟨T1, hT1⟩ : ∃ T, mkS (endsText ps) ++ mkS l = T := ⟨_, rfl⟩
            obtain ⟨T2, hT2⟩ : ∃ T, T1 ++ (⟨#[13]⟩ : ByteArray) = T := ⟨_, rfl⟩
            obtain ⟨T3, hT3⟩ : ∃ T, T2 ++ (⟨#[10]⟩ : ByteArray) = T := ⟨_, rfl⟩
            have hT1z : T1.size ≤ 140737488416768 := by rw [← hT1, ByteArray.size_append]; omega
            have hT2z : T2.size ≤ 140737488416769 := by rw [← hT2, ByteArray.size_append]; exact Nat.add_le_add hT1z (Nat.le_refl 1)
            have HE : Hid (T3 = mkS (endsText (ps ++ [(l, true)]))) := Lib.hid (by rw [← hT3, ← hT2, ← hT1]; exact HE0.out)
            by_cases hbig : T3.size ≤ 65536
            · have hlen2 : (endsText (ps ++ [(l, true)])).length ≤ 65536 := by
                rw [HE.out, mkS_size] at hbig; exact hbig
              go_wp2_with first
                | (go_at_call 28; refine (Marked_is (mkS l) _ _ (HMk.out HK0.out)).mono ?_; rintro e w1 ⟨rfl, rfl⟩)
                | (at_builtin; refine wpList_push1 rfl _ _ 24 rfl w.heap.size 9 i0 (.string ByteArray.empty) 16 Tryd.underlying24 hi hz0 hz1 hz2 rfl _ _ _ rfl HO2.out.own _ rfl rfl (by unfold maxLen; rw [List.length_map]; omega) (by rw [List.length_map]; omega) HO2.out.size ?_; intro gg cap w6 hown hg6; have HO3 := Lib.hid (HO2.out.push hown hg6); have hd6 := (HO3.out.below.cell (World.block_lt_of_cell? _ _ hd)).trans hd; clear hown hg6)
              go_roundw
              case rel =>
                refine ⟨k + 1, ps ++ [(l, true)], by omega, by go_num, by rw [HE.out], by simp [hpk], hlen2, fun p hp => ?_, fun p r e => ?_, ?_⟩
                · rcases List.mem_append.1 hp with h | h
                  · exact HG.out p h
                  · rw [List.mem_singleton.1 h]; exact HLg.out
                · cases ps with
                  | nil => simp at e; rw [← e.1]; exact HMk.out (by rw [← hpk]; rfl)
                  | cons p0 r0 => simp at e; rw [← e.1]; exact HF.out p0 r0 rfl
                · have h5 := HO3.out
                  rw [strV_snoc] at h5
                  simpa [hpk] using h5
              case measure => simp [intOf] <;> omega
            · go_wp2_with first
                | (go_at_call 28; refine (Marked_is (mkS l) _ _ (HMk.out HK0.out)).mono ?_; rintro e w1 ⟨rfl, rfl⟩)
                | (at_builtin; refine wpList_push1 rfl _ _ 24 rfl w.heap.size 9 i0 (.string ByteArray.empty) 16 Tryd.underlying24 hi hz0 hz1 hz2 rfl _ _ _ rfl HO2.out.own _ rfl rfl (by unfold maxLen; rw [List.length_map]; omega) (by rw [List.length_map]; omega) HO2.out.size ?_; intro gg cap w6 hown hg6; have HO3 := Lib.hid (HO2.out.push hown hg6); have hd6 := (HO3.out.below.cell (World.block_lt_of_cell? _ _ hd)).trans hd; clear hown hg6)
              go_ret
              exact ⟨rfl, HO3.out.below⟩
          · have HE0 : Hid ((mkS (endsText ps) ++ mkS l) ++ (⟨#[10]⟩ : ByteArray) = mkS (endsText (ps ++ [(l, false)]))) := Lib.hid (by rw [endsText_snoc]; exact ended_parts _ _)
            obtain ⟨T1, hT1⟩ : ∃ T, mkS (endsText ps) ++ mkS l = T := ⟨_, rfl⟩
            obtain ⟨T3, hT3⟩ : ∃ T, T1 ++ (⟨#[10]⟩ : ByteArray) = T := ⟨_, rfl⟩
            have hT1z : T1.size ≤ 140737488416768 := by rw [← hT1, ByteArray.size_append]; omega
            have HE : Hid (T3 = mkS (endsText (ps ++ [(l, false)]))) := Lib.hid (by rw [← hT3, ← hT1]; exact HE0.out)
            by_cases hbig : T3.size ≤ 65536
            · have hlen2 : (endsText (ps ++ [(l, false)])).length ≤ 65536 := by
                rw [HE.out, mkS_size] at hbig; exact hbig
              go_wp2_with first
                | (go_at_call 28; refine (Marked_is (mkS l) _ _ (HMk.out HK0.out)).mono ?_; rintro e w1 ⟨rfl, rfl⟩)
                | (at_builtin; refine wpList_push1 rfl _ _ 24 rfl w.heap.size 9 i0 (.string ByteArray.empty) 16 Tryd.underlying24 hi hz0 hz1 hz2 rfl _ _ _ rfl HO2.out.own _ rfl rfl (by unfold maxLen; rw [List.length_map]; omega) (by rw [List.length_map]; omega) HO2.out.size ?_; intro gg cap w6 hown hg6; have HO3 := Lib.hid (HO2.out.push hown hg6); have hd6 := (HO3.out.below.cell (World.block_lt_of_cell? _ _ hd)).trans hd; clear hown hg6)
              go_roundw
              case rel =>
                refine ⟨k + 1, ps ++ [(l, false)], by omega, by go_num, by rw [HE.out], by simp [hpk], hlen2, fun p hp => ?_, fun p r e => ?_, ?_⟩
                · rcases List.mem_append.1 hp with h | h
                  · exact HG.out p h
                  · rw [List.mem_singleton.1 h]; exact HLg.out
                · cases ps with
                  | nil => simp at e; rw [← e.1]; exact HMk.out (by rw [← hpk]; rfl)
                  | cons p0 r0 => simp at e; rw [← e.1]; exact HF.out p0 r0 rfl
                · have h5 := HO3.out
                  rw [strV_snoc] at h5
                  simpa [hpk] using h5
              case measure => simp [intOf] <;> omega
            · go_wp2_with first
                | (go_at_call 28; refine (Marked_is (mkS l) _ _ (HMk.out HK0.out)).mono ?_; rintro e w1 ⟨rfl, rfl⟩)
                | (at_builtin; refine wpList_push1 rfl _ _ 24 rfl w.heap.size 9 i0 (.string ByteArray.empty) 16 Tryd.underlying24 hi hz0 hz1 hz2 rfl _ _ _ rfl HO2.out.own _ rfl rfl (by unfold maxLen; rw [List.length_map]; omega) (by rw [List.length_map]; omega) HO2.out.size ?_; intro gg cap w6 hown hg6; have HO3 := Lib.hid (HO2.out.push hown hg6); have hd6 := (HO3.out.below.cell (World.block_lt_of_cell? _ _ hd)).trans hd; clear hown hg6)
              go_ret
              exact ⟨rfl, HO3.out.below⟩
          · have HE0 : Hid ((mkS (endsText ps) ++ mkS l) ++ (⟨#[10]⟩ : ByteArray) = mkS (endsText (ps ++ [(l, false)]))) := Lib.hid (by rw [endsText_snoc]; exact ended_parts _ _)
            obtain ⟨T1, hT1⟩ : ∃ T, mkS (endsText ps) ++ mkS l = T := ⟨_, rfl⟩
            obtain ⟨T3, hT3⟩ : ∃ T, T1 ++ (⟨#[10]⟩ : ByteArray) = T := ⟨_, rfl⟩
            have hT1z : T1.size ≤ 140737488416768 := by rw [← hT1, ByteArray.size_append]; omega
            have HE : Hid (T3 = mkS (endsText (ps ++ [(l, false)]))) := Lib.hid (by rw [← hT3, ← hT1]; exact HE0.out)
            by_cases hbig : T3.size ≤ 65536
            · have hlen2 : (endsText (ps ++ [(l, false)])).length ≤ 65536 := by
                rw [HE.out, mkS_size] at hbig; exact hbig
              go_wp2_with first
                | (go_at_call 28; refine (Marked_is (mkS l) _ _ (HMk.out HK0.out)).mono ?_; rintro e w1 ⟨rfl, rfl⟩)
                | (at_builtin; refine wpList_push1 rfl _ _ 24 rfl w.heap.size 9 i0 (.string ByteArray.empty) 16 Tryd.underlying24 hi hz0 hz1 hz2 rfl _ _ _ rfl HO2.out.own _ rfl rfl (by unfold maxLen; rw [List.length_map]; omega) (by rw [List.length_map]; omega) HO2.out.size ?_; intro gg cap w6 hown hg6; have HO3 := Lib.hid (HO2.out.push hown hg6); clear hown hg6)
              go_roundw
              case rel =>
                refine ⟨k + 1, ps ++ [(l, false)], by omega, by go_num, by rw [HE.out], by simp [hpk], hlen2, fun p hp => ?_, fun p r e => ?_, ?_⟩
                · rcases List.mem_append.1 hp with h | h
                  · exact HG.out p h
                  · rw [List.mem_singleton.1 h]; exact HLg.out
                · cases ps with
                  | nil => simp at e; rw [← e.1]; exact HMk.out (by rw [← hpk]; rfl)
                  | cons p0 r0 => simp at e; rw [← e.1]; exact HF.out p0 r0 rfl
                · have h5 := HO3.out
                  rw [strV_snoc] at h5
                  simpa [hpk] using h5
              case measure => simp [intOf] <;> omega
            · go_wp2_with first
                | (go_at_call 28; refine (Marked_is (mkS l) _ _ (HMk.out HK0.out)).mono ?_; rintro e w1 ⟨rfl, rfl⟩)
                | (at_builtin; refine wpList_push1 rfl _ _ 24 rfl w.heap.size 9 i0 (.string ByteArray.empty) 16 Tryd.underlying24 hi hz0 hz1 hz2 rfl _ _ _ rfl HO2.out.own _ rfl rfl (by unfold maxLen; rw [List.length_map]; omega) (by rw [List.length_map]; omega) HO2.out.size ?_; intro gg cap w6 hown hg6; have HO3 := Lib.hid (HO2.out.push hown hg6); clear hown hg6)
              go_ret
              exact ⟨rfl, HO3.out.below⟩
    · obtain rfl : k = ss.length := by omega
      have hss : (mkS (endsText ps)).size ≤ 65536 := by rw [mkS_size]; exact hpl
      obtain ⟨hs, hcd⟩ := ends_split ps HG.out HF.out hpl
      have HS := Lib.hid hs
      have HCd := Lib.hid hcd
      have hml : ((ps.map (·.1)).map mkS).length = (ps.map (·.1)).length := by simp
      have hm2 := (HO.out.below.cell (p := ⟨0, 0, none⟩) h0).trans hm
      have hsz0 := HO.out.size
      clear hs hcd
      go_wp2_with fail
      refine (Split_own (mkS (endsText ps)) m _ (by omega) hm2).mono ?_
      rw [HS.out, HCd.out]
      rintro e w2 ⟨v2, rfl, o2⟩
      have O2 := Lib.hid o2
      have RW := Lib.hid ((Rd.of_own HO.out.own).keep o2.below)
      have RW2 : Hid (Rd w2 1 _ ((ps.map (·.1)).map mkS).length (strV ((ps.map (·.1)).map mkS))) := Lib.hid (by rw [hml]; exact RW.out)
      have HB2 := Lib.hid (HO.out.below.trans (o2.below.mono HO.out.size))
      clear o2
      go_wp2_with fail
      refine (sameWords_bel v2 _ ((ps.map (·.1)).map mkS) ((ps.map (·.1)).map mkS) _ (Rd.of_own O2.out.own) RW2.out (by rw [hml, List.length_map]; omega)).mono ?_
      rw [decide_eq_true rfl]
      rintro e w3 ⟨rfl, hb3⟩
      have HB3 := Lib.hid (HB2.out.trans (hb3.mono HB2.out.size))
      have RW3 := Lib.hid (RW2.out.keep hb3)
      have hm3 := (HB3.out.cell (p := ⟨0, 0, none⟩) h0).trans hm
      clear hb3
      by_cases hbig : 65533 < (mkS (endsText ps)).size
      · go_wp2_with fail
        go_ret
        exact ⟨rfl, HB3.out⟩
      · obtain ⟨hs, hcd⟩ := ends_split_marked ps HG.out (by rw [mkS_size] at hbig; omega)
        have HS2 := Lib.hid hs
        have HCd2 := Lib.hid hcd
        have hsz3 := HB3.out.size
        have HM : Hid ((⟨#[239, 187, 191]⟩ : ByteArray) ++ mkS (endsText ps) = mkS ([239, 187, 191] ++ endsText ps)) := Lib.hid (mkS_append [239, 187, 191] _)
        clear hs hcd
        go_wp2_with fail
        rw [HM.out]
        refine (Split_own (mkS ([239, 187, 191] ++ endsText ps)) m _ (by omega) hm3).mono ?_
        rw [HS2.out, HCd2.out]
        rintro e w4 ⟨v4, rfl, o4⟩
        have O4 := Lib.hid o4
        have RW4 := Lib.hid (RW3.out.keep o4.below)
        have HB4 := Lib.hid (HB3.out.trans (o4.below.mono HB3.out.size))
        clear o4
        go_wp2_with fail
        refine (sameWords_bel v4 _ ((ps.map (·.1)).map mkS) ((ps.map (·.1)).map mkS) _ (Rd.of_own O4.out.own) RW4.out (by rw [hml, List.length_map]; omega)).mono ?_
        rw [decide_eq_true rfl]
        rintro e w5 ⟨rfl, hb5⟩
        have HB5 := Lib.hid (HB4.out.trans (hb5.mono HB4.out.size))
        clear hb5
        go_wp2_with fail
        go_ret
        exact ⟨rfl, HB5.out⟩
theorem linesEnds_sh (v1 v2 : Value) (ss : List ByteArray) (bs : List Bool) (W : World) (h1 : Rd W 1 v1 ss.length (strV ss)) (h2 : Rd W 1 v2 bs.length (bs.map Value.bool)) (hsz : ∀ s ∈ ss, s.size ≤ 140737488351232) (h : W.ShapedOpen Tryd.prog) :
    Calls Tryd.prog 10 #[v1, v2] W fun e w' => e = .returned (.bool true) ∧ Below W.heap.size W w' := by
  obtain ⟨m, hm⟩ := maxLen_of W h
  exact linesEnds_walk v1 v2 ss bs m W h1 h2 hsz (World.block_lt_of_cell? W _ hm) hm
end Go.Proofs.YtbhfkhfnljddhaaDoor
