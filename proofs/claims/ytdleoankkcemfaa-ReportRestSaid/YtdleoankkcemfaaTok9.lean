/-
  ReportRest walked.
-/
import Derived.Test.YtdleoankkcemfaaRows
import Derived.Test.YtdleoankkcemfaaTok8
namespace Go.Proofs.Ytdleoankkcemfaa
open Go.RowKit

theorem mark_cut (s : ByteArray) : (Lib.hasPrefix s.data.toList [239, 187, 191]) = ((s.extract 0 3).toList == [239, 187, 191]) := by
  rw [Lib.extract_toList, List.drop_zero, Bool.eq_iff_iff, beq_iff_eq]
  unfold Lib.hasPrefix
  rw [List.isPrefixOf_iff_prefix, List.prefix_iff_eq_take]
  exact ⟨fun h => h.symm, fun h => h.symm⟩
theorem mark_long (s : ByteArray) (h : Lib.hasPrefix s.data.toList [239, 187, 191] = true) : 3 ≤ s.size := by
  have := (List.isPrefixOf_iff_prefix.1 h).length_le
  rw [len_toList] at this; exact this
set_option maxRecDepth 100000 in
set_option maxHeartbeats 8000000 in
theorem reportRest_walk (s : ByteArray) (m : Int) (w : World) (h0 : 0 < w.heap.size) (hm : w.cell? ⟨0, 0, none⟩ = some (.int .i64 m)) :
    Calls Try.prog 9 #[.string s] w fun e w' => e = .returned (.bool true) ∧ Below w.heap.size w w' := by
  have HM := Lib.hid hm
  have H0 := Lib.hid h0
  clear hm h0
  by_cases hbig : 65536 < s.size
  · go_enter Try.func9, Try.ntmps9
    go_wp2_with fail
    refine (wakes26_any m _ H0.out HM.out).mono ?_
    rintro e wA ⟨rfl, hbA⟩
    have HBA := Lib.hid hbA
    clear hbA
    go_wp2_with fail
    refine (wakes26_any m _ (by have := HBA.out.size; have := H0.out; omega) ((HBA.out.cell (p := ⟨0, 0, none⟩) H0.out).trans HM.out)).mono ?_
    rintro e wB ⟨rfl, hbB⟩
    have HBB := Lib.hid (HBA.out.trans (hbB.mono HBA.out.size))
    clear hbB
    go_wp2_with fail
    go_ret
    exact ⟨rfl, HBB.out⟩
  · have hss : s.size ≤ 65536 := by omega
    go_enter Try.func9, Try.ntmps9
    go_wp2_with fail
    refine (wakes26_any m _ H0.out HM.out).mono ?_
    rintro e wA ⟨rfl, hbA⟩
    have HBA := Lib.hid hbA
    clear hbA
    go_wp2_with fail
    refine (Tokens_is s m _ (by have := HBA.out.size; have := H0.out; omega) ((HBA.out.cell (p := ⟨0, 0, none⟩) H0.out).trans HM.out)).mono ?_
    rintro e w1 ⟨v, rfl, ho, hb1⟩
    have HO := Lib.hid ho
    have HB1 : Hid (Below w.heap.size w w1) := Lib.hid (HBA.out.trans (hb1.mono HBA.out.size))
    clear ho hb1
    have hc : codeS s = 0 := if_neg hbig
    have HSp := Lib.hid (tkS_spaced s (by omega))
    have hlen := tkS_len s
    rw [hc]
    obtain ⟨ts, hts⟩ : ∃ ts, tkS s = ts := ⟨_, rfl⟩
    rw [hts] at HO HSp hlen
    obtain ⟨A1, c1, rfl⟩ := own_slice HO.out
    clear hts hc
    have HLo := Lib.hid (len_toList s)
    have hmk := mark_cut s
    have hstart : (startOf s.data.toList = 3 ∧ 3 ≤ s.size ∧ ((s.extract 0 3).toList == [239, 187, 191]) = true) ∨ (startOf s.data.toList = 0 ∧ ((s.extract 0 3).toList == [239, 187, 191]) = false) := by
      cases h : Lib.hasPrefix s.data.toList [239, 187, 191]
      · exact .inr ⟨by unfold startOf; rw [h]; rfl, by rw [← hmk]; exact h⟩
      · exact .inl ⟨by unfold startOf; rw [h]; rfl, mark_long s h, by rw [← hmk]; exact h⟩
    clear hmk
    have hcases : ∃ p0 : Nat, startOf s.data.toList = p0 ∧ ((p0 = 3 ∧ 3 ≤ s.size ∧ ((s.extract 0 3).toList == [239, 187, 191]) = true) ∨ (p0 = 0 ∧ 3 ≤ s.size ∧ ((s.extract 0 3).toList == [239, 187, 191]) = false) ∨ (p0 = 0 ∧ s.size < 3)) := by
      rcases hstart with ⟨a, b, c⟩ | ⟨a, c⟩
      · exact ⟨3, a, .inl ⟨rfl, b, c⟩⟩
      · by_cases h3 : 3 ≤ s.size
        · exact ⟨0, a, .inr (.inl ⟨rfl, h3, c⟩)⟩
        · exact ⟨0, a, .inr (.inr ⟨rfl, by omega⟩)⟩
    clear hstart
    obtain ⟨p0, hp0, hcs⟩ := hcases
    rw [hp0] at HSp
    clear hp0
    rcases hcs with ⟨rfl, h3, hmk⟩ | ⟨rfl, h3, hmk⟩ | ⟨rfl, h3⟩
    all_goals
      go_wp2_with fail
      go_loopw [5, 31] (fun at_ i wr => ∃ (j p : Nat), j ≤ ts.length ∧ i = .int .i64 j ∧ p ≤ s.size ∧ at_ = .int .i64 p ∧ TSpaced s.data.toList p (ts.drop j) ∧ Below w1.heap.size w1 wr) (fun _ i _ => ts.length - (intOf i).toNat)
      case atStart => first | exact ⟨0, 3, Nat.zero_le _, rfl, h3, rfl, HSp.out, Below.refl _ _⟩ | exact ⟨0, 0, Nat.zero_le _, rfl, Nat.zero_le _, rfl, HSp.out, Below.refl _ _⟩
      case round =>
        obtain ⟨j, p, hj, rfl, hp, rfl, hah, hbw⟩ := hrel
        have HAh := Lib.hid hah
        have HBw := Lib.hid hbw
        clear hah hbw
        by_cases hlt : j < ts.length
        · have hah2 := HAh.out
          rw [drop_tok ts j hlt] at hah2
          obtain ⟨hpp, hclear, hgood, hrest⟩ := hah2
          obtain ⟨g, cap, he, hcap⟩ := own_some HO.out (by omega)
          injection he with he1 he2 he3
          subst he1 he3
          obtain ⟨c0, c1, c2, c3⟩ := tok_cells (own_below HO.out HBw.out) j hlt
          obtain ⟨⟨tl, tc, tp, tw⟩, htj⟩ : ∃ t, ts[j] = t := ⟨_, rfl⟩
          rw [htj] at hpp hclear hgood hrest c0 c1 c2 c3
          dsimp only at hpp hclear hrest c0 c1 c2 c3
          have HRest := Lib.hid hrest
          have htop : tp + tw.length ≤ s.size := by have := hgood.word.top; rw [HLo.out] at this; exact this
          obtain ⟨wd, hwd⟩ : ∃ wd, mkS tw = wd := ⟨_, rfl⟩
          obtain ⟨n, hn⟩ : ∃ n, tw.length = n := ⟨_, rfl⟩
          have hwn : wd.size = n := by rw [← hwd, mkS_size, hn]
          rw [hwd] at c3
          rw [hn] at hrest htop
          have HRest2 := Lib.hid hrest
          have HCl := Lib.hid hclear
          clear hgood hrest hclear hn hwd HRest htj
          subst hwn
          go_wp2_with fail
          go_loop [5] (fun at_ => ∃ q : Nat, p ≤ q ∧ q ≤ tp ∧ at_ = .int .i64 q) (fun at_ => tp - (intOf at_).toNat)
          case atStart => exact ⟨p, Nat.le_refl _, hpp, rfl⟩
          case round =>
            obtain ⟨q, hpq, hqt, rfl⟩ := hrel
            by_cases hqlt : q < tp
            · have hqs : q < s.size := by omega
              have hlq : letterB s[q] = false := by rw [← byteAt_lt s q hqs]; exact HCl.out q hpq hqlt
              go_wp2_with (go_at_call 29; refine (letter26_any _ _).mono ?_; rintro e w' ⟨rfl, rfl⟩)
              go_round
              case rel => exact ⟨q + 1, by omega, by omega, by go_num⟩
              case measure => simp [intOf]; omega
            · obtain rfl : q = tp := by omega
              go_wp2_with fail
              go_roundw
              case rel => exact ⟨j + 1, q + wd.size, by omega, by go_num, by omega, by go_num, HRest2.out, HBw.out.alloc HBw.out.size _⟩
              case measure => simp [intOf] <;> omega
        · obtain rfl : j = ts.length := by omega
          have HBz : Hid (Below w.heap.size w wr) := Lib.hid (HB1.out.trans (HBw.out.mono HB1.out.size))
          have hcl : Clear s.data.toList p s.data.toList.length := by
            have := HAh.out
            rw [List.drop_length] at this; exact this
          have HCl := Lib.hid hcl
          clear hcl
          go_wp2_with fail
          go_loop [5] (fun at_ => ∃ q : Nat, p ≤ q ∧ q ≤ s.size ∧ at_ = .int .i64 q) (fun at_ => s.size - (intOf at_).toNat)
          case atStart => exact ⟨p, Nat.le_refl _, hp, rfl⟩
          case round =>
            obtain ⟨q, hpq, hqt, rfl⟩ := hrel
            by_cases hqlt : q < s.size
            · have hlq : letterB s[q] = false := by rw [← byteAt_lt s q hqlt]; exact HCl.out q hpq (by rw [HLo.out]; exact hqlt)
              go_wp2_with (go_at_call 29; refine (letter26_any _ _).mono ?_; rintro e w' ⟨rfl, rfl⟩)
              go_round
              case rel => exact ⟨q + 1, by omega, by omega, by go_num⟩
              case measure => simp [intOf]; omega
            · obtain rfl : q = s.size := by omega
              go_wp2_with fail
              go_ret
              exact ⟨rfl, HBz.out⟩
theorem reportRest_sh (s : ByteArray) (W : World) (h : W.ShapedOpen Try.prog) :
    Calls Try.prog 9 #[.string s] W fun e w' => e = .returned (.bool true) ∧ Below W.heap.size W w' := by
  obtain ⟨m, hm⟩ := maxLen_of W h
  exact reportRest_walk s m W (World.block_lt_of_cell? W _ hm) hm
end Go.Proofs.Ytdleoankkcemfaa
