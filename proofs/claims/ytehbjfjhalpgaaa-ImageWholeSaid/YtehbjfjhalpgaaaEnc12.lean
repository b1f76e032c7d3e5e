/-
  The law's walk: of bytes that are taken no beginning is taken, and nothing may stand behind them.
-/
import Derived.Test.YtehbjfjhalpgaaaRows
import Derived.Test.YtehbjfjhalpgaaaEnc11
namespace Go.Proofs.Ytehbjfjhalpgaaa
open Go.RowKit

theorem extract_data (s : ByteArray) (i : Nat) (h : i < s.size) : ∃ r, s.data.toList = (s.extract 0 i).data.toList ++ r ∧ r ≠ [] := by
  refine ⟨s.data.toList.drop i, ?_, ?_⟩
  · have h1 : (s.extract 0 i).data.toList = s.data.toList.take i := by rw [extract_mkS, mkS_data]; simp
    rw [h1, List.take_append_drop]
  · intro e
    have := congrArg List.length e
    rw [List.length_drop, len_toList] at this
    simp at this
    omega

set_option maxHeartbeats 8000000 in
set_option maxRecDepth 100000 in
theorem whole_walk (n : Int) (t : ByteArray) (rs : List Rp) (As : List (List St)) (vr v0 v1 v2 v3 : Value) (tail : ByteArray) (w : World) (h : BkAt w (fun _ => True) vr v0 v1 v2 v3 rs As) (hs : Small rs As) (ht : Texts t rs) (htl : tail.size ≤ 140737488351232) :
    Calls Try.prog 7 #[.agg #[.int .i64 n, .string t, vr, v0, v1, v2, v3], .string tail] w fun e w' => e = .returned (.bool true) ∧ Below w.heap.size w w' := by
  have hE := fun vr v0 v1 v2 v3 W h => Encode_b n t rs As vr v0 v1 v2 v3 W h ht
  have hcs := encV_cases n t rs As h.len
  have HS := Lib.hid hs
  obtain ⟨X, k, X0, n0, k0, X1, n1, k1, X2, n2, k2, X3, n3, k3, rfl, rfl, rfl, rfl, rfl⟩ := h.form
  obtain ⟨b1, hb1⟩ : ∃ b, w.heap.size = b := ⟨_, rfl⟩
  obtain ⟨W0, hW0⟩ : ∃ W0, w.alloc (.cells #[.int .i64 n, .string t, .slice X rs.length k, .slice X0 n0 k0, .slice X1 n1 k1, .slice X2 n2 k2, .slice X3 n3 k3] 26) = W0 := ⟨_, rfl⟩
  have hz0 : W0.heap[b1]? = some (.cells #[.int .i64 n, .string t, .slice X rs.length k, .slice X0 n0 k0, .slice X1 n1 k1, .slice X2 n2 k2, .slice X3 n3 k3] 26 (0, 0)) := by rw [← hW0, ← hb1]; exact heap_alloc_new w _
  have hbw' : Below w.heap.size w W0 := by rw [← hW0]; exact (Below.refl _ _).alloc (Nat.le_refl _) _
  have HA : Hid (∀ W', Below W0.heap.size W0 W' → BkAt W' (fun _ => True) (.slice X rs.length k) (.slice X0 n0 k0) (.slice X1 n1 k1) (.slice X2 n2 k2) (.slice X3 n3 k3) rs As) := Lib.hid (fun W' hB => (h.keep hbw').keep hB)
  have HC : Hid (∀ W', Below W0.heap.size W0 W' → W'.heap[b1]? = some (.cells #[.int .i64 n, .string t, .slice X rs.length k, .slice X0 n0 k0, .slice X1 n1 k1, .slice X2 n2 k2, .slice X3 n3 k3] 26 (0, 0))) := Lib.hid (fun W' hB => (hB.block _ (block_lt hz0)).trans hz0)
  have HBW := Lib.hid hbw'
  have HW0 := Lib.hid hW0
  have HB1 := Lib.hid hb1
  have hemp : (⟨#[]⟩ : ByteArray).toList = [] := by rw [Lib.toList_data]
  clear hs h hW0 hz0 hbw' hb1 ht
  rcases hcs with ⟨c, hc, hV⟩ | ⟨m, rfl, hok, hV, hlen⟩
  all_goals
    rw [hV] at hE
    dsimp only at hE
    have HE := Lib.hid hE
    clear hV hE
    go_enter Try.func7, Try.ntmps7
    go_wp2_with fail
    rw [HW0.out, HB1.out]
    refine (wakes_any W0).mono ?_
    rintro e w1 ⟨rfl, hb1⟩
    have HB01 := Lib.hid hb1
    clear hb1
    have cc := two_boxes (HC.out w1 HB01.out) (HC.out w1 HB01.out)
    go_wp2_with fail
    clear cc
    refine (twin_any _ t rs As _ _ _ _ _ w1 (HA.out w1 HB01.out) HS.out).mono ?_
    rintro e w2 ⟨ur, u0, u1, u2, u3, rfl, hb2, hk2⟩
    have HB02 := Lib.hid (HB01.out.trans (hb2.mono HB01.out.size))
    have HK2 := Lib.hid hk2
    clear hb2 hk2
    go_wp2_with fail
    refine (HE.out _ _ _ _ _ w2 HK2.out).mono ?_
    rintro e w3 ⟨rfl, hb3⟩
    have HB03 := Lib.hid (HB02.out.trans (hb3.mono HB02.out.size))
    clear hb3
  · have hcn : (c != 0) = true := by simpa using hc
    go_wp2_with fail
    go_ret
    exact ⟨rfl, HBW.out.trans (HB03.out.mono HBW.out.size)⟩
  · have HBad : Hid (∀ i, i < (mkS (bkL ⟨m, t, rs, As⟩)).size → ∃ c : Nat, c ≠ 0 ∧ ∀ W, Calls Try.prog 15 #[.string ((mkS (bkL ⟨m, t, rs, As⟩)).extract 0 i)] W fun e w' => e = .returned (.tuple #[.agg #[.int .i64 0, .string ⟨#[]⟩, .slice none 0 0, .slice none 0 0, .slice none 0 0, .slice none 0 0, .slice none 0 0], .int .i64 (c : Int)]) ∧ Below W.heap.size W w') := Lib.hid (fun i hi => by
      obtain ⟨r, hr, hne⟩ := extract_data _ i hi
      obtain ⟨c, hc⟩ := decR_part (p := (mkS (bkL ⟨m, t, rs, As⟩)).extract 0 i) hok (mkS_data _) hr hne
      exact ⟨c, decR_ne hc, fun W => Decode_bad _ c W hc (by rw [ByteArray.size_extract, mkS_size]; omega)⟩)
    have HTail : Hid (∀ W, Calls Try.prog 15 #[.string (mkS (bkL ⟨m, t, rs, As⟩) ++ tail)] W fun e w' => ∃ vr v0 v1 v2 v3 x y, e = .returned (.tuple #[.agg #[x, y, vr, v0, v1, v2, v3], .int .i64 (if tail.size = 0 then 0 else 202)]) ∧ Below W.heap.size W w') := Lib.hid (fun W => by
      have hdata : (mkS (bkL ⟨m, t, rs, As⟩) ++ tail).data.toList = bkL ⟨m, t, rs, As⟩ ++ tail.data.toList := by
        rw [ByteArray.data_append, Array.toList_append, mkS_data]
      have hd := decR_enc hok hdata
      have hz : (mkS (bkL ⟨m, t, rs, As⟩) ++ tail).size ≤ 562949953421311 := by rw [ByteArray.size_append, mkS_size]; omega
      have hD := Decode_b _ W hz
      refine hD.mono ?_
      rintro e w' ⟨vr, v0, v1, v2, v3, he, hb, _⟩
      by_cases h0 : tail.size = 0
      · have : tail.data.toList = [] := List.eq_nil_of_length_eq_zero (by rw [len_toList]; exact h0)
        refine ⟨vr, v0, v1, v2, v3, .int .i64 (m : Int), .string t, ?_, hb⟩
        rw [he, hd, if_pos this, if_pos h0]
        rfl
      · have : tail.data.toList ≠ [] := fun e => h0 (by rw [← len_toList, e]; rfl)
        refine ⟨vr, v0, v1, v2, v3, .int .i64 0, .string ⟨#[]⟩, ?_, hb⟩
        rw [he, hd, if_neg this, if_neg h0]
        rfl)
    obtain ⟨s, hsn⟩ : ∃ s, mkS (bkL ⟨m, t, rs, As⟩) = s := ⟨_, rfl⟩
    rw [hsn] at HBad HTail
    have hsz : s.size ≤ 11853240144 := by rw [← hsn, mkS_size]; exact hlen
    clear hok hlen
    rw [hsn]
    clear hsn
    go_wp2_with fail
    go_loopw [7, 8, 9, 24] (fun _ _ _ i W => ∃ j : Nat, j ≤ s.size ∧ i = .int .i64 j ∧ Hid (Below W0.heap.size W0 W)) (fun _ _ _ i _ => s.size - (intOf i).toNat)
    case atStart => exact ⟨0, Nat.zero_le _, rfl, HB03⟩
    case round =>
      clear HB03
      obtain ⟨j, hj, rfl, HB⟩ := hrel
      by_cases hlt : j < s.size
      · have HLt : Hid (True → j + 1 ≤ s.size) := Lib.hid (fun _ => hlt)
        by_cases hskip : 400 < s.size ∧ j < s.size - 400
        · obtain ⟨hk1, hk2⟩ := hskip
          have q1 : decide ((400 : Int) < (s.size : Int)) = true := by simpa using (by omega : (400 : Int) < s.size)
          have q2 : decide ((j : Int) < (s.size : Int) - 400) = true := decide_eq_true (by omega)
          go_wp2_with fail
          refine ⟨⟨j + 1, HLt.out trivial, by go_num, HB⟩, by have := HLt.out trivial; simp [intOf]; omega⟩
        · obtain ⟨c, hc0, hcD⟩ := HBad.out j hlt
          have HcD := Lib.hid hcD
          have hcn : ((c : Int) == 0) = false := by simp; omega
          have hcs : (decide ((400 : Int) < (s.size : Int)) = false) ∨ (decide ((400 : Int) < (s.size : Int)) = true ∧ decide ((j : Int) < (s.size : Int) - 400) = false) := by
            by_cases h4 : 400 < s.size
            · exact .inr ⟨decide_eq_true (by omega), decide_eq_false (by omega)⟩
            · exact .inl (decide_eq_false (by omega))
          clear hskip hcD hc0
          rcases hcs with q1 | ⟨q1, q2⟩
          all_goals
            go_wp2_with fail
            refine (HcD.out wr).mono ?_
            rintro e w5 ⟨rfl, hb5⟩
            have HB5 := Lib.hid (HB.out.trans (hb5.mono HB.out.size))
            clear hb5
            go_wp2_with fail
            refine ⟨⟨j + 1, HLt.out trivial, by go_num, Lib.hid (HB5.out.alloc HB5.out.size _)⟩, by have := HLt.out trivial; simp [intOf]; omega⟩
      · obtain rfl : j = s.size := by omega
        go_wp2_with fail
        refine (HTail.out wr).mono ?_
        rintro e w6 ⟨yr, y0, y1, y2, y3, x, y, rfl, hb6⟩
        have HB6 := Lib.hid (HB.out.trans (hb6.mono HB.out.size))
        clear hb6
        by_cases h0 : tail.size = 0
        · rw [if_pos h0]
          have he := isEmpty1 tail h0
          clear h0
          go_wp2_with fail
          go_ret
          exact ⟨rfl, HBW.out.trans (HB6.out.mono HBW.out.size)⟩
        · rw [if_neg h0]
          have he := notEmpty tail (by omega)
          clear h0
          go_wp2_with fail
          go_ret
          exact ⟨rfl, HBW.out.trans (HB6.out.mono HBW.out.size)⟩
end Go.Proofs.Ytehbjfjhalpgaaa
