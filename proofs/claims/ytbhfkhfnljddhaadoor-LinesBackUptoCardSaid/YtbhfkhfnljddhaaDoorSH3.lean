/-
  The document's Show.
-/
import Derived.Test.YtbhfkhfnljddhaaDoorRows
import Derived.Test.YtbhfkhfnljddhaaDoorSH2
namespace Go.Proofs.YtbhfkhfnljddhaaDoor
open Go.RowKit

theorem rfit_is (f : ByteArray) (b c : Bool) (w : World) (hs : f.size ≤ 1048576) (h : fitS f b = c) :
    Calls Tryd.prog 47 #[.string f, .bool b] w fun e w' => e = .returned (.bool c) ∧ w = w' := by
  rw [← h]; exact rfit_any f b w hs
/-- The size as the document counts it: no further than it must. -/
def SzOK (z s : Nat) : Prop := z ≤ 2097152 ∧ (s ≤ 65536 → z = s) ∧ (65536 < s → 65536 < z)
theorem SzOK.more {z s x : Nat} (h : SzOK z s) (hz : z ≤ 65536) (hx : x ≤ 1048577) : SzOK (z + x) (s + x) := by
  obtain ⟨h1, h2, h3⟩ := h
  have hs : s ≤ 65536 := by
    rcases Nat.lt_or_ge 65536 s with h | h
    · have := h3 h; omega
    · exact h
  have := h2 hs
  exact ⟨by omega, fun _ => by omega, fun _ => by omega⟩
theorem SzOK.stay {z s x : Nat} (h : SzOK z s) (hz : ¬ z ≤ 65536) : SzOK z (s + x) := by
  obtain ⟨h1, h2, h3⟩ := h
  have hs : 65536 < s := by
    rcases Nat.lt_or_ge 65536 s with h | h
    · exact h
    · have := h2 h; omega
  exact ⟨h1, fun _ => by omega, fun _ => by omega⟩
theorem first_later (k m : Nat) : (decide (k = 0) && (((m + 1 : Nat) : Int) == 0)) = false := by
  have : (((m + 1 : Nat) : Int) == 0) = false := by rw [beq_eq_false_iff_ne]; omega
  rw [this]; simp

set_option maxHeartbeats 8000000 in
set_option maxRecDepth 100000 in
theorem rShow_any (g : Value) (gs : List (Value × List ByteArray)) (w : World) (h : RS w g gs) (hb : gs.length + sumR (rowsV gs) ≤ 1048576) :
    Calls Tryd.prog 34 #[g] w fun e w' => e = .returned (.tuple #[.string (mkS (showText (rowsV gs))), .int .i64 (showErr (rowsV gs))]) ∧ Below w.heap.size w w' := by
  obtain ⟨j0, hj, hy0, hy1, hy2⟩ := info_parts byte_info
  obtain ⟨p, c, rfl, hC⟩ := h.at
  obtain ⟨R, hR⟩ : ∃ R, rowsV gs = R := ⟨_, rfl⟩
  have hRl : R.length = gs.length := by rw [← hR]; exact rowsV_len gs
  have HRk : Hid (∀ k (h : k < gs.length) (h' : k < R.length), R[k] = gs[k].2) := Lib.hid fun k h h' => by subst hR; exact rowsV_drop gs k h
  have HC := Lib.hid hC
  have HRl := Lib.hid hRl
  rw [hR] at hb
  have HBk := Lib.hid hb
  have hkb : gs.length ≤ 1048576 := by omega
  rw [hR]
  clear hC h hR hb hRl
  go_enter Tryd.func34, Tryd.ntmps34
  go_wp2_with fail
  go_loopw [4, 5] (fun sz i wr => ∃ k z : Nat, k ≤ gs.length ∧ i = .int .i64 k ∧ sz = .int .i64 z ∧ wr = w ∧ z ≤ 2097152 ∧ Hid (SzOK z (sumR (R.take k))) ∧ Hid (rowsErr (decide (k = 0)) (R.drop k) = rowsErr true R)) (fun _ i _ => gs.length - (intOf i).toNat)
  case atStart => exact ⟨0, 0, Nat.zero_le _, rfl, rfl, rfl, by omega, Lib.hid ⟨by omega, fun _ => rfl, fun h => absurd h (by simp [sumR])⟩, Lib.hid rfl⟩
  case round =>
    obtain ⟨k, z, hk, rfl, rfl, rfl, hz, HZ, HE⟩ := hrel
    by_cases hlt : k < gs.length
    · obtain ⟨b, off, A, cap, r, hr, rfl, hc, -, hcap, hrow⟩ := HC.out k hlt
      have hRk := HRk.out k hlt (by rw [HRl.out]; exact hlt)
      rw [hr] at hRk
      have hsum := sumR_at R k (by rw [HRl.out]; exact hlt)
      rw [hRk] at hsum
      have hin := HBk.out
      have hlen := bulkS_len r
      have HE0 : Hid (r = [] → rowsErr true R = 12) := Lib.hid fun he => by
        rw [← HE.out]; exact rowsErr_none _ R k (by rw [HRl.out]; exact hlt) (by rw [hRk]; exact he)
      have HE1 : Hid (r ≠ [] → rowErr (decide (k = 0)) r = 11 → rowsErr true R = 11) := Lib.hid fun he h11 => by
        rw [← HE.out]; exact rowsErr_no _ R k (by rw [HRl.out]; exact hlt) (by rw [hRk]; exact he) (by rw [hRk]; exact h11)
      have HE2 : Hid (r ≠ [] → rowErr (decide (k = 0)) r = 0 → rowsErr (decide (k + 1 = 0)) (R.drop (k + 1)) = rowsErr true R) := Lib.hid fun he h0 => by
        rw [← HE.out, rowsErr_yes _ R k (by rw [HRl.out]; exact hlt) (by rw [hRk]; exact he) (by rw [hRk]; exact h0)]
        have : decide (k + 1 = 0) = false := decide_eq_false (by omega)
        rw [this]
      have HS1 : Hid (sumR (R.take (k + 1)) = sumR (R.take k) + bulkS r) := Lib.hid (by
        rw [sumR_take R k (by rw [HRl.out]; exact hlt), hRk])
      have hbr : bulkS r ≤ 1048576 := by omega
      have HRow := Lib.hid hrow
      clear hr hRk hrow hsum hin
      by_cases hr0 : r.length = 0
      · have q0 : ((r.length : Int) == 0) = true := by rw [beq_iff_eq]; omega
        have HX := Lib.hid (showErr_of R 12 (HE0.out (List.eq_nil_of_length_eq_zero hr0)) (by decide))
        go_wp2_with fail
        go_ret2
        exact ⟨by rw [HX.out.1, HX.out.2]; rfl, Below.refl _ _⟩
      · have q0 : ((r.length : Int) == 0) = false := by rw [beq_eq_false_iff_ne]; omega
        have HRn : Hid (r ≠ []) := Lib.hid fun e => hr0 (by rw [e]; rfl)
        clear hr0
        go_wp2_with fail
        go_loopw [4, 6] (fun sz j wn => ∃ m y : Nat, m ≤ r.length ∧ j = .int .i64 m ∧ sz = .int .i64 y ∧ wn = wr ∧ y ≤ 2097152 ∧ Hid (SzOK y (sumR (R.take k) + bulkS (r.take m))) ∧ Hid (rowErr (decide (k = 0) && ((m : Int) == 0)) (r.drop m) = rowErr (decide (k = 0)) r)) (fun _ j _ => r.length - (intOf j).toNat)
        case atStart => exact ⟨0, z, Nat.zero_le _, rfl, rfl, rfl, hz, Lib.hid (by simpa [bulkS] using HZ.out), Lib.hid (by rw [List.drop_zero]; simp)⟩
        case round =>
          obtain ⟨m, y, hm, rfl, rfl, rfl, hyb, HY, HR2⟩ := hrel
          by_cases hlm : m < r.length
          · obtain ⟨b2, off2, rfl, hd⟩ := HRow.out m hlm
            have hbe := bulkS_each r m hlm
            have hs : r[m].size ≤ 1048576 := by omega
            have HY1 : Hid (y ≤ 65536 → SzOK (y + r[m].size + 1) (sumR (R.take k) + bulkS (r.take (m + 1)))) := Lib.hid fun h => by
              rw [bulkS_snoc r m hlm, ← Nat.add_assoc, Nat.add_assoc y]; exact HY.out.more h (by omega)
            have HY2 : Hid (¬ y ≤ 65536 → SzOK y (sumR (R.take k) + bulkS (r.take (m + 1)))) := Lib.hid fun h => by
              rw [bulkS_snoc r m hlm, ← Nat.add_assoc]; exact HY.out.stay h
            have HF1 : Hid (∀ bb, fitS r[m] bb = true → rowErr bb (r.drop m) = rowErr false (r.drop (m + 1))) := Lib.hid fun bb => rowErr_yes bb r m hlm
            have HF0 : Hid (∀ bb, fitS r[m] bb = false → rowErr bb (r.drop m) = 11) := Lib.hid fun bb => rowErr_no bb r m hlm
            obtain ⟨f, hf⟩ : ∃ f, r[m]'hlm = f := ⟨_, rfl⟩
            obtain ⟨bb, hbb⟩ : ∃ bb, (decide (k = 0) && ((m : Int) == 0)) = bb := ⟨_, rfl⟩
            rw [hbb] at HR2
            rw [hf] at hd hs HF1 HF0 HY1
            have HL := Lib.hid (first_later k m)
            have hcs : (((k : Int) == 0) = true ∧ ((m : Int) == 0) = bb) ∨ (((k : Int) == 0) = false ∧ bb = false) := by
              by_cases h : k = 0
              · exact .inl ⟨by simp [h], by rw [← hbb]; simp [h]⟩
              · exact .inr ⟨by simp; omega, by rw [← hbb]; simp [h]⟩
            clear hbe hf hbb
            cases hfit : fitS f bb
            · have HX := Lib.hid (showErr_of R 11 (HE1.out HRn.out (HR2.out.symm.trans (HF0.out bb hfit))) (by decide))
              have HFit := Lib.hid hfit
              clear hfit
              rcases hcs with ⟨q1, q2⟩ | ⟨q1, rfl⟩
              all_goals
                go_wp2_with (go_at_call 47; refine (rfit_is f _ _ _ hs HFit.out).mono ?_; rintro e w1 ⟨rfl, rfl⟩)
                go_ret2
                exact ⟨by rw [HX.out.1, HX.out.2]; rfl, Below.refl _ _⟩
            · have HX := Lib.hid (HR2.out.symm.trans (HF1.out bb hfit))
              have HFit := Lib.hid hfit
              clear hfit
              rcases hcs with ⟨q1, q2⟩ | ⟨q1, rfl⟩
              all_goals
                by_cases hy6 : y ≤ 65536
                · have HY3 := Lib.hid (HY1.out hy6)
                  have hy7 : y + f.size + 1 ≤ 2097152 := by omega
                  go_wp2_with (go_at_call 47; refine (rfit_is f _ _ _ hs HFit.out).mono ?_; rintro e w1 ⟨rfl, rfl⟩)
                  go_roundw
                  case rel => exact ⟨m + 1, y + f.size + 1, by omega, by go_num, by go_num, (by first | rfl | trivial), hy7, HY3, Lib.hid (by rw [HL.out]; exact HX.out.symm)⟩
                  case measure => simp [intOf]; omega
                · have HY3 := Lib.hid (HY2.out hy6)
                  go_wp2_with (go_at_call 47; refine (rfit_is f _ _ _ hs HFit.out).mono ?_; rintro e w1 ⟨rfl, rfl⟩)
                  go_roundw
                  case rel => exact ⟨m + 1, y, by omega, by go_num, rfl, (by first | rfl | trivial), hyb, HY3, Lib.hid (by rw [HL.out]; exact HX.out.symm)⟩
                  case measure => simp [intOf]; omega
          · obtain rfl : m = r.length := by omega
            have HX : Hid (rowErr (decide (k = 0)) r = 0) := Lib.hid (by rw [← HR2.out, List.drop_length]; rfl)
            have HZ2 : Hid (SzOK y (sumR (R.take (k + 1)))) := Lib.hid (by
              have := HY.out
              rw [List.take_length] at this
              rw [HS1.out]; exact this)
            go_wp2_with fail
            go_roundw
            case rel => exact ⟨k + 1, y, by omega, by go_num, rfl, (by first | rfl | trivial), hyb, HZ2, Lib.hid (HE2.out HRn.out HX.out)⟩
            case measure => simp [intOf]; omega
    · obtain rfl : k = gs.length := by omega
      have HX : Hid (rowsErr true R = 0) := Lib.hid (by
        rw [← HE.out, ← HRl.out, List.drop_length]; rfl)
      have HZ2 : Hid (SzOK z (sumR R)) := Lib.hid (by
        have := HZ.out
        rwa [← HRl.out, List.take_length] at this)
      by_cases hbig : 65536 < z
      · have HY := Lib.hid (showErr_long R HX.out (by
          obtain ⟨_, h2, h3⟩ := HZ2.out
          rcases Nat.lt_or_ge 65536 (sumR R) with h | h
          · exact h
          · have := h2 h; omega))
        go_wp2_with fail
        go_ret2
        exact ⟨by rw [HY.out.1, HY.out.2]; rfl, Below.refl _ _⟩
      · have HY := Lib.hid (showErr_ok R HX.out (by
          obtain ⟨_, h2, h3⟩ := HZ2.out
          intro h
          have := h3 h; omega))
        have HNe : Hid (∀ k (h : k < gs.length), 0 < gs[k].2.length) := Lib.hid (by
          intro k hk
          have hall := rows_full R true HX.out
          have := hall k (by rw [HRl.out]; exact hk)
          rw [HRk.out k hk] at this
          exact List.length_pos_iff.2 this)
        obtain ⟨wb, rfl⟩ : ∃ wb : World, wb = wr := ⟨_, rfl⟩
        go_wp2_with fail
        go_loopw [8, 9] (fun v i W => ∃ (k : Nat) (l : List UInt8), k ≤ gs.length ∧ i = .int .i64 k ∧ Hid (l = rowsText (R.take k)) ∧ Hid (Own wb W 5 1 v l.length (Lib.byteCells l))) (fun _ i _ => gs.length - (intOf i).toNat)
        case atStart => exact ⟨0, [], Nat.zero_le _, rfl, Lib.hid rfl, Lib.hid (Own.nil_ wb _ _)⟩
        case round =>
          obtain ⟨k, l, hk, rfl, HT, HO⟩ := hrel
          by_cases hlt : k < gs.length
          · obtain ⟨b, off, A, cap, r, hr, rfl, hc0, -, hcap, hrow⟩ := HC.out k hlt
            have hRk := HRk.out k hlt (by rw [HRl.out]; exact hlt)
            rw [hr] at hRk
            have hne : 0 < r.length := by rw [← hr]; exact HNe.out k hlt
            have hsum := sumR_at R k (by rw [HRl.out]; exact hlt)
            rw [hRk] at hsum
            have hin := HBk.out
            have hlen := bulkS_len r
            have htl := rowsText_le (R.take k)
            have htk : (R.take k).length ≤ k := List.length_take_le _ _
            have hbr : bulkS r ≤ 1048576 := by omega
            have HTk : Hid (rowsText (R.take (k + 1)) = rowsText (R.take k) ++ rowText r) := Lib.hid (by rw [rowsText_take R k (by rw [HRl.out]; exact hlt), hRk])
            have HL0 : Hid ((rowsText (R.take k)).length ≤ 1048576) := Lib.hid (by omega)
            have hl : l.length ≤ 1048576 := by rw [HT.out]; exact HL0.out
            have hc := (HO.out.below.cell (World.block_lt_of_cell? _ _ hc0)).trans hc0
            have HC0 := Lib.hid hc0
            have HRow := Lib.hid hrow
            clear hr hRk hrow hsum hin htl htk hc0
            go_wp2_with fail
            clear hc
            go_loopw [8, 10] (fun v j W => ∃ (m : Nat) (l2 : List UInt8), m ≤ r.length ∧ j = .int .i64 m ∧ Hid (l2 = l ++ (if m = r.length then rowText r else partText r m)) ∧ Hid (Own wb W 5 1 v l2.length (Lib.byteCells l2))) (fun _ j _ => r.length - (intOf j).toNat)
            case atStart => exact ⟨0, l, Nat.zero_le _, rfl, Lib.hid (by rw [if_neg (by omega)]; simp [partText]), HO⟩
            case round =>
              obtain ⟨m, l2, hm, rfl, HT2, HO2⟩ := hrel
              have hc := (HO2.out.below.cell (World.block_lt_of_cell? _ _ HC0.out)).trans HC0.out
              by_cases hlm : m < r.length
              · obtain ⟨b2, off2, rfl, hd0⟩ := HRow.out m hlm
                have hd := (HO2.out.below.cell (World.block_lt_of_cell? _ _ hd0)).trans hd0
                have hbe := bulkS_each r m hlm
                have hpl := partText_len r m
                have hbq := bulkS_part r m
                have HT3 : Hid (l2 = l ++ partText r m) := Lib.hid (by rw [HT2.out, if_neg (by omega)])
                have hl2 : l2.length ≤ 2097152 := by rw [HT3.out, List.length_append]; omega
                have HPl := Lib.hid (partText_last r m)
                have HPs := Lib.hid (partText_snoc r m hlm)
                obtain ⟨f, hf⟩ : ∃ f, r[m]'hlm = f := ⟨_, rfl⟩
                rw [hf] at hd hd0 hbe HPs
                have HPl2 : Hid (m + 1 = r.length → partText r m ++ (f.data.toList ++ [10]) = rowText r) := Lib.hid fun h => by rw [← hf]; exact HPl.out h
                have hfs : f.size ≤ 1048576 := by omega
                have HD0 := Lib.hid hd0
                clear HPl hbe hpl hbq hd0 hf
                go_wp2_with fail
                clear hc hd
                go_loopw [8, 11] (fun v q W => ∃ (n : Nat) (l3 : List UInt8), n ≤ f.size ∧ q = .int .i64 n ∧ l3.length ≤ l2.length + n ∧ Hid (l3 = l2 ++ f.data.toList.take n) ∧ Hid (Own wb W 5 1 v l3.length (Lib.byteCells l3))) (fun _ q _ => f.size - (intOf q).toNat)
                case atStart => exact ⟨0, l2, Nat.zero_le _, rfl, Nat.le_refl _, Lib.hid (by simp), HO2⟩
                case round =>
                  obtain ⟨n, l3, hn, rfl, hl3, HT4, HO3⟩ := hrel
                  have hc := (HO3.out.below.cell (World.block_lt_of_cell? _ _ HC0.out)).trans HC0.out
                  have hd := (HO3.out.below.cell (World.block_lt_of_cell? _ _ HD0.out)).trans HD0.out
                  by_cases hln : n < f.size
                  · have HX4 : Hid (l3 ++ [f[n]] = l2 ++ f.data.toList.take (n + 1)) := Lib.hid (by
                      rw [HT4.out, List.take_succ_eq_append_getElem (by rw [len_toList]; exact hln), List.append_assoc]; rfl)
                    go_wp2_with (at_builtin; refine wpList_push1 rfl _ _ 36 rfl wb.heap.size 5 j0 (.int .u8 0) 1 Tryd.underlying36 hj hy0 hy1 hy2 rfl _ _ _ rfl HO3.out.own _ rfl rfl (by unfold maxLen; omega) (by omega) HO3.out.size ?_; intro gg cap5 w5 hown hg5; have HO4 := Lib.hid (HO3.out.push hown hg5); clear hown hg5)
                    go_roundw
                    case rel =>
                      refine ⟨n + 1, l3 ++ [f[n]], hln, by go_num, by simp; omega, HX4, Lib.hid ?_⟩
                      have h5 := HO4.out
                      rw [bytes_snoc] at h5
                      simpa using h5
                    case measure => simp [intOf]; omega
                  · obtain rfl : n = f.size := by omega
                    have HX4 : Hid (l3 = l2 ++ f.data.toList) := Lib.hid (by rw [HT4.out, ← len_toList, List.take_length])
                    by_cases hlast : m + 1 = r.length
                    · have q : ((m : Int) == (r.length : Int) - 1) = true := by rw [beq_iff_eq]; omega
                      have HY5 : Hid (l3 ++ [10] = l ++ rowText r) := Lib.hid (by rw [HX4.out, HT3.out, ← HPl2.out hlast]; simp)
                      go_wp2_with (at_builtin; refine wpList_push1 rfl _ _ 36 rfl wb.heap.size 5 j0 (.int .u8 0) 1 Tryd.underlying36 hj hy0 hy1 hy2 rfl _ _ _ rfl HO3.out.own _ rfl rfl (by unfold maxLen; omega) (by omega) HO3.out.size ?_; intro gg cap5 w5 hown hg5; have HO4 := Lib.hid (HO3.out.push hown hg5); clear hown hg5)
                      go_roundw
                      case rel =>
                        refine ⟨m + 1, l3 ++ [10], by omega, by go_num, Lib.hid (by rw [if_pos hlast]; exact HY5.out), Lib.hid ?_⟩
                        have h5 := HO4.out
                        have e : Lib.byteCells l3 ++ [Value.int .u8 10] = Lib.byteCells (l3 ++ [10]) := bytes_snoc l3 10
                        rw [e] at h5
                        simpa using h5
                      case measure => simp [intOf]; omega
                    · have q : ((m : Int) == (r.length : Int) - 1) = false := by rw [beq_eq_false_iff_ne]; omega
                      have HY5 : Hid (l3 ++ [32] = l ++ partText r (m + 1)) := Lib.hid (by rw [HX4.out, HT3.out, HPs.out]; simp)
                      go_wp2_with (at_builtin; refine wpList_push1 rfl _ _ 36 rfl wb.heap.size 5 j0 (.int .u8 0) 1 Tryd.underlying36 hj hy0 hy1 hy2 rfl _ _ _ rfl HO3.out.own _ rfl rfl (by unfold maxLen; omega) (by omega) HO3.out.size ?_; intro gg cap5 w5 hown hg5; have HO4 := Lib.hid (HO3.out.push hown hg5); clear hown hg5)
                      go_roundw
                      case rel =>
                        refine ⟨m + 1, l3 ++ [32], by omega, by go_num, Lib.hid (by rw [if_neg hlast]; exact HY5.out), Lib.hid ?_⟩
                        have h5 := HO4.out
                        have e : Lib.byteCells l3 ++ [Value.int .u8 32] = Lib.byteCells (l3 ++ [32]) := bytes_snoc l3 32
                        rw [e] at h5
                        simpa using h5
                      case measure => simp [intOf]; omega
              · obtain rfl : m = r.length := by omega
                have HX2 : Hid (l2 = rowsText (R.take (k + 1))) := Lib.hid (by rw [HT2.out, if_pos rfl, HTk.out, HT.out])
                go_wp2_with fail
                go_roundw
                case rel => exact ⟨k + 1, l2, by omega, by go_num, HX2, HO2⟩
                case measure => simp [intOf]; omega
          · obtain rfl : k = gs.length := by omega
            have HX2 : Hid (l = rowsText R) := Lib.hid (by rw [HT.out, ← HRl.out, List.take_length])
            have hcv := run_string_of_own HO.out.own 36 9 Tryd.underlying36 Tryd.underlying5 Tryd.underlying9
            go_wp2_with fail
            go_ret2
            exact ⟨by rw [HY.out.1, HY.out.2, ← HX2.out]; rfl, HO.out.below⟩
end Go.Proofs.YtbhfkhfnljddhaaDoor
