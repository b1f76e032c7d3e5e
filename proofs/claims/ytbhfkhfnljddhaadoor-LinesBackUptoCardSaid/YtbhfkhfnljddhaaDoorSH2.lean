/-
  lines.Show.
-/
import Derived.Test.YtbhfkhfnljddhaaDoorRows
import Derived.Test.YtbhfkhfnljddhaaDoorSH1
import Derived.Test.YtbhfkhfnljddhaaDoorShelf2
import Derived.Test.YtbhfkhfnljddhaaDoorBuilder2
namespace Go.Proofs.YtbhfkhfnljddhaaDoor
open Go.RowKit

theorem bcells_app (l m : List UInt8) : Lib.byteCells l ++ Lib.byteCells m = Lib.byteCells (l ++ m) := by simp [Lib.byteCells]
theorem bcells_len (l : List UInt8) : (Lib.byteCells l).length = l.length := by simp [Lib.byteCells]
theorem IsB.size {B b : Nat} {bs : List Value} {w : World} (h : IsB B b bs w) : b < w.heap.size := by
  rcases h with h | h
  · exact h.lt
  · exact h.lt
theorem IsB.call {B b : Nat} {bs : List Value} {w w' : World} (h : IsB B b bs w) (hb : Below w.heap.size w w') : IsB B b bs w' := by
  have key : ∀ p, Lib.BuilderAt 75 5 B b p bs w → Lib.BuilderAt 75 5 B b p bs w' := by
    rintro p ⟨hB, v, hbk, hown, hne⟩
    have hlt : b < w.heap.size := by
      rcases Nat.lt_or_ge b w.heap.size with h' | h'
      · exact h'
      · simp [Array.getElem?_eq_none h'] at hbk
    exact ⟨hB, v, by rw [hb.block b hlt]; exact hbk, own_below hown hb, hne⟩
  rcases h with h | h
  · exact .inl (key _ h)
  · exact .inr (key _ h)
theorem rows_full (rs : List (List ByteArray)) : ∀ b, rowsErr b rs = 0 → ∀ k (h : k < rs.length), rs[k] ≠ [] := by
  induction rs with
  | nil => intro b _ k h; cases h
  | cons r rs ih =>
    intro b h k hk
    rw [rowsErr] at h
    split at h
    · cases h
    · split at h
      · rename_i h1 h2
        cases k with
        | zero => exact h1
        | succ k => exact ih _ h k (by simpa using hk)
      · cases h

theorem fit_is (f : ByteArray) (b c : Bool) (w : World) (hs : f.size ≤ 1048576) (h : fitS f b = c) :
    Calls Tryd.prog 42 #[.string f, .bool b] w fun e w' => e = .returned (.bool c) ∧ Below w.heap.size w w' := by
  rw [← h]; exact fit_any f b w hs

/-- The cells of rows. -/
theorem RS.at {w : World} {g : Value} {gs : List (Value × List ByteArray)} (h : RS w g gs) : ∃ (p : Option Addr) (c : Nat), g = .slice p gs.length c ∧
    ∀ k (h : k < gs.length), ∃ b off A cap, ∃ r : List ByteArray, gs[k].2 = r ∧ p = some ⟨b, off, none⟩ ∧ w.cell? ⟨b, off + k, none⟩ = some (.slice A r.length cap) ∧ gs[k].1 = .slice A r.length cap ∧ r.length ≤ cap ∧
      ∀ j (h : j < r.length), ∃ b2 off2, A = some ⟨b2, off2, none⟩ ∧ w.cell? ⟨b2, off2 + j, none⟩ = some (.string r[j]) := by
  obtain ⟨p, c, rfl, _, h1, h2⟩ := h
  refine ⟨p, c, rfl, fun k hk => ?_⟩
  obtain ⟨b, off, hp, hc⟩ := h1.resolve_left (by omega)
  obtain ⟨_, A, cap, hv, hcap, ha⟩ := h2 gs[k] (List.getElem_mem _)
  have hck := hc k hk
  rw [hv] at hck
  refine ⟨b, off, A, cap, _, rfl, hp, hck, hv, hcap, fun j hj => ?_⟩
  obtain ⟨g2, o2, hA, hc2⟩ := ha.resolve_left (by omega)
  exact ⟨g2, o2, hA, hc2 j _ (strV_get _ j hj)⟩
theorem rowsV_drop (gs : List (Value × List ByteArray)) (k : Nat) (h : k < gs.length) : (rowsV gs)[k]'(by simpa using h) = gs[k].2 := by simp [rowsV]
theorem rowsV_len (gs : List (Value × List ByteArray)) : (rowsV gs).length = gs.length := by simp [rowsV]
theorem showErr_of (rs : List (List ByteArray)) (c : Int) (h : rowsErr true rs = c) (hc : c ≠ 0) : showErr rs = c ∧ showText rs = [] := by
  have e : showErr rs = c := by unfold showErr; rw [if_neg (by rw [h]; exact hc), h]
  exact ⟨e, by unfold showText; rw [if_neg (by rw [e]; exact hc)]⟩
theorem showErr_long (rs : List (List ByteArray)) (h : rowsErr true rs = 0) (hs : 65536 < sumR rs) : showErr rs = 10 ∧ showText rs = [] := by
  have e : showErr rs = 10 := by unfold showErr; rw [if_pos h, if_pos hs]
  exact ⟨e, by unfold showText; rw [if_neg (by rw [e]; decide)]⟩
theorem showErr_ok (rs : List (List ByteArray)) (h : rowsErr true rs = 0) (hs : ¬ 65536 < sumR rs) : showErr rs = 0 ∧ showText rs = rowsText rs := by
  have e : showErr rs = 0 := by unfold showErr; rw [if_pos h, if_neg hs]
  exact ⟨e, by unfold showText; rw [if_pos e]⟩
theorem bulkS_each (ss : List ByteArray) (i : Nat) (h : i < ss.length) : ss[i].size + 1 ≤ bulkS ss := by
  have h1 := bulkS_snoc ss i h
  have h2 := bulkS_part ss (i + 1)
  omega
theorem ij_first (k j : Nat) (b : Bool) (h : ((k : Int) + (j : Int) == 0) = b) (x : Bool) (hx : x = decide (k = 0)) (hj : j = 0) : b = x := by
  subst hj hx
  rw [← h, Bool.eq_iff_iff]
  simp
theorem ij_later (k j : Nat) : ((k : Int) + ((j + 1 : Nat) : Int) == 0) = false := by rw [beq_eq_false_iff_ne]; omega

theorem Join_any (A : Option Addr) (cap : Nat) (r : List ByteArray) (w : World) (hcap : r.length ≤ cap) (hne : 0 < r.length) (hl : bulkS r ≤ 1048576)
    (hc : ∀ j (h : j < r.length), ∃ b2 off2, A = some ⟨b2, off2, none⟩ ∧ w.cell? ⟨b2, off2 + j, none⟩ = some (.string r[j])) :
    Calls Tryd.prog 44 #[.slice A r.length cap, .string ⟨#[32]⟩] w fun e w' => e = .returned (.string (mkS (lineOf r))) ∧ Below w.heap.size w w' := by
  obtain ⟨b, off, rfl, c0⟩ := hc 0 hne
  have hlen := bulkS_len r
  have hjl : (lineOf r).length ≤ bulkS r + 1 := by
    have h := rowText_le r
    unfold rowText at h
    rw [List.length_append] at h
    simp at h ⊢; omega
  refine (Tryd.strings_Join b off cap r ⟨#[32]⟩ w (fun j x hx => ?_) (World.block_lt_of_cell? w _ c0) (by omega) hcap (by
    exact Nat.le_trans hjl (by omega))).mono fun e w' ⟨h1, h2⟩ => ⟨h1, h2⟩
  obtain ⟨hj, rfl⟩ := List.getElem?_eq_some_iff.1 hx
  obtain ⟨b', off', e, c⟩ := hc j hj
  injection e with e; injection e with e1 e2
  subst e1 e2
  exact c

set_option maxHeartbeats 8000000 in
set_option maxRecDepth 100000 in
theorem Show_any (g : Value) (gs : List (Value × List ByteArray)) (w : World) (h : RS w g gs) (hb : gs.length + sumR (rowsV gs) ≤ 1048576) :
    Calls Tryd.prog 33 #[g] w fun e w' => e = .returned (.tuple #[.string (mkS (showText (rowsV gs))), .int .i64 (showErr (rowsV gs))]) ∧ Below w.heap.size w w' := by
  obtain ⟨p, c, rfl, hC⟩ := h.at
  obtain ⟨R, hR⟩ : ∃ R, rowsV gs = R := ⟨_, rfl⟩
  have hRl : R.length = gs.length := by rw [← hR]; exact rowsV_len gs
  have HRk : Hid (∀ k (h : k < gs.length) (h' : k < R.length), R[k] = gs[k].2) := Lib.hid fun k h h' => by subst hR; exact rowsV_drop gs k h
  have HC := Lib.hid hC
  have HRl := Lib.hid hRl
  rw [hR] at hb
  have HBk := Lib.hid hb
  rw [hR]
  clear hC h hR hb hRl
  go_enter Tryd.func33, Tryd.ntmps33
  go_wp2_with fail
  go_loopw [4, 14] (fun sz i wr => ∃ k z : Nat, k ≤ gs.length ∧ i = .int .i64 k ∧ sz = .int .i64 z ∧ z ≤ 1048576 ∧ Hid (z = sumR (R.take k)) ∧ Hid (rowsErr (decide (k = 0)) (R.drop k) = rowsErr true R) ∧ Hid (Below w.heap.size w wr)) (fun _ i _ => gs.length - (intOf i).toNat)
  case atStart => exact ⟨0, 0, Nat.zero_le _, rfl, rfl, by omega, Lib.hid rfl, Lib.hid rfl, Lib.hid (Below.refl _ _)⟩
  case round =>
    obtain ⟨k, z, hk, rfl, rfl, hz, HZ, HE, HB⟩ := hrel
    by_cases hlt : k < gs.length
    · obtain ⟨b, off, A, cap, r, hr, rfl, hc0, -, hcap, hrow⟩ := HC.out k hlt
      have hRk := HRk.out k hlt (by rw [HRl.out]; exact hlt)
      rw [hr] at hRk
      have hsum := sumR_at R k (by rw [HRl.out]; exact hlt)
      rw [hRk] at hsum
      have hc := (HB.out.cell (World.block_lt_of_cell? _ _ hc0)).trans hc0
      have hin := HBk.out
      have hlen := bulkS_len r
      have HE0 : Hid (r = [] → rowsErr true R = 12) := Lib.hid fun he => by
        rw [← HE.out]; exact rowsErr_none _ R k (by rw [HRl.out]; exact hlt) (by rw [hRk]; exact he)
      have HE1 : Hid (r ≠ [] → rowErr (decide (k = 0)) r = 11 → rowsErr true R = 11) := Lib.hid fun he h11 => by
        rw [← HE.out]; exact rowsErr_no _ R k (by rw [HRl.out]; exact hlt) (by rw [hRk]; exact he) (by rw [hRk]; exact h11)
      have HE2 : Hid (r ≠ [] → rowErr (decide (k = 0)) r = 0 → rowsErr (decide (k + 1 = 0)) (R.drop (k + 1)) = rowsErr true R) := Lib.hid fun he h0 => by
        rw [← HE.out, rowsErr_yes _ R k (by rw [HRl.out]; exact hlt) (by rw [hRk]; exact he) (by rw [hRk]; exact h0)]
        have : decide (k + 1 = 0) = false := decide_eq_false (by omega)
        rw [this]
      have HS1 : Hid (sumR (R.take (k + 1)) = sumR (R.take k) + bulkS r) := Lib.hid (by
        rw [sumR_take R k (by rw [HRl.out]; exact hlt), hRk])
      have hkb : gs.length ≤ 1048576 := by omega
      have hbr : bulkS r ≤ 1048576 := by omega
      have HRow := Lib.hid hrow
      have HSum := Lib.hid hsum
      have HIn := Lib.hid hin
      clear hc0 hr hRk hrow hsum hin
      by_cases hr0 : r.length = 0
      · have q0 : ((r.length : Int) == 0) = true := by rw [beq_iff_eq]; omega
        have HX := Lib.hid (showErr_of R 12 (HE0.out (List.eq_nil_of_length_eq_zero hr0)) (by decide))
        go_wp2_with fail
        go_ret2
        exact ⟨by rw [HX.out.1, HX.out.2]; rfl, HB.out⟩
      · have q0 : ((r.length : Int) == 0) = false := by rw [beq_eq_false_iff_ne]; omega
        have HRn : Hid (r ≠ []) := Lib.hid fun e => hr0 (by rw [e]; rfl)
        clear hr0
        go_wp2_with fail
        go_loopw [4, 24] (fun sz j wn => ∃ m y : Nat, m ≤ r.length ∧ j = .int .i64 m ∧ sz = .int .i64 y ∧ Hid (y = z + bulkS (r.take m)) ∧ Hid (rowErr ((k : Int) + (m : Int) == 0) (r.drop m) = rowErr (decide (k = 0)) r) ∧ Hid (Below w.heap.size w wn)) (fun _ j _ => r.length - (intOf j).toNat)
        case atStart => exact ⟨0, z, Nat.zero_le _, rfl, rfl, Lib.hid (by simp [bulkS]), Lib.hid (by rw [List.drop_zero, ij_first k 0 _ rfl (decide (k = 0)) rfl rfl]), HB⟩
        case round =>
          obtain ⟨m, y, hm, rfl, rfl, HY, HR2, HB2⟩ := hrel
          by_cases hlm : m < r.length
          · obtain ⟨b2, off2, rfl, hd0⟩ := HRow.out m hlm
            have hd := (HB2.out.cell (World.block_lt_of_cell? _ _ hd0)).trans hd0
            have hbe := bulkS_each r m hlm
            have hbp := bulkS_snoc r m hlm
            have hbq := bulkS_part r (m + 1)
            have hs : r[m].size ≤ 1048576 := by have := HSum.out; have := HIn.out; omega
            have hy : y + r[m].size + 1 ≤ 1048576 := by have := HSum.out; have := HIn.out; have := HY.out; have := HZ.out; omega
            have HY2 : Hid (y + (r[m].size + 1) = z + bulkS (r.take (m + 1))) := Lib.hid (by have := HY.out; omega)
            obtain ⟨f, hf⟩ : ∃ f, r[m]'hlm = f := ⟨_, rfl⟩
            have HF1 : Hid (∀ bb, fitS r[m] bb = true → rowErr bb (r.drop m) = rowErr false (r.drop (m + 1))) := Lib.hid fun bb => rowErr_yes bb r m hlm
            have HF0 : Hid (∀ bb, fitS r[m] bb = false → rowErr bb (r.drop m) = 11) := Lib.hid fun bb => rowErr_no bb r m hlm
            obtain ⟨bb, hbb⟩ : ∃ bb, ((k : Int) + (m : Int) == 0) = bb := ⟨_, rfl⟩
            rw [hbb] at HR2
            rw [hf] at hd hs hy HY2 HF1 HF0
            have HL := Lib.hid (ij_later k m)
            clear hd0 hbe hbp hbq hf
            cases hfit : fitS f bb
            · have HX := Lib.hid (showErr_of R 11 (HE1.out HRn.out (HR2.out.symm.trans (HF0.out bb hfit))) (by decide))
              have HFit := Lib.hid hfit
              clear hfit
              go_wp2_with (go_at_call 42; refine (fit_is f bb _ _ hs HFit.out).mono ?_; rintro e w1 ⟨rfl, hb1⟩; have HB3 := Lib.hid (HB2.out.trans (hb1.mono HB2.out.size)); clear hb1)
              go_ret2
              exact ⟨by rw [HX.out.1, HX.out.2]; rfl, HB3.out⟩
            · have HX := Lib.hid (HR2.out.symm.trans (HF1.out bb hfit))
              have HFit := Lib.hid hfit
              clear hfit
              go_wp2_with (go_at_call 42; refine (fit_is f bb _ _ hs HFit.out).mono ?_; rintro e w1 ⟨rfl, hb1⟩; have HB3 := Lib.hid (HB2.out.trans (hb1.mono HB2.out.size)); clear hb1)
              go_roundw
              case rel => exact ⟨m + 1, y + (f.size + 1), by omega, by go_num, by go_num, HY2, Lib.hid (by rw [HL.out]; exact HX.out.symm), HB3⟩
              case measure => simp [intOf]; omega
          · obtain rfl : m = r.length := by omega
            have HX : Hid (rowErr (decide (k = 0)) r = 0) := Lib.hid (by rw [← HR2.out, List.drop_length]; rfl)
            have HZ2 : Hid (y = sumR (R.take (k + 1))) := Lib.hid (by
              have := HY.out
              rw [List.take_length] at this
              rw [HS1.out, this, HZ.out])
            have hy : y ≤ 1048576 := by
              have := HY.out; have := HSum.out; have := HIn.out; have := HZ.out
              rw [List.take_length] at *
              omega
            go_wp2_with fail
            go_roundw
            case rel => exact ⟨k + 1, y, by omega, by go_num, rfl, hy, HZ2, Lib.hid (HE2.out HRn.out HX.out), HB2⟩
            case measure => simp [intOf]; omega
    · obtain rfl : k = gs.length := by omega
      have HX : Hid (rowsErr true R = 0) := Lib.hid (by
        rw [← HE.out, ← HRl.out, List.drop_length]; rfl)
      have HZ2 : Hid (z = sumR R) := Lib.hid (by
        have := HZ.out
        rwa [← HRl.out, List.take_length] at this)
      by_cases hbig : 65536 < z
      · have HY := Lib.hid (showErr_long R HX.out (by rw [← HZ2.out]; exact hbig))
        go_wp2_with fail
        go_ret2
        exact ⟨by rw [HY.out.1, HY.out.2]; rfl, HB.out⟩
      · have HY := Lib.hid (showErr_ok R HX.out (by rw [← HZ2.out]; exact hbig))
        have HNe : Hid (∀ k (h : k < gs.length), 0 < gs[k].2.length) := Lib.hid (by
          intro k hk
          have hall := rows_full R true HX.out
          have := hall k (by rw [HRl.out]; exact hk)
          rw [HRk.out k hk] at this
          exact List.length_pos_iff.2 this)
        obtain ⟨wa, hwa⟩ : ∃ wa : World, wr = wa := ⟨_, rfl⟩
        rw [hwa] at HB ⊢
        clear hwa
        go_wp2_with fail
        go_loopw [47] (fun i W => ∃ k : Nat, k ≤ gs.length ∧ i = .int .i64 k ∧ Hid (Below w.heap.size w W) ∧ Hid (IsB wa.heap.size wa.heap.size (Lib.byteCells (rowsText (R.take k))) W)) (fun i _ => gs.length - (intOf i).toNat)
        case atStart => exact ⟨0, Nat.zero_le _, rfl, Lib.hid (HB.out.alloc HB.out.size _), Lib.hid (fresh_isB wa)⟩
        case round =>
          obtain ⟨k, hk, rfl, HB1, HI⟩ := hrel
          by_cases hlt : k < gs.length
          · obtain ⟨b, off, A, cap, r, hr, rfl, hc0, -, hcap, hrow⟩ := HC.out k hlt
            have hc := (HB1.out.cell (World.block_lt_of_cell? _ _ hc0)).trans hc0
            have hRk := HRk.out k hlt (by rw [HRl.out]; exact hlt)
            have hsum := sumR_at R k (by rw [HRl.out]; exact hlt)
            have hin := HBk.out
            have hTk := rowsText_take R k (by rw [HRl.out]; exact hlt)
            have htl := rowsText_le (R.take k)
            have hsl := sumR_le R k
            have htk : (R.take k).length ≤ k := List.length_take_le _ _
            rw [hr] at hRk
            have hne : 0 < r.length := by rw [← hr]; exact HNe.out k hlt
            rw [hRk] at hsum hTk
            have HRow : Hid (∀ (j : Nat) (h : j < r.length), ∃ b2 off2, A = some ⟨b2, off2, none⟩ ∧ wr.cell? ⟨b2, off2 + j, none⟩ = some (.string r[j])) := Lib.hid fun j hj => by
              obtain ⟨b2, off2, hA, hd⟩ := hrow j hj
              exact ⟨b2, off2, hA, (HB1.out.cell (World.block_lt_of_cell? _ _ hd)).trans hd⟩
            have HTk := Lib.hid hTk
            have hbr : bulkS r ≤ 1048576 := by omega
            have hkb : gs.length ≤ 1048576 := by omega
            have HL1 : Hid ((rowsText (R.take k)).length ≤ 1048576) := Lib.hid (by omega)
            have HLr : Hid ((lineOf r).length ≤ 1048577) := Lib.hid (by
              have h := rowText_le r
              unfold rowText at h
              rw [List.length_append] at h
              simp at h ⊢; omega)
            obtain ⟨T, hT⟩ : ∃ T, mkS (lineOf r) = T := ⟨_, rfl⟩
            have HTs : Hid (T.size ≤ 1048577) := Lib.hid (by rw [← hT, mkS_size]; exact HLr.out)
            have HTd : Hid (lineOf r = T.data.toList) := Lib.hid (by rw [← hT, mkS_data])
            have HJ : Hid (∀ w', Below wr.heap.size wr w' → True) := Lib.hid fun _ _ => trivial
            clear hc0 hr hRk hrow hsum hin hTk htl hsl htk
            go_wp2_with (go_at_call 44; refine (Join_any A cap r _ hcap hne hbr HRow.out).mono ?_; rw [hT]; rintro e w1 ⟨rfl, hb1⟩; have HI1 := Lib.hid (HI.out.call hb1); have HB2 := Lib.hid (HB1.out.trans (hb1.mono HB1.out.size)); clear hb1)
            refine (writeString_any _ _ _ T _ HI1.out (by rw [bcells_len]; have := HL1.out; have := HTs.out; omega) (by have := HI1.out.size; omega)).mono ?_
            rintro e w2 ⟨rfl, ho, hb2⟩
            have HI2 := Lib.hid ho.is
            have HB3 := Lib.hid (HB2.out.trans (hb2.mono HB.out.size))
            clear ho hb2
            go_wp2_with fail
            refine (writeByte_any _ _ _ 10 _ HI2.out (by rw [List.length_append, bcells_len, bcells_len, len_toList]; have := HL1.out; have := HTs.out; omega) (by have := HI2.out.size; omega)).mono ?_
            rintro e w3 ⟨rfl, ho, hb3⟩
            have HI3 := Lib.hid ho.is
            have HB4 := Lib.hid (HB3.out.trans (hb3.mono HB.out.size))
            clear ho hb3
            go_wp2_with fail
            go_roundw
            case rel => exact ⟨k + 1, by omega, by go_num, HB4, Lib.hid (by
              rw [HTk.out]
              unfold rowText
              rw [HTd.out, ← bcells_app, ← bcells_app, ← List.append_assoc]
              exact HI3.out)⟩
            case measure => simp [intOf]; omega
          · obtain rfl : k = gs.length := by omega
            have HT : Hid (rowsText (R.take gs.length) = rowsText R) := Lib.hid (by rw [← HRl.out, List.take_length])
            rw [HT.out] at HI
            go_wp2_with (first
              | (go_at_call 46; refine (builderString_any _ _ _ _ HI.out (by have := HI.out.size; omega)).mono ?_; rintro e w' ⟨rfl, h2⟩; have HO := Lib.hid (HB1.out.trans (h2.mono HB.out.size)); clear h2))
            go_ret2
            exact ⟨by rw [HY.out.1, HY.out.2]; rfl, HO.out⟩
end Go.Proofs.YtbhfkhfnljddhaaDoor
