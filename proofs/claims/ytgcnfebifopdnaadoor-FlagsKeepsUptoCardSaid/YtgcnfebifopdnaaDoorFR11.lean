/-
  Read on both sides; the law's wakes.
-/
import Derived.Test.YtgcnfebifopdnaaDoorRows
import Derived.Test.YtgcnfebifopdnaaDoorFR10
import Derived.Test.YtgcnfebifopdnaaDoorGC
import Derived.Test.YtgcnfebifopdnaaDoorGB
import Derived.Deep.RegionWith
namespace Go.Proofs.YtgcnfebifopdnaaDoor
open Go.RowKit

/-- The flags that the pieces write. -/
def numsF (kind : Int) (l : List UInt8) : List Int := (piecesOf kind l).map (numF kind)
/-- What the pieces write, and the error. -/
def readF (kind : Int) (l : List UInt8) : List Int × Int :=
  if kindOk kind = false then ([], 30)
  else if l = [] then ([], 31)
  else if (numsF kind l).contains 0 = true then ([], 31)
  else if 64 < (numsF kind l).length then ([], 32)
  else (canon (numsF kind l), 0)

theorem numsOf (kind : Int) (s : ByteArray) : (piecesS kind s).map (fun p => numF kind p.data.toList) = numsF kind s.data.toList := by
  unfold piecesS numsF
  rw [List.map_map]
  rfl
theorem cgo_piece (l : List UInt8) : ∀ cur, ∀ p ∈ cgo cur l, p.length ≤ cur.length + l.length := by
  induction l with
  | nil => intro cur p hp; simp [cgo] at hp; subst hp; simp
  | cons b l ih =>
    intro cur p hp
    rw [cgo] at hp
    split at hp
    · rcases List.mem_cons.1 hp with rfl | hp
      · simp
      · have := ih [] p hp; simp at this ⊢; omega
    · have := ih _ p hp; simp at this ⊢; omega
theorem chop_piece (k : Nat) : ∀ (n : Nat) (l : List UInt8), ∀ p ∈ chop k n l, p.length ≤ l.length
  | 0, l, p, hp => by simp [chop] at hp
  | n + 1, l, p, hp => by
    rw [chop] at hp
    split at hp
    · simp at hp
    · rcases List.mem_cons.1 hp with rfl | hp
      · simp; omega
      · have := chop_piece k n _ p hp; simp at this; omega
theorem piece_size (kind : Int) (s : ByteArray) (p : ByteArray) (hp : p ∈ piecesS kind s) : p.size ≤ s.size := by
  unfold piecesS piecesOf at hp
  obtain ⟨q, hq, rfl⟩ := List.mem_map.1 hp
  rw [mkS_size, ← len_toList s]
  split at hq
  · have := cgo_piece _ _ q hq; simpa using this
  · exact chop_piece _ _ _ q hq
theorem numsF_bd (kind : Int) (l : List UInt8) : ∀ x ∈ numsF kind l, 0 ≤ x ∧ x ≤ 65535 := by
  intro x hx
  obtain ⟨p, _, rfl⟩ := List.mem_map.1 hx
  exact numF_bd kind p
theorem readF_bd (kind : Int) (l : List UInt8) : ∀ x ∈ (readF kind l).1, 0 ≤ x ∧ x ≤ 65535 := by
  intro x hx
  unfold readF at hx
  split at hx
  · simp at hx
  · split at hx
    · simp at hx
    · split at hx
      · simp at hx
      · split at hx
        · simp at hx
        · exact numsF_bd kind l x ((mem_canon _ _).1 hx)
theorem readF_len (kind : Int) (l : List UInt8) : (readF kind l).1.length ≤ 64 := by
  unfold readF
  split
  · simp
  · split
    · simp
    · split
      · simp
      · split
        · simp
        · have := canon_le (numsF kind l); simp; omega
/-- None of these is 0, so far. -/
theorem no_zero (zs : List Int) (h : ∀ j, j < zs.length → zs.getD j 0 ≠ 0) : zs.contains 0 = false := by
  cases hq : zs.contains 0
  · rfl
  · obtain ⟨j, hj, hjx⟩ := List.getElem_of_mem ((contains_iff _ _).1 hq)
    exact absurd (by simp [List.getD, hj, hjx]) (h j hj)
theorem a_zero (zs : List Int) (k : Nat) (hk : k < zs.length) (h : zs.getD k 0 = 0) : zs.contains 0 = true := by
  have e : zs.getD k 0 = zs[k] := by simp [List.getD, hk]
  rw [contains_iff, ← h, e]
  exact List.getElem_mem hk
theorem take_snoc_u16 (zs : List Int) (k : Nat) (h : k < zs.length) : (zs.take (k + 1)).map (Value.int .u16) = (zs.take k).map (Value.int .u16) ++ [Value.int .u16 (zs.getD k 0)] := by
  rw [List.take_add_one, List.getElem?_eq_getElem h, List.map_append]
  simp [List.getD, h]

set_option maxHeartbeats 4000000 in
set_option maxRecDepth 100000 in
theorem so_Read (kind : Int) (s : ByteArray) (m : Int) (w : World) (hs : s.size ≤ 4194304) (hm : w.cell? ⟨0, 0, none⟩ = some (.int .i64 m)) :
    Calls Tryd.prog 11 #[.int .i64 kind, .string s] w fun e w' => ∃ v', e = .returned (.tuple #[v', .int .i64 (readF kind s.data.toList).2]) ∧ FN w.heap.size w' v' (readF kind s.data.toList).1 ∧ Below w.heap.size w w' := by
  obtain ⟨i0, hi, hz0, hz1, hz2⟩ := info_parts flag_info
  rcases kind_cases kind with ⟨h, hk⟩ | ⟨h, hk⟩
  · have HK := Lib.hid h
    have HKK := Lib.hid hk
    clear h hk
    by_cases h0 : s.size = 0
    · have hR := Lib.hid (show readF kind s.data.toList = ([], 31) by rw [readF, if_neg (by rw [HK.out]; decide), if_pos (isEmpty0 s h0)])
      have he := isEmpty1 s h0
      go_enter Tryd.func11, Tryd.ntmps11
      go_wp2_with (go_at_call 34; refine (so_known _ _).mono ?_; rw [HK.out]; rintro e w1 ⟨rfl, rfl⟩)
      go_ret2
      exact ⟨_, by rw [hR.out]; rfl, by rw [hR.out]; exact FN.nil _ _ _ _, Below.refl _ _⟩
    · have he := notEmpty s (by omega)
      have HE := Lib.hid (show ¬ s.data.toList = [] by intro e; have := len_toList s; rw [e] at this; simp at this; omega)
      have HR := Lib.hid (show readF kind s.data.toList = if (numsF kind s.data.toList).contains 0 = true then ([], 31) else if 64 < (numsF kind s.data.toList).length then ([], 32) else (canon (numsF kind s.data.toList), 0) by rw [readF, if_neg (by rw [HK.out]; decide), if_neg HE.out])
      have hNS := numsOf kind s
      have hPS := fun p hp => piece_size kind s p hp
      have hln := piecesOf_len kind s.data.toList
      rw [len_toList] at hln
      have hnl : (numsF kind s.data.toList).length = (piecesS kind s).length := by rw [← hNS]; simp
      rw [← piecesS_len] at hln
      generalize hzs : numsF kind s.data.toList = zs at *
      have HZS := Lib.hid hzs
      clear hzs
      obtain ⟨ss, hss⟩ : ∃ ss, piecesS kind s = ss := ⟨_, rfl⟩
      have HSS := Lib.hid hss
      rw [hss] at hNS hPS hln hnl
      have HNS := Lib.hid hNS
      have HPS := Lib.hid hPS
      clear hNS hPS hss h0
      generalize hr : readF kind s.data.toList = r at *
      have HRr := Lib.hid hr
      clear hr
      go_enter Tryd.func11, Tryd.ntmps11
      go_wp2_with (first
        | (go_at_call 34; refine (so_known _ _).mono ?_; rw [HK.out]; rintro e w1 ⟨rfl, rfl⟩)
        | (go_at_call 35; refine (so_pieces kind s m _ HKK.out hs hm).mono ?_; rw [HSS.out]; rintro e w1 ⟨v1, rfl, ⟨hl1, A, cap, rfl, hcap, hcells⟩, b1⟩; have HC := Lib.hid hcells; have B1 := Lib.hid b1; clear hl1 hcells b1))
      have hs1 := B1.out.size
      go_loopw [6, 8, 9, 19] (fun o _ _ i wr => ∃ k : Nat, k ≤ ss.length ∧ i = .int .i64 k ∧ Hid (∀ j, j < k → zs.getD j 0 ≠ 0) ∧ Hid (Own w1 wr 34 1 o k ((zs.take k).map (Value.int .u16)))) (fun _ _ _ i _ => ss.length - (intOf i).toNat)
      case atStart => exact ⟨0, Nat.zero_le _, rfl, (fun j hj => absurd hj (Nat.not_lt_zero _)), Own.nil_ _ _ _⟩
      case round =>
        obtain ⟨k, hkk, rfl, HN, HO⟩ := hrel
        have hsz := HO.out.size
        by_cases hlt : k < ss.length
        · obtain ⟨g, o, rfl, hc⟩ := HC.out.resolve_left (by omega)
          have c0 := hc k (.string ss[k]) (strV_get ss k hlt)
          have hcell := (HO.out.below.cell (World.block_lt_of_cell? w1 _ c0)).trans c0
          have hps := HPS.out ss[k] (List.getElem_mem hlt)
          have hkz : k < zs.length := by omega
          have hz : zs.getD k 0 = numF kind ss[k].data.toList := by
            have := HNS.out
            simp only [← this, List.getD, List.getElem?_map, List.getElem?_eq_getElem hlt]
            rfl
          have HM := Lib.hid (take_snoc_u16 zs k hkz)
          have hpm : ss[k].size ≤ maxLen := by unfold maxLen; omega
          have hbd := numF_bd kind ss[k].data.toList
          clear hc c0 hps
          generalize ss[k] = p at *
          by_cases hq : numF kind p.data.toList = 0
          · have hfin := Lib.hid (show r = ([], 31) by rw [HR.out, if_pos (a_zero zs k hkz (by rw [hz, hq]))])
            have HQ := Lib.hid hq
            clear hq hz hbd
            go_wp2_with (go_at_call 36; refine (so_number kind p _ HKK.out hpm).mono ?_; rw [HQ.out]; rintro e w2 ⟨rfl, n, rfl⟩)
            go_ret2
            exact ⟨_, by rw [hfin.out]; rfl, by rw [hfin.out]; exact FN.nil _ _ _ _, B1.out.trans (below_drewN (HO.out.below.mono hs1) n)⟩
          · obtain ⟨x, hx⟩ : ∃ x, numF kind p.data.toList = x := ⟨_, rfl⟩
            have HX := Lib.hid hx
            rw [hx] at hq hz hbd
            obtain ⟨b0, b1⟩ := hbd
            have hne : (x == 0) = false := by rw [beq_eq_false_iff_ne]; exact hq
            have HZ := Lib.hid hz
            clear hx hq hz
            go_wp2_with (first
              | (go_at_call 36; refine (so_number kind p _ HKK.out hpm).mono ?_; rw [HX.out]; rintro e w2 ⟨rfl, n, hw2⟩; have HO2 := Lib.hid (show Own w1 w2 _ _ _ _ _ by rw [hw2]; exact HO.out.drewN n); clear hw2)
              | (at_builtin; refine wpList_push1 rfl _ _ 22 rfl w1.heap.size 34 i0 (.int .u16 0) 2 Tryd.underlying22 hi hz0 hz1 hz2 rfl _ k _ rfl HO2.out.own _ rfl rfl (by unfold maxLen; omega) (by omega) HO2.out.size ?_; intro gg cap2 w5 hown hg5; have HO' := Lib.hid (HO2.out.push hown hg5); clear hown hg5))
            go_roundw
            case rel =>
              refine ⟨k + 1, by omega, by go_num, (fun j hj => ?_), Lib.hid (by rw [HM.out, HZ.out]; exact HO'.out)⟩
              by_cases e : j = k
              · subst e; rw [HZ.out]; intro e; rw [e] at hne; simp at hne
              · exact HN.out j (by omega)
            case measure => simp [intOf]; omega
        · have hke : k = ss.length := by omega
          subst hke
          have hno := no_zero zs (fun j hj => HN.out j (by omega))
          rw [← hnl, List.take_length] at HO
          have HO' := Lib.hid (FN.of_own (e := 34) HO.out.own)
          rw [← hnl] at hlt hln ⊢
          have hv := HO'.out
          obtain ⟨p9, c9, rfl, -⟩ := hv
          have HNL := Lib.hid hnl
          clear hnl
          by_cases h64 : 64 < zs.length
          · have hfin := Lib.hid (show r = ([], 32) by rw [HR.out, if_neg (by rw [hno]; decide), if_pos h64])
            go_wp2
            go_ret2
            exact ⟨_, by rw [hfin.out]; rfl, by rw [hfin.out]; exact FN.nil _ _ _ _, B1.out.trans (HO.out.below.mono hs1)⟩
          · have hfin := Lib.hid (show r = (canon zs, 0) by rw [HR.out, if_neg (by rw [hno]; decide), if_neg h64])
            have h64' : ¬ (64 : Int) < (zs.length : Int) := by omega
            go_wp2_with (go_at_call 25; refine (so_Of _ zs _ HO'.out.fs (by omega)).mono ?_; rintro e w2 ⟨v2, rfl, h2, b2⟩; have H2 := Lib.hid h2; have B2 := Lib.hid b2; clear h2 b2)
            go_ret2
            exact ⟨_, by rw [hfin.out]; rfl, by rw [hfin.out]; exact H2.out.mono (Nat.le_trans hs1 hsz), (B1.out.trans (HO.out.below.mono hs1)).trans (B2.out.mono (Nat.le_trans hs1 hsz))⟩
  · have HK := Lib.hid h
    have hR := Lib.hid (show readF kind s.data.toList = ([], 30) by rw [readF, if_pos h])
    clear h hk
    go_enter Tryd.func11, Tryd.ntmps11
    go_wp2_with (go_at_call 34; refine (so_known _ _).mono ?_; rw [HK.out]; rintro e w1 ⟨rfl, rfl⟩)
    go_ret2
    exact ⟨_, by rw [hR.out]; rfl, by rw [hR.out]; exact FN.nil _ _ _ _, Below.refl _ _⟩

end Go.Proofs.YtgcnfebifopdnaaDoor
