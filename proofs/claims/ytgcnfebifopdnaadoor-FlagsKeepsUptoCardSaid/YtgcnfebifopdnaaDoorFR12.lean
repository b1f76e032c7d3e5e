/-
  The reference's Read.
-/
import Derived.Test.YtgcnfebifopdnaaDoorRows
import Derived.Test.YtgcnfebifopdnaaDoorFR11
namespace Go.Proofs.YtgcnfebifopdnaaDoor
open Go.RowKit

/-- A row of one's own is a slice of that many. -/
theorem IS.of_own' {B e size n : Nat} {w : World} {v : Value} {xs : List Value} (h : w.ownsRow B e size v n xs) (_ : True) : ∃ p c, v = .slice p n c := by
  rcases h.2 with ⟨rfl, h0⟩ | ⟨g, cap, cur, rfl, _⟩
  · exact ⟨none, 0, by rw [h0]⟩
  · exact ⟨_, cap, rfl⟩
theorem take_le_snoc (zs : List Int) (k : Nat) (h : k < zs.length) : (zs.take (k + 1)).map (Value.int .i64) = (zs.take k).map (Value.int .i64) ++ [Value.int .i64 (zs.getD k 0)] := by
  rw [List.take_add_one, List.getElem?_eq_getElem h, List.map_append]
  simp [List.getD, h]

set_option maxHeartbeats 4000000 in
set_option maxRecDepth 100000 in
theorem so_rRead (kind : Int) (s : ByteArray) (w : World) (hs : s.size ≤ 4194304) :
    Calls Tryd.prog 12 #[.int .i64 kind, .string s] w fun e w' => ∃ v', e = .returned (.tuple #[v', .int .i64 (readF kind s.data.toList).2]) ∧ IS w' v' (readF kind s.data.toList).1 ∧ Below w.heap.size w w' := by
  obtain ⟨i0, hi, hz0, hz1, hz2⟩ := info_parts int_info
  have inil : ∀ w : World, IS w (.slice none 0 0) [] := fun w => ⟨none, 0, rfl, Nat.le_refl _, .inl rfl⟩
  rcases kind_cases kind with ⟨h, hk⟩ | ⟨h, hk⟩
  · have HK := Lib.hid h
    have HKK := Lib.hid hk
    have k1 : ¬ kind < 1 := by omega
    have k2 : ¬ 3 < kind := by omega
    clear h hk
    by_cases h0 : s.size = 0
    · have hR := Lib.hid (show readF kind s.data.toList = ([], 31) by rw [readF, if_neg (by rw [HK.out]; decide), if_pos (isEmpty0 s h0)])
      have he : ((s.size : Int) == 0) = true := by rw [h0]; rfl
      clear h0
      go_enter Tryd.func12, Tryd.ntmps12
      go_wp2_with fail
      go_ret2
      exact ⟨_, by rw [hR.out]; rfl, by rw [hR.out]; exact inil _, Below.refl _ _⟩
    · have he : ((s.size : Int) == 0) = false := by rw [beq_eq_false_iff_ne]; omega
      have HE := Lib.hid (show ¬ s.data.toList = [] by intro e; have := len_toList s; rw [e] at this; simp at this; omega)
      have HR := Lib.hid (show readF kind s.data.toList = if (numsF kind s.data.toList).contains 0 = true then ([], 31) else if 64 < (numsF kind s.data.toList).length then ([], 32) else (canon (numsF kind s.data.toList), 0) by rw [readF, if_neg (by rw [HK.out]; decide), if_neg HE.out])
      have hNS := numsOf kind s
      have hPS := fun p hp => piece_size kind s p hp
      have hln := piecesOf_len kind s.data.toList
      rw [len_toList] at hln
      have hnl : (numsF kind s.data.toList).length = (piecesS kind s).length := by rw [← hNS]; simp
      have hD := Lib.hid (fun (x : Int) hx => (⟨(numsF_bd kind s.data.toList x hx).1, by have := (numsF_bd kind s.data.toList x hx).2; omega⟩ : 0 ≤ x ∧ x ≤ 4611686018427387904))
      rw [← piecesS_len] at hln
      generalize hzs : numsF kind s.data.toList = zs at *
      have HZS := Lib.hid hzs
      clear hzs
      obtain ⟨ss, hss⟩ : ∃ ss, piecesS kind s = ss := ⟨_, rfl⟩
      have HSS := Lib.hid hss
      rw [hss] at hNS hPS hln hnl
      have HNS := Lib.hid hNS
      have HPS := Lib.hid hPS
      clear hNS hPS hss h0
      generalize hr : readF kind s.data.toList = r at *
      have HRr := Lib.hid hr
      clear hr
      go_enter Tryd.func12, Tryd.ntmps12
      go_wp2_with (go_at_call 37; refine (so_parts kind s _ HKK.out hs).mono ?_; rw [HSS.out]; rintro e w1 ⟨v1, rfl, ⟨hl1, A, cap, rfl, hcap, hcells⟩, b1⟩; have HC := Lib.hid hcells; have B1 := Lib.hid b1; clear hl1 hcells b1)
      have hs1 := B1.out.size
      go_loopw [6, 8, 9] (fun o i _ wr => ∃ k q : Nat, k ≤ ss.length ∧ q = min k 65 ∧ i = .int .i64 k ∧ Hid (∀ j, j < k → zs.getD j 0 ≠ 0) ∧ Hid (Own w1 wr 3 1 o q ((zs.take q).map (Value.int .i64)))) (fun _ i _ _ => ss.length - (intOf i).toNat)
      case atStart => exact ⟨0, 0, Nat.zero_le _, rfl, rfl, (fun j hj => absurd hj (Nat.not_lt_zero _)), Own.nil_ _ _ _⟩
      case round =>
        obtain ⟨k, q, hkk, hq0, rfl, HN, HO⟩ := hrel
        have hsz := HO.out.size
        by_cases hlt : k < ss.length
        · obtain ⟨g, o, rfl, hc⟩ := HC.out.resolve_left (by omega)
          have c0 := hc k (.string ss[k]) (strV_get ss k hlt)
          have hcell := (HO.out.below.cell (World.block_lt_of_cell? w1 _ c0)).trans c0
          have hps := HPS.out ss[k] (List.getElem_mem hlt)
          have hkz : k < zs.length := by omega
          have hz : zs.getD k 0 = numF kind ss[k].data.toList := by
            have := HNS.out
            simp only [← this, List.getD, List.getElem?_map, List.getElem?_eq_getElem hlt]
            rfl
          have hpm : ss[k].size ≤ maxLen := by unfold maxLen; omega
          clear hc c0 hps
          generalize ss[k] = p at *
          by_cases hq : numF kind p.data.toList = 0
          · have hfin := Lib.hid (show r = ([], 31) by rw [HR.out, if_pos (a_zero zs k hkz (by rw [hz, hq]))])
            have HQ := Lib.hid hq
            clear hq hz
            go_wp2_with (go_at_call 38; refine (so_Value kind p _ HKK.out hpm).mono ?_; rw [HQ.out]; rintro e w2 ⟨rfl, n, rfl⟩)
            go_ret2
            exact ⟨_, by rw [hfin.out]; rfl, by rw [hfin.out]; exact inil _, B1.out.trans (below_drewN (HO.out.below.mono hs1) n)⟩
          · obtain ⟨x, hx⟩ : ∃ x, numF kind p.data.toList = x := ⟨_, rfl⟩
            have HX := Lib.hid hx
            rw [hx] at hq hz
            have hne : (x == 0) = false := by rw [beq_eq_false_iff_ne]; exact hq
            have HZ := Lib.hid hz
            have hv := IS.of_own' HO.out.own trivial
            obtain ⟨p9, c9, rfl⟩ := hv
            clear hx hq hz
            by_cases h65 : k < 65
            · have hqk : q = k := by omega
              subst hqk
              clear hq0
              have hle : (q : Int) ≤ 64 := by omega
              have HM := Lib.hid (take_le_snoc zs q hkz)
              go_wp2_with (first
                | (go_at_call 38; refine (so_Value kind p _ HKK.out hpm).mono ?_; rw [HX.out]; rintro e w2 ⟨rfl, n, hw2⟩; have HO2 := Lib.hid (show Own w1 w2 _ _ _ _ _ by rw [hw2]; exact HO.out.drewN n); clear hw2)
                | (at_builtin; refine wpList_push1 rfl _ _ 27 rfl w1.heap.size 3 i0 (.int .i64 0) 8 Tryd.underlying27 hi hz0 hz1 hz2 rfl _ q _ rfl HO2.out.own _ rfl rfl (by unfold maxLen; omega) (by omega) HO2.out.size ?_; intro gg cap2 w5 hown hg5; have HO' := Lib.hid (HO2.out.push hown hg5); clear hown hg5))
              go_roundw
              case rel =>
                refine ⟨q + 1, q + 1, by omega, by omega, by go_num, (fun j hj => ?_), Lib.hid (by rw [HM.out, HZ.out]; exact HO'.out)⟩
                by_cases e : j = q
                · subst e; rw [HZ.out]; intro e; rw [e] at hne; simp at hne
                · exact HN.out j (by omega)
              case measure => simp only [intOf]; omega
            · have hqk : q = 65 := by omega
              subst hqk
              clear hq0
              go_wp2_with (go_at_call 38; refine (so_Value kind p _ HKK.out hpm).mono ?_; rw [HX.out]; rintro e w2 ⟨rfl, n, hw2⟩; have HO2 := Lib.hid (show Own w1 w2 _ _ _ _ _ by rw [hw2]; exact HO.out.drewN n); clear hw2)
              go_roundw
              case rel =>
                refine ⟨k + 1, 65, by omega, by omega, by go_num, (fun j hj => ?_), Lib.hid HO2.out⟩
                by_cases e : j = k
                · subst e; rw [HZ.out]; intro e; rw [e] at hne; simp at hne
                · exact HN.out j (by omega)
              case measure => simp only [intOf]; omega
        · have hke : k = ss.length := by omega
          subst hke
          have hno := no_zero zs (fun j hj => HN.out j (by omega))
          by_cases h64 : 64 < zs.length
          · have hfin := Lib.hid (show r = ([], 32) by rw [HR.out, if_neg (by rw [hno]; decide), if_pos h64])
            have h64' : (64 : Int) < (ss.length : Int) := by omega
            go_wp2
            go_ret2
            exact ⟨_, by rw [hfin.out]; rfl, by rw [hfin.out]; exact inil _, B1.out.trans (HO.out.below.mono hs1)⟩
          · have hfin := Lib.hid (show r = (canon zs, 0) by rw [HR.out, if_neg (by rw [hno]; decide), if_neg h64])
            have h64' : ¬ (64 : Int) < (ss.length : Int) := by omega
            have hqz : q = zs.length := by omega
            rw [hqz, List.take_length] at HO
            have HI := Lib.hid (IS.of_own (e := 3) HO.out.own)
            have hv := HI.out
            obtain ⟨p9, c9, rfl, -⟩ := hv
            have hz2 : zs.length * 8 ≤ 140737488355328 := by omega
            clear hqz hq0 hnl h64
            go_wp2_with (go_at_call 17; refine (so_rOf _ zs _ HI.out hD.out hz2).mono ?_; rintro e w2 ⟨v2, rfl, h2, b2⟩; have H2 := Lib.hid h2; have B2 := Lib.hid b2; clear h2 b2)
            go_ret2
            exact ⟨_, by rw [hfin.out]; rfl, by rw [hfin.out]; exact H2.out, (B1.out.trans (HO.out.below.mono hs1)).trans (B2.out.mono (Nat.le_trans hs1 hsz))⟩
  · have hR := Lib.hid (show readF kind s.data.toList = ([], 30) by rw [readF, if_pos h])
    rcases hk with hk | hk
    · go_enter Tryd.func12, Tryd.ntmps12
      go_wp2_with fail
      go_ret2
      exact ⟨_, by rw [hR.out]; rfl, by rw [hR.out]; exact inil _, Below.refl _ _⟩
    · have k1 : ¬ kind < 1 := by omega
      go_enter Tryd.func12, Tryd.ntmps12
      go_wp2_with fail
      go_ret2
      exact ⟨_, by rw [hR.out]; rfl, by rw [hR.out]; exact inil _, Below.refl _ _⟩
end Go.Proofs.YtgcnfebifopdnaaDoor
