/-
  joined.pieces: the ends of the pieces that begin at a place.
-/
import Derived.Test.YthfndmpigpphoaaGreatRows
import Derived.Test.YthfndmpigpphoaaGreatJb3
import Derived.Test.YthfndmpigpphoaaGreatJb4
namespace Go.Proofs.YthfndmpigpphoaaGreat
open Go.RowKit

def intsV (l : List Nat) : List Value := l.map fun (n : Nat) => Value.int .i64 (n : Int)
theorem intsV_len (l : List Nat) : (intsV l).length = l.length := by simp [intsV]
theorem intsV_snoc (l : List Nat) (n : Nat) : intsV l ++ [Value.int .i64 (n : Int)] = intsV (l ++ [n]) := by simp [intsV]
theorem pcs_none {A : List St} {least : Int} {L : List UInt8} {i k : Nat} {x : Nat} {D : List Nat} (he : endsOf A least L i = D ++ pcs A least i x k (L.drop k)) (hk : k < L.length) (hs : stepE (A.getD x (false, [])).2 L[k] = none) : endsOf A least L i = D := by
  rw [List.drop_eq_getElem_cons hk, pcs, Int.toNat_natCast, hs] at he
  simpa using he
theorem pcs_some {A : List St} {least : Int} {L : List UInt8} {i k : Nat} {x y : Nat} {D : List Nat} (he : endsOf A least L i = D ++ pcs A least i x k (L.drop k)) (hk : k < L.length) (hs : stepE (A.getD x (false, [])).2 L[k] = some (y : Int)) (hy : y < A.length) :
    endsOf A least L i = (D ++ if A[y].1 = true ∧ least ≤ ((k + 1 : Nat) : Int) - i then [k + 1] else []) ++ pcs A least i y (k + 1) (L.drop (k + 1)) := by
  rw [List.drop_eq_getElem_cons hk, pcs, Int.toNat_natCast, hs] at he
  dsimp only at he
  rw [he, List.append_assoc]
  congr 2
  have e : finB A (y : Int) = A[y].1 := by unfold finB; simp [List.getD, hy]
  rw [e]
  simp only [Bool.and_eq_true, decide_eq_true_eq]

set_option maxHeartbeats 8000000 in
set_option maxRecDepth 100000 in
theorem so_pieces (least : Int) (v : Value) (A : List St) (s : ByteArray) (i : Nat) (w : World) (h : AutAt w AllB v A) (hlow : Low A A.length 0) (hsl : Slim A) (hi : i ≤ s.size) (hn : s.size ≤ 1024) :
    Calls Tryz.prog 88 #[v, .string s, .int .i64 i, .int .i64 least] w fun e w' => ∃ P c, e = .returned (.slice P (endsOf A least s.data.toList i).length c) ∧
      Own w w' 3 1 (.slice P (endsOf A least s.data.toList i).length c) (endsOf A least s.data.toList i).length (intsV (endsOf A least s.data.toList i)) := by
  obtain ⟨j0, hj, hy0, hy1, hy2⟩ := info_parts int_info
  have hpos : 0 < A.length := by have := hlow.lt; simpa using this
  obtain ⟨V, cap, rfl, hcap, hA⟩ := h
  obtain ⟨g, o, rfl, hg, -, hc⟩ := hA.resolve_left (by omega)
  have HC := Lib.hid hc
  have HSl := Lib.hid hsl
  have HLow := Lib.hid hlow
  have hlen := len_toList s
  clear hA hc hsl hlow
  go_enter Tryz.func88, Tryz.ntmps88
  go_wp2_with fail
  go_loopw [9, 10, 11] (fun ov at' kk W => ∃ (k x h : Nat) (D : List Nat), i ≤ k ∧ k ≤ s.size ∧ kk = .int .i64 k ∧ at' = .int .i64 x ∧ Hid (Low A h (x : Int)) ∧ Hid (endsOf A least s.data.toList i = D ++ pcs A least i x k (s.data.toList.drop k)) ∧ D.length ≤ k - i ∧ Hid (Own w W 3 1 ov D.length (intsV D))) (fun _ _ kk _ => s.size - (intOf kk).toNat)
  case atStart => exact ⟨i, 0, A.length, [], Nat.le_refl _, hi, rfl, rfl, HLow, Lib.hid rfl, Nat.zero_le _, Lib.hid (Own.nil_ w _ _)⟩
  case round =>
    obtain ⟨k, x, h, D, hik, hks, rfl, rfl, HLw, HE, hD, HO⟩ := hrel
    obtain ⟨P, c, hv⟩ := own_sl HO.out.own
    subst hv
    by_cases hlt : k < s.size
    · have hx : x < A.length := by have := HLw.out.lt; simpa using this
      obtain ⟨c0, ev, c1, hev⟩ := HC.out x hx
      have hel : A[x].2.length ≤ 256 := HSl.out _ (List.getElem_mem hx)
      have hkl : k < s.data.toList.length := by omega
      obtain ⟨b, hb⟩ : ∃ b, s[k]'hlt = b := ⟨_, rfl⟩
      have hbk : s.data.toList[k]'hkl = b := hb
      have HNone := Lib.hid (fun (hs : stepE A[x].2 b = none) => pcs_none HE.out hkl (by
        have e : A.getD x (false, []) = A[x] := by simp [List.getD, hx]
        rw [e, hbk]; exact hs))
      have HSome := Lib.hid (fun (y : Nat) (hy : y < A.length) (hs : stepE A[x].2 b = some (y : Int)) => pcs_some HE.out hkl (y := y) (by
        have e : A.getD x (false, []) = A[x] := by simp [List.getD, hx]
        rw [e, hbk]; exact hs) hy)
      have HNext : Hid (∀ t, stepE A[x].2 b = some t → ∃ h2, Low A h2 t) := Lib.hid fun t ht => by
        have hl := HLw.out
        cases h with
        | zero => cases hl
        | succ h =>
          refine ⟨h, hl.step (b := b) ?_⟩
          have e : A.getD x (false, []) = A[x] := by simp [List.getD, hx]
          rw [Int.toNat_natCast, e]; exact ht
      have HRise : Hid (A[x].2.Pairwise (fun a b => a.1.toNat < b.1.toNat)) := Lib.hid (by
        have hl := HLw.out
        cases h with
        | zero => cases hl
        | succ h =>
          obtain ⟨_, y, hy, h2, _⟩ := hl
          rw [Int.toNat_natCast, List.getElem?_eq_getElem hx] at hy
          injection hy with hy
          rw [hy]; exact h2)
      obtain ⟨E, ec, rfl, -⟩ := id hev
      obtain ⟨es, hes⟩ : ∃ es, (A[x]'hx).2 = es := ⟨_, rfl⟩
      rw [hes] at c1 hev hel HNone HSome HNext HRise
      have HEv := Lib.hid (hev.keep HO.out.below)
      have HX : Hid (∀ W', Below wr.heap.size wr W' → W'.cell? ⟨g, o + x * 2 + 1, none⟩ = some (.slice E es.length ec)) := Lib.hid fun W' hb => ((HO.out.below.trans (hb.mono HO.out.size)).cell (p := ⟨g, o + x * 2 + 1, none⟩) hg).trans c1
      have cx := HX.out wr (Below.refl _ _)
      have HLt := Lib.hid hlt
      clear c0 c1 hev hes hkl hbk
      go_wp2_with fail
      refine wp_region_held_drew (S := fun W' => W'.cell? ⟨g, o + x * 2 + 1, none⟩ = some (.slice E es.length ec)) (by kernel_rfl) ?_ (fun hHeld => ?_)
      · exact HX.out _ (Below.refl _ _).drew
      refine takeH (i := 0) (d := some 22) (v := ?_) rfl rfl (by kernel_rfl) (by kernel_rfl) (by kernel_rfl) (fun _ _ _ h => h) (Or.inl ⟨by kernel_rfl, ?_⟩) hHeld ?_
      rotate_left
      · intro w hSw; (try dsimp only at hSw); go_simp; try with_reducible rfl
      try simp only [put_norm]
      refine takeH (i := 1) (d := some 23) (v := ?_) rfl rfl (by kernel_rfl) (by kernel_rfl) (by kernel_rfl) (fun _ _ _ h => h) (Or.inl ⟨by kernel_rfl, ?_⟩) hHeld ?_
      rotate_left
      · intro w hSw; (try dsimp only at hSw); go_simp; try with_reducible rfl
      try simp only [put_norm]
      refine takeH (i := 2) (d := some 24) (v := ?_) rfl rfl (by kernel_rfl) (by kernel_rfl) (by kernel_rfl) (fun _ _ _ h => h) (Or.inl ⟨by kernel_rfl, ?_⟩) hHeld ?_
      rotate_left
      · intro w hSw; (try dsimp only at hSw); go_simp; try with_reducible rfl
      try simp only [put_norm]
      refine takeH (i := 3) (d := some 25) (v := ?_) rfl rfl (by kernel_rfl) (by kernel_rfl) (by kernel_rfl) (fun _ _ _ h => h) (Or.inl ⟨by kernel_rfl, ?_⟩) hHeld ?_
      rotate_left
      · intro w hSw; (try dsimp only at hSw); go_simp; try with_reducible rfl
      try simp only [put_norm]
      refine takeH (i := 4) (d := some 26) (v := ?_) rfl rfl (by kernel_rfl) (by kernel_rfl) (by kernel_rfl) (fun _ _ _ h => h) (Or.inl ⟨by kernel_rfl, ?_⟩) hHeld ?_
      rotate_left
      · intro w hSw; (try dsimp only at hSw); go_simp; try with_reducible rfl
      try simp only [put_norm]
      refine takeH (i := 5) (d := some 27) (v := ?_) rfl rfl (by kernel_rfl) (by kernel_rfl) (by kernel_rfl) (fun _ _ _ h => h) (Or.inl ⟨by kernel_rfl, ?_⟩) hHeld ?_
      rotate_left
      · intro w hSw; (try dsimp only at hSw); go_simp; try with_reducible rfl
      try simp only [put_norm]
      refine takeH (i := 6) (d := some 28) (v := ?_) rfl rfl (by kernel_rfl) (by kernel_rfl) (by kernel_rfl) (fun _ _ _ h => h) (Or.inl ⟨by kernel_rfl, ?_⟩) hHeld ?_
      rotate_left
      · intro w hSw; (try dsimp only at hSw); go_simp; try with_reducible rfl
      try simp only [put_norm]
      refine wpAnyH_ready (rs := [7]) (by kernel_rfl) (by simp) ?_
      refine AllReadyH.cons rfl (fun K hK => ?_) AllReadyH.nil
      go_simp
      refine hK.out _ _ ?_ (fun hHeld => ?_)
      · exact HX.out _ (Below.refl _ _).drew
      clear hK K
      refine wpAnyH_ready (rs := [8]) (by kernel_rfl) (by simp) ?_
      refine AllReadyH.cons rfl (fun K hK => ?_) AllReadyH.nil
      go_simp
      refine (so_Search _ es b wr.drew (show EdsAt wr.drew (fun _ => True) _ es from HEv.out) HRise.out hel).mono ?_
      rintro e w7 ⟨kk, ok, rfl, b7, hcase⟩
      have HB7 : Hid (Below wr.heap.size wr w7) := Lib.hid ((Below.refl _ _).drew.trans b7)
      have HCs := Lib.hid hcase
      clear b7 hcase
      refine hK.out _ _ ?_ (fun hHeld => ?_)
      · exact HX.out w7 HB7.out
      clear hK K
      refine takeH (i := 9) (d := some 21) (v := ?_) rfl rfl (by kernel_rfl) (by kernel_rfl) (by kernel_rfl) (fun _ _ _ h => h) (Or.inl ⟨by kernel_rfl, ?_⟩) hHeld ?_
      rotate_left
      · intro w hSw; (try dsimp only at hSw); go_simp; try with_reducible rfl
      try simp only [put_norm]
      refine takeH (i := 10) (d := some 31) (v := ?_) rfl rfl (by kernel_rfl) (by kernel_rfl) (by kernel_rfl) (fun _ _ _ h => h) (Or.inl ⟨by kernel_rfl, ?_⟩) hHeld ?_
      rotate_left
      · intro w hSw; (try dsimp only at hSw); go_simp; try with_reducible rfl
      try simp only [put_norm]
      refine takeH (i := 11) (d := some 32) (v := ?_) rfl rfl (by kernel_rfl) (by kernel_rfl) (by kernel_rfl) (fun _ _ _ h => h) (Or.inl ⟨by kernel_rfl, ?_⟩) hHeld ?_
      rotate_left
      · intro w hSw; (try dsimp only at hSw); go_simp; try with_reducible rfl
      try simp only [put_norm]
      refine takeH (i := 12) (d := some 12) (v := ?_) rfl rfl (by kernel_rfl) (by kernel_rfl) (by kernel_rfl) (fun _ _ _ h => h) (Or.inl ⟨by kernel_rfl, ?_⟩) hHeld ?_
      rotate_left
      · intro w hSw; (try dsimp only at hSw); go_simp; try with_reducible rfl
      try simp only [put_norm]
      refine takeH (i := 13) (d := some 13) (v := ?_) rfl rfl (by kernel_rfl) (by kernel_rfl) (by kernel_rfl) (fun _ _ _ h => h) (Or.inl ⟨by kernel_rfl, ?_⟩) hHeld ?_
      rotate_left
      · intro w hSw; (try dsimp only at hSw); go_simp; try with_reducible rfl
      try simp only [put_norm]
      refine wpAnyH_done (by kernel_rfl) ?_ _
      rcases HCs.out with ⟨hok, hkk, hst⟩ | ⟨hok, hst⟩
      · subst hok
        obtain ⟨h2, hl2⟩ := HNext.out _ hst
        obtain ⟨y, hy⟩ : ∃ y : Nat, es[kk].2 = (y : Int) := ⟨es[kk].2.toNat, (Int.toNat_of_nonneg hl2.nn).symm⟩
        rw [hy] at hst hl2
        have hyl : y < A.length := by have := hl2.lt; simpa using this
        have HO7 := Lib.hid (HO.out.call HB7.out)
        obtain ⟨d0, ev2, -, -⟩ := HC.out y hyl
        have d0 := (HO7.out.below.cell (p := ⟨g, _, none⟩) hg).trans d0
        obtain ⟨E2, ec2, hve, hcap2, he⟩ := HEv.out.keep HB7.out
        cases hve
        obtain ⟨ge, oe, rfl, hge, -, hce⟩ := he.resolve_left (by omega)
        have d2 := (hce kk hkk).2
        rw [hy] at d2
        have cx7 := HX.out w7 HB7.out
        have HE2 := Lib.hid (HSome.out y hyl hst)
        have HL2 := Lib.hid hl2
        have hcap3 := hcap2.1
        clear he hce hcap2 hst hl2 hy
        cases hf : A[y].1
        · have HE3 : Hid (endsOf A least s.data.toList i = D ++ pcs A least i y (k + 1) (s.data.toList.drop (k + 1))) := Lib.hid (by
            have := HE2.out
            rw [if_neg (by rw [hf]; simp), List.append_nil] at this
            exact this)
          rw [hf] at d0
          clear hf
          go_wp2_with fail
          refine ⟨⟨k + 1, y, h2, D, by omega, HLt.out, by go_num, rfl, HL2, HE3, by omega, HO7⟩, ?_⟩
          have := HLt.out
          simp [intOf]
          omega
        · rw [hf] at d0
          by_cases hle : least ≤ (k : Int) + 1 - (i : Int)
          · have HE3 : Hid (endsOf A least s.data.toList i = (D ++ [k + 1]) ++ pcs A least i y (k + 1) (s.data.toList.drop (k + 1))) := Lib.hid (by
              have := HE2.out
              rw [if_pos ⟨hf, by push_cast; exact hle⟩] at this
              exact this)
            clear hf
            go_wp2_with (at_builtin; refine wpList_push1 rfl _ _ 72 rfl w.heap.size 3 j0 (.int .i64 0) 8 Tryz.underlying72 hj hy0 hy1 hy2 rfl _ _ _ rfl HO7.out.own _ rfl rfl (by unfold maxLen; omega) (by omega) HO7.out.size ?_; intro gg cap5 w8 hown hg5; have HO8 := Lib.hid (HO7.out.push hown hg5); clear hown hg5)
            refine ⟨⟨k + 1, y, h2, D ++ [k + 1], by omega, HLt.out, by go_num, rfl, HL2, HE3, by rw [List.length_append]; simp; omega, Lib.hid ?_⟩, ?_⟩
            · have h5 := HO8.out
              have e : intsV D ++ [Value.int .i64 ((k : Int) + 1)] = intsV (D ++ [k + 1]) := intsV_snoc D (k + 1)
              rw [e] at h5
              simpa using h5
            · have := HLt.out
              simp [intOf]
              omega
          · have HE3 : Hid (endsOf A least s.data.toList i = D ++ pcs A least i y (k + 1) (s.data.toList.drop (k + 1))) := Lib.hid (by
              have := HE2.out
              rw [if_neg (fun h => hle (by have := h.2; push_cast at this; exact this)), List.append_nil] at this
              exact this)
            clear hf
            go_wp2_with fail
            refine ⟨⟨k + 1, y, h2, D, by omega, HLt.out, by go_num, rfl, HL2, HE3, by omega, HO7⟩, ?_⟩
            have := HLt.out
            simp [intOf]
            omega
      · subst hok
        have HF := Lib.hid (HNone.out hst)
        have HO7 := Lib.hid (HO.out.call HB7.out)
        clear hst
        go_wp2_with fail
        go_ret
        exact ⟨P, c, by rw [HF.out]; rfl, by rw [HF.out]; exact HO7.out⟩
    · obtain rfl : k = s.size := by omega
      have HF : Hid (endsOf A least s.data.toList i = D) := Lib.hid (by
        rw [HE.out, List.drop_of_length_le (by omega), pcs, List.append_nil])
      go_wp2_with fail
      go_ret
      exact ⟨P, c, by rw [HF.out]; rfl, by rw [HF.out]; exact HO.out⟩
end Go.Proofs.YthfndmpigpphoaaGreat
