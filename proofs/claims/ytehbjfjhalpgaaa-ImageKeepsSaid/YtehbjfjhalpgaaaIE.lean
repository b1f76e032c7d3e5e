/-
  Decode.
-/
import Derived.Test.YtehbjfjhalpgaaaRows
import Derived.Test.YtehbjfjhalpgaaaID
import Derived.Test.YtehbjfjhalpgaaaShelf
import Derived.Test.YtehbjfjhalpgaaaIC
namespace Go.Proofs.Ytehbjfjhalpgaaa
section
open Go.RowKit
attribute [local go_sem ↓] Go.wp_at_zero Go.wp_at_succ

theorem ownNot {W : World} {b a B e size n : Nat} {s : ByteArray} {v : Value} {xs : List Value} (ho : W.ownsRow B e size v n xs) (hr : RdrAt W b s a) (hne : e ≠ 86) : ∀ g, v.ownBlock = some g → g ∉ [b] := fun g hg hm => by
  simp only [List.mem_cons, List.not_mem_nil, or_false] at hm
  subst hm
  exact hne ((own_ty ho hg).1.uniq ⟨_, hr⟩)
theorem edgesR_le {s : ByteArray} {n : Nat} : ∀ (k a p : Nat) (es : List Ed), a ≤ s.size → edgesR s n k a = .ok (es, p) → p ≤ s.size
  | 0, a, p, es, ha, h => by
    rw [edgesR] at h
    injection h with h
    injection h with _ h2
    omega
  | k + 1, a, p, es, ha, h => by
    rw [edgesR] at h
    split at h
    · cases h
    · rename_i e q he
      split at h
      · cases h
      · rename_i es' p' hes
        injection h with h
        injection h with _ h2
        subst h2
        refine edgesR_le k q p' es' ?_ hes
        unfold edgR at he
        split at he
        · cases he
        · split at he
          · cases he
          · rename_i t q' ht
            split at he
            · cases he
            · injection he with he
              injection he with _ h3
              have := (numR_le ht).2
              omega
theorem staR_le {s : ByteArray} {n a p : Nat} {x : St} (h : staR s n a = .ok (x, p)) : p ≤ s.size := by
  unfold staR at h
  split at h
  · cases h
  · rename_i v q hv
    split at h
    · cases h
    · split at h
      · cases h
      · rename_i es p' hes
        injection h with h
        injection h with _ h2
        subst h2
        exact edgesR_le _ _ _ _ (numR_le hv).2 hes
theorem statesR_le {s : ByteArray} {n : Nat} : ∀ (k a p : Nat) (es : List St), a ≤ s.size → statesR s n k a = .ok (es, p) → p ≤ s.size
  | 0, a, p, es, ha, h => by
    rw [statesR] at h
    injection h with h
    injection h with _ h2
    omega
  | k + 1, a, p, es, ha, h => by
    rw [statesR] at h
    split at h
    · cases h
    · rename_i e q he
      split at h
      · cases h
      · rename_i es' p' hes
        injection h with h
        injection h with _ h2
        subst h2
        exact statesR_le k q p' es' (staR_le he) hes
theorem secR_le {s : ByteArray} {a p : Nat} {A : List St} (h : secR s a = .ok (A, p)) (_ha : a ≤ s.size) : p ≤ s.size := by
  unfold secR at h
  split at h
  · cases h
  · rename_i n q hn
    split at h
    · cases h
    · split at h
      · cases h
      · rename_i A' p' hA
        split at h
        · injection h with h
          injection h with _ h2
          subst h2
          exact statesR_le _ _ _ _ (numR_le hn).2 hA
        · cases h
theorem SecP.snoc {w : World} {p : Nat → Prop} {vs vs' : List Value} {As : List (List St)} {A : List St} {v : Value} (h : SecP w p vs As) (hA : AutAt w p v A) (hv : vs'.getD As.length undef = v) (hs : ∀ j, j < As.length → vs'.getD j undef = vs.getD j undef) : SecP w p vs' (As ++ [A]) := by
  intro j hj
  by_cases e : j < As.length
  · rw [hs j e, List.getElem_append_left e]
    exact h j e
  · have : j = As.length := by simp at hj; omega
    subst this
    rw [hv, List.getElem_append_right (Nat.le_refl _)]
    simpa using hA
/-- The book stored once more as it is, and no fault. -/
theorem book_again {w W : World} {s : ByteArray} {p : Nat} {x0 x1 vr v0 v1 v2 v3 : Value} {rs : List Rp} {As : List (List St)} (h : DSt w s W p #[x0, x1, vr, v0, v1, v2, v3]) (ho : W.ownsRow w.heap.size 50 2 vr rs.length (repCells rs)) (hs : SecR W (w.heap.size + 1 + 1 + 1) [v0, v1, v2, v3] As) :
    let Z := (((((((W.setCell ⟨w.heap.size, 0, none⟩ x0).setCell ⟨w.heap.size, 1, none⟩ x1).setCell ⟨w.heap.size, 2, none⟩ vr).setCell ⟨w.heap.size, 3, none⟩ v0).setCell ⟨w.heap.size, 4, none⟩ v1).setCell ⟨w.heap.size, 5, none⟩ v2).setCell ⟨w.heap.size, 6, none⟩ v3).setCell ⟨w.heap.size + 1, 0, none⟩ (.int .i64 0)
    Z.heap[w.heap.size]? = some (.cells #[x0, x1, vr, v0, v1, v2, v3] 26 (0, 0)) ∧ Z.heap[w.heap.size + 1]? = some (.cells #[.int .i64 0] 28 (0, 0)) ∧ Below w.heap.size w Z ∧ Z.ownsRow w.heap.size 50 2 vr rs.length (repCells rs) ∧ SecR Z w.heap.size [v0, v1, v2, v3] As := by
  intro Z
  have h7 := ((((((h.set 0 x0).set 1 x1).set 2 vr).set 3 v0).set 4 v1).set 5 v2).set 6 v3
  simp only [List.setIfInBounds_toArray, List.set_cons_zero, List.set_cons_succ] at h7
  have hk : Kept [w.heap.size, w.heap.size + 1] W Z := ((((((((Kept.refl [w.heap.size, w.heap.size + 1] W).set _ _ _ (.inl (by simp))).set _ _ _ (.inl (by simp))).set _ _ _ (.inl (by simp))).set _ _ _ (.inl (by simp))).set _ _ _ (.inl (by simp))).set _ _ _ (.inl (by simp))).set _ _ _ (.inl (by simp))).set _ _ _ (.inl (by simp))
  refine ⟨?_, ?_, ?_, ?_, ?_⟩
  · show (World.setCell _ ⟨w.heap.size + 1, 0, none⟩ _).heap[w.heap.size]? = _
    rw [heap_setCell_other _ ⟨w.heap.size + 1, 0, none⟩ _ _ (by simp)]
    exact h7.book
  · exact heap_setCell_same _ (w.heap.size + 1) 0 #[.int .i64 0] _ _ h7.err
  · exact h.below.trans (hk.below h.below.size (by simp))
  · refine hk.own ho (fun g hg hm => ?_)
    have ht := (own_ty ho hg).1
    simp only [List.mem_cons, List.not_mem_nil, or_false] at hm
    rcases hm with rfl | rfl
    · exact absurd (ht.uniq ⟨_, h.book⟩) (by decide)
    · exact absurd (ht.uniq ⟨_, h.err⟩) (by decide)
  · exact (hs.kept hk (by simp <;> omega)).lower (by omega)
theorem hasPrefix_size (s : ByteArray) (h : Lib.hasPrefix s.data.toList magicS.data.toList = true) : 4 ≤ s.size := by
  unfold Lib.hasPrefix at h
  have := (List.isPrefixOf_iff_prefix.1 h).length_le
  rw [len_toList] at this
  exact this
set_option maxHeartbeats 8000000 in
set_option maxRecDepth 100000 in
theorem Decode_any (s : ByteArray) (w : World) (hs : s.size ≤ 562949953421311) : Calls Try.prog 15 #[.string s] w (PostD w (decR s)) := by
  have hmf : ∀ (fn : Fn) (first cap : Array Value) (w : World), (Instr.makeFunc fn first cap).run Try.prog w = .ok (.func fn first cap) w := fun _ _ _ _ => rfl
  have hpre := fun W => Try.strings_HasPrefix s magicS W
  obtain ⟨i0, hi, hz0, hz1, hz2⟩ := info_parts rep_info
  obtain ⟨R, hR⟩ : ∃ R, decR s = R := ⟨_, rfl⟩
  rw [hR]
  have HR := Lib.hid hR
  clear hR
  cases hb : Lib.hasPrefix s.data.toList magicS.data.toList
  · rw [hb] at hpre
    have HR' : Hid (R = .error 200) := Lib.hid (by rw [← HR.out, decR, hb]; rfl)
    have HP := Lib.hid hpre
    clear hpre hb HR
    go_enter_defers Try.func15, Try.ntmps15
    go_wp2_with (first | (go_at_call 35; refine (HP.out _).mono ?_; rintro e w' ⟨rfl, rfl⟩))
    refine leave_now w.heap.size (w.heap.size + 1) (.int .i64 0) (.string ⟨#[]⟩) (.slice none 0 0) (.slice none 0 0) (.slice none 0 0) (.slice none 0 0) (.slice none 0 0) (.int .i64 200) _ _ _ rfl rfl ?_ ?_ ?_
    rotate_left 2
    · rw [HR'.out]
      exact ⟨rfl, ((Below.refl _ _).alloc (Nat.le_refl _) _).alloc (by simp) _⟩
    · rw [Below.heap_alloc _ _ _ (by simp)]
      exact heap_alloc_new w _
    · have := heap_alloc_new (w.alloc (.cells #[.int .i64 0, .string ⟨#[]⟩, .slice none 0 0, .slice none 0 0, .slice none 0 0, .slice none 0 0, .slice none 0 0] 26)) (.cells #[.int .i64 200] 28)
      simpa using this
  · rw [hb] at hpre
    have HR' : Hid (R = bookR s) := Lib.hid (by rw [← HR.out, decR, hb]; rfl)
    have HP := Lib.hid hpre
    have hm4 := hasPrefix_size s hb
    clear hpre hb HR
    obtain ⟨Ws, hWs⟩ : ∃ Ws, (((w.alloc (.cells #[.int .i64 0, .string ⟨#[]⟩, .slice none 0 0, .slice none 0 0, .slice none 0 0, .slice none 0 0, .slice none 0 0] 26)).alloc (.cells #[.int .i64 0] 28)).alloc (.cells #[.string s, .int .i64 4] 86)) = Ws := ⟨_, rfl⟩
    have HD0 : Hid (DSt w s Ws 4 #[.int .i64 0, .string ⟨#[]⟩, .slice none 0 0, .slice none 0 0, .slice none 0 0, .slice none 0 0, .slice none 0 0]) := Lib.hid (by rw [← hWs]; exact DSt.start w s)
    have HWs := Lib.hid hWs
    clear hWs
    have HNum : Hid (∀ W p, RdrAt W (w.heap.size + 1 + 1) s p → p ≤ s.size → Calls Try.prog 37 #[.pointer (some ⟨w.heap.size + 1 + 1, 0, none⟩)] W (PostR (w.heap.size + 1 + 1) s W (fun n : Nat => .int .u64 (n : Int)) (numR s p))) := Lib.hid (fun W p h hp => num_any _ s p W h (by omega) hp)
    have HFrm : Hid (∀ W p, RdrAt W (w.heap.size + 1 + 1) s p → p ≤ s.size → Calls Try.prog 38 #[.pointer (some ⟨w.heap.size + 1 + 1, 0, none⟩)] W (PostR (w.heap.size + 1 + 1) s W Value.string (frmR s p))) := Lib.hid (fun W p h hp => frame_any _ s p W h (by omega) hp)
    have HSec : Hid (∀ W p, RdrAt W (w.heap.size + 1 + 1) s p → p ≤ s.size → Calls Try.prog 40 #[.pointer (some ⟨w.heap.size + 1 + 1, 0, none⟩)] W (PostS (w.heap.size + 1 + 1) s W (secR s p))) := Lib.hid (fun W p h hp => section_any _ s p W h (by omega) hp)
    have hN := HNum.out Ws 4 HD0.out.rdr hm4
    cases hn : numR s 4 with
    | error c =>
      rw [hn] at hN
      have HR2 : Hid (R = .error c) := Lib.hid (by rw [HR'.out, bookR, hn])
      have HN := Lib.hid hN
      clear hN hn
      go_enter_defers Try.func15, Try.ntmps15
      go_wp2_with (first | (go_at_call 35; refine (HP.out _).mono ?_; rintro e w' ⟨rfl, rfl⟩))
      rw [HWs.out]
      refine HN.out.mono ?_
      rintro e w' ⟨rfl, hk⟩
      exact HD0.out.fault hk c R HR2.out _ rfl rfl
    | ok r =>
      obtain ⟨l, q0⟩ := r
      rw [hn] at hN
      have HQ0 := Lib.hid (numR_le hn).2
      have HR2 : Hid (R = match frmR s q0 with | .error c => .error c | .ok (t, p) => repsR s l t p) := Lib.hid (by rw [HR'.out, bookR, hn]; rfl)
      have HN := Lib.hid hN
      have hlv := numR_lt hn
      have hlc : l ≤ 64 → IntKind.i64.wrap (l : Int) = (l : Int) := fun h => by rw [IntKind.wrap_i64]; omega
      have HLC := Lib.hid hlc
      have HLv := Lib.hid hlv
      clear hN hn HR' hlc hlv
      by_cases hl : l ≤ 64
      · have hlw := HLC.out hl
        go_enter_defers Try.func15, Try.ntmps15
        go_wp2_with (first | (go_at_call 35; refine (HP.out _).mono ?_; rintro e w' ⟨rfl, rfl⟩))
        rw [HWs.out]
        refine HN.out.mono ?_
        rintro e w1 ⟨rfl, hk, hr⟩
        have HD1 := Lib.hid (HD0.out.call hk hr)
        clear hk hr
        have b0 := HD1.out.cell 0 rfl
        have f0 := HD1.out.fz 0
        go_wp2_with fail
        clear b0 f0
        have HD2 : Hid (DSt w s (w1.setCell ⟨w.heap.size, 0, none⟩ (Value.int .i64 (l : Int))) q0 #[.int .i64 (leastV l : Nat), .string ⟨#[]⟩, .slice none 0 0, .slice none 0 0, .slice none 0 0, .slice none 0 0, .slice none 0 0]) := Lib.hid (by rw [leastV_le hl]; exact HD1.out.set 0 _)
        generalize w1.setCell ⟨w.heap.size, 0, none⟩ (Value.int .i64 (l : Int)) = W2 at HD2 ⊢
        clear HD1 hlw
        have hF := HFrm.out W2 q0 HD2.out.rdr HQ0.out
        cases hf : frmR s q0 with
        | error c =>
          rw [hf] at hF
          have HR3 : Hid (R = .error c) := Lib.hid (by rw [HR2.out, hf])
          refine hF.mono ?_
          rintro e w' ⟨rfl, hk⟩
          exact HD2.out.fault hk c R HR3.out _ rfl rfl
        | ok r =>
          obtain ⟨t, q1⟩ := r
          rw [hf] at hF
          have HQ1 := Lib.hid (frmR_le hf).2
          have HTs := Lib.hid (frmR_size hf)
          have HR3 : Hid (R = repsR s l t q1) := Lib.hid (by rw [HR2.out, hf])
          clear hf
          refine hF.mono ?_
          rintro e w3 ⟨rfl, hk, hr⟩
          have HD3 := Lib.hid (HD2.out.call hk hr)
          clear hk hr hF HR2 HD2
          have b1 := HD3.out.cell 1 rfl
          have f1 := HD3.out.fz 1
          go_wp2_with fail
          clear b1 f1
          have HD4 : Hid (DSt w s (w3.setCell ⟨w.heap.size, 1, none⟩ (Value.string t)) q1 #[.int .i64 (leastV l : Nat), .string t, .slice none 0 0, .slice none 0 0, .slice none 0 0, .slice none 0 0, .slice none 0 0]) := Lib.hid (HD3.out.set 1 _)
          generalize w3.setCell ⟨w.heap.size, 1, none⟩ (Value.string t) = W4 at HD4 ⊢
          clear HD3
          have hN4 := HNum.out W4 q1 HD4.out.rdr HQ1.out
          cases hn4 : numR s q1 with
          | error c =>
            rw [hn4] at hN4
            have HR4 : Hid (R = .error c) := Lib.hid (by rw [HR3.out, repsR, hn4])
            refine hN4.mono ?_
            rintro e w' ⟨rfl, hk⟩
            exact HD4.out.fault hk c R HR4.out _ rfl rfl
          | ok r =>
            obtain ⟨n, q2⟩ := r
            rw [hn4] at hN4
            have HQ2 := Lib.hid (numR_le hn4).2
            refine hN4.mono ?_
            rintro e w5 ⟨rfl, hk, hr⟩
            have HD5 := Lib.hid (HD4.out.call hk hr)
            clear hk hr hN4 HD4
            by_cases h256 : 256 < n
            · have HR4 : Hid (R = .error 201) := Lib.hid (by rw [HR3.out, repsR, hn4]; exact if_pos h256)
              go_wp2_with fail
              refine (must_any _ _ _ _).mono ?_
              rintro e w' ⟨⟨hc, rfl⟩ | ⟨hc, rfl⟩, rfl⟩
              · exact absurd hc (by simp <;> omega)
              · exact HD5.out.fault (Kept.refl _ _) 201 R HR4.out _ rfl rfl
            have HR4 : Hid (R = match manyR (repR s) n q2 with | .error c => .error c | .ok (rs, p) => secsR s l t rs p) := Lib.hid (by rw [HR3.out, repsR, hn4]; exact if_neg h256)
            have HN6 : Hid (n ≤ 256) := Lib.hid (by omega)
            clear hn4 HR3
            go_wp2_with fail
            refine (must_any _ _ _ _).mono ?_
            rintro e w6 ⟨⟨hc, rfl⟩ | ⟨hc, rfl⟩, rfl⟩
            rotate_left
            · exact absurd hc (by have := HN6.out; simp <;> omega)
            clear hc h256
            go_wp2_with fail
            obtain ⟨RR, hRR⟩ : ∃ RR, manyR (repR s) n q2 = RR := ⟨_, rfl⟩
            rw [hRR] at HR4
            have HRR := Lib.hid hRR
            clear hRR
            go_loopw [7, 34] (fun _ i W => ∃ (k p : Nat) (rs : List Rp) (vr : Value), k ≤ n ∧ i = .int .u64 k ∧ Hid (rs.length = k ∧ p ≤ s.size) ∧ Hid (DSt w s W p #[.int .i64 (leastV l : Nat), .string t, vr, .slice none 0 0, .slice none 0 0, .slice none 0 0, .slice none 0 0]) ∧ Hid (W.ownsRow w.heap.size 50 2 vr rs.length (repCells rs)) ∧ Hid (∀ x ∈ rs, x.1.size ≤ 255 ∧ x.2.size ≤ 255) ∧ Hid (RR = prep rs (manyR (repR s) (n - k) p))) (fun _ i _ => n - (intOf i).toNat)
            case atStart => exact ⟨0, q2, [], .slice none 0 0, Nat.zero_le _, rfl, Lib.hid ⟨rfl, HQ2.out⟩, HD5, Lib.hid (World.ownsRow_nil _ _ _ _), Lib.hid (fun _ h => by cases h), Lib.hid (by rw [← HRR.out]; exact (prep_nil _).symm)⟩
            case round =>
              obtain ⟨k, p, rs, vr, hk, rfl, HL, HD, HO, HSz, HS⟩ := hrel
              by_cases hlt : k < n
              · obtain ⟨t', ht'⟩ : ∃ t', n - k = t' + 1 := ⟨n - k - 1, by omega⟩
                have HS1 : Hid (RR = prep rs (manyR (repR s) (t' + 1) p)) := Lib.hid (by rw [HS.out, ht'])
                have HT : Hid (n - (k + 1) = t') := Lib.hid (by omega)
                have HErr : Hid (∀ c, repR s p = .error c → R = .error c) := Lib.hid (fun c hc => by rw [HR4.out, HS1.out, manyR_err _ _ _ _ _ hc])
                have hkl : (k : Int) < 256 := by have := HN6.out; omega
                clear ht' HS
                have hF1 := HFrm.out wr p HD.out.rdr HL.out.2
                cases hf1 : frmR s p with
                | error c =>
                  rw [hf1] at hF1
                  have HR5 := Lib.hid (HErr.out c (by rw [repR, hf1]))
                  have HF1 := Lib.hid hF1
                  clear hF1
                  go_wp2_with fail
                  refine HF1.out.mono ?_
                  rintro e w' ⟨rfl, hk⟩
                  exact HD.out.fault hk c R HR5.out _ rfl rfl
                | ok r =>
                  obtain ⟨f, pa⟩ := r
                  rw [hf1] at hF1
                  have HF1 := Lib.hid hF1
                  have HPa := Lib.hid (frmR_le hf1).2
                  have hsz1 := frmR_size hf1
                  clear hF1
                  go_wp2_with fail
                  refine HF1.out.mono ?_
                  rintro e w7 ⟨rfl, hk, hr⟩
                  have HD7 := Lib.hid (HD.out.call hk hr)
                  have HO7 := Lib.hid (hk.own HO.out (ownNot HO.out HD.out.rdr (by decide)))
                  clear hk hr HF1
                  have hF2 := HFrm.out w7.drew pa HD7.out.rdr HPa.out
                  have c7 := HD7.out.cell 2 rfl
                  cases hf2 : frmR s pa with
                  | error c =>
                    rw [hf2] at hF2
                    have HR5 := Lib.hid (HErr.out c (by rw [repR, hf1]; simp only [hf2]))
                    have HF2 := Lib.hid hF2
                    clear hF2 hf1 hf2
                    go_wp2_with fail
                    refine Code.wp_mono (PanicQ.imp (w := w) (K := fun ch W => ch = [flt c] ∧ Kept [w.heap.size + 1 + 1] w7 W) ?_) ?_
                    · rintro ch tmps W h2 h3 ⟨rfl, hk⟩
                      exact HD7.out.fault hk c R HR5.out tmps h2 h3
                    refine wp_region_any (by kernel_rfl) ?_
                    try (change wpAny _ _ _ _ _ _ _ (World.drew _))
                    refine takeA (i := 0) (d := some 38) (v := ?_) rfl rfl (by kernel_rfl) (by kernel_rfl) (by kernel_rfl) (fun _ _ _ h => PanicQ.put (by decide) h) (Or.inl ⟨by kernel_rfl, ?_⟩) ?_
                    rotate_left
                    · intro w; go_simp; try with_reducible rfl
                    try simp only [put_norm]
                    refine takeA (i := 2) (d := some 40) (v := ?_) rfl rfl (by kernel_rfl) (by kernel_rfl) (by kernel_rfl) (fun _ _ _ h => PanicQ.put (by decide) h) (Or.inl ⟨by kernel_rfl, ?_⟩) ?_
                    rotate_left
                    · intro w; go_simp; try with_reducible rfl
                    try simp only [put_norm]
                    refine takeA (i := 3) (d := some 41) (v := ?_) rfl rfl (by kernel_rfl) (by kernel_rfl) (by kernel_rfl) (fun _ _ _ h => PanicQ.put (by decide) h) (Or.inl ⟨by kernel_rfl, ?_⟩) ?_
                    rotate_left
                    · intro w; go_simp; try with_reducible rfl
                    try simp only [put_norm]
                    refine wpAny_ready (rs := [1, 4]) (by kernel_rfl) (by simp) ?_
                    refine AllReady.cons rfl (fun K hK => ?_) ?_
                    · go_simp
                      refine hK _ _ ?_
                      clear hK K
                      refine wpAny_ready (rs := [4]) (by kernel_rfl) (by simp) ?_
                      refine AllReady.cons rfl (fun K hK => ?_) ?_
                      · go_simp
                        refine HF2.out.mono ?_
                        rintro e w8 ⟨rfl, hk8⟩
                        exact ⟨rfl, rfl, rfl, rfl, ((Kept.refl _ w7).drew).trans hk8⟩
                      exact AllReady.nil
                    refine AllReady.cons rfl (fun K hK => ?_) ?_
                    · go_simp
                      refine HF2.out.mono ?_
                      rintro e w8 ⟨rfl, hk8⟩
                      exact ⟨rfl, rfl, rfl, rfl, ((Kept.refl _ w7).drew).trans hk8⟩
                    exact AllReady.nil
                  | ok r =>
                    obtain ⟨to, pb⟩ := r
                    rw [hf2] at hF2
                    have HPb := Lib.hid (frmR_le hf2).2
                    have HFs : Hid (f.size ≤ 255 ∧ to.size ≤ 255) := Lib.hid ⟨hsz1, frmR_size hf2⟩
                    have HS2 : Hid (RR = prep (rs ++ [(f, to)]) (manyR (repR s) t' pb)) := Lib.hid (by rw [HS1.out, manyR_step (repR s) t' p rs (f, to) pb (by rw [repR, hf1]; simp only [hf2])])
                    have HF2 := Lib.hid hF2
                    clear hF2 hf1 hf2 hsz1
                    go_wp2_with fail
                    refine wp_region_noPanic ?_
                    refine wp_region_any (by kernel_rfl) ?_
                    try (change wpAny _ _ _ _ _ _ _ (World.drew _))
                    refine takeA (i := 0) (d := some 38) (v := ?_) rfl rfl (by kernel_rfl) (by kernel_rfl) (by kernel_rfl) (fun _ _ _ h => h) (Or.inl ⟨by kernel_rfl, ?_⟩) ?_
                    rotate_left
                    · intro w; go_simp; try with_reducible rfl
                    try simp only [put_norm]
                    refine takeA (i := 2) (d := some 40) (v := ?_) rfl rfl (by kernel_rfl) (by kernel_rfl) (by kernel_rfl) (fun _ _ _ h => h) (Or.inl ⟨by kernel_rfl, ?_⟩) ?_
                    rotate_left
                    · intro w; go_simp; try with_reducible rfl
                    try simp only [put_norm]
                    refine takeA (i := 3) (d := some 41) (v := ?_) rfl rfl (by kernel_rfl) (by kernel_rfl) (by kernel_rfl) (fun _ _ _ h => h) (Or.inl ⟨by kernel_rfl, ?_⟩) ?_
                    rotate_left
                    · intro w; go_simp; try with_reducible rfl
                    try simp only [put_norm]
                    refine wpAny_ready (rs := [1, 4]) (by kernel_rfl) (by simp) ?_
                    refine AllReady.cons rfl (fun K hK => ?_) ?_
                    · go_simp
                      refine hK _ _ ?_
                      clear hK K
                      refine wpAny_ready (rs := [4]) (by kernel_rfl) (by simp) ?_
                      refine AllReady.cons rfl (fun K hK => ?_) ?_
                      · go_simp
                        refine HF2.out.mono ?_
                        rintro e w8 ⟨rfl, hk8, hr8⟩
                        have HD8 := Lib.hid (HD7.out.call (((Kept.refl _ w7).drew).trans hk8) hr8)
                        have HO8 := Lib.hid (((((Kept.refl _ w7).drew).trans hk8).own HO7.out) (ownNot HO7.out HD7.out.rdr (by decide)))
                        clear hk8 hr8
                        have c8 := HD8.out.cell 2 rfl
                        have ca8 := fun o => (HD8.out.kept ((Kept.refl [] w8).alloc o)).cell 2 rfl
                        refine hK _ _ ?_
                        clear hK K
                        refine takeA (i := 5) (d := some 43) (v := ?_) rfl rfl (by kernel_rfl) (by kernel_rfl) (by kernel_rfl) (fun _ _ _ h => h) (Or.inl ⟨by kernel_rfl, ?_⟩) ?_
                        rotate_left
                        · intro w; go_simp; try with_reducible rfl
                        try simp only [put_norm]
                        refine wpAny_ready (rs := [6]) (by kernel_rfl) (by simp) ?_
                        refine AllReady.cons rfl (fun K hK => ?_) ?_
                        · go_simp
                          refine hK _ _ ?_
                          clear hK K
                          refine wpAny_ready (rs := [7]) (by kernel_rfl) (by simp) ?_
                          refine AllReady.cons rfl (fun K hK => ?_) ?_
                          · refine step_push (by rfl) _ _ 22 (by rfl) w.heap.size 50 i0 _ 2 32 Try.underlying22 hi hz0 hz1 hz2 rfl (by decide) vr rs.length (repCells rs) (by rfl) HO8.out #[.string f, .string to] (by rfl) (by intro x hx; simp at hx; rcases hx with rfl | rfl <;> rfl) (by rfl) (by have := HL.out.1; have := HN6.out; unfold maxLen; omega) (by have := HL.out.1; have := HN6.out; omega) HD8.out.below.size ?_
                            intro gg cc w9 hown hg9
                            have HD9 := Lib.hid (HD8.out.push HO8.out (by decide) (by decide) (by decide) hg9)
                            have HO9 := Lib.hid hown
                            clear hown hg9
                            have c9 := HD9.out.cell 2 rfl
                            have f9 := HD9.out.fz 2
                            refine hK _ _ ?_
                            clear hK K
                            refine takeA (i := 8) (d := some 46) (v := ?_) rfl rfl (by kernel_rfl) (by kernel_rfl) (by kernel_rfl) (fun _ _ _ h => h) (Or.inl ⟨by kernel_rfl, ?_⟩) ?_
                            rotate_left
                            · intro w; go_simp; try with_reducible rfl
                            try simp only [put_norm]
                            refine wpAny_ready (rs := [9]) (by kernel_rfl) (by simp) ?_
                            refine AllReady.cons rfl (fun K hK => ?_) ?_
                            · go_simp
                              refine hK _ _ ?_
                              clear hK K
                              refine wpAny_done (by kernel_rfl) ?_ _
                              refine NoPanic.normal ?_
                              go_wp2_with fail
                              refine ⟨⟨k + 1, pb, rs ++ [(f, to)], _, by omega, rfl, Lib.hid ⟨by rw [List.length_append, HL.out.1]; rfl, HPb.out⟩, Lib.hid (HD9.out.set 2 _), Lib.hid ?_, Lib.hid ?_, Lib.hid (by rw [HT.out]; exact HS2.out)⟩, by simp [intOf]; omega⟩
                              · rw [← repCells_snoc, List.length_append, List.length_singleton]
                                exact own_set HD9.out HO9.out (by decide)
                              · intro x hx
                                rcases List.mem_append.1 hx with hx | hx
                                · exact HSz.out x hx
                                · simp only [List.mem_singleton] at hx
                                  subst hx
                                  exact HFs.out
                            exact AllReady.nil
                          exact AllReady.nil
                        exact AllReady.nil
                      exact AllReady.nil
                    refine AllReady.cons rfl (fun K hK => ?_) ?_
                    · go_simp
                      refine HF2.out.mono ?_
                      rintro e w8 ⟨rfl, hk8, hr8⟩
                      have HD8 := Lib.hid (HD7.out.call (((Kept.refl _ w7).drew).trans hk8) hr8)
                      have HO8 := Lib.hid (((((Kept.refl _ w7).drew).trans hk8).own HO7.out) (ownNot HO7.out HD7.out.rdr (by decide)))
                      clear hk8 hr8
                      have c8 := HD8.out.cell 2 rfl
                      have ca8 := fun o => (HD8.out.kept ((Kept.refl [] w8).alloc o)).cell 2 rfl
                      refine hK _ _ ?_
                      clear hK K
                      refine takeA (i := 5) (d := some 43) (v := ?_) rfl rfl (by kernel_rfl) (by kernel_rfl) (by kernel_rfl) (fun _ _ _ h => h) (Or.inl ⟨by kernel_rfl, ?_⟩) ?_
                      rotate_left
                      · intro w; go_simp; try with_reducible rfl
                      try simp only [put_norm]
                      refine wpAny_ready (rs := [1, 6]) (by kernel_rfl) (by simp) ?_
                      refine AllReady.cons rfl (fun K hK => ?_) ?_
                      · go_simp
                        refine hK _ _ ?_
                        clear hK K
                        refine wpAny_ready (rs := [6]) (by kernel_rfl) (by simp) ?_
                        refine AllReady.cons rfl (fun K hK => ?_) ?_
                        · go_simp
                          refine hK _ _ ?_
                          clear hK K
                          refine wpAny_ready (rs := [7]) (by kernel_rfl) (by simp) ?_
                          refine AllReady.cons rfl (fun K hK => ?_) ?_
                          · refine step_push (by rfl) _ _ 22 (by rfl) w.heap.size 50 i0 _ 2 32 Try.underlying22 hi hz0 hz1 hz2 rfl (by decide) vr rs.length (repCells rs) (by rfl) HO8.out #[.string f, .string to] (by rfl) (by intro x hx; simp at hx; rcases hx with rfl | rfl <;> rfl) (by rfl) (by have := HL.out.1; have := HN6.out; unfold maxLen; omega) (by have := HL.out.1; have := HN6.out; omega) HD8.out.below.size ?_
                            intro gg cc w9 hown hg9
                            have HD9 := Lib.hid (HD8.out.push HO8.out (by decide) (by decide) (by decide) hg9)
                            have HO9 := Lib.hid hown
                            clear hown hg9
                            have c9 := HD9.out.cell 2 rfl
                            have f9 := HD9.out.fz 2
                            refine hK _ _ ?_
                            clear hK K
                            refine takeA (i := 8) (d := some 46) (v := ?_) rfl rfl (by kernel_rfl) (by kernel_rfl) (by kernel_rfl) (fun _ _ _ h => h) (Or.inl ⟨by kernel_rfl, ?_⟩) ?_
                            rotate_left
                            · intro w; go_simp; try with_reducible rfl
                            try simp only [put_norm]
                            refine wpAny_ready (rs := [9]) (by kernel_rfl) (by simp) ?_
                            refine AllReady.cons rfl (fun K hK => ?_) ?_
                            · go_simp
                              refine hK _ _ ?_
                              clear hK K
                              refine wpAny_done (by kernel_rfl) ?_ _
                              refine NoPanic.normal ?_
                              go_wp2_with fail
                              refine ⟨⟨k + 1, pb, rs ++ [(f, to)], _, by omega, rfl, Lib.hid ⟨by rw [List.length_append, HL.out.1]; rfl, HPb.out⟩, Lib.hid (HD9.out.set 2 _), Lib.hid ?_, Lib.hid ?_, Lib.hid (by rw [HT.out]; exact HS2.out)⟩, by simp [intOf]; omega⟩
                              · rw [← repCells_snoc, List.length_append, List.length_singleton]
                                exact own_set HD9.out HO9.out (by decide)
                              · intro x hx
                                rcases List.mem_append.1 hx with hx | hx
                                · exact HSz.out x hx
                                · simp only [List.mem_singleton] at hx
                                  subst hx
                                  exact HFs.out
                            exact AllReady.nil
                          exact AllReady.nil
                        exact AllReady.nil
                      refine AllReady.cons rfl (fun K hK => ?_) ?_
                      · go_simp
                        refine hK _ _ ?_
                        clear hK K
                        refine wpAny_ready (rs := [1]) (by kernel_rfl) (by simp) ?_
                        refine AllReady.cons rfl (fun K hK => ?_) ?_
                        · go_simp
                          refine hK _ _ ?_
                          clear hK K
                          refine wpAny_ready (rs := [7]) (by kernel_rfl) (by simp) ?_
                          refine AllReady.cons rfl (fun K hK => ?_) ?_
                          · refine step_push (by rfl) _ _ 22 (by rfl) w.heap.size 50 i0 _ 2 32 Try.underlying22 hi hz0 hz1 hz2 rfl (by decide) vr rs.length (repCells rs) (by rfl) HO8.out #[.string f, .string to] (by rfl) (by intro x hx; simp at hx; rcases hx with rfl | rfl <;> rfl) (by rfl) (by have := HL.out.1; have := HN6.out; unfold maxLen; omega) (by have := HL.out.1; have := HN6.out; omega) HD8.out.below.size ?_
                            intro gg cc w9 hown hg9
                            have HD9 := Lib.hid (HD8.out.push HO8.out (by decide) (by decide) (by decide) hg9)
                            have HO9 := Lib.hid hown
                            clear hown hg9
                            have c9 := HD9.out.cell 2 rfl
                            have f9 := HD9.out.fz 2
                            refine hK _ _ ?_
                            clear hK K
                            refine takeA (i := 8) (d := some 46) (v := ?_) rfl rfl (by kernel_rfl) (by kernel_rfl) (by kernel_rfl) (fun _ _ _ h => h) (Or.inl ⟨by kernel_rfl, ?_⟩) ?_
                            rotate_left
                            · intro w; go_simp; try with_reducible rfl
                            try simp only [put_norm]
                            refine wpAny_ready (rs := [9]) (by kernel_rfl) (by simp) ?_
                            refine AllReady.cons rfl (fun K hK => ?_) ?_
                            · go_simp
                              refine hK _ _ ?_
                              clear hK K
                              refine wpAny_done (by kernel_rfl) ?_ _
                              refine NoPanic.normal ?_
                              go_wp2_with fail
                              refine ⟨⟨k + 1, pb, rs ++ [(f, to)], _, by omega, rfl, Lib.hid ⟨by rw [List.length_append, HL.out.1]; rfl, HPb.out⟩, Lib.hid (HD9.out.set 2 _), Lib.hid ?_, Lib.hid ?_, Lib.hid (by rw [HT.out]; exact HS2.out)⟩, by simp [intOf]; omega⟩
                              · rw [← repCells_snoc, List.length_append, List.length_singleton]
                                exact own_set HD9.out HO9.out (by decide)
                              · intro x hx
                                rcases List.mem_append.1 hx with hx | hx
                                · exact HSz.out x hx
                                · simp only [List.mem_singleton] at hx
                                  subst hx
                                  exact HFs.out
                            exact AllReady.nil
                          exact AllReady.nil
                        exact AllReady.nil
                      exact AllReady.nil
                    exact AllReady.nil
              · obtain rfl : k = n := by omega
                have HR5 : Hid (R = secsR s l t rs p) := Lib.hid (by rw [HR4.out, HS.out, Nat.sub_self, manyR]; simp [prep])
                have c0 := HD.out.cell 0 rfl
                have c1 := HD.out.cell 1 rfl
                have c2 := HD.out.cell 2 rfl
                have c3 := HD.out.cell 3 rfl
                have c4 := HD.out.cell 4 rfl
                have c5 := HD.out.cell 5 rfl
                have c6 := HD.out.cell 6 rfl
                have hSet := settings_any (leastV l : Nat) t rs vr (.slice none 0 0) (.slice none 0 0) (.slice none 0 0) (.slice none 0 0) wr (reps_of_own HO.out) (by have := HTs.out; omega) (fun k h => by have := HSz.out _ (List.getElem_mem h); omega)
                cases hset : settingsB (leastV l : Nat) t rs with
                | false =>
                  rw [hset] at hSet
                  have HR6 : Hid (R = .error 201) := Lib.hid (by rw [HR5.out, secsR, if_pos hset])
                  have HSet := Lib.hid hSet
                  clear hSet hset
                  go_wp2_with fail
                  refine HSet.out.mono ?_
                  rintro e w8 ⟨rfl, hb8⟩
                  have HK8 : Hid (Kept [w.heap.size + 1 + 1] wr w8) := Lib.hid (Kept.of_below hb8)
                  clear hb8
                  go_wp2_with fail
                  refine (must_any _ _ _ _).mono ?_
                  rintro e w' ⟨⟨hc, rfl⟩ | ⟨hc, rfl⟩, rfl⟩
                  · exact absurd hc (by simp)
                  · exact HD.out.fault HK8.out 201 R HR6.out _ rfl rfl
                | true =>
                  rw [hset] at hSet
                  have HR6 : Hid (R = match manyR (secR s) 4 p with | .error c => .error c | .ok (As, p) => endR s ⟨leastV l, t, rs, As⟩ p) := Lib.hid (by rw [HR5.out, secsR, if_neg (by rw [hset]; simp)]; rfl)
                  have HSet := Lib.hid hSet
                  clear hSet hset
                  go_wp2_with fail
                  refine HSet.out.mono ?_
                  rintro e w8 ⟨rfl, hb8⟩
                  have HD8 := Lib.hid (HD.out.kept (Kept.of_below hb8))
                  have HO8 := Lib.hid ((Kept.of_below hb8 (E := [])).own HO.out (fun _ _ h => by cases h))
                  have HPp := Lib.hid HL.out.2
                  clear hb8 c0 c1 c2 c3 c4 c5 c6
                  go_wp2_with fail
                  refine (must_any _ _ _ _).mono ?_
                  rintro e w9 ⟨⟨hc, rfl⟩ | ⟨hc, rfl⟩, rfl⟩
                  rotate_left
                  · exact absurd hc (by simp)
                  clear hc
                  go_wp2_with fail
                  obtain ⟨RX, hRX⟩ : ∃ RX, manyR (secR s) 4 p = RX := ⟨_, rfl⟩
                  rw [hRX] at HR6
                  have HRX := Lib.hid hRX
                  clear hRX HS HD HO HRR HR4 HR5
                  go_loopw [8, 52] (fun _ i W => ∃ (j q : Nat) (As : List (List St)) (v0 v1 v2 v3 : Value), j ≤ 4 ∧ i = .int .i64 j ∧ Hid (As.length = j ∧ q ≤ s.size) ∧ Hid (DSt w s W q #[.int .i64 (leastV l : Nat), .string t, vr, v0, v1, v2, v3]) ∧ Hid (W.ownsRow w.heap.size 50 2 vr rs.length (repCells rs)) ∧ Hid (SecR W (w.heap.size + 1 + 1 + 1) [v0, v1, v2, v3] As) ∧ Hid (RX = prep As (manyR (secR s) (4 - j) q))) (fun _ i _ => 4 - (intOf i).toNat)
                  case atStart => exact ⟨0, p, [], _, _, _, _, by omega, rfl, Lib.hid ⟨rfl, HPp.out⟩, HD8, HO8, Lib.hid (SecR.nil_ _ _ _ HD8.out.size), Lib.hid (by rw [← HRX.out]; exact (prep_nil _).symm)⟩
                  case round =>
                    obtain ⟨j, q, As, v0, v1, v2, v3, hj, rfl, HL2, HD, HO, HSc, HS⟩ := hrel
                    by_cases hlt2 : j < 4
                    · have HS1 : Hid (RX = prep As (manyR (secR s) (3 - j + 1) q)) := Lib.hid (by rw [HS.out, show 4 - j = 3 - j + 1 by omega])
                      have hSec := HSec.out wr q HD.out.rdr HL2.out.2
                      cases hsc : secR s q with
                      | error c =>
                        rw [hsc] at hSec
                        have HR7 : Hid (R = .error c) := Lib.hid (by rw [HR6.out, HS1.out, manyR_err _ _ _ _ _ hsc])
                        have HSe := Lib.hid hSec
                        clear hSec hsc
                        go_wp2_with fail
                        refine HSe.out.mono ?_
                        rintro e w' ⟨rfl, hk⟩
                        exact HD.out.fault hk c R HR7.out _ rfl rfl
                      | ok r =>
                        obtain ⟨A, q2⟩ := r
                        rw [hsc] at hSec
                        have HQ3 := Lib.hid (secR_le hsc HL2.out.2)
                        have HS2 : Hid (RX = prep (As ++ [A]) (manyR (secR s) (3 - j) q2)) := Lib.hid (by rw [HS1.out, manyR_step _ _ _ _ _ _ hsc])
                        have HSe := Lib.hid hSec
                        clear hSec hsc HS HS1
                        have hj4 : j = 0 ∨ j = 1 ∨ j = 2 ∨ j = 3 := by omega
                        rcases hj4 with rfl | rfl | rfl | rfl
                        all_goals
                          go_wp2_with fail
                          refine HSe.out.mono ?_
                          rintro e w10 ⟨v, L, rfl, hk, hr, hO1, hR1, hL1⟩
                          have hA : AutAt w10 (fun g => wr.heap.size ≤ g) v A := by rw [← hL1]; exact hO1.aut
                          obtain ⟨AX, capX, rfl, _⟩ := id hA
                          have HD10 := Lib.hid (HD.out.call hk hr)
                          have HO10 := Lib.hid (hk.own HO.out (ownNot HO.out HD.out.rdr (by decide)))
                          have HSn : Hid (∀ vs' : List Value, vs'.getD As.length undef = .slice AX A.length capX → (∀ j, j < As.length → vs'.getD j undef = [v0, v1, v2, v3].getD j undef) → SecR w10 (w.heap.size + 1 + 1 + 1) vs' (As ++ [A])) := Lib.hid (fun vs' h1 h2 => HSc.out.snoc hk (by simp) hO1 hR1 hL1 h1 h2)
                          clear hk hr hA hO1 hR1 hL1
                          have d3 := HD10.out.cell 3 rfl
                          have d4 := HD10.out.cell 4 rfl
                          have d5 := HD10.out.cell 5 rfl
                          have d6 := HD10.out.cell 6 rfl
                          have g3 := HD10.out.fz 3
                          have g4 := HD10.out.fz 4
                          have g5 := HD10.out.fz 5
                          have g6 := HD10.out.fz 6
                          go_wp2_with fail
                          refine ⟨⟨_ + 1, q2, As ++ [A], _, _, _, _, by omega, rfl, Lib.hid ⟨by rw [List.length_append, HL2.out.1]; rfl, HQ3.out⟩, Lib.hid (HD10.out.set _ _), Lib.hid (own_set HD10.out HO10.out (by decide)), Lib.hid (SecR.kept (HSn.out _ (by rw [HL2.out.1]; rfl) (fun j h => by rw [HL2.out.1] at h; rcases j with _ | _ | _ | j <;> first | rfl | omega)) ((Kept.refl [w.heap.size] w10).set _ _ _ (.inl (by simp))) (by simp <;> omega)), HS2⟩, by simp [intOf]⟩
                    · obtain rfl : j = 4 := by omega
                      have HR7 : Hid (R = endR s ⟨leastV l, t, rs, As⟩ q) := Lib.hid (by rw [HR6.out, HS.out, Nat.sub_self, manyR]; simp [prep])
                      have r1 := HD.out.rdr.cells.2.1
                      by_cases hq : q = s.size
                      · have hqs : ((q : Int) == (s.size : Int)) = true := by simp [hq]
                        have HR8 : Hid (R = .ok ⟨leastV l, t, rs, As⟩) := Lib.hid (by rw [HR7.out, endR, if_pos hq])
                        clear hq
                        go_wp2_with fail
                        refine (must_any _ _ _ _).mono ?_
                        rintro e w9 ⟨⟨hc, rfl⟩ | ⟨hc, rfl⟩, rfl⟩
                        rotate_left
                        · exact absurd hc (by simp)
                        clear hc r1
                        have HSl : Hid (∀ v, v ∈ [vr, v0, v1, v2, v3] → ∃ A n cap, v = .slice A n cap) := Lib.hid (by
                          obtain ⟨XA, xc, e1, _⟩ := reps_of_own HO.out
                          have key : ∀ j (h : j < As.length), ∃ A n cap, [v0, v1, v2, v3].getD j undef = .slice A n cap := fun j h => by
                            obtain ⟨A, cap, e, _⟩ := HSc.out.secP j h
                            exact ⟨_, _, _, e⟩
                          have hl := HL2.out.1
                          intro v hv
                          simp only [List.mem_cons, List.not_mem_nil, or_false] at hv
                          rcases hv with rfl | rfl | rfl | rfl | rfl
                          · exact ⟨_, _, _, e1⟩
                          · exact key 0 (by omega)
                          · exact key 1 (by omega)
                          · exact key 2 (by omega)
                          · exact key 3 (by omega))
                        have HZ0 := Lib.hid (book_again HD.out HO.out HSc.out)
                        obtain ⟨xA, xn, xc, hx⟩ := HSl.out vr (by simp)
                        obtain ⟨yA, yn, yc, hy⟩ := HSl.out v0 (by simp)
                        obtain ⟨zA, zn, zc, hz⟩ := HSl.out v1 (by simp)
                        obtain ⟨uA, un, uc, hu⟩ := HSl.out v2 (by simp)
                        obtain ⟨tA, tn, tc, ht⟩ := HSl.out v3 (by simp)
                        subst hx hy hz hu ht
                        have HZ := HZ0
                        clear HZ0 HSl
                        have c0 := HD.out.cell 0 rfl
                        have c1 := HD.out.cell 1 rfl
                        have c2 := HD.out.cell 2 rfl
                        have c3 := HD.out.cell 3 rfl
                        have c4 := HD.out.cell 4 rfl
                        have c5 := HD.out.cell 5 rfl
                        have c6 := HD.out.cell 6 rfl
                        have bf := HD.out.fz
                        have ee : wr.cell? ⟨w.heap.size + 1, 0, none⟩ = some (.int .i64 0) := by rw [Lib.cell_of_heap HD.out.err]; rfl
                        have ef : wr.frozen? ⟨w.heap.size + 1, 0, none⟩ = false := Lib.frozen_of_heap HD.out.err 0
                        go_wp2_with fail
                        refine leave_ok w.heap.size (w.heap.size + 1) _ _ _ _ _ _ _ _ _ _ _ rfl rfl HZ.out.1 HZ.out.2.1 ?_
                        rw [HR8.out]
                        exact ⟨_, _, _, _, _, rfl, HZ.out.2.2.1, HZ.out.2.2.2.1, HL2.out.1, HZ.out.2.2.2.2⟩
                      · have hqs : ((q : Int) == (s.size : Int)) = false := by rw [beq_eq_false_iff_ne]; omega
                        have HR8 : Hid (R = .error 202) := Lib.hid (by rw [HR7.out, endR, if_neg hq])
                        clear hq
                        go_wp2_with fail
                        refine (must_any _ _ _ _).mono ?_
                        rintro e w9 ⟨⟨hc, rfl⟩ | ⟨hc, rfl⟩, rfl⟩
                        · exact absurd hc (by simp)
                        · exact HD.out.fault (Kept.refl _ _) 202 R HR8.out _ rfl rfl
      · skip
        go_enter_defers Try.func15, Try.ntmps15
        go_wp2_with (first | (go_at_call 35; refine (HP.out _).mono ?_; rintro e w' ⟨rfl, rfl⟩))
        rw [HWs.out]
        refine HN.out.mono ?_
        rintro e w1 ⟨rfl, hk, hr⟩
        have HD1 := Lib.hid (HD0.out.call hk hr)
        clear hk hr
        have b0 := HD1.out.cell 0 rfl
        have f0 := HD1.out.fz 0
        go_wp2_with fail
        clear b0 f0
        have HD2 : Hid (DSt w s w1 q0 #[.int .i64 (leastV l : Nat), .string ⟨#[]⟩, .slice none 0 0, .slice none 0 0, .slice none 0 0, .slice none 0 0, .slice none 0 0]) := Lib.hid (by rw [leastV_gt hl]; exact HD1.out)
        generalize w1 = W2 at HD2 ⊢
        clear HD1
        have hF := HFrm.out W2 q0 HD2.out.rdr HQ0.out
        cases hf : frmR s q0 with
        | error c =>
          rw [hf] at hF
          have HR3 : Hid (R = .error c) := Lib.hid (by rw [HR2.out, hf])
          refine hF.mono ?_
          rintro e w' ⟨rfl, hk⟩
          exact HD2.out.fault hk c R HR3.out _ rfl rfl
        | ok r =>
          obtain ⟨t, q1⟩ := r
          rw [hf] at hF
          have HQ1 := Lib.hid (frmR_le hf).2
          have HTs := Lib.hid (frmR_size hf)
          have HR3 : Hid (R = repsR s l t q1) := Lib.hid (by rw [HR2.out, hf])
          clear hf
          refine hF.mono ?_
          rintro e w3 ⟨rfl, hk, hr⟩
          have HD3 := Lib.hid (HD2.out.call hk hr)
          clear hk hr hF HR2 HD2
          have b1 := HD3.out.cell 1 rfl
          have f1 := HD3.out.fz 1
          go_wp2_with fail
          clear b1 f1
          have HD4 : Hid (DSt w s (w3.setCell ⟨w.heap.size, 1, none⟩ (Value.string t)) q1 #[.int .i64 (leastV l : Nat), .string t, .slice none 0 0, .slice none 0 0, .slice none 0 0, .slice none 0 0, .slice none 0 0]) := Lib.hid (HD3.out.set 1 _)
          generalize w3.setCell ⟨w.heap.size, 1, none⟩ (Value.string t) = W4 at HD4 ⊢
          clear HD3
          have hN4 := HNum.out W4 q1 HD4.out.rdr HQ1.out
          cases hn4 : numR s q1 with
          | error c =>
            rw [hn4] at hN4
            have HR4 : Hid (R = .error c) := Lib.hid (by rw [HR3.out, repsR, hn4])
            refine hN4.mono ?_
            rintro e w' ⟨rfl, hk⟩
            exact HD4.out.fault hk c R HR4.out _ rfl rfl
          | ok r =>
            obtain ⟨n, q2⟩ := r
            rw [hn4] at hN4
            have HQ2 := Lib.hid (numR_le hn4).2
            refine hN4.mono ?_
            rintro e w5 ⟨rfl, hk, hr⟩
            have HD5 := Lib.hid (HD4.out.call hk hr)
            clear hk hr hN4 HD4
            by_cases h256 : 256 < n
            · have HR4 : Hid (R = .error 201) := Lib.hid (by rw [HR3.out, repsR, hn4]; exact if_pos h256)
              go_wp2_with fail
              refine (must_any _ _ _ _).mono ?_
              rintro e w' ⟨⟨hc, rfl⟩ | ⟨hc, rfl⟩, rfl⟩
              · exact absurd hc (by simp <;> omega)
              · exact HD5.out.fault (Kept.refl _ _) 201 R HR4.out _ rfl rfl
            have HR4 : Hid (R = match manyR (repR s) n q2 with | .error c => .error c | .ok (rs, p) => secsR s l t rs p) := Lib.hid (by rw [HR3.out, repsR, hn4]; exact if_neg h256)
            have HN6 : Hid (n ≤ 256) := Lib.hid (by omega)
            clear hn4 HR3
            go_wp2_with fail
            refine (must_any _ _ _ _).mono ?_
            rintro e w6 ⟨⟨hc, rfl⟩ | ⟨hc, rfl⟩, rfl⟩
            rotate_left
            · exact absurd hc (by have := HN6.out; simp <;> omega)
            clear hc h256
            go_wp2_with fail
            obtain ⟨RR, hRR⟩ : ∃ RR, manyR (repR s) n q2 = RR := ⟨_, rfl⟩
            rw [hRR] at HR4
            have HRR := Lib.hid hRR
            clear hRR
            go_loopw [7, 34] (fun _ i W => ∃ (k p : Nat) (rs : List Rp) (vr : Value), k ≤ n ∧ i = .int .u64 k ∧ Hid (rs.length = k ∧ p ≤ s.size) ∧ Hid (DSt w s W p #[.int .i64 (leastV l : Nat), .string t, vr, .slice none 0 0, .slice none 0 0, .slice none 0 0, .slice none 0 0]) ∧ Hid (W.ownsRow w.heap.size 50 2 vr rs.length (repCells rs)) ∧ Hid (∀ x ∈ rs, x.1.size ≤ 255 ∧ x.2.size ≤ 255) ∧ Hid (RR = prep rs (manyR (repR s) (n - k) p))) (fun _ i _ => n - (intOf i).toNat)
            case atStart => exact ⟨0, q2, [], .slice none 0 0, Nat.zero_le _, rfl, Lib.hid ⟨rfl, HQ2.out⟩, HD5, Lib.hid (World.ownsRow_nil _ _ _ _), Lib.hid (fun _ h => by cases h), Lib.hid (by rw [← HRR.out]; exact (prep_nil _).symm)⟩
            case round =>
              obtain ⟨k, p, rs, vr, hk, rfl, HL, HD, HO, HSz, HS⟩ := hrel
              by_cases hlt : k < n
              · obtain ⟨t', ht'⟩ : ∃ t', n - k = t' + 1 := ⟨n - k - 1, by omega⟩
                have HS1 : Hid (RR = prep rs (manyR (repR s) (t' + 1) p)) := Lib.hid (by rw [HS.out, ht'])
                have HT : Hid (n - (k + 1) = t') := Lib.hid (by omega)
                have HErr : Hid (∀ c, repR s p = .error c → R = .error c) := Lib.hid (fun c hc => by rw [HR4.out, HS1.out, manyR_err _ _ _ _ _ hc])
                have hkl : (k : Int) < 256 := by have := HN6.out; omega
                clear ht' HS
                have hF1 := HFrm.out wr p HD.out.rdr HL.out.2
                cases hf1 : frmR s p with
                | error c =>
                  rw [hf1] at hF1
                  have HR5 := Lib.hid (HErr.out c (by rw [repR, hf1]))
                  have HF1 := Lib.hid hF1
                  clear hF1
                  go_wp2_with fail
                  refine HF1.out.mono ?_
                  rintro e w' ⟨rfl, hk⟩
                  exact HD.out.fault hk c R HR5.out _ rfl rfl
                | ok r =>
                  obtain ⟨f, pa⟩ := r
                  rw [hf1] at hF1
                  have HF1 := Lib.hid hF1
                  have HPa := Lib.hid (frmR_le hf1).2
                  have hsz1 := frmR_size hf1
                  clear hF1
                  go_wp2_with fail
                  refine HF1.out.mono ?_
                  rintro e w7 ⟨rfl, hk, hr⟩
                  have HD7 := Lib.hid (HD.out.call hk hr)
                  have HO7 := Lib.hid (hk.own HO.out (ownNot HO.out HD.out.rdr (by decide)))
                  clear hk hr HF1
                  have hF2 := HFrm.out w7.drew pa HD7.out.rdr HPa.out
                  have c7 := HD7.out.cell 2 rfl
                  cases hf2 : frmR s pa with
                  | error c =>
                    rw [hf2] at hF2
                    have HR5 := Lib.hid (HErr.out c (by rw [repR, hf1]; simp only [hf2]))
                    have HF2 := Lib.hid hF2
                    clear hF2 hf1 hf2
                    go_wp2_with fail
                    refine Code.wp_mono (PanicQ.imp (w := w) (K := fun ch W => ch = [flt c] ∧ Kept [w.heap.size + 1 + 1] w7 W) ?_) ?_
                    · rintro ch tmps W h2 h3 ⟨rfl, hk⟩
                      exact HD7.out.fault hk c R HR5.out tmps h2 h3
                    refine wp_region_any (by kernel_rfl) ?_
                    try (change wpAny _ _ _ _ _ _ _ (World.drew _))
                    refine takeA (i := 0) (d := some 38) (v := ?_) rfl rfl (by kernel_rfl) (by kernel_rfl) (by kernel_rfl) (fun _ _ _ h => PanicQ.put (by decide) h) (Or.inl ⟨by kernel_rfl, ?_⟩) ?_
                    rotate_left
                    · intro w; go_simp; try with_reducible rfl
                    try simp only [put_norm]
                    refine takeA (i := 2) (d := some 40) (v := ?_) rfl rfl (by kernel_rfl) (by kernel_rfl) (by kernel_rfl) (fun _ _ _ h => PanicQ.put (by decide) h) (Or.inl ⟨by kernel_rfl, ?_⟩) ?_
                    rotate_left
                    · intro w; go_simp; try with_reducible rfl
                    try simp only [put_norm]
                    refine takeA (i := 3) (d := some 41) (v := ?_) rfl rfl (by kernel_rfl) (by kernel_rfl) (by kernel_rfl) (fun _ _ _ h => PanicQ.put (by decide) h) (Or.inl ⟨by kernel_rfl, ?_⟩) ?_
                    rotate_left
                    · intro w; go_simp; try with_reducible rfl
                    try simp only [put_norm]
                    refine wpAny_ready (rs := [1, 4]) (by kernel_rfl) (by simp) ?_
                    refine AllReady.cons rfl (fun K hK => ?_) ?_
                    · go_simp
                      refine hK _ _ ?_
                      clear hK K
                      refine wpAny_ready (rs := [4]) (by kernel_rfl) (by simp) ?_
                      refine AllReady.cons rfl (fun K hK => ?_) ?_
                      · go_simp
                        refine HF2.out.mono ?_
                        rintro e w8 ⟨rfl, hk8⟩
                        exact ⟨rfl, rfl, rfl, rfl, ((Kept.refl _ w7).drew).trans hk8⟩
                      exact AllReady.nil
                    refine AllReady.cons rfl (fun K hK => ?_) ?_
                    · go_simp
                      refine HF2.out.mono ?_
                      rintro e w8 ⟨rfl, hk8⟩
                      exact ⟨rfl, rfl, rfl, rfl, ((Kept.refl _ w7).drew).trans hk8⟩
                    exact AllReady.nil
                  | ok r =>
                    obtain ⟨to, pb⟩ := r
                    rw [hf2] at hF2
                    have HPb := Lib.hid (frmR_le hf2).2
                    have HFs : Hid (f.size ≤ 255 ∧ to.size ≤ 255) := Lib.hid ⟨hsz1, frmR_size hf2⟩
                    have HS2 : Hid (RR = prep (rs ++ [(f, to)]) (manyR (repR s) t' pb)) := Lib.hid (by rw [HS1.out, manyR_step (repR s) t' p rs (f, to) pb (by rw [repR, hf1]; simp only [hf2])])
                    have HF2 := Lib.hid hF2
                    clear hF2 hf1 hf2 hsz1
                    go_wp2_with fail
                    refine wp_region_noPanic ?_
                    refine wp_region_any (by kernel_rfl) ?_
                    try (change wpAny _ _ _ _ _ _ _ (World.drew _))
                    refine takeA (i := 0) (d := some 38) (v := ?_) rfl rfl (by kernel_rfl) (by kernel_rfl) (by kernel_rfl) (fun _ _ _ h => h) (Or.inl ⟨by kernel_rfl, ?_⟩) ?_
                    rotate_left
                    · intro w; go_simp; try with_reducible rfl
                    try simp only [put_norm]
                    refine takeA (i := 2) (d := some 40) (v := ?_) rfl rfl (by kernel_rfl) (by kernel_rfl) (by kernel_rfl) (fun _ _ _ h => h) (Or.inl ⟨by kernel_rfl, ?_⟩) ?_
                    rotate_left
                    · intro w; go_simp; try with_reducible rfl
                    try simp only [put_norm]
                    refine takeA (i := 3) (d := some 41) (v := ?_) rfl rfl (by kernel_rfl) (by kernel_rfl) (by kernel_rfl) (fun _ _ _ h => h) (Or.inl ⟨by kernel_rfl, ?_⟩) ?_
                    rotate_left
                    · intro w; go_simp; try with_reducible rfl
                    try simp only [put_norm]
                    refine wpAny_ready (rs := [1, 4]) (by kernel_rfl) (by simp) ?_
                    refine AllReady.cons rfl (fun K hK => ?_) ?_
                    · go_simp
                      refine hK _ _ ?_
                      clear hK K
                      refine wpAny_ready (rs := [4]) (by kernel_rfl) (by simp) ?_
                      refine AllReady.cons rfl (fun K hK => ?_) ?_
                      · go_simp
                        refine HF2.out.mono ?_
                        rintro e w8 ⟨rfl, hk8, hr8⟩
                        have HD8 := Lib.hid (HD7.out.call (((Kept.refl _ w7).drew).trans hk8) hr8)
                        have HO8 := Lib.hid (((((Kept.refl _ w7).drew).trans hk8).own HO7.out) (ownNot HO7.out HD7.out.rdr (by decide)))
                        clear hk8 hr8
                        have c8 := HD8.out.cell 2 rfl
                        have ca8 := fun o => (HD8.out.kept ((Kept.refl [] w8).alloc o)).cell 2 rfl
                        refine hK _ _ ?_
                        clear hK K
                        refine takeA (i := 5) (d := some 43) (v := ?_) rfl rfl (by kernel_rfl) (by kernel_rfl) (by kernel_rfl) (fun _ _ _ h => h) (Or.inl ⟨by kernel_rfl, ?_⟩) ?_
                        rotate_left
                        · intro w; go_simp; try with_reducible rfl
                        try simp only [put_norm]
                        refine wpAny_ready (rs := [6]) (by kernel_rfl) (by simp) ?_
                        refine AllReady.cons rfl (fun K hK => ?_) ?_
                        · go_simp
                          refine hK _ _ ?_
                          clear hK K
                          refine wpAny_ready (rs := [7]) (by kernel_rfl) (by simp) ?_
                          refine AllReady.cons rfl (fun K hK => ?_) ?_
                          · refine step_push (by rfl) _ _ 22 (by rfl) w.heap.size 50 i0 _ 2 32 Try.underlying22 hi hz0 hz1 hz2 rfl (by decide) vr rs.length (repCells rs) (by rfl) HO8.out #[.string f, .string to] (by rfl) (by intro x hx; simp at hx; rcases hx with rfl | rfl <;> rfl) (by rfl) (by have := HL.out.1; have := HN6.out; unfold maxLen; omega) (by have := HL.out.1; have := HN6.out; omega) HD8.out.below.size ?_
                            intro gg cc w9 hown hg9
                            have HD9 := Lib.hid (HD8.out.push HO8.out (by decide) (by decide) (by decide) hg9)
                            have HO9 := Lib.hid hown
                            clear hown hg9
                            have c9 := HD9.out.cell 2 rfl
                            have f9 := HD9.out.fz 2
                            refine hK _ _ ?_
                            clear hK K
                            refine takeA (i := 8) (d := some 46) (v := ?_) rfl rfl (by kernel_rfl) (by kernel_rfl) (by kernel_rfl) (fun _ _ _ h => h) (Or.inl ⟨by kernel_rfl, ?_⟩) ?_
                            rotate_left
                            · intro w; go_simp; try with_reducible rfl
                            try simp only [put_norm]
                            refine wpAny_ready (rs := [9]) (by kernel_rfl) (by simp) ?_
                            refine AllReady.cons rfl (fun K hK => ?_) ?_
                            · go_simp
                              refine hK _ _ ?_
                              clear hK K
                              refine wpAny_done (by kernel_rfl) ?_ _
                              refine NoPanic.normal ?_
                              go_wp2_with fail
                              refine ⟨⟨k + 1, pb, rs ++ [(f, to)], _, by omega, rfl, Lib.hid ⟨by rw [List.length_append, HL.out.1]; rfl, HPb.out⟩, Lib.hid (HD9.out.set 2 _), Lib.hid ?_, Lib.hid ?_, Lib.hid (by rw [HT.out]; exact HS2.out)⟩, by simp [intOf]; omega⟩
                              · rw [← repCells_snoc, List.length_append, List.length_singleton]
                                exact own_set HD9.out HO9.out (by decide)
                              · intro x hx
                                rcases List.mem_append.1 hx with hx | hx
                                · exact HSz.out x hx
                                · simp only [List.mem_singleton] at hx
                                  subst hx
                                  exact HFs.out
                            exact AllReady.nil
                          exact AllReady.nil
                        exact AllReady.nil
                      exact AllReady.nil
                    refine AllReady.cons rfl (fun K hK => ?_) ?_
                    · go_simp
                      refine HF2.out.mono ?_
                      rintro e w8 ⟨rfl, hk8, hr8⟩
                      have HD8 := Lib.hid (HD7.out.call (((Kept.refl _ w7).drew).trans hk8) hr8)
                      have HO8 := Lib.hid (((((Kept.refl _ w7).drew).trans hk8).own HO7.out) (ownNot HO7.out HD7.out.rdr (by decide)))
                      clear hk8 hr8
                      have c8 := HD8.out.cell 2 rfl
                      have ca8 := fun o => (HD8.out.kept ((Kept.refl [] w8).alloc o)).cell 2 rfl
                      refine hK _ _ ?_
                      clear hK K
                      refine takeA (i := 5) (d := some 43) (v := ?_) rfl rfl (by kernel_rfl) (by kernel_rfl) (by kernel_rfl) (fun _ _ _ h => h) (Or.inl ⟨by kernel_rfl, ?_⟩) ?_
                      rotate_left
                      · intro w; go_simp; try with_reducible rfl
                      try simp only [put_norm]
                      refine wpAny_ready (rs := [1, 6]) (by kernel_rfl) (by simp) ?_
                      refine AllReady.cons rfl (fun K hK => ?_) ?_
                      · go_simp
                        refine hK _ _ ?_
                        clear hK K
                        refine wpAny_ready (rs := [6]) (by kernel_rfl) (by simp) ?_
                        refine AllReady.cons rfl (fun K hK => ?_) ?_
                        · go_simp
                          refine hK _ _ ?_
                          clear hK K
                          refine wpAny_ready (rs := [7]) (by kernel_rfl) (by simp) ?_
                          refine AllReady.cons rfl (fun K hK => ?_) ?_
                          · refine step_push (by rfl) _ _ 22 (by rfl) w.heap.size 50 i0 _ 2 32 Try.underlying22 hi hz0 hz1 hz2 rfl (by decide) vr rs.length (repCells rs) (by rfl) HO8.out #[.string f, .string to] (by rfl) (by intro x hx; simp at hx; rcases hx with rfl | rfl <;> rfl) (by rfl) (by have := HL.out.1; have := HN6.out; unfold maxLen; omega) (by have := HL.out.1; have := HN6.out; omega) HD8.out.below.size ?_
                            intro gg cc w9 hown hg9
                            have HD9 := Lib.hid (HD8.out.push HO8.out (by decide) (by decide) (by decide) hg9)
                            have HO9 := Lib.hid hown
                            clear hown hg9
                            have c9 := HD9.out.cell 2 rfl
                            have f9 := HD9.out.fz 2
                            refine hK _ _ ?_
                            clear hK K
                            refine takeA (i := 8) (d := some 46) (v := ?_) rfl rfl (by kernel_rfl) (by kernel_rfl) (by kernel_rfl) (fun _ _ _ h => h) (Or.inl ⟨by kernel_rfl, ?_⟩) ?_
                            rotate_left
                            · intro w; go_simp; try with_reducible rfl
                            try simp only [put_norm]
                            refine wpAny_ready (rs := [9]) (by kernel_rfl) (by simp) ?_
                            refine AllReady.cons rfl (fun K hK => ?_) ?_
                            · go_simp
                              refine hK _ _ ?_
                              clear hK K
                              refine wpAny_done (by kernel_rfl) ?_ _
                              refine NoPanic.normal ?_
                              go_wp2_with fail
                              refine ⟨⟨k + 1, pb, rs ++ [(f, to)], _, by omega, rfl, Lib.hid ⟨by rw [List.length_append, HL.out.1]; rfl, HPb.out⟩, Lib.hid (HD9.out.set 2 _), Lib.hid ?_, Lib.hid ?_, Lib.hid (by rw [HT.out]; exact HS2.out)⟩, by simp [intOf]; omega⟩
                              · rw [← repCells_snoc, List.length_append, List.length_singleton]
                                exact own_set HD9.out HO9.out (by decide)
                              · intro x hx
                                rcases List.mem_append.1 hx with hx | hx
                                · exact HSz.out x hx
                                · simp only [List.mem_singleton] at hx
                                  subst hx
                                  exact HFs.out
                            exact AllReady.nil
                          exact AllReady.nil
                        exact AllReady.nil
                      refine AllReady.cons rfl (fun K hK => ?_) ?_
                      · go_simp
                        refine hK _ _ ?_
                        clear hK K
                        refine wpAny_ready (rs := [1]) (by kernel_rfl) (by simp) ?_
                        refine AllReady.cons rfl (fun K hK => ?_) ?_
                        · go_simp
                          refine hK _ _ ?_
                          clear hK K
                          refine wpAny_ready (rs := [7]) (by kernel_rfl) (by simp) ?_
                          refine AllReady.cons rfl (fun K hK => ?_) ?_
                          · refine step_push (by rfl) _ _ 22 (by rfl) w.heap.size 50 i0 _ 2 32 Try.underlying22 hi hz0 hz1 hz2 rfl (by decide) vr rs.length (repCells rs) (by rfl) HO8.out #[.string f, .string to] (by rfl) (by intro x hx; simp at hx; rcases hx with rfl | rfl <;> rfl) (by rfl) (by have := HL.out.1; have := HN6.out; unfold maxLen; omega) (by have := HL.out.1; have := HN6.out; omega) HD8.out.below.size ?_
                            intro gg cc w9 hown hg9
                            have HD9 := Lib.hid (HD8.out.push HO8.out (by decide) (by decide) (by decide) hg9)
                            have HO9 := Lib.hid hown
                            clear hown hg9
                            have c9 := HD9.out.cell 2 rfl
                            have f9 := HD9.out.fz 2
                            refine hK _ _ ?_
                            clear hK K
                            refine takeA (i := 8) (d := some 46) (v := ?_) rfl rfl (by kernel_rfl) (by kernel_rfl) (by kernel_rfl) (fun _ _ _ h => h) (Or.inl ⟨by kernel_rfl, ?_⟩) ?_
                            rotate_left
                            · intro w; go_simp; try with_reducible rfl
                            try simp only [put_norm]
                            refine wpAny_ready (rs := [9]) (by kernel_rfl) (by simp) ?_
                            refine AllReady.cons rfl (fun K hK => ?_) ?_
                            · go_simp
                              refine hK _ _ ?_
                              clear hK K
                              refine wpAny_done (by kernel_rfl) ?_ _
                              refine NoPanic.normal ?_
                              go_wp2_with fail
                              refine ⟨⟨k + 1, pb, rs ++ [(f, to)], _, by omega, rfl, Lib.hid ⟨by rw [List.length_append, HL.out.1]; rfl, HPb.out⟩, Lib.hid (HD9.out.set 2 _), Lib.hid ?_, Lib.hid ?_, Lib.hid (by rw [HT.out]; exact HS2.out)⟩, by simp [intOf]; omega⟩
                              · rw [← repCells_snoc, List.length_append, List.length_singleton]
                                exact own_set HD9.out HO9.out (by decide)
                              · intro x hx
                                rcases List.mem_append.1 hx with hx | hx
                                · exact HSz.out x hx
                                · simp only [List.mem_singleton] at hx
                                  subst hx
                                  exact HFs.out
                            exact AllReady.nil
                          exact AllReady.nil
                        exact AllReady.nil
                      exact AllReady.nil
                    exact AllReady.nil
              · obtain rfl : k = n := by omega
                have HR5 : Hid (R = secsR s l t rs p) := Lib.hid (by rw [HR4.out, HS.out, Nat.sub_self, manyR]; simp [prep])
                have c0 := HD.out.cell 0 rfl
                have c1 := HD.out.cell 1 rfl
                have c2 := HD.out.cell 2 rfl
                have c3 := HD.out.cell 3 rfl
                have c4 := HD.out.cell 4 rfl
                have c5 := HD.out.cell 5 rfl
                have c6 := HD.out.cell 6 rfl
                have hSet := settings_any (leastV l : Nat) t rs vr (.slice none 0 0) (.slice none 0 0) (.slice none 0 0) (.slice none 0 0) wr (reps_of_own HO.out) (by have := HTs.out; omega) (fun k h => by have := HSz.out _ (List.getElem_mem h); omega)
                cases hset : settingsB (leastV l : Nat) t rs with
                | false =>
                  rw [hset] at hSet
                  have HR6 : Hid (R = .error 201) := Lib.hid (by rw [HR5.out, secsR, if_pos hset])
                  have HSet := Lib.hid hSet
                  clear hSet hset
                  go_wp2_with fail
                  refine HSet.out.mono ?_
                  rintro e w8 ⟨rfl, hb8⟩
                  have HK8 : Hid (Kept [w.heap.size + 1 + 1] wr w8) := Lib.hid (Kept.of_below hb8)
                  clear hb8
                  go_wp2_with fail
                  refine (must_any _ _ _ _).mono ?_
                  rintro e w' ⟨⟨hc, rfl⟩ | ⟨hc, rfl⟩, rfl⟩
                  · exact absurd hc (by simp)
                  · exact HD.out.fault HK8.out 201 R HR6.out _ rfl rfl
                | true =>
                  rw [hset] at hSet
                  have HR6 : Hid (R = match manyR (secR s) 4 p with | .error c => .error c | .ok (As, p) => endR s ⟨leastV l, t, rs, As⟩ p) := Lib.hid (by rw [HR5.out, secsR, if_neg (by rw [hset]; simp)]; rfl)
                  have HSet := Lib.hid hSet
                  clear hSet hset
                  go_wp2_with fail
                  refine HSet.out.mono ?_
                  rintro e w8 ⟨rfl, hb8⟩
                  have HD8 := Lib.hid (HD.out.kept (Kept.of_below hb8))
                  have HO8 := Lib.hid ((Kept.of_below hb8 (E := [])).own HO.out (fun _ _ h => by cases h))
                  have HPp := Lib.hid HL.out.2
                  clear hb8 c0 c1 c2 c3 c4 c5 c6
                  go_wp2_with fail
                  refine (must_any _ _ _ _).mono ?_
                  rintro e w9 ⟨⟨hc, rfl⟩ | ⟨hc, rfl⟩, rfl⟩
                  rotate_left
                  · exact absurd hc (by simp)
                  clear hc
                  go_wp2_with fail
                  obtain ⟨RX, hRX⟩ : ∃ RX, manyR (secR s) 4 p = RX := ⟨_, rfl⟩
                  rw [hRX] at HR6
                  have HRX := Lib.hid hRX
                  clear hRX HS HD HO HRR HR4 HR5
                  go_loopw [8, 52] (fun _ i W => ∃ (j q : Nat) (As : List (List St)) (v0 v1 v2 v3 : Value), j ≤ 4 ∧ i = .int .i64 j ∧ Hid (As.length = j ∧ q ≤ s.size) ∧ Hid (DSt w s W q #[.int .i64 (leastV l : Nat), .string t, vr, v0, v1, v2, v3]) ∧ Hid (W.ownsRow w.heap.size 50 2 vr rs.length (repCells rs)) ∧ Hid (SecR W (w.heap.size + 1 + 1 + 1) [v0, v1, v2, v3] As) ∧ Hid (RX = prep As (manyR (secR s) (4 - j) q))) (fun _ i _ => 4 - (intOf i).toNat)
                  case atStart => exact ⟨0, p, [], _, _, _, _, by omega, rfl, Lib.hid ⟨rfl, HPp.out⟩, HD8, HO8, Lib.hid (SecR.nil_ _ _ _ HD8.out.size), Lib.hid (by rw [← HRX.out]; exact (prep_nil _).symm)⟩
                  case round =>
                    obtain ⟨j, q, As, v0, v1, v2, v3, hj, rfl, HL2, HD, HO, HSc, HS⟩ := hrel
                    by_cases hlt2 : j < 4
                    · have HS1 : Hid (RX = prep As (manyR (secR s) (3 - j + 1) q)) := Lib.hid (by rw [HS.out, show 4 - j = 3 - j + 1 by omega])
                      have hSec := HSec.out wr q HD.out.rdr HL2.out.2
                      cases hsc : secR s q with
                      | error c =>
                        rw [hsc] at hSec
                        have HR7 : Hid (R = .error c) := Lib.hid (by rw [HR6.out, HS1.out, manyR_err _ _ _ _ _ hsc])
                        have HSe := Lib.hid hSec
                        clear hSec hsc
                        go_wp2_with fail
                        refine HSe.out.mono ?_
                        rintro e w' ⟨rfl, hk⟩
                        exact HD.out.fault hk c R HR7.out _ rfl rfl
                      | ok r =>
                        obtain ⟨A, q2⟩ := r
                        rw [hsc] at hSec
                        have HQ3 := Lib.hid (secR_le hsc HL2.out.2)
                        have HS2 : Hid (RX = prep (As ++ [A]) (manyR (secR s) (3 - j) q2)) := Lib.hid (by rw [HS1.out, manyR_step _ _ _ _ _ _ hsc])
                        have HSe := Lib.hid hSec
                        clear hSec hsc HS HS1
                        have hj4 : j = 0 ∨ j = 1 ∨ j = 2 ∨ j = 3 := by omega
                        rcases hj4 with rfl | rfl | rfl | rfl
                        all_goals
                          go_wp2_with fail
                          refine HSe.out.mono ?_
                          rintro e w10 ⟨v, L, rfl, hk, hr, hO1, hR1, hL1⟩
                          have hA : AutAt w10 (fun g => wr.heap.size ≤ g) v A := by rw [← hL1]; exact hO1.aut
                          obtain ⟨AX, capX, rfl, _⟩ := id hA
                          have HD10 := Lib.hid (HD.out.call hk hr)
                          have HO10 := Lib.hid (hk.own HO.out (ownNot HO.out HD.out.rdr (by decide)))
                          have HSn : Hid (∀ vs' : List Value, vs'.getD As.length undef = .slice AX A.length capX → (∀ j, j < As.length → vs'.getD j undef = [v0, v1, v2, v3].getD j undef) → SecR w10 (w.heap.size + 1 + 1 + 1) vs' (As ++ [A])) := Lib.hid (fun vs' h1 h2 => HSc.out.snoc hk (by simp) hO1 hR1 hL1 h1 h2)
                          clear hk hr hA hO1 hR1 hL1
                          have d3 := HD10.out.cell 3 rfl
                          have d4 := HD10.out.cell 4 rfl
                          have d5 := HD10.out.cell 5 rfl
                          have d6 := HD10.out.cell 6 rfl
                          have g3 := HD10.out.fz 3
                          have g4 := HD10.out.fz 4
                          have g5 := HD10.out.fz 5
                          have g6 := HD10.out.fz 6
                          go_wp2_with fail
                          refine ⟨⟨_ + 1, q2, As ++ [A], _, _, _, _, by omega, rfl, Lib.hid ⟨by rw [List.length_append, HL2.out.1]; rfl, HQ3.out⟩, Lib.hid (HD10.out.set _ _), Lib.hid (own_set HD10.out HO10.out (by decide)), Lib.hid (SecR.kept (HSn.out _ (by rw [HL2.out.1]; rfl) (fun j h => by rw [HL2.out.1] at h; rcases j with _ | _ | _ | j <;> first | rfl | omega)) ((Kept.refl [w.heap.size] w10).set _ _ _ (.inl (by simp))) (by simp <;> omega)), HS2⟩, by simp [intOf]⟩
                    · obtain rfl : j = 4 := by omega
                      have HR7 : Hid (R = endR s ⟨leastV l, t, rs, As⟩ q) := Lib.hid (by rw [HR6.out, HS.out, Nat.sub_self, manyR]; simp [prep])
                      have r1 := HD.out.rdr.cells.2.1
                      by_cases hq : q = s.size
                      · have hqs : ((q : Int) == (s.size : Int)) = true := by simp [hq]
                        have HR8 : Hid (R = .ok ⟨leastV l, t, rs, As⟩) := Lib.hid (by rw [HR7.out, endR, if_pos hq])
                        clear hq
                        go_wp2_with fail
                        refine (must_any _ _ _ _).mono ?_
                        rintro e w9 ⟨⟨hc, rfl⟩ | ⟨hc, rfl⟩, rfl⟩
                        rotate_left
                        · exact absurd hc (by simp)
                        clear hc r1
                        have HSl : Hid (∀ v, v ∈ [vr, v0, v1, v2, v3] → ∃ A n cap, v = .slice A n cap) := Lib.hid (by
                          obtain ⟨XA, xc, e1, _⟩ := reps_of_own HO.out
                          have key : ∀ j (h : j < As.length), ∃ A n cap, [v0, v1, v2, v3].getD j undef = .slice A n cap := fun j h => by
                            obtain ⟨A, cap, e, _⟩ := HSc.out.secP j h
                            exact ⟨_, _, _, e⟩
                          have hl := HL2.out.1
                          intro v hv
                          simp only [List.mem_cons, List.not_mem_nil, or_false] at hv
                          rcases hv with rfl | rfl | rfl | rfl | rfl
                          · exact ⟨_, _, _, e1⟩
                          · exact key 0 (by omega)
                          · exact key 1 (by omega)
                          · exact key 2 (by omega)
                          · exact key 3 (by omega))
                        have HZ0 := Lib.hid (book_again HD.out HO.out HSc.out)
                        obtain ⟨xA, xn, xc, hx⟩ := HSl.out vr (by simp)
                        obtain ⟨yA, yn, yc, hy⟩ := HSl.out v0 (by simp)
                        obtain ⟨zA, zn, zc, hz⟩ := HSl.out v1 (by simp)
                        obtain ⟨uA, un, uc, hu⟩ := HSl.out v2 (by simp)
                        obtain ⟨tA, tn, tc, ht⟩ := HSl.out v3 (by simp)
                        subst hx hy hz hu ht
                        have HZ := HZ0
                        clear HZ0 HSl
                        have c0 := HD.out.cell 0 rfl
                        have c1 := HD.out.cell 1 rfl
                        have c2 := HD.out.cell 2 rfl
                        have c3 := HD.out.cell 3 rfl
                        have c4 := HD.out.cell 4 rfl
                        have c5 := HD.out.cell 5 rfl
                        have c6 := HD.out.cell 6 rfl
                        have bf := HD.out.fz
                        have ee : wr.cell? ⟨w.heap.size + 1, 0, none⟩ = some (.int .i64 0) := by rw [Lib.cell_of_heap HD.out.err]; rfl
                        have ef : wr.frozen? ⟨w.heap.size + 1, 0, none⟩ = false := Lib.frozen_of_heap HD.out.err 0
                        go_wp2_with fail
                        refine leave_ok w.heap.size (w.heap.size + 1) _ _ _ _ _ _ _ _ _ _ _ rfl rfl HZ.out.1 HZ.out.2.1 ?_
                        rw [HR8.out]
                        exact ⟨_, _, _, _, _, rfl, HZ.out.2.2.1, HZ.out.2.2.2.1, HL2.out.1, HZ.out.2.2.2.2⟩
                      · have hqs : ((q : Int) == (s.size : Int)) = false := by rw [beq_eq_false_iff_ne]; omega
                        have HR8 : Hid (R = .error 202) := Lib.hid (by rw [HR7.out, endR, if_neg hq])
                        clear hq
                        go_wp2_with fail
                        refine (must_any _ _ _ _).mono ?_
                        rintro e w9 ⟨⟨hc, rfl⟩ | ⟨hc, rfl⟩, rfl⟩
                        · exact absurd hc (by simp)
                        · exact HD.out.fault (Kept.refl _ _) 202 R HR8.out _ rfl rfl
end
end Go.Proofs.Ytehbjfjhalpgaaa
