/-
  The law's walk: a book is read back from its bytes.
-/
import Derived.Test.YtehbjfjhalpgaaaRows
import Derived.Test.YtehbjfjhalpgaaaEnc8
import Derived.Test.YtehbjfjhalpgaaaEnc9
namespace Go.Proofs.Ytehbjfjhalpgaaa
open Go.RowKit

theorem encV_cases (n : Int) (t : ByteArray) (rs : List Rp) (As : List (List St)) (hl : As.length = 4) :
    (∃ c : Int, c ≠ 0 ∧ encV n t rs As = (⟨#[]⟩, c)) ∨ ∃ m : Nat, n = m ∧ BkOk ⟨m, t, rs, As⟩ ∧ encV n t rs As = (mkS (bkL ⟨m, t, rs, As⟩), 0) ∧ (bkL ⟨m, t, rs, As⟩).length ≤ 11853240144 := by
  cases hset : settingsB n t rs
  · exact .inl ⟨201, by decide, encV_set n t rs As hset⟩
  · by_cases hsh : ∀ A ∈ As, shapeB A = true
    · obtain ⟨h1, h2, h3, h4, _⟩ := settings_parts hset
      obtain ⟨m, rfl⟩ : ∃ m : Nat, n = m := ⟨n.toNat, by omega⟩
      refine .inr ⟨m, rfl, ⟨hset, hl, hsh, tryOk_len h4⟩, ?_, ?_⟩
      · rw [encV_ok _ _ _ _ hset hsh, Int.toNat_natCast]; rfl
      · show (encH m t rs ++ As.flatMap encA).length ≤ _
        have e1 := encH_len (n := m) (t := t) (rs := rs) (by omega) h3
        have e2 := flat_len As encA 2963275786 (fun A hA => encA_len (hsh A hA))
        rw [List.length_append]
        omega
    · refine .inl ⟨190, by decide, ?_⟩
      have : ∃ j, ∃ hj : j < As.length, shapeB As[j] = false := by
        simp only [Classical.not_forall] at hsh
        obtain ⟨A, hA, hf⟩ := hsh
        obtain ⟨j, hj, rfl⟩ := List.mem_iff_getElem.1 hA
        exact ⟨j, hj, by simpa using hf⟩
      obtain ⟨j, hj, hf⟩ := this
      exact encV_bad n t rs As hset j hj hf
/-- Decode of a book's bytes. -/
theorem Decode_bk (m : Nat) (t : ByteArray) (rs : List Rp) (As : List (List St)) (s : ByteArray) (w : World) (hb : BkOk ⟨m, t, rs, As⟩) (hs : s.data.toList = bkL ⟨m, t, rs, As⟩) (hz : s.size ≤ 562949953421311) :
    Calls Try.prog 15 #[.string s] w fun e w' => ∃ vr v0 v1 v2 v3, e = .returned (.tuple #[.agg #[.int .i64 (m : Int), .string t, vr, v0, v1, v2, v3], .int .i64 0]) ∧ Below w.heap.size w w' ∧ BkAt w' (fun _ => True) vr v0 v1 v2 v3 rs As := by
  have hd := decR_enc (r := []) hb (by rw [hs, List.append_nil])
  rw [if_pos rfl] at hd
  have h := Decode_b s w hz
  rw [hd] at h
  exact h

set_option maxHeartbeats 8000000 in
set_option maxRecDepth 100000 in
theorem back_walk (n : Int) (t : ByteArray) (rs : List Rp) (As : List (List St)) (vr v0 v1 v2 v3 : Value) (w : World) (h : BkAt w (fun _ => True) vr v0 v1 v2 v3 rs As) (hs : Small rs As) (ht : Texts t rs) :
    Calls Try.prog 5 #[.agg #[.int .i64 n, .string t, vr, v0, v1, v2, v3]] w fun e w' => e = .returned (.bool true) ∧ Below w.heap.size w w' := by
  have hE := fun vr v0 v1 v2 v3 W h => Encode_b n t rs As vr v0 v1 v2 v3 W h ht
  have hR := fun vr v0 v1 v2 v3 W h => rEncode_b n t rs As vr v0 v1 v2 v3 W h ht
  have hcs := encV_cases n t rs As h.len
  have HS := Lib.hid hs
  obtain ⟨X, k, X0, n0, k0, X1, n1, k1, X2, n2, k2, X3, n3, k3, rfl, rfl, rfl, rfl, rfl⟩ := h.form
  obtain ⟨b1, hb1⟩ : ∃ b, w.heap.size = b := ⟨_, rfl⟩
  obtain ⟨W0, hW0⟩ : ∃ W0, w.alloc (.cells #[.int .i64 n, .string t, .slice X rs.length k, .slice X0 n0 k0, .slice X1 n1 k1, .slice X2 n2 k2, .slice X3 n3 k3] 26) = W0 := ⟨_, rfl⟩
  have hz0 : W0.heap[b1]? = some (.cells #[.int .i64 n, .string t, .slice X rs.length k, .slice X0 n0 k0, .slice X1 n1 k1, .slice X2 n2 k2, .slice X3 n3 k3] 26 (0, 0)) := by rw [← hW0, ← hb1]; exact heap_alloc_new w _
  have hbw' : Below w.heap.size w W0 := by rw [← hW0]; exact (Below.refl _ _).alloc (Nat.le_refl _) _
  have HA : Hid (∀ W', Below W0.heap.size W0 W' → BkAt W' (fun _ => True) (.slice X rs.length k) (.slice X0 n0 k0) (.slice X1 n1 k1) (.slice X2 n2 k2) (.slice X3 n3 k3) rs As) := Lib.hid (fun W' hB => (h.keep hbw').keep hB)
  have HC : Hid (∀ W', Below W0.heap.size W0 W' → W'.heap[b1]? = some (.cells #[.int .i64 n, .string t, .slice X rs.length k, .slice X0 n0 k0, .slice X1 n1 k1, .slice X2 n2 k2, .slice X3 n3 k3] 26 (0, 0))) := Lib.hid (fun W' hB => (hB.block _ (block_lt hz0)).trans hz0)
  have HBW := Lib.hid hbw'
  have HW0 := Lib.hid hW0
  have HB1 := Lib.hid hb1
  have hemp : (⟨#[]⟩ : ByteArray).toList = [] := by rw [Lib.toList_data]
  clear hs h hW0 hz0 hbw' hb1 ht
  rcases hcs with ⟨c, hc, hV⟩ | ⟨m, rfl, hok, hV, hlen⟩
  all_goals
    rw [hV] at hE hR
    dsimp only at hE hR
    have HE := Lib.hid hE
    have HR := Lib.hid hR
    clear hV hE hR
  · go_enter Try.func5, Try.ntmps5
    go_wp2_with fail
    rw [HW0.out, HB1.out]
    refine (wakes_any W0).mono ?_
    rintro e w1 ⟨rfl, hb1⟩
    have HB01 := Lib.hid hb1
    clear hb1
    have cc := two_boxes (HC.out w1 HB01.out) (HC.out w1 HB01.out)
    go_wp2_with fail
    clear cc
    refine (twin_any n t rs As _ _ _ _ _ w1 (HA.out w1 HB01.out) HS.out).mono ?_
    rintro e w2 ⟨ur, u0, u1, u2, u3, rfl, hb2, hk2⟩
    have HB02 := Lib.hid (HB01.out.trans (hb2.mono HB01.out.size))
    have HK2 := Lib.hid hk2
    clear hb2 hk2
    go_wp2_with fail
    refine (HE.out _ _ _ _ _ w2 HK2.out).mono ?_
    rintro e w3 ⟨rfl, hb3⟩
    have HB03 := Lib.hid (HB02.out.trans (hb3.mono HB02.out.size))
    clear hb3
    have cc := two_boxes (HC.out w3 HB03.out) (HC.out w3 HB03.out)
    go_wp2_with fail
    clear cc
    refine (ref_b n t rs As _ _ _ _ _ w3 (HA.out w3 HB03.out) HS.out).mono ?_
    rintro e w4 ⟨zr, z0, z1, z2, z3, rfl, hb4, hk4⟩
    have HB04 := Lib.hid (HB03.out.trans (hb4.mono HB03.out.size))
    have HK4 := Lib.hid hk4
    clear hb4 hk4
    go_wp2_with fail
    refine (HR.out _ _ _ _ _ w4 HK4.out).mono ?_
    rintro e w5 ⟨rfl, hb5⟩
    have HB05 := Lib.hid (HB04.out.trans (hb5.mono HB04.out.size))
    clear hb5
    have hcn : (c != 0) = true := by simpa using hc
    have hcn2 : (c == 0) = false := by simpa using hc
    go_wp2_with fail
    go_ret
    exact ⟨rfl, HBW.out.trans (HB05.out.mono HBW.out.size)⟩
  · have HD := Lib.hid (fun W => Decode_bk m t rs As (mkS (bkL ⟨m, t, rs, As⟩)) W hok rfl (by rw [mkS_size]; omega))
    obtain ⟨s, hsn⟩ : ∃ s, mkS (bkL ⟨m, t, rs, As⟩) = s := ⟨_, rfl⟩
    rw [hsn] at HE HR HD
    clear hok hlen hsn
    go_enter Try.func5, Try.ntmps5
    go_wp2_with fail
    rw [HW0.out, HB1.out]
    refine (wakes_any W0).mono ?_
    rintro e w1 ⟨rfl, hb1⟩
    have HB01 := Lib.hid hb1
    clear hb1
    have cc := two_boxes (HC.out w1 HB01.out) (HC.out w1 HB01.out)
    go_wp2_with fail
    clear cc
    refine (twin_any m t rs As _ _ _ _ _ w1 (HA.out w1 HB01.out) HS.out).mono ?_
    rintro e w2 ⟨ur, u0, u1, u2, u3, rfl, hb2, hk2⟩
    have HB02 := Lib.hid (HB01.out.trans (hb2.mono HB01.out.size))
    have HK2 := Lib.hid hk2
    clear hb2 hk2
    go_wp2_with fail
    refine (HE.out _ _ _ _ _ w2 HK2.out).mono ?_
    rintro e w3 ⟨rfl, hb3⟩
    have HB03 := Lib.hid (HB02.out.trans (hb3.mono HB02.out.size))
    clear hb3
    have cc := two_boxes (HC.out w3 HB03.out) (HC.out w3 HB03.out)
    go_wp2_with fail
    clear cc
    refine (ref_b m t rs As _ _ _ _ _ w3 (HA.out w3 HB03.out) HS.out).mono ?_
    rintro e w4 ⟨zr, z0, z1, z2, z3, rfl, hb4, hk4⟩
    have HB04 := Lib.hid (HB03.out.trans (hb4.mono HB03.out.size))
    have HK4 := Lib.hid hk4
    clear hb4 hk4
    go_wp2_with fail
    refine (HR.out _ _ _ _ _ w4 HK4.out).mono ?_
    rintro e w5 ⟨rfl, hb5⟩
    have HB05 := Lib.hid (HB04.out.trans (hb5.mono HB04.out.size))
    clear hb5
    go_wp2_with fail
    refine (HD.out w5).mono ?_
    rintro e w6 ⟨yr, y0, y1, y2, y3, rfl, hb6, hk6⟩
    obtain ⟨Y, l, Y0, m0, l0, Y1, m1, l1, Y2, m2, l2, Y3, m3, l3, rfl, rfl, rfl, rfl, rfl⟩ := hk6.form
    obtain ⟨b2, hb2⟩ : ∃ b, w6.heap.size = b := ⟨_, rfl⟩
    obtain ⟨W6, hW6⟩ : ∃ W, w6.alloc (.cells #[.int .i64 (m : Int), .string t, .slice Y rs.length l, .slice Y0 m0 l0, .slice Y1 m1 l1, .slice Y2 m2 l2, .slice Y3 m3 l3] 26) = W := ⟨_, rfl⟩
    have hz6 : W6.heap[b2]? = some (.cells #[.int .i64 (m : Int), .string t, .slice Y rs.length l, .slice Y0 m0 l0, .slice Y1 m1 l1, .slice Y2 m2 l2, .slice Y3 m3 l3] 26 (0, 0)) := by rw [← hW6, ← hb2]; exact heap_alloc_new w6 _
    have hb66 : Below w6.heap.size w6 W6 := by rw [← hW6]; exact (Below.refl _ _).alloc (Nat.le_refl _) _
    have hb06 : Below W0.heap.size W0 W6 := (HB05.out.trans (hb6.mono HB05.out.size)).trans (hb66.mono (Nat.le_trans HB05.out.size hb6.size))
    have HB06 := Lib.hid hb06
    have HK := Lib.hid (fun W' (hB : Below W6.heap.size W6 W') => (hk6.keep hb66).keep hB)
    have HX : Hid (∀ W', Below W6.heap.size W6 W' → (W'.cell? ⟨b1, 0, none⟩ = some (.int .i64 (m : Int)) ∧ W'.cell? ⟨b1, 1, none⟩ = some (.string t) ∧ W'.cell? ⟨b1, 2, none⟩ = some (.slice X rs.length k) ∧ W'.cell? ⟨b1, 3, none⟩ = some (.slice X0 n0 k0) ∧ W'.cell? ⟨b1, 4, none⟩ = some (.slice X1 n1 k1) ∧ W'.cell? ⟨b1, 5, none⟩ = some (.slice X2 n2 k2) ∧ W'.cell? ⟨b1, 6, none⟩ = some (.slice X3 n3 k3)) ∧ (W'.cell? ⟨b2, 0, none⟩ = some (.int .i64 (m : Int)) ∧ W'.cell? ⟨b2, 1, none⟩ = some (.string t) ∧ W'.cell? ⟨b2, 2, none⟩ = some (.slice Y rs.length l) ∧ W'.cell? ⟨b2, 3, none⟩ = some (.slice Y0 m0 l0) ∧ W'.cell? ⟨b2, 4, none⟩ = some (.slice Y1 m1 l1) ∧ W'.cell? ⟨b2, 5, none⟩ = some (.slice Y2 m2 l2) ∧ W'.cell? ⟨b2, 6, none⟩ = some (.slice Y3 m3 l3))) := Lib.hid (fun W' hB => two_boxes (HC.out W' (hb06.trans (hB.mono hb06.size))) ((hB.block _ (block_lt hz6)).trans hz6))
    have HW6 := Lib.hid hW6
    have HB6 := Lib.hid hb2
    clear hb6 hk6 hb2 hW6 hz6 hb66 hb06
    go_wp2_with fail
    rw [HW6.out, HB6.out]
    refine wp_region_held_drew (S := fun W' => (W'.cell? ⟨b1, 0, none⟩ = some (.int .i64 (m : Int)) ∧ W'.cell? ⟨b1, 1, none⟩ = some (.string t) ∧ W'.cell? ⟨b1, 2, none⟩ = some (.slice X rs.length k) ∧ W'.cell? ⟨b1, 3, none⟩ = some (.slice X0 n0 k0) ∧ W'.cell? ⟨b1, 4, none⟩ = some (.slice X1 n1 k1) ∧ W'.cell? ⟨b1, 5, none⟩ = some (.slice X2 n2 k2) ∧ W'.cell? ⟨b1, 6, none⟩ = some (.slice X3 n3 k3)) ∧ (W'.cell? ⟨b2, 0, none⟩ = some (.int .i64 (m : Int)) ∧ W'.cell? ⟨b2, 1, none⟩ = some (.string t) ∧ W'.cell? ⟨b2, 2, none⟩ = some (.slice Y rs.length l) ∧ W'.cell? ⟨b2, 3, none⟩ = some (.slice Y0 m0 l0) ∧ W'.cell? ⟨b2, 4, none⟩ = some (.slice Y1 m1 l1) ∧ W'.cell? ⟨b2, 5, none⟩ = some (.slice Y2 m2 l2) ∧ W'.cell? ⟨b2, 6, none⟩ = some (.slice Y3 m3 l3))) (by kernel_rfl) ?_ (fun hHeld => ?_)
    · exact HX.out _ (Below.refl _ _).drew
    refine takeH (i := 0) (d := some 36) (v := ?_) rfl rfl (by kernel_rfl) (by kernel_rfl) (by kernel_rfl) (fun _ _ _ h => h) (Or.inl ⟨by kernel_rfl, ?_⟩) hHeld ?_
    rotate_left
    · intro w hSw; (try dsimp only at hSw); go_simp; try with_reducible rfl
    try simp only [put_norm]
    refine takeH (i := 1) (d := some 37) (v := ?_) rfl rfl (by kernel_rfl) (by kernel_rfl) (by kernel_rfl) (fun _ _ _ h => h) (Or.inl ⟨by kernel_rfl, ?_⟩) hHeld ?_
    rotate_left
    · intro w hSw; (try dsimp only at hSw); go_simp; try with_reducible rfl
    try simp only [put_norm]
    refine takeH (i := 2) (d := some 38) (v := ?_) rfl rfl (by kernel_rfl) (by kernel_rfl) (by kernel_rfl) (fun _ _ _ h => h) (Or.inl ⟨by kernel_rfl, ?_⟩) hHeld ?_
    rotate_left
    · intro w hSw; (try dsimp only at hSw); go_simp; try with_reducible rfl
    try simp only [put_norm]
    refine takeH (i := 3) (d := some 39) (v := ?_) rfl rfl (by kernel_rfl) (by kernel_rfl) (by kernel_rfl) (fun _ _ _ h => h) (Or.inl ⟨by kernel_rfl, ?_⟩) hHeld ?_
    rotate_left
    · intro w hSw; (try dsimp only at hSw); go_simp; try with_reducible rfl
    try simp only [put_norm]
    refine takeH (i := 4) (d := some 40) (v := ?_) rfl rfl (by kernel_rfl) (by kernel_rfl) (by kernel_rfl) (fun _ _ _ h => h) (Or.inl ⟨by kernel_rfl, ?_⟩) hHeld ?_
    rotate_left
    · intro w hSw; (try dsimp only at hSw); go_simp; try with_reducible rfl
    try simp only [put_norm]
    refine takeH (i := 5) (d := some 41) (v := ?_) rfl rfl (by kernel_rfl) (by kernel_rfl) (by kernel_rfl) (fun _ _ _ h => h) (Or.inl ⟨by kernel_rfl, ?_⟩) hHeld ?_
    rotate_left
    · intro w hSw; (try dsimp only at hSw); go_simp; try with_reducible rfl
    try simp only [put_norm]
    refine takeH (i := 6) (d := some 42) (v := ?_) rfl rfl (by kernel_rfl) (by kernel_rfl) (by kernel_rfl) (fun _ _ _ h => h) (Or.inl ⟨by kernel_rfl, ?_⟩) hHeld ?_
    rotate_left
    · intro w hSw; (try dsimp only at hSw); go_simp; try with_reducible rfl
    try simp only [put_norm]
    refine takeH (i := 7) (d := some 43) (v := ?_) rfl rfl (by kernel_rfl) (by kernel_rfl) (by kernel_rfl) (fun _ _ _ h => h) (Or.inl ⟨by kernel_rfl, ?_⟩) hHeld ?_
    rotate_left
    · intro w hSw; (try dsimp only at hSw); go_simp; try with_reducible rfl
    try simp only [put_norm]
    refine takeH (i := 9) (d := some 45) (v := ?_) rfl rfl (by kernel_rfl) (by kernel_rfl) (by kernel_rfl) (fun _ _ _ h => h) (Or.inl ⟨by kernel_rfl, ?_⟩) hHeld ?_
    rotate_left
    · intro w hSw; (try dsimp only at hSw); go_simp; try with_reducible rfl
    try simp only [put_norm]
    refine wpAnyH_ready (rs := [8]) (by kernel_rfl) (by simp) ?_
    refine AllReadyH.cons rfl (fun K hK => ?_) AllReadyH.nil
    go_simp
    refine (ref_b m t rs As _ _ _ _ _ _ (HA.out _ HB06.out.drew) HS.out).mono ?_
    rintro e w7 ⟨ur, u0, u1, u2, u3, rfl, hb7, hku⟩
    have HB7 : Hid (Below W6.heap.size W6 w7) := Lib.hid ((Below.refl _ _).drew.trans hb7)
    have HKU := Lib.hid hku
    refine hK.out _ _ ?_ (fun hHeld => ?_)
    · exact HX.out w7 HB7.out
    clear hb7 hku
    clear hK K
    refine wpAnyH_ready (rs := [10]) (by kernel_rfl) (by simp) ?_
    refine AllReadyH.cons rfl (fun K hK => ?_) AllReadyH.nil
    go_simp
    refine (ref_b m t rs As _ _ _ _ _ w7 (HK.out _ HB7.out) HS.out).mono ?_
    rintro e w8 ⟨yr, y0, y1, y2, y3, rfl, hb8, hky⟩
    have HB8 : Hid (Below W6.heap.size W6 w8) := Lib.hid (HB7.out.trans (hb8.mono HB7.out.size))
    have HKU8 := Lib.hid (HKU.out.keep hb8)
    have HKY := Lib.hid hky
    refine hK.out _ _ ?_ (fun hHeld => ?_)
    · exact HX.out w8 HB8.out
    clear hb8 hky
    clear hK K
    refine wpAnyH_ready (rs := [11]) (by kernel_rfl) (by simp) ?_
    refine AllReadyH.cons rfl (fun K hK => ?_) AllReadyH.nil
    go_simp
    refine (alike_b m t rs As _ _ _ _ _ _ _ _ _ _ w8 HKU8.out HKY.out HS.out).mono ?_
    rintro e w9 ⟨rfl, hb9⟩
    have HB9 : Hid (Below W6.heap.size W6 w9) := Lib.hid (HB8.out.trans (hb9.mono HB8.out.size))
    refine hK.out _ _ ?_ (fun hHeld => ?_)
    · exact HX.out w9 HB9.out
    clear hb9
    clear hK K
    refine takeH (i := 12) (d := some 48) (v := ?_) rfl rfl (by kernel_rfl) (by kernel_rfl) (by kernel_rfl) (fun _ _ _ h => h) (Or.inl ⟨by kernel_rfl, ?_⟩) hHeld ?_
    rotate_left
    · intro w hSw; (try dsimp only at hSw); go_simp; try with_reducible rfl
    try simp only [put_norm]
    refine takeH (i := 13) (d := some 2) (v := ?_) rfl rfl (by kernel_rfl) (by kernel_rfl) (by kernel_rfl) (fun _ _ _ h => h) (Or.inl ⟨by kernel_rfl, ?_⟩) hHeld ?_
    rotate_left
    · intro w hSw; (try dsimp only at hSw); go_simp; try with_reducible rfl
    try simp only [put_norm]
    refine wpAnyH_done (by kernel_rfl) ?_ _
    go_wp2_with fail
    go_ret
    exact ⟨rfl, by have h2 := HB06.out.trans (HB9.out.mono HB06.out.size); exact HBW.out.trans (h2.mono HBW.out.size)⟩
end Go.Proofs.Ytehbjfjhalpgaaa
