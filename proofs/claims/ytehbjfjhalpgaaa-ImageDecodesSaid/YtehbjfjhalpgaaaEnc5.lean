/-
  The reference's Encode.
-/
import Derived.Test.YtehbjfjhalpgaaaRows
import Derived.Test.YtehbjfjhalpgaaaEnc3
namespace Go.Proofs.Ytehbjfjhalpgaaa
open Go.RowKit

/-- Where the reference's Encode stands. -/
structure RSt (w W : World) (bk : Array Value) : Prop where
  below : Below w.heap.size w W
  book : W.heap[w.heap.size]? = some (.cells bk 37 (0, 0))
theorem RSt.call {w W W' : World} {bk : Array Value} (h : RSt w W bk) (hb : Below W.heap.size W W') : RSt w W' bk :=
  ⟨h.below.trans (hb.mono h.below.size), (hb.block _ (block_lt h.book)).trans h.book⟩
theorem RSt.cell {w W : World} {bk : Array Value} (h : RSt w W bk) (i : Nat) {x : Value} (hx : bk[i]? = some x) : W.cell? ⟨w.heap.size, i, none⟩ = some x := by rw [Lib.cell_of_heap h.book]; exact hx
/-- .. and has bytes of its own: made since wb. -/
theorem RSt.own {w wb W : World} {bk : Array Value} {v : Value} {l : List UInt8} (h : RSt w wb bk) (ho : OwnB wb W v l) : RSt w W bk := h.call ho.below

set_option maxHeartbeats 8000000 in
set_option maxRecDepth 100000 in
theorem rEncode_any (n : Int) (t : ByteArray) (rs : List Rp) (As : List (List St)) (vr v0 v1 v2 v3 : Value) (w : World) (hrv : RepsAt w vr rs) (hl : As.length = 4)
    (hv : SecP w (fun _ => True) [v0, v1, v2, v3] As) (ht : t.size ≤ 140737488355327) (hrs : ∀ k (h : k < rs.length), rs[k].1.size ≤ 140737488355328 ∧ rs[k].2.size ≤ 140737488355328) :
    Calls Try.prog 11 #[.agg #[.int .i64 n, .string t, vr, v0, v1, v2, v3]] w fun e w' => e = .returned (.tuple #[.string (encV n t rs As).1, .int .i64 (encV n t rs As).2]) ∧ Below w.heap.size w w' := by
  obtain ⟨X1, cap1, rfl, hr1⟩ := hrv.row
  obtain ⟨W0, hW0⟩ : ∃ W0, w.alloc (.cells #[.int .i64 n, .string t, .slice X1 rs.length cap1, v0, v1, v2, v3] 37) = W0 := ⟨_, rfl⟩
  have hb0 : Below w.heap.size w W0 := by rw [← hW0]; exact (Below.refl _ _).alloc (Nat.le_refl _) _
  have hR0 : RSt w W0 #[.int .i64 n, .string t, .slice X1 rs.length cap1, v0, v1, v2, v3] := ⟨hb0, by rw [← hW0]; exact heap_alloc_new w _⟩
  have HSet := Lib.hid (rSettings_any n t rs (.slice X1 rs.length cap1) v0 v1 v2 v3 W0 (by
    obtain ⟨A, cap, hv, hA⟩ := hrv
    refine ⟨A, cap, hv, ?_⟩
    rcases hA with hA | ⟨g, o, hA, hg, hcs⟩
    · exact .inl hA
    · exact .inr ⟨g, o, hA, Nat.lt_of_lt_of_le hg hb0.size, fun k h => ⟨(hb0.cell (p := ⟨g, _, none⟩) hg).trans (hcs k h).1, (hb0.cell (p := ⟨g, _, none⟩) hg).trans (hcs k h).2⟩⟩) ht hrs)
  have c0 := hR0.cell 0 rfl
  have c1 := hR0.cell 1 rfl
  have c2 := hR0.cell 2 rfl
  have c3 := hR0.cell 3 rfl
  have c4 := hR0.cell 4 rfl
  have c5 := hR0.cell 5 rfl
  have c6 := hR0.cell 6 rfl
  have HW0 := Lib.hid hW0
  have HR0 := Lib.hid hR0
  have HR1 := Lib.hid hr1
  have HV := Lib.hid hv
  have HL := Lib.hid hl
  clear hW0 hb0 hR0 hr1 hv hl hrv hrs
  cases hset : settingsB n t rs
  · have HN := Lib.hid (encV_set n t rs As hset)
    rw [hset] at HSet
    clear hset
    go_enter Try.func11, Try.ntmps11
    go_wp2_with fail
    rw [HW0.out]
    go_wp2_with fail
    refine HSet.out.mono ?_
    rintro e w1 ⟨rfl, hb1⟩
    have HB1 := Lib.hid (HR0.out.call hb1).below
    clear hb1
    go_wp2_with fail
    go_ret2
    exact ⟨by rw [HN.out]; rfl, HB1.out⟩
  · rw [hset] at HSet
    obtain ⟨hn1, hn2, hr3, ht4, hr5⟩ := settings_parts hset
    obtain ⟨m, rfl⟩ : ∃ m : Nat, n = m := ⟨n.toNat, by omega⟩
    have HSt := Lib.hid hset
    clear hset ht4 hr5
    go_enter Try.func11, Try.ntmps11
    go_wp2_with fail
    rw [HW0.out]
    go_wp2_with fail
    refine HSet.out.mono ?_
    rintro e w1 ⟨rfl, hb1⟩
    have HR1' := Lib.hid (HR0.out.call hb1)
    clear hb1 c0 c1 c2 c3 c4 c5 c6
    go_wp2_with fail
    go_loopw [5, 6] (fun i _ W => ∃ j : Nat, j ≤ 4 ∧ i = .int .i64 j ∧ Hid (RSt w W #[.int .i64 m, .string t, .slice X1 rs.length cap1, v0, v1, v2, v3]) ∧ Hid (∀ A ∈ As.take j, shapeB A = true)) (fun i _ _ => 4 - (intOf i).toNat)
    case atStart => exact ⟨0, by omega, rfl, HR1', Lib.hid (fun _ h => by simp at h)⟩
    case round =>
      clear HR1'
      obtain ⟨j, hj, rfl, HR, HAl⟩ := hrel
      by_cases hlt : j < 4
      · have hjl : j < As.length := by have := HL.out; omega
        have hAj := HV.out j hjl
        have hTk : As.take (j + 1) = As.take j ++ [As[j]] := List.take_succ_eq_append_getElem hjl
        have hcj : wr.cell? ⟨w.heap.size, 3 + j, none⟩ = some ([v0, v1, v2, v3].getD j undef) := by
          refine HR.out.cell (3 + j) ?_
          rcases j with _ | _ | _ | _ | j
          · rfl
          · rfl
          · rfl
          · rfl
          · omega
        have hbad := fun h => encV_bad (m : Int) t rs As HSt.out j hjl h
        obtain ⟨A, hA⟩ : ∃ A, As[j] = A := ⟨_, rfl⟩
        rw [hA] at hAj hTk hbad
        obtain ⟨AX, acap, hvj, hac, hA0⟩ := id hAj
        rw [hvj] at hcj hAj
        have HShp := Lib.hid (rShape_any A _ wr (hAj.kept (Kept.of_below (E := []) HR.out.below) (by simp)))
        have HTk := Lib.hid hTk
        have HBad := Lib.hid hbad
        have HLt : Hid (True → j + 1 ≤ 4) := Lib.hid (fun _ => hlt)
        have hji : (j : Int) < 4 := by omega
        clear hjl hAj hA0 hTk hbad hA hvj hac hlt
        cases hsh : shapeB A
        · have hsv : shapeV A = 190 := by unfold shapeV; rw [hsh]; rfl
          rw [hsv] at HShp
          have HN190 := Lib.hid (HBad.out hsh)
          clear hsv hsh
          go_wp2_with fail
          refine HShp.out.mono ?_
          rintro e w9 ⟨rfl, hb9⟩
          have HB9 := Lib.hid (HR.out.call hb9).below
          clear hb9
          go_wp2_with fail
          go_ret2
          exact ⟨by rw [HN190.out]; rfl, HB9.out⟩
        · have hsv : shapeV A = 0 := by unfold shapeV; rw [hsh]; rfl
          rw [hsv] at HShp
          have HSh := Lib.hid hsh
          clear hsv hsh
          go_wp2_with fail
          refine HShp.out.mono ?_
          rintro e w9 ⟨rfl, hb9⟩
          have HR9 := Lib.hid (HR.out.call hb9)
          clear hb9
          go_wp2_with fail
          refine ⟨⟨j + 1, HLt.out trivial, by go_num, HR9, Lib.hid (by
            rw [HTk.out]
            intro B hB
            rcases List.mem_append.1 hB with hB | hB
            · exact HAl.out B hB
            · obtain rfl : B = A := by simpa using hB
              exact HSh.out)⟩, by have := HLt.out trivial; simp [intOf]; omega⟩
      · obtain rfl : j = 4 := by omega
        rename World => wb
        have HRb := HR
        have HAll : Hid (∀ A ∈ As, shapeB A = true) := Lib.hid (by
          have h4 : As.take 4 = As := List.take_of_length_le (by rw [HL.out]; omega)
          have h := HAl.out
          rwa [h4] at h)
        clear hlt hj HR HAl
        go_wp2_with fail
        refine (put_b wb wb (.slice none 0 0) [] magicS (OwnB.nil_ wb) (by show 0 + 4 ≤ _; omega)).mono ?_
        rintro e w2 ⟨p2, rfl, ho2⟩
        have HO2 := Lib.hid ho2
        clear ho2
        have c0 := (HRb.out.own HO2.out).cell 0 rfl
        go_wp2_with fail
        clear c0
        refine (number_b wb _ p2 _ m (by omega) (by omega) HO2.out (by show 4 + 10 ≤ _; omega)).mono ?_
        rintro e w3 ⟨p3, rfl, ho3⟩
        have HO3 : Hid (OwnB wb w3 p3 (magicS.data.toList ++ uintB m)) := Lib.hid ho3
        clear ho3
        have c1 := (HRb.out.own HO3.out).cell 1 rfl
        go_wp2_with fail
        clear c1
        have hH1 : (magicS.data.toList ++ uintB m).length ≤ 14 := by rw [List.length_append]; have := uintB_ten m (by omega); show 4 + _ ≤ _; omega
        have hU1 := uintB_ten rs.length (by omega)
        have HF1 := Lib.hid (frameS_len [t])
        have HH1 := Lib.hid hH1
        have HU1 := Lib.hid hU1
        clear hH1 hU1
        refine (rFrame_any [t] w3.heap.size 0 1 _ (by simp) (by simp) (fun k hk => by obtain rfl : k = 0 := by simpa using hk
                                                                                      rw [Lib.cell_of_heap (heap_alloc_new w3 _)]; rfl)).mono ?_
        rintro e w4 ⟨rfl, hb4⟩
        have HO4 := Lib.hid (HO3.out.call (((Below.refl _ _).alloc (Nat.le_refl _) _).trans (hb4.mono (by simp))))
        clear hb4
        obtain ⟨T1, hT1⟩ : ∃ T, (frameS [t]).1 = T := ⟨_, rfl⟩
        rw [hT1] at HF1
        have HT1 := Lib.hid hT1
        have hr2 : ∃ f2, (frameS [t]).2 = f2 := ⟨_, rfl⟩
        obtain ⟨f2, hf2⟩ := hr2
        rw [hT1, hf2]
        clear hT1 hf2
        go_wp2_with fail
        refine (put_b wb _ p3 _ T1 HO4.out (by have := HF1.out.1; have := HH1.out; simp only [List.length_cons, List.length_nil] at *; omega)).mono ?_
        rintro e w5 ⟨p5, rfl, ho5⟩
        have HO5 := Lib.hid ho5
        clear ho5
        have c2 := (HRb.out.own HO5.out).cell 2 rfl
        go_wp2_with fail
        clear c2
        refine (number_b wb _ p5 _ rs.length (by omega) (by omega) HO5.out (by have := HH1.out; have := HF1.out.2; simp only [List.length_append, List.length_cons, List.length_nil] at *; omega)).mono ?_
        rintro e w6 ⟨p6, rfl, ho6⟩
        obtain ⟨P0, hP0⟩ : ∃ P, magicS.data.toList ++ uintB m ++ T1.data.toList ++ uintB rs.length = P := ⟨_, rfl⟩
        have HO6 : Hid (OwnB wb w6 p6 P0) := Lib.hid (by rw [← hP0]; exact ho6)
        have HPl : Hid (P0.length ≤ 300) := Lib.hid (by rw [← hP0]; have := HH1.out; have := HF1.out.2; have := HU1.out; simp only [List.length_append, List.length_cons, List.length_nil] at *; omega)
        have HPe : Hid (encH m t rs = P0 ++ rs.flatMap encRep) := Lib.hid (by rw [← hP0, ← HT1.out]; rfl)
        clear ho6 hP0 HO2 HO3 HO4 HO5 HH1 HU1 HF1 HT1
        go_wp2_with fail
        go_loopw [7, 10, 11, 12] (fun u i _ _ W => ∃ k : Nat, k ≤ rs.length ∧ i = .int .i64 k ∧ Hid (OwnB wb W u (P0 ++ (rs.take k).flatMap encRep))) (fun _ i _ _ _ => rs.length - (intOf i).toNat)
        case atStart => exact ⟨0, Nat.zero_le _, rfl, Lib.hid (by have := HO6.out; simpa using this)⟩
        case round =>
          clear HO6
          obtain ⟨k, hk, rfl, HO⟩ := hrel
          have c2 := (HRb.out.own HO.out).cell 2 rfl
          by_cases hlt : k < rs.length
          · obtain ⟨g, o, hX1, hg, d0', d1'⟩ := HR1.out k hlt
            subst hX1
            have hSn := flat_snoc rs encRep k hlt
            obtain ⟨⟨f, to⟩, hy⟩ : ∃ x, rs[k] = x := ⟨_, rfl⟩
            rw [hy] at d0' d1' hSn
            dsimp only at d0' d1'
            have HSn := Lib.hid hSn
            have HLt : Hid (True → k + 1 ≤ rs.length) := Lib.hid (fun _ => hlt)
            have HKp : Hid (∀ W', Below wr.heap.size wr W' → W'.cell? ⟨w.heap.size, 2, none⟩ = some (.slice (some ⟨g, o, none⟩) rs.length cap1) ∧ W'.cell? ⟨g, o + k * 2, none⟩ = some (.string f) ∧ W'.cell? ⟨g, o + k * 2 + 1, none⟩ = some (.string to)) := Lib.hid (fun W' hB => by
              have h := HRb.out.own HO.out
              have hx := h.below.trans (hB.mono h.below.size)
              exact ⟨(h.call hB).cell 2 rfl, (hx.cell (p := ⟨g, o + k * 2, none⟩) hg).trans d0', (hx.cell (p := ⟨g, o + k * 2 + 1, none⟩) hg).trans d1'⟩)
            have HLl : Hid ((P0 ++ (rs.take k).flatMap encRep).length ≤ 140000) := Lib.hid (by
              have h1 := flat_take_len rs encRep 530 256 k (fun x _ => encRep_len x) hr3
              have h2 := HPl.out
              rw [List.length_append]; omega)
            have hki : (k : Int) < (rs.length : Int) := by omega
            obtain ⟨L, hL⟩ : ∃ L, P0 ++ (rs.take k).flatMap encRep = L := ⟨_, rfl⟩
            rw [hL] at HO HLl
            have HLe := Lib.hid hL
            obtain ⟨⟨T2, f3⟩, hT2⟩ : ∃ T, frameS [f, to] = T := ⟨_, rfl⟩
            have HFr : Hid (∀ W : World, ∀ b, b = W.heap.size → Calls Try.prog 30 #[.slice (some ⟨b, 0, none⟩) 2 2] ((W.alloc (.cells #[.string f, .string to] 9)).drew) fun e w' => e = .returned (.tuple #[.string T2, .int .i64 f3]) ∧ Below W.heap.size W w') := Lib.hid (fun W b hb => by
              subst hb
              have hF := rFrame_any [f, to] W.heap.size 0 2 ((W.alloc (.cells #[.string f, .string to] 9)).drew) (by simp) (by simp) (fun k hk => by
                rw [drew_cell, Lib.cell_of_heap (heap_alloc_new W _)]
                rcases k with _ | _ | k
                · rfl
                · rfl
                · simp at hk; omega)
              rw [hT2] at hF
              refine hF.mono ?_
              rintro e w' ⟨he, hb⟩
              exact ⟨he, ((Below.refl _ _).alloc (Nat.le_refl _) _).drew.trans (hb.mono (by simp))⟩)
            have HT2 : Hid (encRep (f, to) = T2.data.toList) := Lib.hid (by unfold encRep; rw [hT2])
            have HF2 : Hid (T2.size ≤ 530) := Lib.hid (by have := (frameS_len [f, to]).1; rw [hT2] at this; simpa using this)
            clear d0' d1' hSn hy hL hlt hT2
            go_wp2_with fail
            clear c2
            refine wp_region_held_drew (S := fun W' => W'.cell? ⟨w.heap.size, 2, none⟩ = some (.slice (some ⟨g, o, none⟩) rs.length cap1) ∧ W'.cell? ⟨g, o + k * 2, none⟩ = some (.string f) ∧ W'.cell? ⟨g, o + k * 2 + 1, none⟩ = some (.string to)) (by kernel_rfl) ?_ (fun hHeld => ?_)
            · exact HKp.out _ (Below.refl _ _).drew
            refine takeH (i := 0) (d := some 58) (v := ?_) rfl rfl (by kernel_rfl) (by kernel_rfl) (by kernel_rfl) (fun _ _ _ h => h) (Or.inl ⟨by kernel_rfl, ?_⟩) hHeld ?_
            rotate_left
            · intro w hSw; (try dsimp only at hSw); go_simp; try with_reducible rfl
            try simp only [Act.put, List.setIfInBounds_toArray, List.set_cons_zero, List.set_cons_succ]
            refine takeH (i := 1) (d := some 59) (v := ?_) rfl rfl (by kernel_rfl) (by kernel_rfl) (by kernel_rfl) (fun _ _ _ h => h) (Or.inl ⟨by kernel_rfl, ?_⟩) hHeld ?_
            rotate_left
            · intro w hSw; (try dsimp only at hSw); go_simp; try with_reducible rfl
            try simp only [Act.put, List.setIfInBounds_toArray, List.set_cons_zero, List.set_cons_succ]
            refine takeH (i := 2) (d := some 60) (v := ?_) rfl rfl (by kernel_rfl) (by kernel_rfl) (by kernel_rfl) (fun _ _ _ h => h) (Or.inl ⟨by kernel_rfl, ?_⟩) hHeld ?_
            rotate_left
            · intro w hSw; (try dsimp only at hSw); go_simp; try with_reducible rfl
            try simp only [Act.put, List.setIfInBounds_toArray, List.set_cons_zero, List.set_cons_succ]
            refine takeH (i := 3) (d := some 61) (v := ?_) rfl rfl (by kernel_rfl) (by kernel_rfl) (by kernel_rfl) (fun _ _ _ h => h) (Or.inl ⟨by kernel_rfl, ?_⟩) hHeld ?_
            rotate_left
            · intro w hSw; (try dsimp only at hSw); go_simp; try with_reducible rfl
            try simp only [Act.put, List.setIfInBounds_toArray, List.set_cons_zero, List.set_cons_succ]
            refine takeH (i := 4) (d := some 62) (v := ?_) rfl rfl (by kernel_rfl) (by kernel_rfl) (by kernel_rfl) (fun _ _ _ h => h) (Or.inl ⟨by kernel_rfl, ?_⟩) hHeld ?_
            rotate_left
            · intro w hSw; (try dsimp only at hSw); go_simp; try with_reducible rfl
            try simp only [Act.put, List.setIfInBounds_toArray, List.set_cons_zero, List.set_cons_succ]
            refine takeH (i := 5) (d := some 63) (v := ?_) rfl rfl (by kernel_rfl) (by kernel_rfl) (by kernel_rfl) (fun _ _ _ h => h) (Or.inl ⟨by kernel_rfl, ?_⟩) hHeld ?_
            rotate_left
            · intro w hSw; (try dsimp only at hSw); go_simp; try with_reducible rfl
            try simp only [Act.put, List.setIfInBounds_toArray, List.set_cons_zero, List.set_cons_succ]
            refine takeH (i := 6) (d := some 64) (v := ?_) rfl rfl (by kernel_rfl) (by kernel_rfl) (by kernel_rfl) (fun _ _ _ h => h) (Or.inl ⟨by kernel_rfl, ?_⟩) hHeld ?_
            rotate_left
            · intro w hSw; (try dsimp only at hSw); go_simp; try with_reducible rfl
            try simp only [Act.put, List.setIfInBounds_toArray, List.set_cons_zero, List.set_cons_succ]
            refine takeH (i := 7) (d := some 65) (v := ?_) rfl rfl (by kernel_rfl) (by kernel_rfl) (by kernel_rfl) (fun _ _ _ h => h) (Or.inl ⟨by kernel_rfl, ?_⟩) hHeld ?_
            rotate_left
            · intro w hSw; (try dsimp only at hSw); go_simp; try with_reducible rfl
            try simp only [Act.put, List.setIfInBounds_toArray, List.set_cons_zero, List.set_cons_succ]
            refine takeH (i := 8) (d := some 66) (v := ?_) rfl rfl (by kernel_rfl) (by kernel_rfl) (by kernel_rfl) (fun _ _ _ h => h) (Or.inl ⟨by kernel_rfl, ?_⟩) hHeld ?_
            rotate_left
            · intro w hSw; (try dsimp only at hSw); go_simp; try with_reducible rfl
            try simp only [Act.put, List.setIfInBounds_toArray, List.set_cons_zero, List.set_cons_succ]
            refine takeH (i := 9) (d := some 67) (v := ?_) rfl rfl (by kernel_rfl) (by kernel_rfl) (by kernel_rfl) (fun _ _ _ h => h) (Or.inl ⟨by kernel_rfl, ?_⟩) hHeld ?_
            rotate_left
            · intro w hSw; (try dsimp only at hSw); go_simp; try with_reducible rfl
            try simp only [Act.put, List.setIfInBounds_toArray, List.set_cons_zero, List.set_cons_succ]
            refine takeH (i := 10) (d := some 68) (v := ?_) rfl rfl (by kernel_rfl) (by kernel_rfl) (by kernel_rfl) (fun _ _ _ h => h) (Or.inl ⟨by kernel_rfl, ?_⟩) hHeld ?_
            rotate_left
            · intro w hSw; (try dsimp only at hSw); go_simp; try with_reducible rfl
            try simp only [Act.put, List.setIfInBounds_toArray, List.set_cons_zero, List.set_cons_succ]
            refine takeH (i := 11) (d := some 69) (v := ?_) rfl rfl (by kernel_rfl) (by kernel_rfl) (by kernel_rfl) (fun _ _ _ h => h) (Or.inl ⟨by kernel_rfl, ?_⟩) hHeld ?_
            rotate_left
            · intro w hSw; (try dsimp only at hSw); go_simp; try with_reducible rfl
            try simp only [Act.put, List.setIfInBounds_toArray, List.set_cons_zero, List.set_cons_succ]
            refine wpAnyH_ready (rs := [12]) (by kernel_rfl) (by simp) ?_
            refine AllReadyH.cons rfl (fun K hK => ?_) AllReadyH.nil
            go_simp
            refine hK.out _ _ ?_ (fun hHeld => ?_)
            · exact HKp.out _ (((Below.refl _ _).alloc (Nat.le_refl _) _).drew)
            clear hK K
            refine wpAnyH_ready (rs := [13]) (by kernel_rfl) (by simp) ?_
            refine AllReadyH.cons rfl (fun K hK => ?_) AllReadyH.nil
            go_simp
            refine (HFr.out _ _ rfl).mono ?_
            rintro e w8 ⟨rfl, hb8⟩
            refine hK.out _ _ ?_ (fun hHeld => ?_)
            · exact HKp.out w8 hb8
            have HB8 := Lib.hid hb8
            clear hb8
            clear hK K
            refine takeH (i := 14) (d := some 57) (v := ?_) rfl rfl (by kernel_rfl) (by kernel_rfl) (by kernel_rfl) (fun _ _ _ h => h) (Or.inl ⟨by kernel_rfl, ?_⟩) hHeld ?_
            rotate_left
            · intro w hSw; (try dsimp only at hSw); go_simp; try with_reducible rfl
            try simp only [Act.put, List.setIfInBounds_toArray, List.set_cons_zero, List.set_cons_succ]
            refine takeH (i := 15) (d := some 72) (v := ?_) rfl rfl (by kernel_rfl) (by kernel_rfl) (by kernel_rfl) (fun _ _ _ h => h) (Or.inl ⟨by kernel_rfl, ?_⟩) hHeld ?_
            rotate_left
            · intro w hSw; (try dsimp only at hSw); go_simp; try with_reducible rfl
            try simp only [Act.put, List.setIfInBounds_toArray, List.set_cons_zero, List.set_cons_succ]
            refine takeH (i := 16) (d := some 73) (v := ?_) rfl rfl (by kernel_rfl) (by kernel_rfl) (by kernel_rfl) (fun _ _ _ h => h) (Or.inl ⟨by kernel_rfl, ?_⟩) hHeld ?_
            rotate_left
            · intro w hSw; (try dsimp only at hSw); go_simp; try with_reducible rfl
            try simp only [Act.put, List.setIfInBounds_toArray, List.set_cons_zero, List.set_cons_succ]
            refine takeH (i := 17) (d := some 11) (v := ?_) rfl rfl (by kernel_rfl) (by kernel_rfl) (by kernel_rfl) (fun _ _ _ h => h) (Or.inl ⟨by kernel_rfl, ?_⟩) hHeld ?_
            rotate_left
            · intro w hSw; (try dsimp only at hSw); go_simp; try with_reducible rfl
            try simp only [Act.put, List.setIfInBounds_toArray, List.set_cons_zero, List.set_cons_succ]
            refine takeH (i := 18) (d := some 12) (v := ?_) rfl rfl (by kernel_rfl) (by kernel_rfl) (by kernel_rfl) (fun _ _ _ h => h) (Or.inl ⟨by kernel_rfl, ?_⟩) hHeld ?_
            rotate_left
            · intro w hSw; (try dsimp only at hSw); go_simp; try with_reducible rfl
            try simp only [Act.put, List.setIfInBounds_toArray, List.set_cons_zero, List.set_cons_succ]
            refine wpAnyH_done (by kernel_rfl) ?_ _
            have HO8 := Lib.hid (HO.out.call HB8.out)
            clear HB8
            go_wp2_with fail
            refine (put_b wb _ u7 _ T2 HO8.out (by have := HLl.out; have := HF2.out; omega)).mono ?_
            rintro e w9 ⟨p9, rfl, ho9⟩
            have HO9 := Lib.hid ho9
            clear ho9
            go_wp2_with fail
            refine ⟨⟨k + 1, HLt.out trivial, by go_num, Lib.hid (by rw [HSn.out, ← List.append_assoc, HLe.out, HT2.out]; exact HO9.out)⟩, by have := HLt.out trivial; simp [intOf]; omega⟩
          · obtain rfl : k = rs.length := by omega
            obtain ⟨H, hH⟩ : ∃ H, encH m t rs = H := ⟨_, rfl⟩
            have HHl : Hid (H.length ≤ 137000) := Lib.hid (by rw [← hH]; exact encH_len (by omega) hr3)
            have HO7 : Hid (OwnB wb wr u7 H) := Lib.hid (by
              have := HO.out
              rw [List.take_length, ← HPe.out, hH] at this
              exact this)
            have HHe := Lib.hid hH
            clear hlt hk hH HO HPl HPe
            go_wp2_with fail
            clear c2
            go_loopw [7, 13] (fun u i W => ∃ j : Nat, j ≤ 4 ∧ i = .int .i64 j ∧ Hid (OwnB wb W u (H ++ (As.take j).flatMap encA))) (fun _ i _ => 4 - (intOf i).toNat)
            case atStart => exact ⟨0, by omega, rfl, Lib.hid (by have := HO7.out; simpa using this)⟩
            case round =>
              clear HO7
              obtain ⟨j, hj, rfl, HO⟩ := hrel
              by_cases hlt : j < 4
              · have hjl : j < As.length := by have := HL.out; omega
                have hAj := HV.out j hjl
                have hcj : wr.cell? ⟨w.heap.size, 3 + j, none⟩ = some ([v0, v1, v2, v3].getD j undef) := by
                  refine (HRb.out.own HO.out).cell (3 + j) ?_
                  rcases j with _ | _ | _ | _ | j
                  · rfl
                  · rfl
                  · rfl
                  · rfl
                  · omega
                have hSn := flat_snoc As encA j hjl
                have hsh := HAll.out _ (List.getElem_mem hjl)
                have hLen : (H ++ (As.take j).flatMap encA).length ≤ 11853240144 := by
                  have h1 := encA_take_len HL.out j (fun A hA => HAll.out A (List.mem_of_mem_take hA))
                  have h2 := HHl.out
                  rw [List.length_append]; omega
                obtain ⟨A, hA⟩ : ∃ A, As[j] = A := ⟨_, rfl⟩
                rw [hA] at hAj hSn hsh
                obtain ⟨L, hL⟩ : ∃ L, H ++ (As.take j).flatMap encA = L := ⟨_, rfl⟩
                rw [hL] at hLen HO
                have hAw : AutAt wb (fun _ => True) ([v0, v1, v2, v3].getD j undef) A := hAj.kept (Kept.of_below (E := []) HRb.out.below) (by simp)
                obtain ⟨vj, hvj⟩ : ∃ vj, [v0, v1, v2, v3].getD j undef = vj := ⟨_, rfl⟩
                rw [hvj] at hcj hAw
                have HSec := Lib.hid (rsection_any wb wr u7 vj L A HO.out hAw hsh (by omega))
                have HSn := Lib.hid hSn
                have HLe := Lib.hid hL
                have HLt : Hid (True → j + 1 ≤ 4) := Lib.hid (fun _ => hlt)
                have hji : (j : Int) < 4 := by omega
                clear hjl hAj hSn hsh hLen hA hL hvj hlt hAw
                go_wp2_with fail
                refine HSec.out.mono ?_
                rintro e w10 ⟨p10, rfl, ho10⟩
                have HO10 := Lib.hid ho10
                clear ho10 hcj
                go_wp2_with fail
                refine ⟨⟨j + 1, HLt.out trivial, by go_num, Lib.hid (by rw [HSn.out, ← List.append_assoc, HLe.out]; exact HO10.out)⟩, by have := HLt.out trivial; simp [intOf]; omega⟩
              · obtain rfl : j = 4 := by omega
                have h4 : As.take 4 = As := List.take_of_length_le (by rw [HL.out]; omega)
                have HOk : Hid (encV (m : Int) t rs As = (mkS (H ++ As.flatMap encA), 0)) := Lib.hid (by
                  rw [encV_ok _ _ _ _ HSt.out HAll.out, encL, Int.toNat_natCast, HHe.out])
                have HO15 : Hid (OwnB wb wr u7 (H ++ As.flatMap encA)) := Lib.hid (by
                  have := HO.out
                  rwa [h4] at this)
                have HB15 := Lib.hid (HRb.out.own HO15.out).below
                have hcv := run_string_of_own HO15.out.own 57 9 Try.underlying57 Try.underlying5 Try.underlying9
                clear hlt hj h4
                go_wp2_with fail
                go_ret2
                exact ⟨by rw [HOk.out]; rfl, HB15.out⟩
end Go.Proofs.Ytehbjfjhalpgaaa
