/-
  The reference's Encode.
  The law's wakes: the bytes that the document fixes.
  The law's walk: every Decode.
  append of a slice's elements, whatever the slice: nil, empty or not.
-/
import Derived.Test.YtehbjfjhalpgaaaRows
import Derived.Test.YtehbjfjhalpgaaaII
import Derived.Test.YtehbjfjhalpgaaaIA
import Derived.Maps.AppendAt
import Derived.Deep.AppendLies
import Derived.RegionTactic
import Derived.OwnWalk
namespace Go.Proofs.Ytehbjfjhalpgaaa
section
open Go.RowKit

/-- Where the reference's Encode stands. -/
structure RSt (w W : World) (bk : Array Value) : Prop where
  below : Below w.heap.size w W
  book : W.heap[w.heap.size]? = some (.cells bk 37 (0, 0))
theorem RSt.call {w W W' : World} {bk : Array Value} (h : RSt w W bk) (hb : Below W.heap.size W W') : RSt w W' bk :=
  ⟨h.below.trans (hb.mono h.below.size), (hb.block _ (block_lt h.book)).trans h.book⟩
theorem RSt.cell {w W : World} {bk : Array Value} (h : RSt w W bk) (i : Nat) {x : Value} (hx : bk[i]? = some x) : W.cell? ⟨w.heap.size, i, none⟩ = some x := by rw [Lib.cell_of_heap h.book]; exact hx
/-- .. and has bytes of its own: made since wb. -/
theorem RSt.own {w wb W : World} {bk : Array Value} {v : Value} {l : List UInt8} (h : RSt w wb bk) (ho : OwnB wb W v l) : RSt w W bk := h.call ho.below

set_option maxHeartbeats 8000000 in
set_option maxRecDepth 100000 in
theorem rEncode_any (n : Int) (t : ByteArray) (rs : List Rp) (As : List (List St)) (vr v0 v1 v2 v3 : Value) (w : World) (hrv : RepsAt w vr rs) (hl : As.length = 4)
    (hv : SecP w (fun _ => True) [v0, v1, v2, v3] As) (ht : t.size ≤ 140737488355327) (hrs : ∀ k (h : k < rs.length), rs[k].1.size ≤ 140737488355328 ∧ rs[k].2.size ≤ 140737488355328) :
    Calls Try.prog 11 #[.agg #[.int .i64 n, .string t, vr, v0, v1, v2, v3]] w fun e w' => e = .returned (.tuple #[.string (encV n t rs As).1, .int .i64 (encV n t rs As).2]) ∧ Below w.heap.size w w' := by
  obtain ⟨X1, cap1, rfl, hr1⟩ := hrv.row
  obtain ⟨W0, hW0⟩ : ∃ W0, w.alloc (.cells #[.int .i64 n, .string t, .slice X1 rs.length cap1, v0, v1, v2, v3] 37) = W0 := ⟨_, rfl⟩
  have hb0 : Below w.heap.size w W0 := by rw [← hW0]; exact (Below.refl _ _).alloc (Nat.le_refl _) _
  have hR0 : RSt w W0 #[.int .i64 n, .string t, .slice X1 rs.length cap1, v0, v1, v2, v3] := ⟨hb0, by rw [← hW0]; exact heap_alloc_new w _⟩
  have HSet := Lib.hid (rSettings_any n t rs (.slice X1 rs.length cap1) v0 v1 v2 v3 W0 (by
    obtain ⟨A, cap, hv, hA⟩ := hrv
    refine ⟨A, cap, hv, ?_⟩
    rcases hA with hA | ⟨g, o, hA, hg, hcs⟩
    · exact .inl hA
    · exact .inr ⟨g, o, hA, Nat.lt_of_lt_of_le hg hb0.size, fun k h => ⟨(hb0.cell (p := ⟨g, _, none⟩) hg).trans (hcs k h).1, (hb0.cell (p := ⟨g, _, none⟩) hg).trans (hcs k h).2⟩⟩) ht hrs)
  have c0 := hR0.cell 0 rfl
  have c1 := hR0.cell 1 rfl
  have c2 := hR0.cell 2 rfl
  have c3 := hR0.cell 3 rfl
  have c4 := hR0.cell 4 rfl
  have c5 := hR0.cell 5 rfl
  have c6 := hR0.cell 6 rfl
  have HW0 := Lib.hid hW0
  have HR0 := Lib.hid hR0
  have HR1 := Lib.hid hr1
  have HV := Lib.hid hv
  have HL := Lib.hid hl
  clear hW0 hb0 hR0 hr1 hv hl hrv hrs
  cases hset : settingsB n t rs
  · have HN := Lib.hid (encV_set n t rs As hset)
    rw [hset] at HSet
    clear hset
    go_enter Try.func11, Try.ntmps11
    go_wp2_with fail
    rw [HW0.out]
    go_wp2_with fail
    refine HSet.out.mono ?_
    rintro e w1 ⟨rfl, hb1⟩
    have HB1 := Lib.hid (HR0.out.call hb1).below
    clear hb1
    go_wp2_with fail
    go_ret2
    exact ⟨by rw [HN.out]; rfl, HB1.out⟩
  · rw [hset] at HSet
    obtain ⟨hn1, hn2, hr3, ht4, hr5⟩ := settings_parts hset
    obtain ⟨m, rfl⟩ : ∃ m : Nat, n = m := ⟨n.toNat, by omega⟩
    have HSt := Lib.hid hset
    clear hset ht4 hr5
    go_enter Try.func11, Try.ntmps11
    go_wp2_with fail
    rw [HW0.out]
    go_wp2_with fail
    refine HSet.out.mono ?_
    rintro e w1 ⟨rfl, hb1⟩
    have HR1' := Lib.hid (HR0.out.call hb1)
    clear hb1 c0 c1 c2 c3 c4 c5 c6
    go_wp2_with fail
    go_loopw [5, 6] (fun i _ W => ∃ j : Nat, j ≤ 4 ∧ i = .int .i64 j ∧ Hid (RSt w W #[.int .i64 m, .string t, .slice X1 rs.length cap1, v0, v1, v2, v3]) ∧ Hid (∀ A ∈ As.take j, shapeB A = true)) (fun i _ _ => 4 - (intOf i).toNat)
    case atStart => exact ⟨0, by omega, rfl, HR1', Lib.hid (fun _ h => by simp at h)⟩
    case round =>
      clear HR1'
      obtain ⟨j, hj, rfl, HR, HAl⟩ := hrel
      by_cases hlt : j < 4
      · have hjl : j < As.length := by have := HL.out; omega
        have hAj := HV.out j hjl
        have hTk : As.take (j + 1) = As.take j ++ [As[j]] := List.take_succ_eq_append_getElem hjl
        have hcj : wr.cell? ⟨w.heap.size, 3 + j, none⟩ = some ([v0, v1, v2, v3].getD j undef) := by
          refine HR.out.cell (3 + j) ?_
          rcases j with _ | _ | _ | _ | j
          · rfl
          · rfl
          · rfl
          · rfl
          · omega
        have hbad := fun h => encV_bad (m : Int) t rs As HSt.out j hjl h
        obtain ⟨A, hA⟩ : ∃ A, As[j] = A := ⟨_, rfl⟩
        rw [hA] at hAj hTk hbad
        obtain ⟨AX, acap, hvj, hac, hA0⟩ := id hAj
        rw [hvj] at hcj hAj
        have HShp := Lib.hid (rShape_any A _ wr (hAj.kept (Kept.of_below (E := []) HR.out.below) (by simp)))
        have HTk := Lib.hid hTk
        have HBad := Lib.hid hbad
        have HLt : Hid (True → j + 1 ≤ 4) := Lib.hid (fun _ => hlt)
        have hji : (j : Int) < 4 := by omega
        clear hjl hAj hA0 hTk hbad hA hvj hac hlt
        cases hsh : shapeB A
        · have hsv : shapeV A = 190 := by unfold shapeV; rw [hsh]; rfl
          rw [hsv] at HShp
          have HN190 := Lib.hid (HBad.out hsh)
          clear hsv hsh
          go_wp2_with fail
          refine HShp.out.mono ?_
          rintro e w9 ⟨rfl, hb9⟩
          have HB9 := Lib.hid (HR.out.call hb9).below
          clear hb9
          go_wp2_with fail
          go_ret2
          exact ⟨by rw [HN190.out]; rfl, HB9.out⟩
        · have hsv : shapeV A = 0 := by unfold shapeV; rw [hsh]; rfl
          rw [hsv] at HShp
          have HSh := Lib.hid hsh
          clear hsv hsh
          go_wp2_with fail
          refine HShp.out.mono ?_
          rintro e w9 ⟨rfl, hb9⟩
          have HR9 := Lib.hid (HR.out.call hb9)
          clear hb9
          go_wp2_with fail
          refine ⟨⟨j + 1, HLt.out trivial, by go_num, HR9, Lib.hid (by
            rw [HTk.out]
            intro B hB
            rcases List.mem_append.1 hB with hB | hB
            · exact HAl.out B hB
            · obtain rfl : B = A := by simpa using hB
              exact HSh.out)⟩, by have := HLt.out trivial; simp [intOf]; omega⟩
      · obtain rfl : j = 4 := by omega
        rename World => wb
        have HRb := HR
        have HAll : Hid (∀ A ∈ As, shapeB A = true) := Lib.hid (by
          have h4 : As.take 4 = As := List.take_of_length_le (by rw [HL.out]; omega)
          have h := HAl.out
          rwa [h4] at h)
        clear hlt hj HR HAl
        go_wp2_with fail
        refine (put_b wb wb (.slice none 0 0) [] magicS (OwnB.nil_ wb) (by show 0 + 4 ≤ _; omega)).mono ?_
        rintro e w2 ⟨p2, rfl, ho2⟩
        have HO2 := Lib.hid ho2
        clear ho2
        have c0 := (HRb.out.own HO2.out).cell 0 rfl
        go_wp2_with fail
        clear c0
        refine (number_b wb _ p2 _ m (by omega) (by omega) HO2.out (by show 4 + 10 ≤ _; omega)).mono ?_
        rintro e w3 ⟨p3, rfl, ho3⟩
        have HO3 : Hid (OwnB wb w3 p3 (magicS.data.toList ++ uintB m)) := Lib.hid ho3
        clear ho3
        have c1 := (HRb.out.own HO3.out).cell 1 rfl
        go_wp2_with fail
        clear c1
        have hH1 : (magicS.data.toList ++ uintB m).length ≤ 14 := by rw [List.length_append]; have := uintB_ten m (by omega); show 4 + _ ≤ _; omega
        have hU1 := uintB_ten rs.length (by omega)
        have HF1 := Lib.hid (frameS_len [t])
        have HH1 := Lib.hid hH1
        have HU1 := Lib.hid hU1
        clear hH1 hU1
        refine (rFrame_any [t] w3.heap.size 0 1 _ (by simp) (by simp) (fun k hk => by obtain rfl : k = 0 := by simpa using hk
                                                                                      rw [Lib.cell_of_heap (heap_alloc_new w3 _)]; rfl)).mono ?_
        rintro e w4 ⟨rfl, hb4⟩
        have HO4 := Lib.hid (HO3.out.call (((Below.refl _ _).alloc (Nat.le_refl _) _).trans (hb4.mono (by simp))))
        clear hb4
        obtain ⟨T1, hT1⟩ : ∃ T, (frameS [t]).1 = T := ⟨_, rfl⟩
        rw [hT1] at HF1
        have HT1 := Lib.hid hT1
        have hr2 : ∃ f2, (frameS [t]).2 = f2 := ⟨_, rfl⟩
        obtain ⟨f2, hf2⟩ := hr2
        rw [hT1, hf2]
        clear hT1 hf2
        go_wp2_with fail
        refine (put_b wb _ p3 _ T1 HO4.out (by have := HF1.out.1; have := HH1.out; simp only [List.length_cons, List.length_nil] at *; omega)).mono ?_
        rintro e w5 ⟨p5, rfl, ho5⟩
        have HO5 := Lib.hid ho5
        clear ho5
        have c2 := (HRb.out.own HO5.out).cell 2 rfl
        go_wp2_with fail
        clear c2
        refine (number_b wb _ p5 _ rs.length (by omega) (by omega) HO5.out (by have := HH1.out; have := HF1.out.2; simp only [List.length_append, List.length_cons, List.length_nil] at *; omega)).mono ?_
        rintro e w6 ⟨p6, rfl, ho6⟩
        obtain ⟨P0, hP0⟩ : ∃ P, magicS.data.toList ++ uintB m ++ T1.data.toList ++ uintB rs.length = P := ⟨_, rfl⟩
        have HO6 : Hid (OwnB wb w6 p6 P0) := Lib.hid (by rw [← hP0]; exact ho6)
        have HPl : Hid (P0.length ≤ 300) := Lib.hid (by rw [← hP0]; have := HH1.out; have := HF1.out.2; have := HU1.out; simp only [List.length_append, List.length_cons, List.length_nil] at *; omega)
        have HPe : Hid (encH m t rs = P0 ++ rs.flatMap encRep) := Lib.hid (by rw [← hP0, ← HT1.out]; rfl)
        clear ho6 hP0 HO2 HO3 HO4 HO5 HH1 HU1 HF1 HT1
        go_wp2_with fail
        go_loopw [7, 10, 11, 12] (fun u i _ _ W => ∃ k : Nat, k ≤ rs.length ∧ i = .int .i64 k ∧ Hid (OwnB wb W u (P0 ++ (rs.take k).flatMap encRep))) (fun _ i _ _ _ => rs.length - (intOf i).toNat)
        case atStart => exact ⟨0, Nat.zero_le _, rfl, Lib.hid (by have := HO6.out; simpa using this)⟩
        case round =>
          clear HO6
          obtain ⟨k, hk, rfl, HO⟩ := hrel
          have c2 := (HRb.out.own HO.out).cell 2 rfl
          by_cases hlt : k < rs.length
          · obtain ⟨g, o, hX1, hg, d0', d1'⟩ := HR1.out k hlt
            subst hX1
            have hSn := flat_snoc rs encRep k hlt
            obtain ⟨⟨f, to⟩, hy⟩ : ∃ x, rs[k] = x := ⟨_, rfl⟩
            rw [hy] at d0' d1' hSn
            dsimp only at d0' d1'
            have HSn := Lib.hid hSn
            have HLt : Hid (True → k + 1 ≤ rs.length) := Lib.hid (fun _ => hlt)
            have HKp : Hid (∀ W', Below wr.heap.size wr W' → W'.cell? ⟨w.heap.size, 2, none⟩ = some (.slice (some ⟨g, o, none⟩) rs.length cap1) ∧ W'.cell? ⟨g, o + k * 2, none⟩ = some (.string f) ∧ W'.cell? ⟨g, o + k * 2 + 1, none⟩ = some (.string to)) := Lib.hid (fun W' hB => by
              have h := HRb.out.own HO.out
              have hx := h.below.trans (hB.mono h.below.size)
              exact ⟨(h.call hB).cell 2 rfl, (hx.cell (p := ⟨g, o + k * 2, none⟩) hg).trans d0', (hx.cell (p := ⟨g, o + k * 2 + 1, none⟩) hg).trans d1'⟩)
            have HLl : Hid ((P0 ++ (rs.take k).flatMap encRep).length ≤ 140000) := Lib.hid (by
              have h1 := flat_take_len rs encRep 530 256 k (fun x _ => encRep_len x) hr3
              have h2 := HPl.out
              rw [List.length_append]; omega)
            have hki : (k : Int) < (rs.length : Int) := by omega
            obtain ⟨L, hL⟩ : ∃ L, P0 ++ (rs.take k).flatMap encRep = L := ⟨_, rfl⟩
            rw [hL] at HO HLl
            have HLe := Lib.hid hL
            obtain ⟨⟨T2, f3⟩, hT2⟩ : ∃ T, frameS [f, to] = T := ⟨_, rfl⟩
            have HFr : Hid (∀ W : World, ∀ b, b = W.heap.size → Calls Try.prog 30 #[.slice (some ⟨b, 0, none⟩) 2 2] ((W.alloc (.cells #[.string f, .string to] 9)).drew) fun e w' => e = .returned (.tuple #[.string T2, .int .i64 f3]) ∧ Below W.heap.size W w') := Lib.hid (fun W b hb => by
              subst hb
              have hF := rFrame_any [f, to] W.heap.size 0 2 ((W.alloc (.cells #[.string f, .string to] 9)).drew) (by simp) (by simp) (fun k hk => by
                rw [drew_cell, Lib.cell_of_heap (heap_alloc_new W _)]
                rcases k with _ | _ | k
                · rfl
                · rfl
                · simp at hk; omega)
              rw [hT2] at hF
              refine hF.mono ?_
              rintro e w' ⟨he, hb⟩
              exact ⟨he, ((Below.refl _ _).alloc (Nat.le_refl _) _).drew.trans (hb.mono (by simp))⟩)
            have HT2 : Hid (encRep (f, to) = T2.data.toList) := Lib.hid (by unfold encRep; rw [hT2])
            have HF2 : Hid (T2.size ≤ 530) := Lib.hid (by have := (frameS_len [f, to]).1; rw [hT2] at this; simpa using this)
            clear d0' d1' hSn hy hL hlt hT2
            go_wp2_with fail
            clear c2
            refine wp_region_held_drew (S := fun W' => W'.cell? ⟨w.heap.size, 2, none⟩ = some (.slice (some ⟨g, o, none⟩) rs.length cap1) ∧ W'.cell? ⟨g, o + k * 2, none⟩ = some (.string f) ∧ W'.cell? ⟨g, o + k * 2 + 1, none⟩ = some (.string to)) (by kernel_rfl) ?_ (fun hHeld => ?_)
            · exact HKp.out _ (Below.refl _ _).drew
            refine takeH (i := 0) (d := some 58) (v := ?_) rfl rfl (by kernel_rfl) (by kernel_rfl) (by kernel_rfl) (fun _ _ _ h => h) (Or.inl ⟨by kernel_rfl, ?_⟩) hHeld ?_
            rotate_left
            · intro w hSw; (try dsimp only at hSw); go_simp; try with_reducible rfl
            try simp only [put_norm]
            refine takeH (i := 1) (d := some 59) (v := ?_) rfl rfl (by kernel_rfl) (by kernel_rfl) (by kernel_rfl) (fun _ _ _ h => h) (Or.inl ⟨by kernel_rfl, ?_⟩) hHeld ?_
            rotate_left
            · intro w hSw; (try dsimp only at hSw); go_simp; try with_reducible rfl
            try simp only [put_norm]
            refine takeH (i := 2) (d := some 60) (v := ?_) rfl rfl (by kernel_rfl) (by kernel_rfl) (by kernel_rfl) (fun _ _ _ h => h) (Or.inl ⟨by kernel_rfl, ?_⟩) hHeld ?_
            rotate_left
            · intro w hSw; (try dsimp only at hSw); go_simp; try with_reducible rfl
            try simp only [put_norm]
            refine takeH (i := 3) (d := some 61) (v := ?_) rfl rfl (by kernel_rfl) (by kernel_rfl) (by kernel_rfl) (fun _ _ _ h => h) (Or.inl ⟨by kernel_rfl, ?_⟩) hHeld ?_
            rotate_left
            · intro w hSw; (try dsimp only at hSw); go_simp; try with_reducible rfl
            try simp only [put_norm]
            refine takeH (i := 4) (d := some 62) (v := ?_) rfl rfl (by kernel_rfl) (by kernel_rfl) (by kernel_rfl) (fun _ _ _ h => h) (Or.inl ⟨by kernel_rfl, ?_⟩) hHeld ?_
            rotate_left
            · intro w hSw; (try dsimp only at hSw); go_simp; try with_reducible rfl
            try simp only [put_norm]
            refine takeH (i := 5) (d := some 63) (v := ?_) rfl rfl (by kernel_rfl) (by kernel_rfl) (by kernel_rfl) (fun _ _ _ h => h) (Or.inl ⟨by kernel_rfl, ?_⟩) hHeld ?_
            rotate_left
            · intro w hSw; (try dsimp only at hSw); go_simp; try with_reducible rfl
            try simp only [put_norm]
            refine takeH (i := 6) (d := some 64) (v := ?_) rfl rfl (by kernel_rfl) (by kernel_rfl) (by kernel_rfl) (fun _ _ _ h => h) (Or.inl ⟨by kernel_rfl, ?_⟩) hHeld ?_
            rotate_left
            · intro w hSw; (try dsimp only at hSw); go_simp; try with_reducible rfl
            try simp only [put_norm]
            refine takeH (i := 7) (d := some 65) (v := ?_) rfl rfl (by kernel_rfl) (by kernel_rfl) (by kernel_rfl) (fun _ _ _ h => h) (Or.inl ⟨by kernel_rfl, ?_⟩) hHeld ?_
            rotate_left
            · intro w hSw; (try dsimp only at hSw); go_simp; try with_reducible rfl
            try simp only [put_norm]
            refine takeH (i := 8) (d := some 66) (v := ?_) rfl rfl (by kernel_rfl) (by kernel_rfl) (by kernel_rfl) (fun _ _ _ h => h) (Or.inl ⟨by kernel_rfl, ?_⟩) hHeld ?_
            rotate_left
            · intro w hSw; (try dsimp only at hSw); go_simp; try with_reducible rfl
            try simp only [put_norm]
            refine takeH (i := 9) (d := some 67) (v := ?_) rfl rfl (by kernel_rfl) (by kernel_rfl) (by kernel_rfl) (fun _ _ _ h => h) (Or.inl ⟨by kernel_rfl, ?_⟩) hHeld ?_
            rotate_left
            · intro w hSw; (try dsimp only at hSw); go_simp; try with_reducible rfl
            try simp only [put_norm]
            refine takeH (i := 10) (d := some 68) (v := ?_) rfl rfl (by kernel_rfl) (by kernel_rfl) (by kernel_rfl) (fun _ _ _ h => h) (Or.inl ⟨by kernel_rfl, ?_⟩) hHeld ?_
            rotate_left
            · intro w hSw; (try dsimp only at hSw); go_simp; try with_reducible rfl
            try simp only [put_norm]
            refine takeH (i := 11) (d := some 69) (v := ?_) rfl rfl (by kernel_rfl) (by kernel_rfl) (by kernel_rfl) (fun _ _ _ h => h) (Or.inl ⟨by kernel_rfl, ?_⟩) hHeld ?_
            rotate_left
            · intro w hSw; (try dsimp only at hSw); go_simp; try with_reducible rfl
            try simp only [put_norm]
            refine wpAnyH_ready (rs := [12]) (by kernel_rfl) (by simp) ?_
            refine AllReadyH.cons rfl (fun K hK => ?_) AllReadyH.nil
            go_simp
            refine hK.out _ _ ?_ (fun hHeld => ?_)
            · exact HKp.out _ (((Below.refl _ _).alloc (Nat.le_refl _) _).drew)
            clear hK K
            refine wpAnyH_ready (rs := [13]) (by kernel_rfl) (by simp) ?_
            refine AllReadyH.cons rfl (fun K hK => ?_) AllReadyH.nil
            go_simp
            refine (HFr.out _ _ rfl).mono ?_
            rintro e w8 ⟨rfl, hb8⟩
            refine hK.out _ _ ?_ (fun hHeld => ?_)
            · exact HKp.out w8 hb8
            have HB8 := Lib.hid hb8
            clear hb8
            clear hK K
            refine takeH (i := 14) (d := some 57) (v := ?_) rfl rfl (by kernel_rfl) (by kernel_rfl) (by kernel_rfl) (fun _ _ _ h => h) (Or.inl ⟨by kernel_rfl, ?_⟩) hHeld ?_
            rotate_left
            · intro w hSw; (try dsimp only at hSw); go_simp; try with_reducible rfl
            try simp only [put_norm]
            refine takeH (i := 15) (d := some 72) (v := ?_) rfl rfl (by kernel_rfl) (by kernel_rfl) (by kernel_rfl) (fun _ _ _ h => h) (Or.inl ⟨by kernel_rfl, ?_⟩) hHeld ?_
            rotate_left
            · intro w hSw; (try dsimp only at hSw); go_simp; try with_reducible rfl
            try simp only [put_norm]
            refine takeH (i := 16) (d := some 73) (v := ?_) rfl rfl (by kernel_rfl) (by kernel_rfl) (by kernel_rfl) (fun _ _ _ h => h) (Or.inl ⟨by kernel_rfl, ?_⟩) hHeld ?_
            rotate_left
            · intro w hSw; (try dsimp only at hSw); go_simp; try with_reducible rfl
            try simp only [put_norm]
            refine takeH (i := 17) (d := some 11) (v := ?_) rfl rfl (by kernel_rfl) (by kernel_rfl) (by kernel_rfl) (fun _ _ _ h => h) (Or.inl ⟨by kernel_rfl, ?_⟩) hHeld ?_
            rotate_left
            · intro w hSw; (try dsimp only at hSw); go_simp; try with_reducible rfl
            try simp only [put_norm]
            refine takeH (i := 18) (d := some 12) (v := ?_) rfl rfl (by kernel_rfl) (by kernel_rfl) (by kernel_rfl) (fun _ _ _ h => h) (Or.inl ⟨by kernel_rfl, ?_⟩) hHeld ?_
            rotate_left
            · intro w hSw; (try dsimp only at hSw); go_simp; try with_reducible rfl
            try simp only [put_norm]
            refine wpAnyH_done (by kernel_rfl) ?_ _
            have HO8 := Lib.hid (HO.out.call HB8.out)
            clear HB8
            go_wp2_with fail
            refine (put_b wb _ u7 _ T2 HO8.out (by have := HLl.out; have := HF2.out; omega)).mono ?_
            rintro e w9 ⟨p9, rfl, ho9⟩
            have HO9 := Lib.hid ho9
            clear ho9
            go_wp2_with fail
            refine ⟨⟨k + 1, HLt.out trivial, by go_num, Lib.hid (by rw [HSn.out, ← List.append_assoc, HLe.out, HT2.out]; exact HO9.out)⟩, by have := HLt.out trivial; simp [intOf]; omega⟩
          · obtain rfl : k = rs.length := by omega
            obtain ⟨H, hH⟩ : ∃ H, encH m t rs = H := ⟨_, rfl⟩
            have HHl : Hid (H.length ≤ 137000) := Lib.hid (by rw [← hH]; exact encH_len (by omega) hr3)
            have HO7 : Hid (OwnB wb wr u7 H) := Lib.hid (by
              have := HO.out
              rw [List.take_length, ← HPe.out, hH] at this
              exact this)
            have HHe := Lib.hid hH
            clear hlt hk hH HO HPl HPe
            go_wp2_with fail
            clear c2
            go_loopw [7, 13] (fun u i W => ∃ j : Nat, j ≤ 4 ∧ i = .int .i64 j ∧ Hid (OwnB wb W u (H ++ (As.take j).flatMap encA))) (fun _ i _ => 4 - (intOf i).toNat)
            case atStart => exact ⟨0, by omega, rfl, Lib.hid (by have := HO7.out; simpa using this)⟩
            case round =>
              clear HO7
              obtain ⟨j, hj, rfl, HO⟩ := hrel
              by_cases hlt : j < 4
              · have hjl : j < As.length := by have := HL.out; omega
                have hAj := HV.out j hjl
                have hcj : wr.cell? ⟨w.heap.size, 3 + j, none⟩ = some ([v0, v1, v2, v3].getD j undef) := by
                  refine (HRb.out.own HO.out).cell (3 + j) ?_
                  rcases j with _ | _ | _ | _ | j
                  · rfl
                  · rfl
                  · rfl
                  · rfl
                  · omega
                have hSn := flat_snoc As encA j hjl
                have hsh := HAll.out _ (List.getElem_mem hjl)
                have hLen : (H ++ (As.take j).flatMap encA).length ≤ 11853240144 := by
                  have h1 := encA_take_len HL.out j (fun A hA => HAll.out A (List.mem_of_mem_take hA))
                  have h2 := HHl.out
                  rw [List.length_append]; omega
                obtain ⟨A, hA⟩ : ∃ A, As[j] = A := ⟨_, rfl⟩
                rw [hA] at hAj hSn hsh
                obtain ⟨L, hL⟩ : ∃ L, H ++ (As.take j).flatMap encA = L := ⟨_, rfl⟩
                rw [hL] at hLen HO
                have hAw : AutAt wb (fun _ => True) ([v0, v1, v2, v3].getD j undef) A := hAj.kept (Kept.of_below (E := []) HRb.out.below) (by simp)
                obtain ⟨vj, hvj⟩ : ∃ vj, [v0, v1, v2, v3].getD j undef = vj := ⟨_, rfl⟩
                rw [hvj] at hcj hAw
                have HSec := Lib.hid (rsection_any wb wr u7 vj L A HO.out hAw hsh (by omega))
                have HSn := Lib.hid hSn
                have HLe := Lib.hid hL
                have HLt : Hid (True → j + 1 ≤ 4) := Lib.hid (fun _ => hlt)
                have hji : (j : Int) < 4 := by omega
                clear hjl hAj hSn hsh hLen hA hL hvj hlt hAw
                go_wp2_with fail
                refine HSec.out.mono ?_
                rintro e w10 ⟨p10, rfl, ho10⟩
                have HO10 := Lib.hid ho10
                clear ho10 hcj
                go_wp2_with fail
                refine ⟨⟨j + 1, HLt.out trivial, by go_num, Lib.hid (by rw [HSn.out, ← List.append_assoc, HLe.out]; exact HO10.out)⟩, by have := HLt.out trivial; simp [intOf]; omega⟩
              · obtain rfl : j = 4 := by omega
                have h4 : As.take 4 = As := List.take_of_length_le (by rw [HL.out]; omega)
                have HOk : Hid (encV (m : Int) t rs As = (mkS (H ++ As.flatMap encA), 0)) := Lib.hid (by
                  rw [encV_ok _ _ _ _ HSt.out HAll.out, encL, Int.toNat_natCast, HHe.out])
                have HO15 : Hid (OwnB wb wr u7 (H ++ As.flatMap encA)) := Lib.hid (by
                  have := HO.out
                  rwa [h4] at this)
                have HB15 := Lib.hid (HRb.out.own HO15.out).below
                have hcv := run_string_of_own HO15.out.own 57 9 Try.underlying57 Try.underlying5 Try.underlying9
                clear hlt hj h4
                go_wp2_with fail
                go_ret2
                exact ⟨by rw [HOk.out]; rfl, HB15.out⟩
end

section
open Go.RowKit

abbrev oneA : List St := [(false, [])]
theorem wake_enc : encV 3 ⟨#[]⟩ [] [oneA, oneA, oneA, oneA] = (wakeS, 0) := by kernel_rfl
theorem ones_sec {W : World} {B : Nat} {s0 s1 s2 s3 : Value} (h0 : OneSt W B s0) (h1 : OneSt W B s1) (h2 : OneSt W B s2) (h3 : OneSt W B s3) : SecP W (fun _ => True) [s0, s1, s2, s3] [oneA, oneA, oneA, oneA] := by
  intro j hj
  rcases j with _ | _ | _ | _ | j
  · exact h0.aut.mono (fun _ _ => trivial)
  · exact h1.aut.mono (fun _ _ => trivial)
  · exact h2.aut.mono (fun _ _ => trivial)
  · exact h3.aut.mono (fun _ _ => trivial)
  · simp at hj; omega

set_option maxHeartbeats 4000000 in
set_option maxRecDepth 100000 in
theorem wakes_any (w : World) : Calls Try.prog 13 #[] w fun e w' => e = .returned (.bool true) ∧ Below w.heap.size w w' := by
  have HE : Hid (∀ (W : World) (s0 s1 s2 s3 : Value) (B : Nat), OneSt W B s0 → OneSt W B s1 → OneSt W B s2 → OneSt W B s3 → Calls Try.prog 10 #[.agg #[.int .i64 3, .string ⟨#[]⟩, .slice none 0 0, s0, s1, s2, s3]] W fun e w' => e = .returned (.tuple #[.string wakeS, .int .i64 0]) ∧ Below W.heap.size W w') := Lib.hid (fun W s0 s1 s2 s3 B h0 h1 h2 h3 => by
    refine (Encode_any 3 ⟨#[]⟩ [] [oneA, oneA, oneA, oneA] (.slice none 0 0) s0 s1 s2 s3 W ⟨none, 0, rfl, .inl rfl⟩ rfl (ones_sec h0 h1 h2 h3) (by decide) (fun k hk => by simp at hk)).mono ?_
    rintro e w' ⟨he, hb⟩
    rw [wake_enc] at he
    exact ⟨he, hb⟩)
  have HD : Hid (∀ W : World, Calls Try.prog 15 #[.string wakeS] W fun e w' => ∃ X k0 k1 X0 n0 c0 X1 n1 c1 X2 n2 c2 X3 c3, e = .returned (.tuple #[.agg #[.int .i64 3, .string ⟨#[]⟩, .slice X k0 k1, .slice X0 n0 c0, .slice X1 n1 c1, .slice X2 n2 c2, .slice X3 1 c3], .int .i64 0]) ∧ Below W.heap.size W w') := Lib.hid (fun W => by
    refine (Decode_any wakeS W (by decide)).mono ?_
    intro e w' h
    rw [wake_dec] at h
    obtain ⟨vr, v0, v1, v2, v3, he, hb, hrp, _, hs'⟩ := h
    obtain ⟨X, k, hvr, _⟩ := reps_of_own hrp
    have hs := hs'.secP
    obtain ⟨X0, c0, h0, _⟩ := hs 0 (by decide)
    obtain ⟨X1, c1, h1, _⟩ := hs 1 (by decide)
    obtain ⟨X2, c2, h2, _⟩ := hs 2 (by decide)
    obtain ⟨X3, c3, h3, _⟩ := hs 3 (by decide)
    simp only [List.getD_cons_zero, List.getD_cons_succ] at h0 h1 h2 h3
    subst hvr h0 h1 h2 h3
    exact ⟨_, _, _, _, _, _, _, _, _, _, _, _, _, _, he, hb⟩)
  have hws : wakeS.toList = [72, 66, 75, 49, 3, 0, 0, 1, 0, 1, 0, 1, 0, 1, 0] := by rw [Lib.toList_data]; rfl
  go_enter Try.func13, Try.ntmps13
  go_wp2_with fail
  refine (empty_any w).mono ?_
  rintro e w1 ⟨s0, s1, s2, s3, rfl, hb1, h0, h1, h2, h3⟩
  have HE1 := Lib.hid (HE.out w1 s0 s1 s2 s3 _ h0 h1 h2 h3)
  have HB1 := Lib.hid hb1
  clear hb1 h0 h1 h2 h3
  go_wp2_with fail
  refine HE1.out.mono ?_
  rintro e w2 ⟨rfl, hb2⟩
  have HB2 := Lib.hid (HB1.out.trans (hb2.mono HB1.out.size))
  clear hb2
  go_wp2_with fail
  refine (HD.out w2).mono ?_
  rintro e w3 ⟨X, k0, k1, X0, n0, c0, X1, n1, c1, X2, n2, c2, X3, c3, rfl, hb3⟩
  have HB3 := Lib.hid (HB2.out.trans (hb3.mono HB2.out.size))
  clear hb3
  go_wp2_with fail
  go_ret
  exact ⟨rfl, HB3.out.alloc HB3.out.size _⟩
end

section
open Go.RowKit

/-- The book and the fault of what Decode answers. -/
def decB (r : Except Nat Bk) : Bk × Nat := match r with | .ok b => (b, 0) | .error c => (⟨0, ⟨#[]⟩, [], [[], [], [], []]⟩, c)
/-- A book's slices in memory. -/
structure BkAt (w : World) (p : Nat → Prop) (vr v0 v1 v2 v3 : Value) (rs : List Rp) (As : List (List St)) : Prop where
  reps : RepsAt w vr rs
  len : As.length = 4
  secs : SecP w p [v0, v1, v2, v3] As
theorem RepsAt.kept {w w' : World} {v : Value} {rs : List Rp} (h : RepsAt w v rs) (hk : Below w.heap.size w w') : RepsAt w' v rs := by
  obtain ⟨A, cap, hv, hA⟩ := h
  refine ⟨A, cap, hv, ?_⟩
  rcases hA with hA | ⟨g, o, hA, hg, hcs⟩
  · exact .inl hA
  · exact .inr ⟨g, o, hA, Nat.lt_of_lt_of_le hg hk.size, fun k h => ⟨(hk.cell (p := ⟨g, _, none⟩) hg).trans (hcs k h).1, (hk.cell (p := ⟨g, _, none⟩) hg).trans (hcs k h).2⟩⟩
theorem SecP.keep {w w' : World} {p : Nat → Prop} {vs : List Value} {As : List (List St)} (h : SecP w p vs As) (hk : Below w.heap.size w w') : SecP w' p vs As := fun j hj => (h j hj).kept (Kept.of_below (E := []) hk) (by simp)
theorem SecP.mono' {w : World} {p q : Nat → Prop} {vs : List Value} {As : List (List St)} (h : SecP w p vs As) (hq : ∀ k, p k → q k) : SecP w q vs As := fun j hj => (h j hj).mono hq
theorem BkAt.keep {w w' : World} {p : Nat → Prop} {vr v0 v1 v2 v3 : Value} {rs : List Rp} {As : List (List St)} (h : BkAt w p vr v0 v1 v2 v3 rs As) (hk : Below w.heap.size w w') : BkAt w' p vr v0 v1 v2 v3 rs As :=
  ⟨h.reps.kept hk, h.len, h.secs.keep hk⟩
theorem BkAt.any {w : World} {p : Nat → Prop} {vr v0 v1 v2 v3 : Value} {rs : List Rp} {As : List (List St)} (h : BkAt w p vr v0 v1 v2 v3 rs As) : BkAt w (fun _ => True) vr v0 v1 v2 v3 rs As :=
  ⟨h.reps, h.len, h.secs.mono' (fun _ _ => trivial)⟩
/-- Each of its values is a slice. -/
theorem BkAt.form {w : World} {p : Nat → Prop} {vr v0 v1 v2 v3 : Value} {rs : List Rp} {As : List (List St)} (h : BkAt w p vr v0 v1 v2 v3 rs As) :
    ∃ X k X0 n0 k0 X1 n1 k1 X2 n2 k2 X3 n3 k3, vr = .slice X rs.length k ∧ v0 = .slice X0 n0 k0 ∧ v1 = .slice X1 n1 k1 ∧ v2 = .slice X2 n2 k2 ∧ v3 = .slice X3 n3 k3 := by
  obtain ⟨X, k, hvr, _⟩ := h.reps
  have hl := h.len
  obtain ⟨X0, k0, h0, _⟩ := h.secs 0 (by omega)
  obtain ⟨X1, k1, h1, _⟩ := h.secs 1 (by omega)
  obtain ⟨X2, k2, h2, _⟩ := h.secs 2 (by omega)
  obtain ⟨X3, k3, h3, _⟩ := h.secs 3 (by omega)
  exact ⟨_, _, _, _, _, _, _, _, _, _, _, _, _, _, hvr, h0, h1, h2, h3⟩
theorem zero_at (w : World) : BkAt w (fun _ => True) (.slice none 0 0) (.slice none 0 0) (.slice none 0 0) (.slice none 0 0) (.slice none 0 0) [] [[], [], [], []] := by
  refine ⟨⟨none, 0, rfl, .inl rfl⟩, rfl, fun j hj => ?_⟩
  have h0 : AutAt w (fun _ => True) (.slice none 0 0) [] := ⟨none, 0, rfl, by unfold maxLen; exact ⟨Nat.le_refl _, by omega⟩, .inl rfl⟩
  rcases j with _ | _ | _ | _ | j
  · exact h0
  · exact h0
  · exact h0
  · exact h0
  · simp at hj; omega
/-- What is bounded so is copied and compared. -/
def Small (rs : List Rp) (As : List (List St)) : Prop := rs.length ≤ 4398046510976 ∧ ∀ A ∈ As, A.length ≤ 4398046510976 ∧ ∀ x ∈ A, x.2.length ≤ 8796093021952

theorem Decode_b (s : ByteArray) (w : World) (hs : s.size ≤ 562949953421311) :
    Calls Try.prog 15 #[.string s] w fun e w' => ∃ vr v0 v1 v2 v3, e = .returned (.tuple #[.agg #[.int .i64 ((decB (decR s)).1.least : Int), .string (decB (decR s)).1.tryT, vr, v0, v1, v2, v3], .int .i64 ((decB (decR s)).2 : Int)]) ∧
      Below w.heap.size w w' ∧ BkAt w' (fun _ => True) vr v0 v1 v2 v3 (decB (decR s)).1.reps (decB (decR s)).1.secs := by
  refine (Decode_any s w hs).mono ?_
  intro e w' h
  cases hr : decR s with
  | error c =>
    rw [hr] at h
    obtain ⟨he, hb⟩ := h
    exact ⟨_, _, _, _, _, he, hb, zero_at w'⟩
  | ok b =>
    rw [hr] at h
    obtain ⟨vr, v0, v1, v2, v3, he, hb, h1, h2, h3⟩ := h
    exact ⟨vr, v0, v1, v2, v3, he, hb, reps_of_own h1, h2, h3.secP.mono' (fun _ _ => trivial)⟩
theorem rDecode_b (s : ByteArray) (w : World) (hs : s.size ≤ 140737488355327) :
    Calls Try.prog 16 #[.string s] w fun e w' => ∃ vr v0 v1 v2 v3, e = .returned (.tuple #[.agg #[.int .i64 ((decB (decR s)).1.least : Int), .string (decB (decR s)).1.tryT, vr, v0, v1, v2, v3], .int .i64 ((decB (decR s)).2 : Int)]) ∧
      Below w.heap.size w w' ∧ BkAt w' (fun _ => True) vr v0 v1 v2 v3 (decB (decR s)).1.reps (decB (decR s)).1.secs := by
  refine (rDecode_any s w hs).mono ?_
  intro e w' h
  cases hr : decR s with
  | error c =>
    rw [hr] at h
    obtain ⟨he, hb⟩ := h
    exact ⟨_, _, _, _, _, he, hb, zero_at w'⟩
  | ok b =>
    rw [hr] at h
    obtain ⟨vr, v0, v1, v2, v3, he, hb, h1, h2, h3⟩ := h
    exact ⟨vr, v0, v1, v2, v3, he, hb, h1, h2, h3.mono' (fun _ _ => trivial)⟩
theorem decB_small (s : ByteArray) : Small (decB (decR s)).1.reps (decB (decR s)).1.secs := by
  cases hr : decR s with
  | error c =>
    refine ⟨Nat.zero_le _, fun A hA => ?_⟩
    have : A = [] := by simpa [decB] using hA
    subst this
    exact ⟨Nat.zero_le _, fun x hx => by cases hx⟩
  | ok b =>
    obtain ⟨h1, h2, h3, h4⟩ := decR_bounds hr
    refine ⟨Nat.le_trans h1 (by omega), fun A hA => ?_⟩
    have := h4 A hA
    exact ⟨Nat.le_trans this.2.1 (by omega), fun x hx => Nat.le_trans (this.2.2 x hx) (by omega)⟩
/-- ref of a book, alike of two readings of a book: in these words. -/
theorem ref_b (n : Int) (t : ByteArray) (rs : List Rp) (As : List (List St)) (vr v0 v1 v2 v3 : Value) (w : World) (h : BkAt w (fun _ => True) vr v0 v1 v2 v3 rs As) (hs : Small rs As) :
    Calls Try.prog 12 #[.agg #[.int .i64 n, .string t, vr, v0, v1, v2, v3]] w fun e w' => ∃ ur u0 u1 u2 u3, e = .returned (.agg #[.int .i64 n, .string t, ur, u0, u1, u2, u3]) ∧ Below w.heap.size w w' ∧ BkAt w' (fun _ => True) ur u0 u1 u2 u3 rs As := by
  refine (ref_any n t rs As vr v0 v1 v2 v3 w h.reps h.len h.secs hs.1 hs.2).mono ?_
  rintro e w' ⟨ur, u0, u1, u2, u3, he, hb, h1, h2⟩
  exact ⟨ur, u0, u1, u2, u3, he, hb, h1, h.len, h2.mono' (fun _ _ => trivial)⟩
theorem alike_b (n : Int) (t : ByteArray) (rs : List Rp) (As : List (List St)) (vr v0 v1 v2 v3 ur u0 u1 u2 u3 : Value) (w : World) (h : BkAt w (fun _ => True) vr v0 v1 v2 v3 rs As) (k : BkAt w (fun _ => True) ur u0 u1 u2 u3 rs As) (hs : Small rs As) :
    Calls Try.prog 14 #[.agg #[.int .i64 n, .string t, vr, v0, v1, v2, v3], .agg #[.int .i64 n, .string t, ur, u0, u1, u2, u3]] w fun e w' => e = .returned (.bool true) ∧ Below w.heap.size w w' :=
  alike_same n t rs As vr v0 v1 v2 v3 ur u0 u1 u2 u3 w h.reps k.reps h.len h.secs k.secs hs.1 hs.2

set_option maxHeartbeats 8000000 in
set_option maxRecDepth 100000 in
theorem decodes_walk (s : ByteArray) (w : World) (hs : s.size ≤ 140737488355327) :
    Calls Try.prog 4 #[.string s] w fun e w' => e = .returned (.bool true) ∧ Below w.heap.size w w' := by
  have hD := fun W => Decode_b s W (by omega)
  have hR := fun W => rDecode_b s W hs
  have hsm := decB_small s
  obtain ⟨⟨⟨n, t, rs, As⟩, c⟩, hb⟩ : ∃ b, decB (decR s) = b := ⟨_, rfl⟩
  rw [hb] at hD hR hsm
  dsimp only at hD hR hsm
  have HD := Lib.hid hD
  have HR := Lib.hid hR
  have HS := Lib.hid hsm
  clear hb hD hR hsm
  go_enter Try.func4, Try.ntmps4
  go_wp2_with fail
  refine (HD.out w).mono ?_
  rintro e w1 ⟨vr, v0, v1, v2, v3, rfl, hb1, hk1⟩
  obtain ⟨X, k, X0, n0, k0, X1, n1, k1, X2, n2, k2, X3, n3, k3, rfl, rfl, rfl, rfl, rfl⟩ := hk1.form
  have HB1 := Lib.hid hb1
  have HK1 := Lib.hid hk1
  clear hb1 hk1
  go_wp2_with fail
  refine (HR.out _).mono ?_
  rintro e w2 ⟨vr, v0, v1, v2, v3, rfl, hb2, hk2⟩
  obtain ⟨Y, l, Y0, m0, l0, Y1, m1, l1, Y2, m2, l2, Y3, m3, l3, rfl, rfl, rfl, rfl, rfl⟩ := hk2.form
  obtain ⟨W1, hW1⟩ : ∃ W, w1.alloc (.cells #[.int .i64 n, .string t, .slice X rs.length k, .slice X0 n0 k0, .slice X1 n1 k1, .slice X2 n2 k2, .slice X3 n3 k3] 26) = W := ⟨_, rfl⟩
  rw [hW1] at hb2
  obtain ⟨W2, hW2⟩ : ∃ W, w2.alloc (.cells #[.int .i64 n, .string t, .slice Y rs.length l, .slice Y0 m0 l0, .slice Y1 m1 l1, .slice Y2 m2 l2, .slice Y3 m3 l3] 37) = W := ⟨_, rfl⟩
  have hbx : W1.heap[w1.heap.size]? = some (.cells #[.int .i64 n, .string t, .slice X rs.length k, .slice X0 n0 k0, .slice X1 n1 k1, .slice X2 n2 k2, .slice X3 n3 k3] 26 (0, 0)) := by rw [← hW1]; exact heap_alloc_new w1 _
  have hbr : W2.heap[w2.heap.size]? = some (.cells #[.int .i64 n, .string t, .slice Y rs.length l, .slice Y0 m0 l0, .slice Y1 m1 l1, .slice Y2 m2 l2, .slice Y3 m3 l3] 37 (0, 0)) := by rw [← hW2]; exact heap_alloc_new w2 _
  have hb12 : Below w1.heap.size w1 W1 := by rw [← hW1]; exact (Below.refl _ _).alloc (Nat.le_refl _) _
  have hb22 : Below w2.heap.size w2 W2 := by rw [← hW2]; exact (Below.refl _ _).alloc (Nat.le_refl _) _
  have hbx2 : W2.heap[w1.heap.size]? = some (.cells #[.int .i64 n, .string t, .slice X rs.length k, .slice X0 n0 k0, .slice X1 n1 k1, .slice X2 n2 k2, .slice X3 n3 k3] 26 (0, 0)) := by
    rw [hb22.block _ (Nat.lt_of_lt_of_le (block_lt hbx) hb2.size), hb2.block _ (block_lt hbx)]
    exact hbx
  have HBW : Hid (Below w.heap.size w W2) := Lib.hid (((HB1.out.trans (hb12.mono HB1.out.size)).trans (hb2.mono (Nat.le_trans HB1.out.size hb12.size))).trans (hb22.mono (by have := HB1.out.size; have := hb12.size; have := hb2.size; omega)))
  have HKA : Hid (∀ W', Below W2.heap.size W2 W' → BkAt W' (fun _ => True) (.slice X rs.length k) (.slice X0 n0 k0) (.slice X1 n1 k1) (.slice X2 n2 k2) (.slice X3 n3 k3) rs As) := Lib.hid (fun W' hB => (((HK1.out.keep hb12).keep hb2).keep hb22).keep hB)
  have HKR : Hid (∀ W', Below W2.heap.size W2 W' → BkAt W' (fun _ => True) (.slice Y rs.length l) (.slice Y0 m0 l0) (.slice Y1 m1 l1) (.slice Y2 m2 l2) (.slice Y3 m3 l3) rs As) := Lib.hid (fun W' hB => (hk2.keep hb22).keep hB)
  have HX : Hid (∀ W', Below W2.heap.size W2 W' → (W'.cell? ⟨w1.heap.size, 0, none⟩ = some (.int .i64 n) ∧ W'.cell? ⟨w1.heap.size, 1, none⟩ = some (.string t) ∧ W'.cell? ⟨w1.heap.size, 2, none⟩ = some (.slice X rs.length k) ∧ W'.cell? ⟨w1.heap.size, 3, none⟩ = some (.slice X0 n0 k0) ∧ W'.cell? ⟨w1.heap.size, 4, none⟩ = some (.slice X1 n1 k1) ∧ W'.cell? ⟨w1.heap.size, 5, none⟩ = some (.slice X2 n2 k2) ∧ W'.cell? ⟨w1.heap.size, 6, none⟩ = some (.slice X3 n3 k3)) ∧ (W'.cell? ⟨w2.heap.size, 0, none⟩ = some (.int .i64 n) ∧ W'.cell? ⟨w2.heap.size, 1, none⟩ = some (.string t) ∧ W'.cell? ⟨w2.heap.size, 2, none⟩ = some (.slice Y rs.length l) ∧ W'.cell? ⟨w2.heap.size, 3, none⟩ = some (.slice Y0 m0 l0) ∧ W'.cell? ⟨w2.heap.size, 4, none⟩ = some (.slice Y1 m1 l1) ∧ W'.cell? ⟨w2.heap.size, 5, none⟩ = some (.slice Y2 m2 l2) ∧ W'.cell? ⟨w2.heap.size, 6, none⟩ = some (.slice Y3 m3 l3))) := Lib.hid (fun W' hB => by
    have hx : W'.heap[w1.heap.size]? = _ := (hB.block _ (block_lt hbx2)).trans hbx2
    have hy : W'.heap[w2.heap.size]? = _ := (hB.block _ (block_lt hbr)).trans hbr
    refine ⟨⟨?_, ?_, ?_, ?_, ?_, ?_, ?_⟩, ?_, ?_, ?_, ?_, ?_, ?_, ?_⟩
    all_goals first | (rw [Lib.cell_of_heap hx]; rfl) | (rw [Lib.cell_of_heap hy]; rfl))
  have HW1 := Lib.hid hW1
  have HW2 := Lib.hid hW2
  clear hb2 hk2 hbx hbr hb12 hb22 hbx2 hW1 hW2
  go_wp2_with fail
  rw [HW2.out]
  refine wp_region_held_drew (S := fun W' => (W'.cell? ⟨w1.heap.size, 0, none⟩ = some (.int .i64 n) ∧ W'.cell? ⟨w1.heap.size, 1, none⟩ = some (.string t) ∧ W'.cell? ⟨w1.heap.size, 2, none⟩ = some (.slice X rs.length k) ∧ W'.cell? ⟨w1.heap.size, 3, none⟩ = some (.slice X0 n0 k0) ∧ W'.cell? ⟨w1.heap.size, 4, none⟩ = some (.slice X1 n1 k1) ∧ W'.cell? ⟨w1.heap.size, 5, none⟩ = some (.slice X2 n2 k2) ∧ W'.cell? ⟨w1.heap.size, 6, none⟩ = some (.slice X3 n3 k3)) ∧ (W'.cell? ⟨w2.heap.size, 0, none⟩ = some (.int .i64 n) ∧ W'.cell? ⟨w2.heap.size, 1, none⟩ = some (.string t) ∧ W'.cell? ⟨w2.heap.size, 2, none⟩ = some (.slice Y rs.length l) ∧ W'.cell? ⟨w2.heap.size, 3, none⟩ = some (.slice Y0 m0 l0) ∧ W'.cell? ⟨w2.heap.size, 4, none⟩ = some (.slice Y1 m1 l1) ∧ W'.cell? ⟨w2.heap.size, 5, none⟩ = some (.slice Y2 m2 l2) ∧ W'.cell? ⟨w2.heap.size, 6, none⟩ = some (.slice Y3 m3 l3))) (by kernel_rfl) ?_ (fun hHeld => ?_)
  · exact HX.out _ (Below.refl _ _).drew
  refine wpAnyH_ready (rs := [0]) (by kernel_rfl) (by simp) ?_
  refine AllReadyH.cons rfl (fun K hK => ?_) AllReadyH.nil
  go_simp
  refine (wakes_any _).mono ?_
  rintro e w4 ⟨rfl, hb4⟩
  have HB4 : Hid (Below W2.heap.size W2 w4) := Lib.hid ((Below.refl _ _).drew.trans hb4)
  refine hK.out _ _ ?_ (fun hHeld => ?_)
  · exact HX.out w4 HB4.out
  clear hb4
  clear hK K
  refine takeH (i := 1) (d := some 18) (v := ?_) rfl rfl (by kernel_rfl) (by kernel_rfl) (by kernel_rfl) (fun _ _ _ h => h) (Or.inl ⟨by kernel_rfl, ?_⟩) hHeld ?_
  rotate_left
  · intro w hSw; (try dsimp only at hSw); go_simp; try with_reducible rfl
  try simp only [put_norm]
  refine takeH (i := 2) (d := some 19) (v := ?_) rfl rfl (by kernel_rfl) (by kernel_rfl) (by kernel_rfl) (fun _ _ _ h => h) (Or.inl ⟨by kernel_rfl, ?_⟩) hHeld ?_
  rotate_left
  · intro w hSw; (try dsimp only at hSw); go_simp; try with_reducible rfl
  try simp only [put_norm]
  refine takeH (i := 3) (d := some 20) (v := ?_) rfl rfl (by kernel_rfl) (by kernel_rfl) (by kernel_rfl) (fun _ _ _ h => h) (Or.inl ⟨by kernel_rfl, ?_⟩) hHeld ?_
  rotate_left
  · intro w hSw; (try dsimp only at hSw); go_simp; try with_reducible rfl
  try simp only [put_norm]
  refine takeH (i := 4) (d := some 21) (v := ?_) rfl rfl (by kernel_rfl) (by kernel_rfl) (by kernel_rfl) (fun _ _ _ h => h) (Or.inl ⟨by kernel_rfl, ?_⟩) hHeld ?_
  rotate_left
  · intro w hSw; (try dsimp only at hSw); go_simp; try with_reducible rfl
  try simp only [put_norm]
  refine takeH (i := 5) (d := some 22) (v := ?_) rfl rfl (by kernel_rfl) (by kernel_rfl) (by kernel_rfl) (fun _ _ _ h => h) (Or.inl ⟨by kernel_rfl, ?_⟩) hHeld ?_
  rotate_left
  · intro w hSw; (try dsimp only at hSw); go_simp; try with_reducible rfl
  try simp only [put_norm]
  refine takeH (i := 6) (d := some 23) (v := ?_) rfl rfl (by kernel_rfl) (by kernel_rfl) (by kernel_rfl) (fun _ _ _ h => h) (Or.inl ⟨by kernel_rfl, ?_⟩) hHeld ?_
  rotate_left
  · intro w hSw; (try dsimp only at hSw); go_simp; try with_reducible rfl
  try simp only [put_norm]
  refine takeH (i := 7) (d := some 24) (v := ?_) rfl rfl (by kernel_rfl) (by kernel_rfl) (by kernel_rfl) (fun _ _ _ h => h) (Or.inl ⟨by kernel_rfl, ?_⟩) hHeld ?_
  rotate_left
  · intro w hSw; (try dsimp only at hSw); go_simp; try with_reducible rfl
  try simp only [put_norm]
  refine takeH (i := 9) (d := some 26) (v := ?_) rfl rfl (by kernel_rfl) (by kernel_rfl) (by kernel_rfl) (fun _ _ _ h => h) (Or.inl ⟨by kernel_rfl, ?_⟩) hHeld ?_
  rotate_left
  · intro w hSw; (try dsimp only at hSw); go_simp; try with_reducible rfl
  try simp only [put_norm]
  refine wpAnyH_ready (rs := [8]) (by kernel_rfl) (by simp) ?_
  refine AllReadyH.cons rfl (fun K hK => ?_) AllReadyH.nil
  go_simp
  refine (ref_b _ _ rs As _ _ _ _ _ w4 (HKA.out _ HB4.out) HS.out).mono ?_
  rintro e w5 ⟨ur, u0, u1, u2, u3, rfl, hb5, hku⟩
  have HB5 : Hid (Below W2.heap.size W2 w5) := Lib.hid (HB4.out.trans (hb5.mono HB4.out.size))
  have HKU := Lib.hid hku
  refine hK.out _ _ ?_ (fun hHeld => ?_)
  · exact HX.out w5 HB5.out
  clear hb5 hku
  clear hK K
  refine wpAnyH_ready (rs := [10]) (by kernel_rfl) (by simp) ?_
  refine AllReadyH.cons rfl (fun K hK => ?_) AllReadyH.nil
  go_simp
  refine (alike_b _ _ rs As _ _ _ _ _ _ _ _ _ _ w5 HKU.out (HKR.out _ HB5.out) HS.out).mono ?_
  rintro e w6 ⟨rfl, hb6⟩
  have HB6 : Hid (Below W2.heap.size W2 w6) := Lib.hid (HB5.out.trans (hb6.mono HB5.out.size))
  refine hK.out _ _ ?_ (fun hHeld => ?_)
  · exact HX.out w6 HB6.out
  clear hb6
  clear hK K
  refine takeH (i := 11) (d := some 28) (v := ?_) rfl rfl (by kernel_rfl) (by kernel_rfl) (by kernel_rfl) (fun _ _ _ h => h) (Or.inl ⟨by kernel_rfl, ?_⟩) hHeld ?_
  rotate_left
  · intro w hSw; (try dsimp only at hSw); go_simp; try with_reducible rfl
  try simp only [put_norm]
  refine takeH (i := 12) (d := some 2) (v := ?_) rfl rfl (by kernel_rfl) (by kernel_rfl) (by kernel_rfl) (fun _ _ _ h => h) (Or.inl ⟨by kernel_rfl, ?_⟩) hHeld ?_
  rotate_left
  · intro w hSw; (try dsimp only at hSw); go_simp; try with_reducible rfl
  try simp only [put_norm]
  refine wpAnyH_done (by kernel_rfl) ?_ _
  go_wp2_with fail
  go_ret
  exact ⟨rfl, HBW.out.trans (HB6.out.mono HBW.out.size)⟩
end

section
open Go.RowKit

/-- An append of nothing leaves the row and the world. -/
theorem run_append_zero {P : Program} (w : World) (base : Nat) (t ty e : TypeId) (i : TypeInfo) (size : Nat) (ht : P.underlying t = some (.slice e)) (hi : P.info? e = some i)
    (v : Value) (n : Nat) (xs : List Value) (hown : w.ownsRow base e size v n xs) (A : Option Addr) (c : Nat) : (Builtin.append_ #[t, t] ty #[v, .slice A 0 c]).run P w = .ok v w := by
  rcases hown.2 with ⟨rfl, rfl⟩ | ⟨g, cap, cur, rfl, _, _, hnc, _⟩
  · cases A <;> simp [Builtin.append_, run_underlying ht, sizeOf, typeInfo, hi, Builtin.lenOf, Builtin.firstCells, loadCells, loadCellsFrom]
  · cases A <;> simp [Builtin.append_, run_underlying ht, sizeOf, typeInfo, hi, Builtin.lenOf, Builtin.firstCells, hnc, storeCells, loadCells, loadCellsFrom]
theorem run_append_src {P : Program} (w : World) (base : Nat) (t ty e : TypeId) (i : TypeInfo) (z : Value) (size bytes : Nat) (ht : P.underlying t = some (.slice e)) (hi : P.info? e = some i) (hz : i.zero = some z)
    (hsize : i.size = size) (hby : i.bytes = bytes) (hzs : z.cells.size = size) (hsz : 0 < size)
    (v : Value) (n : Nat) (xs : List Value) (hown : w.ownsRow base e size v n xs)
    (A : Option Addr) (m c : Nat) (news : List Value) (hl : news.length = m * size) (hr : m = 0 ∨ ∃ ad, A = some ad ∧ ∀ j u, news[j]? = some u → w.cell? (ad.add j) = some u) (h1 : ∀ u ∈ news, u.oneCell' = true)
    (h63 : n + m ≤ maxLen) (hbytes : (n + m) * bytes ≤ 140737488355328) (hbase : base ≤ w.heap.size) :
    ∃ v' w', (Builtin.append_ #[t, t] ty #[v, .slice A m c]).run P w = .ok v' w' ∧ w'.ownsRow base e size v' (n + m) (xs ++ news) ∧ w.grownBy w' v.ownBlock ∧ (v'.ownBlock = v.ownBlock ∨ v'.ownBlock = some w.heap.size) := by
  rcases Nat.eq_zero_or_pos m with h0 | h0
  · subst h0
    have hn : news = [] := List.eq_nil_of_length_eq_zero (by simpa using hl)
    subst hn
    exact ⟨v, w, run_append_zero w base t ty e i size ht hi v n xs hown A c, by simpa using hown, World.grownBy.refl w _, .inl rfl⟩
  · obtain ⟨ad, rfl, hc⟩ := hr.resolve_left (by omega)
    obtain ⟨v', w', hrun, h2, h3, _, h5⟩ := run_append_own_at (P := P) w base t ty e i z size bytes ht hi hz hsize hby hzs hsz v n xs hown ad m c news hl hc h1 h63 hbytes hbase
    exact ⟨v', w', hrun, h2, h3, h5⟩
/-- .. at a step of a region that draws its order. -/
theorem step_append_src {P : Program} {w : World} {ops : Array Oper} {o : Oper} {a : Act} {K : Act → World → Prop} {Q : Exit → Act → World → Prop} {E : Prop} (hgd : o.guard = none) (s x : Operand) (t : TypeId)
    (ho : o.op = .call { callee := .builtin .append, args := #[s, x], argTypes := #[t, t] })
    (base : Nat) (e : TypeId) (i : TypeInfo) (z : Value) (size bytes : Nat) (ht : P.underlying t = some (.slice e)) (hi : P.info? e = some i) (hz : i.zero = some z)
    (hsize : i.size = size) (hby : i.bytes = bytes) (hzs : z.cells.size = size) (hsz : 0 < size)
    (v : Value) (n : Nat) (xs : List Value) (hs : a.eval s = v) (hown : w.ownsRow base e size v n xs)
    (A : Option Addr) (m c : Nat) (news : List Value) (hx : a.eval x = .slice A m c) (hl : news.length = m * size) (hr : m = 0 ∨ ∃ ad, A = some ad ∧ ∀ j u, news[j]? = some u → w.cell? (ad.add j) = some u) (h1 : ∀ u ∈ news, u.oneCell' = true)
    (h63 : n + m ≤ maxLen) (hbytes : (n + m) * bytes ≤ 140737488355328) (hbase : base ≤ w.heap.size)
    (h : ∀ v' w', w'.ownsRow base e size v' (n + m) (xs ++ news) → w.grownBy w' v.ownBlock → (v'.ownBlock = v.ownBlock ∨ v'.ownBlock = some w.heap.size) → K (a.put o.dst v') w') :
    if Region.wanted o (yielded ops a.tmps) = true then Oper.wp P o a w K Q else E := by
  have hw : Region.wanted o (yielded ops a.tmps) = true := by simp [Region.wanted, hgd]
  rw [if_pos hw]
  obtain ⟨v', w', hrun, h2, h3, h4⟩ := run_append_src (P := P) w base t o.type e i z size bytes ht hi hz hsize hby hzs hsz v n xs hown A m c news hl hr h1 h63 hbytes hbase
  unfold Oper.wp execOp
  simp only [ho, resolve, invoke, builtin, Sem.run_bind, Sem.run_pure, Result.andThen_ok, List.map_toArray, List.map_cons, List.map_nil, hs, hx, hrun]
  exact h v' w' h2 h3 h4
end
end Go.Proofs.Ytehbjfjhalpgaaa
