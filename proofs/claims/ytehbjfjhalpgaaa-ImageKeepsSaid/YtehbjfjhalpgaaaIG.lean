/-
  The reference's Decode.
-/
import Derived.Test.YtehbjfjhalpgaaaRows
import Derived.Test.YtehbjfjhalpgaaaIF
namespace Go.Proofs.Ytehbjfjhalpgaaa
section
open Go.RowKit
attribute [local go_sem ↓] Go.wp_at_zero Go.wp_at_succ

theorem RDSt.resc {w W : World} {s : ByteArray} {p f : Nat} {cs : Array Value} (h : RDSt w s W p f cs) (i : Nat) {x : Value} (hx : zeroCells[i]? = some x) : W.cell? ⟨w.heap.size, i, none⟩ = some x := by rw [Lib.cell_of_heap h.res]; exact hx
theorem RDSt.resf {w W : World} {s : ByteArray} {p f : Nat} {cs : Array Value} (h : RDSt w s W p f cs) (i : Nat) : W.frozen? ⟨w.heap.size, i, none⟩ = false := Lib.frozen_of_heap h.res i
/-- The answer's variable stored: whatever the book. -/
theorem res_store {w W : World} {s : ByteArray} {p f : Nat} {cs : Array Value} (x0 x1 x2 x3 x4 x5 x6 : Value) (h : RDSt w s W p f cs) :
    let Z := (((((((W.setCell ⟨w.heap.size, 0, none⟩ x0).setCell ⟨w.heap.size, 1, none⟩ x1).setCell ⟨w.heap.size, 2, none⟩ x2).setCell ⟨w.heap.size, 3, none⟩ x3).setCell ⟨w.heap.size, 4, none⟩ x4).setCell ⟨w.heap.size, 5, none⟩ x5).setCell ⟨w.heap.size, 6, none⟩ x6)
    Z.heap[w.heap.size]? = some (.cells #[x0, x1, x2, x3, x4, x5, x6] 37 (0, 0)) ∧ Kept [w.heap.size] W Z ∧ Below w.heap.size w Z := by
  intro Z
  have hz := heap_setCell_same _ w.heap.size 6 _ _ x6 (heap_setCell_same _ w.heap.size 5 _ _ x5 (heap_setCell_same _ w.heap.size 4 _ _ x4 (heap_setCell_same _ w.heap.size 3 _ _ x3 (heap_setCell_same _ w.heap.size 2 _ _ x2 (heap_setCell_same _ w.heap.size 1 _ _ x1 (heap_setCell_same _ w.heap.size 0 _ _ x0 h.res))))))
  simp only [List.setIfInBounds_toArray, List.set_cons_zero, List.set_cons_succ] at hz
  have hk : Kept [w.heap.size] W Z := (((((((Kept.refl [w.heap.size] W).set _ _ _ (.inl (by simp))).set _ _ _ (.inl (by simp))).set _ _ _ (.inl (by simp))).set _ _ _ (.inl (by simp))).set _ _ _ (.inl (by simp))).set _ _ _ (.inl (by simp))).set _ _ _ (.inl (by simp))
  exact ⟨hz, hk, h.below.trans (hk.below h.below.size (by simp))⟩

theorem drew_cell (W : World) (a : Addr) : W.drew.cell? a = W.cell? a := rfl
theorem drew_heap_at (W : World) (k : Nat) : W.drew.heap[k]? = W.heap[k]? := rfl
theorem magic_list : magicS.toList = [72, 66, 75, 49] := by rw [Lib.toList_data]; rfl
set_option maxHeartbeats 16000000 in
set_option maxRecDepth 100000 in
theorem rDecode_any (s : ByteArray) (w : World) (hs : s.size ≤ 140737488355327) : Calls Try.prog 16 #[.string s] w (PostRD w (decR s)) := by
  obtain ⟨i0, hi, hz0, hz1, hz2⟩ := info_parts rrep_info
  obtain ⟨R, hR⟩ : ∃ R, decR s = R := ⟨_, rfl⟩
  rw [hR]
  have HR := Lib.hid hR
  clear hR
  obtain ⟨T, hT⟩ : ∃ T, s.extract 0 4 = T := ⟨_, rfl⟩
  cases hb : Lib.hasPrefix s.data.toList magicS.data.toList
  · have HR' : Hid (R = .error 200) := Lib.hid (by rw [← HR.out, decR, hb]; rfl)
    have hZ : (w.alloc (.cells zeroCells 37)).heap[w.heap.size]? = some (.cells zeroCells 37 (0, 0)) := heap_alloc_new w _
    have HZ := Lib.hid hZ
    clear hZ HR
    by_cases h4 : 4 ≤ s.size
    · have hne := hasPrefix_no s hb h4
      rw [hT] at hne
      have h4' : ¬ (s.size : Int) < 4 := by omega
      have h4'' : (4 : Int) ≤ (s.size : Int) := by omega
      have hbe : (T.toList == [72, 66, 75, 49]) = false := by rw [← magic_list, beq_str]; exact decide_eq_false hne
      have HT := Lib.hid hT
      clear hb hne
      go_enter Try.func16, Try.ntmps16
      go_wp2_with fail
      exact ⟨rfl, _, results_rbook w.heap.size (.int .i64 0) (.string ⟨#[]⟩) (.slice none 0 0) (.slice none 0 0) (.slice none 0 0) (.slice none 0 0) (.slice none 0 0) (.int .i64 200) _ _ rfl rfl HZ.out, by rw [HR'.out]; exact ⟨rfl, (Below.refl _ _).alloc (Nat.le_refl _) _⟩⟩
    · have h4' : (s.size : Int) < 4 := by omega
      clear hb hT
      go_enter Try.func16, Try.ntmps16
      go_wp2_with fail
      exact ⟨rfl, _, results_rbook w.heap.size (.int .i64 0) (.string ⟨#[]⟩) (.slice none 0 0) (.slice none 0 0) (.slice none 0 0) (.slice none 0 0) (.slice none 0 0) (.int .i64 200) _ _ rfl rfl HZ.out, by rw [HR'.out]; exact ⟨rfl, (Below.refl _ _).alloc (Nat.le_refl _) _⟩⟩
  · have HR' : Hid (R = bookR s) := Lib.hid (by rw [← HR.out, decR, hb]; rfl)
    have hm4 := hasPrefix_size s hb
    have heq := hasPrefix_yes s hb
    rw [hT] at heq
    have h4' : ¬ (s.size : Int) < 4 := by omega
    have h4'' : (4 : Int) ≤ (s.size : Int) := by omega
    have hbe : (T.toList == [72, 66, 75, 49]) = true := by rw [← magic_list, beq_str]; exact decide_eq_true heq
    have HT := Lib.hid hT
    clear hb heq HR
    obtain ⟨Ws, hWs⟩ : ∃ Ws, (((w.alloc (.cells zeroCells 37)).alloc (.cells #[.string s, .int .i64 4, .int .i64 0] 92)).alloc (.cells zeroCells 37)) = Ws := ⟨_, rfl⟩
    have HD0 : Hid (RDSt w s Ws 4 0 zeroCells) := Lib.hid (by rw [← hWs]; exact RDSt.start w s)
    have HWs := Lib.hid hWs
    clear hWs
    have HNum : Hid (∀ W p, RRdr W (w.heap.size + 1) s p 0 → p ≤ s.size → Calls Try.prog 41 #[.pointer (some ⟨w.heap.size + 1, 0, none⟩)] W (PostQ (w.heap.size + 1) s W (fun n : Nat => .int .u64 (n : Int)) (.int .u64 0) (numR s p))) := Lib.hid (fun W p h hp => next_any _ s p W h (by omega) hp)
    have HFrm : Hid (∀ W p, RRdr W (w.heap.size + 1) s p 0 → p ≤ s.size → Calls Try.prog 42 #[.pointer (some ⟨w.heap.size + 1, 0, none⟩)] W (PostQ (w.heap.size + 1) s W Value.string (.string ⟨#[]⟩) (frmR s p))) := Lib.hid (fun W p h hp => rframe_any _ s p W h (by omega) hp)
    have HAut : Hid (∀ W p, RRdr W (w.heap.size + 1) s p 0 → p ≤ s.size → Calls Try.prog 43 #[.pointer (some ⟨w.heap.size + 1, 0, none⟩)] W (PostA (w.heap.size + 1) s W (secR s p))) := Lib.hid (fun W p h hp => automaton_any _ s p W h hs hp)
    have HNumF : Hid (∀ W p f, RRdr W (w.heap.size + 1) s p f → f ≠ 0 → Calls Try.prog 41 #[.pointer (some ⟨w.heap.size + 1, 0, none⟩)] W fun e w' => e = .returned (.int .u64 0) ∧ W = w') := Lib.hid (fun W p f h hf => next_fault _ s p f W h hf)
    have HFrmF : Hid (∀ W p f, RRdr W (w.heap.size + 1) s p f → f ≠ 0 → Calls Try.prog 42 #[.pointer (some ⟨w.heap.size + 1, 0, none⟩)] W fun e w' => e = .returned (.string ⟨#[]⟩) ∧ W = w') := Lib.hid (fun W p f h hf => rframe_fault _ s p f W h hf)
    have hN := HNum.out Ws 4 HD0.out.rdr hm4
    cases hn : numR s 4 with
    | error c =>
      rw [hn] at hN
      have HR2 : Hid (R = .error c) := Lib.hid (by rw [HR'.out, bookR, hn])
      have HN := Lib.hid hN
      clear hN hn
      go_enter Try.func16, Try.ntmps16
      go_wp2_with fail
      rw [HWs.out]
      refine HN.out.mono ?_
      rintro e w1 ⟨rfl, hk, hc, a', ha', hr⟩
      have HD1 := Lib.hid (HD0.out.call hk hr)
      have HC := Lib.hid hc
      have hc1 : ((c : Int) == 0) = false := by rw [beq_eq_false_iff_ne]; omega
      have hc2 : ((c : Int) != 0) = true := by simpa using hc
      have HRb := HR2
      have HTz : Hid ((⟨#[]⟩ : ByteArray).size ≤ 255) := Lib.hid (by decide)
      clear hk hr hc
      have b0 := HD1.out.cell 0 rfl
      have f0 := HD1.out.fz 0
      go_wp2_with fail
      clear b0 f0
      have HD2 : Hid (RDSt w s (w1.setCell ⟨w.heap.size + 1 + 1, 0, none⟩ (Value.int .i64 0)) a' c #[.int .i64 0, .string ⟨#[]⟩, .slice none 0 0, .slice none 0 0, .slice none 0 0, .slice none 0 0, .slice none 0 0]) := Lib.hid (HD1.out.set 0 _)
      generalize w1.setCell ⟨w.heap.size + 1 + 1, 0, none⟩ (Value.int .i64 0) = W2 at HD2 ⊢
      clear HD1
      refine (HFrmF.out _ _ _ HD2.out.rdr HC.out).mono ?_
      rintro e w3 ⟨rfl, rfl⟩
      have b1 := HD2.out.cell 1 rfl
      have f1 := HD2.out.fz 1
      go_wp2_with fail
      clear b1 f1
      have HD3 : Hid (RDSt w s (W2.setCell ⟨w.heap.size + 1 + 1, 1, none⟩ (Value.string ⟨#[]⟩)) a' c #[.int .i64 (0 : Int), .string ⟨#[]⟩, .slice none 0 0, .slice none 0 0, .slice none 0 0, .slice none 0 0, .slice none 0 0]) := Lib.hid (HD2.out.set 1 _)
      generalize W2.setCell ⟨w.heap.size + 1 + 1, 1, none⟩ (Value.string ⟨#[]⟩) = W3 at HD3 ⊢
      clear HD2
      refine (HNumF.out _ _ _ HD3.out.rdr HC.out).mono ?_
      rintro e w5 ⟨rfl, rfl⟩
      have cF := HD3.out.rdr.cells.2.2.1
      go_wp2_with fail
      clear cF
      have HO : Hid (W3.ownsRow w.heap.size 77 2 (.slice none 0 0) ([] : List Rp).length (repCells [])) := Lib.hid (World.ownsRow_nil _ _ _ _)
      have HSz : Hid (∀ x ∈ ([] : List Rp), x.1.size ≤ 255 ∧ x.2.size ≤ 255) := Lib.hid (fun _ h => by cases h)
      go_loopw [8, 9] (fun _ _ W => W = W3) (fun _ _ _ => 0)
      case atStart => rfl
      case round =>
        subst hrel
        have c0 := HD3.out.cell 0 rfl
        have c1 := HD3.out.cell 1 rfl
        have c2 := HD3.out.cell 2 rfl
        have c3 := HD3.out.cell 3 rfl
        have c4 := HD3.out.cell 4 rfl
        have c5 := HD3.out.cell 5 rfl
        have c6 := HD3.out.cell 6 rfl
        have cF := HD3.out.rdr.cells.2.2.1
        have hSet := rSettings_any 0 ⟨#[]⟩ [] (.slice none 0 0) (.slice none 0 0) (.slice none 0 0) (.slice none 0 0) (.slice none 0 0) wr (reps_of_own HO.out) (by have := HTz.out; omega) (fun k h => by have := HSz.out _ (List.getElem_mem h); omega)
        generalize settingsB _ _ _ = sb at hSet
        have HSet := Lib.hid hSet
        clear hSet
        go_wp2_with fail
        refine HSet.out.mono ?_
        rintro e w8 ⟨rfl, hb8⟩
        have HD8 := Lib.hid (HD3.out.kept (Kept.of_below hb8))
        clear hb8 c0 c1 c2 c3 c4 c5 c6 cF
        have cF := HD8.out.rdr.cells.2.2.1
        go_wp2_with fail
        clear cF
        go_loopw [11] (fun i W => i = .int .i64 0 ∧ W = w8) (fun _ _ => 0)
        case atStart => exact ⟨rfl, rfl⟩
        case round =>
          obtain ⟨rfl, rfl⟩ := hrel
          have cF := HD8.out.rdr.cells.2.2.1
          have r0 := HD8.out.resc 0 rfl
          have r1 := HD8.out.resc 1 rfl
          have r2 := HD8.out.resc 2 rfl
          have r3 := HD8.out.resc 3 rfl
          have r4 := HD8.out.resc 4 rfl
          have r5 := HD8.out.resc 5 rfl
          have r6 := HD8.out.resc 6 rfl
          have rf := HD8.out.resf
          have cE := HD8.out.rdr.cells.2.2.1
          have HZ := Lib.hid (res_store (.int .i64 0) (.string ⟨#[]⟩) (.slice none 0 0) (.slice none 0 0) (.slice none 0 0) (.slice none 0 0) (.slice none 0 0) HD8.out)
          go_wp2_with fail
          have HZc := Lib.hid ((HZ.out.2.1.cell (p := ⟨w.heap.size + 1, 2, none⟩) (block_lt (HD8.out.rdr)) (by simp)).trans cE)
          refine wp_region_held_drew (S := fun W => W.cell? ⟨w.heap.size + 1, 2, none⟩ = some (.int .i64 (c : Int))) (by kernel_rfl) ?_ (fun hHeld => ?_)
          · exact cE
          refine takeH (i := 0) (d := some 126) (v := ?_) rfl rfl (by kernel_rfl) (by kernel_rfl) (by kernel_rfl) (fun _ _ _ h => h) (Or.inl ⟨by kernel_rfl, ?_⟩) hHeld ?_
          rotate_left
          · intro w hSw; (try dsimp only at hSw); go_simp; try with_reducible rfl
          try simp only [Act.put, List.setIfInBounds_toArray, List.set_cons_zero, List.set_cons_succ]
          refine takeH (i := 1) (d := some 127) (v := ?_) rfl rfl (by kernel_rfl) (by kernel_rfl) (by kernel_rfl) (fun _ _ _ h => h) (Or.inl ⟨by kernel_rfl, ?_⟩) hHeld ?_
          rotate_left
          · intro w hSw; (try dsimp only at hSw); go_simp; try with_reducible rfl
          try simp only [Act.put, List.setIfInBounds_toArray, List.set_cons_zero, List.set_cons_succ]
          refine takeH (i := 2) (d := some 128) (v := ?_) rfl rfl (by kernel_rfl) (by kernel_rfl) (by kernel_rfl) (fun _ _ _ h => h) (Or.inl ⟨by kernel_rfl, ?_⟩) hHeld ?_
          rotate_left
          · intro w hSw; (try dsimp only at hSw); go_simp; try with_reducible rfl
          try simp only [Act.put, List.setIfInBounds_toArray, List.set_cons_zero, List.set_cons_succ]
          refine takeH (i := 3) (d := some 129) (v := ?_) rfl rfl (by kernel_rfl) (by kernel_rfl) (by kernel_rfl) (fun _ _ _ h => h) (Or.inl ⟨by kernel_rfl, ?_⟩) hHeld ?_
          rotate_left
          · intro w hSw; (try dsimp only at hSw); go_simp; try with_reducible rfl
          try simp only [Act.put, List.setIfInBounds_toArray, List.set_cons_zero, List.set_cons_succ]
          refine takeH (i := 4) (d := some 130) (v := ?_) rfl rfl (by kernel_rfl) (by kernel_rfl) (by kernel_rfl) (fun _ _ _ h => h) (Or.inl ⟨by kernel_rfl, ?_⟩) hHeld ?_
          rotate_left
          · intro w hSw; (try dsimp only at hSw); go_simp; try with_reducible rfl
          try simp only [Act.put, List.setIfInBounds_toArray, List.set_cons_zero, List.set_cons_succ]
          refine wpAnyH_ready (rs := [5]) (by kernel_rfl) (by simp) ?_
          refine AllReadyH.cons rfl (fun K hK => ?_) AllReadyH.nil
          go_simp
          refine hK.out _ _ ?_ (fun hHeld => ?_)
          · exact (drew_cell _ _).trans HZc.out
          clear hK K
          refine takeH (i := 6) (d := some 3) (v := ?_) rfl rfl (by kernel_rfl) (by kernel_rfl) (by kernel_rfl) (fun _ _ _ h => h) (Or.inl ⟨by kernel_rfl, ?_⟩) hHeld ?_
          rotate_left
          · intro w hSw; (try dsimp only at hSw); go_simp; try with_reducible rfl
          try simp only [Act.put, List.setIfInBounds_toArray, List.set_cons_zero, List.set_cons_succ]
          refine wpAnyH_done (by kernel_rfl) ?_ _
          go_wp2_with fail
          exact ⟨rfl, _, results_rbook w.heap.size (.int .i64 0) (.string ⟨#[]⟩) (.slice none 0 0) (.slice none 0 0) (.slice none 0 0) (.slice none 0 0) (.slice none 0 0) _ _ _ rfl rfl ((drew_heap_at _ _).trans HZ.out.1), by rw [HRb.out]; exact ⟨rfl, HZ.out.2.2.drew⟩⟩
    | ok r =>
      obtain ⟨l, q0⟩ := r
      rw [hn] at hN
      have HQ0 := Lib.hid (numR_le hn).2
      have HR2 : Hid (R = match frmR s q0 with | .error c => .error c | .ok (t, p) => repsR s l t p) := Lib.hid (by rw [HR'.out, bookR, hn]; rfl)
      have HN := Lib.hid hN
      have hlv := numR_lt hn
      have HLC : Hid (l ≤ 64 → IntKind.i64.wrap (l : Int) = (l : Int)) := Lib.hid (fun h => by rw [IntKind.wrap_i64]; omega)
      clear hN hn HR' hlv
      by_cases hl : l ≤ 64
      · have hlw := HLC.out hl
        go_enter Try.func16, Try.ntmps16
        go_wp2_with fail
        rw [HWs.out]
        refine HN.out.mono ?_
        rintro e w1 ⟨rfl, hk, hr⟩
        have HD1 := Lib.hid (HD0.out.call hk hr)
        clear hk hr
        have b0 := HD1.out.cell 0 rfl
        have f0 := HD1.out.fz 0
        go_wp2_with fail
        clear b0 f0
        have HD2 : Hid (RDSt w s (w1.setCell ⟨w.heap.size + 1 + 1, 0, none⟩ (Value.int .i64 (l : Int))) q0 0 #[.int .i64 (leastV l : Nat), .string ⟨#[]⟩, .slice none 0 0, .slice none 0 0, .slice none 0 0, .slice none 0 0, .slice none 0 0]) := Lib.hid (by rw [leastV_le hl]; exact HD1.out.set 0 _)
        generalize w1.setCell ⟨w.heap.size + 1 + 1, 0, none⟩ (Value.int .i64 (l : Int)) = W2 at HD2 ⊢
        clear HD1 hlw
        have hF := HFrm.out W2 q0 HD2.out.rdr HQ0.out
        cases hf : frmR s q0 with
        | error c =>
          rw [hf] at hF
          have HRb : Hid (R = .error c) := Lib.hid (by rw [HR2.out, hf])
          have HTz : Hid ((⟨#[]⟩ : ByteArray).size ≤ 255) := Lib.hid (by decide)
          refine hF.mono ?_
          rintro e w3 ⟨rfl, hk, hc, a', ha', hr⟩
          have HD2b := Lib.hid (HD2.out.call hk hr)
          have hc1 : ((c : Int) == 0) = false := by rw [beq_eq_false_iff_ne]; omega
          have hc2 : ((c : Int) != 0) = true := by simpa using hc
          have HC := Lib.hid hc
          clear hk hr hc hF hf
          have b1 := HD2b.out.cell 1 rfl
          have f1 := HD2b.out.fz 1
          go_wp2_with fail
          clear b1 f1
          have HD3 : Hid (RDSt w s (w3.setCell ⟨w.heap.size + 1 + 1, 1, none⟩ (Value.string ⟨#[]⟩)) a' c #[.int .i64 ((leastV l : Nat) : Int), .string ⟨#[]⟩, .slice none 0 0, .slice none 0 0, .slice none 0 0, .slice none 0 0, .slice none 0 0]) := Lib.hid (HD2b.out.set 1 _)
          generalize w3.setCell ⟨w.heap.size + 1 + 1, 1, none⟩ (Value.string ⟨#[]⟩) = W3 at HD3 ⊢
          clear HD2b
          refine (HNumF.out _ _ _ HD3.out.rdr HC.out).mono ?_
          rintro e w5 ⟨rfl, rfl⟩
          have cF := HD3.out.rdr.cells.2.2.1
          go_wp2_with fail
          clear cF
          have HO : Hid (W3.ownsRow w.heap.size 77 2 (.slice none 0 0) ([] : List Rp).length (repCells [])) := Lib.hid (World.ownsRow_nil _ _ _ _)
          have HSz : Hid (∀ x ∈ ([] : List Rp), x.1.size ≤ 255 ∧ x.2.size ≤ 255) := Lib.hid (fun _ h => by cases h)
          go_loopw [8, 9] (fun _ _ W => W = W3) (fun _ _ _ => 0)
          case atStart => rfl
          case round =>
            subst hrel
            have c0 := HD3.out.cell 0 rfl
            have c1 := HD3.out.cell 1 rfl
            have c2 := HD3.out.cell 2 rfl
            have c3 := HD3.out.cell 3 rfl
            have c4 := HD3.out.cell 4 rfl
            have c5 := HD3.out.cell 5 rfl
            have c6 := HD3.out.cell 6 rfl
            have cF := HD3.out.rdr.cells.2.2.1
            have hSet := rSettings_any ((leastV l : Nat) : Int) ⟨#[]⟩ [] (.slice none 0 0) (.slice none 0 0) (.slice none 0 0) (.slice none 0 0) (.slice none 0 0) wr (reps_of_own HO.out) (by have := HTz.out; omega) (fun k h => by have := HSz.out _ (List.getElem_mem h); omega)
            generalize settingsB _ _ _ = sb at hSet
            have HSet := Lib.hid hSet
            clear hSet
            go_wp2_with fail
            refine HSet.out.mono ?_
            rintro e w8 ⟨rfl, hb8⟩
            have HD8 := Lib.hid (HD3.out.kept (Kept.of_below hb8))
            clear hb8 c0 c1 c2 c3 c4 c5 c6 cF
            have cF := HD8.out.rdr.cells.2.2.1
            go_wp2_with fail
            clear cF
            go_loopw [11] (fun i W => i = .int .i64 0 ∧ W = w8) (fun _ _ => 0)
            case atStart => exact ⟨rfl, rfl⟩
            case round =>
              obtain ⟨rfl, rfl⟩ := hrel
              have cF := HD8.out.rdr.cells.2.2.1
              have r0 := HD8.out.resc 0 rfl
              have r1 := HD8.out.resc 1 rfl
              have r2 := HD8.out.resc 2 rfl
              have r3 := HD8.out.resc 3 rfl
              have r4 := HD8.out.resc 4 rfl
              have r5 := HD8.out.resc 5 rfl
              have r6 := HD8.out.resc 6 rfl
              have rf := HD8.out.resf
              have cE := HD8.out.rdr.cells.2.2.1
              have HZ := Lib.hid (res_store (.int .i64 0) (.string ⟨#[]⟩) (.slice none 0 0) (.slice none 0 0) (.slice none 0 0) (.slice none 0 0) (.slice none 0 0) HD8.out)
              go_wp2_with fail
              have HZc := Lib.hid ((HZ.out.2.1.cell (p := ⟨w.heap.size + 1, 2, none⟩) (block_lt (HD8.out.rdr)) (by simp)).trans cE)
              refine wp_region_held_drew (S := fun W => W.cell? ⟨w.heap.size + 1, 2, none⟩ = some (.int .i64 (c : Int))) (by kernel_rfl) ?_ (fun hHeld => ?_)
              · exact cE
              refine takeH (i := 0) (d := some 126) (v := ?_) rfl rfl (by kernel_rfl) (by kernel_rfl) (by kernel_rfl) (fun _ _ _ h => h) (Or.inl ⟨by kernel_rfl, ?_⟩) hHeld ?_
              rotate_left
              · intro w hSw; (try dsimp only at hSw); go_simp; try with_reducible rfl
              try simp only [Act.put, List.setIfInBounds_toArray, List.set_cons_zero, List.set_cons_succ]
              refine takeH (i := 1) (d := some 127) (v := ?_) rfl rfl (by kernel_rfl) (by kernel_rfl) (by kernel_rfl) (fun _ _ _ h => h) (Or.inl ⟨by kernel_rfl, ?_⟩) hHeld ?_
              rotate_left
              · intro w hSw; (try dsimp only at hSw); go_simp; try with_reducible rfl
              try simp only [Act.put, List.setIfInBounds_toArray, List.set_cons_zero, List.set_cons_succ]
              refine takeH (i := 2) (d := some 128) (v := ?_) rfl rfl (by kernel_rfl) (by kernel_rfl) (by kernel_rfl) (fun _ _ _ h => h) (Or.inl ⟨by kernel_rfl, ?_⟩) hHeld ?_
              rotate_left
              · intro w hSw; (try dsimp only at hSw); go_simp; try with_reducible rfl
              try simp only [Act.put, List.setIfInBounds_toArray, List.set_cons_zero, List.set_cons_succ]
              refine takeH (i := 3) (d := some 129) (v := ?_) rfl rfl (by kernel_rfl) (by kernel_rfl) (by kernel_rfl) (fun _ _ _ h => h) (Or.inl ⟨by kernel_rfl, ?_⟩) hHeld ?_
              rotate_left
              · intro w hSw; (try dsimp only at hSw); go_simp; try with_reducible rfl
              try simp only [Act.put, List.setIfInBounds_toArray, List.set_cons_zero, List.set_cons_succ]
              refine takeH (i := 4) (d := some 130) (v := ?_) rfl rfl (by kernel_rfl) (by kernel_rfl) (by kernel_rfl) (fun _ _ _ h => h) (Or.inl ⟨by kernel_rfl, ?_⟩) hHeld ?_
              rotate_left
              · intro w hSw; (try dsimp only at hSw); go_simp; try with_reducible rfl
              try simp only [Act.put, List.setIfInBounds_toArray, List.set_cons_zero, List.set_cons_succ]
              refine wpAnyH_ready (rs := [5]) (by kernel_rfl) (by simp) ?_
              refine AllReadyH.cons rfl (fun K hK => ?_) AllReadyH.nil
              go_simp
              refine hK.out _ _ ?_ (fun hHeld => ?_)
              · exact (drew_cell _ _).trans HZc.out
              clear hK K
              refine takeH (i := 6) (d := some 3) (v := ?_) rfl rfl (by kernel_rfl) (by kernel_rfl) (by kernel_rfl) (fun _ _ _ h => h) (Or.inl ⟨by kernel_rfl, ?_⟩) hHeld ?_
              rotate_left
              · intro w hSw; (try dsimp only at hSw); go_simp; try with_reducible rfl
              try simp only [Act.put, List.setIfInBounds_toArray, List.set_cons_zero, List.set_cons_succ]
              refine wpAnyH_done (by kernel_rfl) ?_ _
              go_wp2_with fail
              exact ⟨rfl, _, results_rbook w.heap.size (.int .i64 0) (.string ⟨#[]⟩) (.slice none 0 0) (.slice none 0 0) (.slice none 0 0) (.slice none 0 0) (.slice none 0 0) _ _ _ rfl rfl ((drew_heap_at _ _).trans HZ.out.1), by rw [HRb.out]; exact ⟨rfl, HZ.out.2.2.drew⟩⟩
        | ok r =>
          obtain ⟨t, q1⟩ := r
          rw [hf] at hF
          have HQ1 := Lib.hid (frmR_le hf).2
          have HTz := Lib.hid (frmR_size hf)
          have HR3 : Hid (R = repsR s l t q1) := Lib.hid (by rw [HR2.out, hf])
          clear hf
          refine hF.mono ?_
          rintro e w3 ⟨rfl, hk, hr⟩
          have HD3 := Lib.hid (HD2.out.call hk hr)
          clear hk hr hF HR2 HD2
          have b1 := HD3.out.cell 1 rfl
          have f1 := HD3.out.fz 1
          go_wp2_with fail
          clear b1 f1
          have HD4 : Hid (RDSt w s (w3.setCell ⟨w.heap.size + 1 + 1, 1, none⟩ (Value.string t)) q1 0 #[.int .i64 ((leastV l : Nat) : Int), .string t, .slice none 0 0, .slice none 0 0, .slice none 0 0, .slice none 0 0, .slice none 0 0]) := Lib.hid (HD3.out.set 1 _)
          generalize w3.setCell ⟨w.heap.size + 1 + 1, 1, none⟩ (Value.string t) = W4 at HD4 ⊢
          clear HD3
          have hN4 := HNum.out W4 q1 HD4.out.rdr HQ1.out
          cases hn4 : numR s q1 with
          | error c =>
            rw [hn4] at hN4
            have HRb : Hid (R = .error c) := Lib.hid (by rw [HR3.out, repsR, hn4])
            refine hN4.mono ?_
            rintro e w5 ⟨rfl, hk, hc, a', ha', hr⟩
            have HD5 := Lib.hid (HD4.out.call hk hr)
            have hc1 : ((c : Int) == 0) = false := by rw [beq_eq_false_iff_ne]; omega
            have hc2 : ((c : Int) != 0) = true := by simpa using hc
            have HC := Lib.hid hc
            clear hk hr hc hN4 hn4
            have cF := HD5.out.rdr.cells.2.2.1
            go_wp2_with fail
            clear cF
            have HO : Hid (w5.ownsRow w.heap.size 77 2 (.slice none 0 0) ([] : List Rp).length (repCells [])) := Lib.hid (World.ownsRow_nil _ _ _ _)
            have HSz : Hid (∀ x ∈ ([] : List Rp), x.1.size ≤ 255 ∧ x.2.size ≤ 255) := Lib.hid (fun _ h => by cases h)
            go_loopw [8, 9] (fun _ _ W => W = w5) (fun _ _ _ => 0)
            case atStart => rfl
            case round =>
              subst hrel
              have c0 := HD5.out.cell 0 rfl
              have c1 := HD5.out.cell 1 rfl
              have c2 := HD5.out.cell 2 rfl
              have c3 := HD5.out.cell 3 rfl
              have c4 := HD5.out.cell 4 rfl
              have c5 := HD5.out.cell 5 rfl
              have c6 := HD5.out.cell 6 rfl
              have cF := HD5.out.rdr.cells.2.2.1
              have hSet := rSettings_any ((leastV l : Nat) : Int) t [] (.slice none 0 0) (.slice none 0 0) (.slice none 0 0) (.slice none 0 0) (.slice none 0 0) wr (reps_of_own HO.out) (by have := HTz.out; omega) (fun k h => by have := HSz.out _ (List.getElem_mem h); omega)
              generalize settingsB _ _ _ = sb at hSet
              have HSet := Lib.hid hSet
              clear hSet
              go_wp2_with fail
              refine HSet.out.mono ?_
              rintro e w8 ⟨rfl, hb8⟩
              have HD8 := Lib.hid (HD5.out.kept (Kept.of_below hb8))
              clear hb8 c0 c1 c2 c3 c4 c5 c6 cF
              have cF := HD8.out.rdr.cells.2.2.1
              go_wp2_with fail
              clear cF
              go_loopw [11] (fun i W => i = .int .i64 0 ∧ W = w8) (fun _ _ => 0)
              case atStart => exact ⟨rfl, rfl⟩
              case round =>
                obtain ⟨rfl, rfl⟩ := hrel
                have cF := HD8.out.rdr.cells.2.2.1
                have r0 := HD8.out.resc 0 rfl
                have r1 := HD8.out.resc 1 rfl
                have r2 := HD8.out.resc 2 rfl
                have r3 := HD8.out.resc 3 rfl
                have r4 := HD8.out.resc 4 rfl
                have r5 := HD8.out.resc 5 rfl
                have r6 := HD8.out.resc 6 rfl
                have rf := HD8.out.resf
                have cE := HD8.out.rdr.cells.2.2.1
                have HZ := Lib.hid (res_store (.int .i64 0) (.string ⟨#[]⟩) (.slice none 0 0) (.slice none 0 0) (.slice none 0 0) (.slice none 0 0) (.slice none 0 0) HD8.out)
                go_wp2_with fail
                have HZc := Lib.hid ((HZ.out.2.1.cell (p := ⟨w.heap.size + 1, 2, none⟩) (block_lt (HD8.out.rdr)) (by simp)).trans cE)
                refine wp_region_held_drew (S := fun W => W.cell? ⟨w.heap.size + 1, 2, none⟩ = some (.int .i64 (c : Int))) (by kernel_rfl) ?_ (fun hHeld => ?_)
                · exact cE
                refine takeH (i := 0) (d := some 126) (v := ?_) rfl rfl (by kernel_rfl) (by kernel_rfl) (by kernel_rfl) (fun _ _ _ h => h) (Or.inl ⟨by kernel_rfl, ?_⟩) hHeld ?_
                rotate_left
                · intro w hSw; (try dsimp only at hSw); go_simp; try with_reducible rfl
                try simp only [Act.put, List.setIfInBounds_toArray, List.set_cons_zero, List.set_cons_succ]
                refine takeH (i := 1) (d := some 127) (v := ?_) rfl rfl (by kernel_rfl) (by kernel_rfl) (by kernel_rfl) (fun _ _ _ h => h) (Or.inl ⟨by kernel_rfl, ?_⟩) hHeld ?_
                rotate_left
                · intro w hSw; (try dsimp only at hSw); go_simp; try with_reducible rfl
                try simp only [Act.put, List.setIfInBounds_toArray, List.set_cons_zero, List.set_cons_succ]
                refine takeH (i := 2) (d := some 128) (v := ?_) rfl rfl (by kernel_rfl) (by kernel_rfl) (by kernel_rfl) (fun _ _ _ h => h) (Or.inl ⟨by kernel_rfl, ?_⟩) hHeld ?_
                rotate_left
                · intro w hSw; (try dsimp only at hSw); go_simp; try with_reducible rfl
                try simp only [Act.put, List.setIfInBounds_toArray, List.set_cons_zero, List.set_cons_succ]
                refine takeH (i := 3) (d := some 129) (v := ?_) rfl rfl (by kernel_rfl) (by kernel_rfl) (by kernel_rfl) (fun _ _ _ h => h) (Or.inl ⟨by kernel_rfl, ?_⟩) hHeld ?_
                rotate_left
                · intro w hSw; (try dsimp only at hSw); go_simp; try with_reducible rfl
                try simp only [Act.put, List.setIfInBounds_toArray, List.set_cons_zero, List.set_cons_succ]
                refine takeH (i := 4) (d := some 130) (v := ?_) rfl rfl (by kernel_rfl) (by kernel_rfl) (by kernel_rfl) (fun _ _ _ h => h) (Or.inl ⟨by kernel_rfl, ?_⟩) hHeld ?_
                rotate_left
                · intro w hSw; (try dsimp only at hSw); go_simp; try with_reducible rfl
                try simp only [Act.put, List.setIfInBounds_toArray, List.set_cons_zero, List.set_cons_succ]
                refine wpAnyH_ready (rs := [5]) (by kernel_rfl) (by simp) ?_
                refine AllReadyH.cons rfl (fun K hK => ?_) AllReadyH.nil
                go_simp
                refine hK.out _ _ ?_ (fun hHeld => ?_)
                · exact (drew_cell _ _).trans HZc.out
                clear hK K
                refine takeH (i := 6) (d := some 3) (v := ?_) rfl rfl (by kernel_rfl) (by kernel_rfl) (by kernel_rfl) (fun _ _ _ h => h) (Or.inl ⟨by kernel_rfl, ?_⟩) hHeld ?_
                rotate_left
                · intro w hSw; (try dsimp only at hSw); go_simp; try with_reducible rfl
                try simp only [Act.put, List.setIfInBounds_toArray, List.set_cons_zero, List.set_cons_succ]
                refine wpAnyH_done (by kernel_rfl) ?_ _
                go_wp2_with fail
                exact ⟨rfl, _, results_rbook w.heap.size (.int .i64 0) (.string ⟨#[]⟩) (.slice none 0 0) (.slice none 0 0) (.slice none 0 0) (.slice none 0 0) (.slice none 0 0) _ _ _ rfl rfl ((drew_heap_at _ _).trans HZ.out.1), by rw [HRb.out]; exact ⟨rfl, HZ.out.2.2.drew⟩⟩
          | ok r =>
            obtain ⟨n, q2⟩ := r
            rw [hn4] at hN4
            have HQ2 := Lib.hid (numR_le hn4).2
            refine hN4.mono ?_
            rintro e w5 ⟨rfl, hk, hr⟩
            have HD5 := Lib.hid (HD4.out.call hk hr)
            clear hk hr hN4 HD4
            by_cases h256 : 256 < n
            · obtain ⟨c, hcc⟩ : ∃ c : Nat, c = 201 := ⟨_, rfl⟩
              have hc : c ≠ 0 := by omega
              have HRb : Hid (R = .error c) := Lib.hid (by rw [HR3.out, repsR, hn4, hcc]; exact if_pos h256)
              have hn0 : (0 : Int) < (n : Int) := by omega
              have hn2 : (256 : Int) < (n : Int) := by omega
              have HD6 : Hid (RDSt w s (w5.setCell ⟨w.heap.size + 1, 2, none⟩ (.int .i64 201)) q2 c #[.int .i64 ((leastV l : Nat) : Int), .string t, .slice none 0 0, .slice none 0 0, .slice none 0 0, .slice none 0 0, .slice none 0 0]) := Lib.hid (by rw [hcc]; exact HD5.out.putF 201)
              have hc1 : ((c : Int) == 0) = false := by rw [beq_eq_false_iff_ne]; omega
              have hc2 : ((c : Int) != 0) = true := by simpa using hc
              have HC := Lib.hid hc
              have cF := HD5.out.rdr.cells.2.2
              obtain ⟨cF, ff⟩ := cF
              clear hn4 h256 hc
              go_wp2_with fail
              clear cF ff
              generalize w5.setCell ⟨w.heap.size + 1, 2, none⟩ (Value.int .i64 201) = W6 at HD6 ⊢
              clear HD5 hcc
              have HO : Hid (W6.ownsRow w.heap.size 77 2 (.slice none 0 0) ([] : List Rp).length (repCells [])) := Lib.hid (World.ownsRow_nil _ _ _ _)
              have HSz : Hid (∀ x ∈ ([] : List Rp), x.1.size ≤ 255 ∧ x.2.size ≤ 255) := Lib.hid (fun _ h => by cases h)
              go_loopw [8, 9] (fun _ _ W => W = W6) (fun _ _ _ => 0)
              case atStart => rfl
              case round =>
                subst hrel
                have c0 := HD6.out.cell 0 rfl
                have c1 := HD6.out.cell 1 rfl
                have c2 := HD6.out.cell 2 rfl
                have c3 := HD6.out.cell 3 rfl
                have c4 := HD6.out.cell 4 rfl
                have c5 := HD6.out.cell 5 rfl
                have c6 := HD6.out.cell 6 rfl
                have cF := HD6.out.rdr.cells.2.2.1
                have hSet := rSettings_any ((leastV l : Nat) : Int) t [] (.slice none 0 0) (.slice none 0 0) (.slice none 0 0) (.slice none 0 0) (.slice none 0 0) wr (reps_of_own HO.out) (by have := HTz.out; omega) (fun k h => by have := HSz.out _ (List.getElem_mem h); omega)
                generalize settingsB _ _ _ = sb at hSet
                have HSet := Lib.hid hSet
                clear hSet
                go_wp2_with fail
                refine HSet.out.mono ?_
                rintro e w8 ⟨rfl, hb8⟩
                have HD8 := Lib.hid (HD6.out.kept (Kept.of_below hb8))
                clear hb8 c0 c1 c2 c3 c4 c5 c6 cF
                have cF := HD8.out.rdr.cells.2.2.1
                go_wp2_with fail
                clear cF
                go_loopw [11] (fun i W => i = .int .i64 0 ∧ W = w8) (fun _ _ => 0)
                case atStart => exact ⟨rfl, rfl⟩
                case round =>
                  obtain ⟨rfl, rfl⟩ := hrel
                  have cF := HD8.out.rdr.cells.2.2.1
                  have r0 := HD8.out.resc 0 rfl
                  have r1 := HD8.out.resc 1 rfl
                  have r2 := HD8.out.resc 2 rfl
                  have r3 := HD8.out.resc 3 rfl
                  have r4 := HD8.out.resc 4 rfl
                  have r5 := HD8.out.resc 5 rfl
                  have r6 := HD8.out.resc 6 rfl
                  have rf := HD8.out.resf
                  have cE := HD8.out.rdr.cells.2.2.1
                  have HZ := Lib.hid (res_store (.int .i64 0) (.string ⟨#[]⟩) (.slice none 0 0) (.slice none 0 0) (.slice none 0 0) (.slice none 0 0) (.slice none 0 0) HD8.out)
                  go_wp2_with fail
                  have HZc := Lib.hid ((HZ.out.2.1.cell (p := ⟨w.heap.size + 1, 2, none⟩) (block_lt (HD8.out.rdr)) (by simp)).trans cE)
                  refine wp_region_held_drew (S := fun W => W.cell? ⟨w.heap.size + 1, 2, none⟩ = some (.int .i64 (c : Int))) (by kernel_rfl) ?_ (fun hHeld => ?_)
                  · exact cE
                  refine takeH (i := 0) (d := some 126) (v := ?_) rfl rfl (by kernel_rfl) (by kernel_rfl) (by kernel_rfl) (fun _ _ _ h => h) (Or.inl ⟨by kernel_rfl, ?_⟩) hHeld ?_
                  rotate_left
                  · intro w hSw; (try dsimp only at hSw); go_simp; try with_reducible rfl
                  try simp only [Act.put, List.setIfInBounds_toArray, List.set_cons_zero, List.set_cons_succ]
                  refine takeH (i := 1) (d := some 127) (v := ?_) rfl rfl (by kernel_rfl) (by kernel_rfl) (by kernel_rfl) (fun _ _ _ h => h) (Or.inl ⟨by kernel_rfl, ?_⟩) hHeld ?_
                  rotate_left
                  · intro w hSw; (try dsimp only at hSw); go_simp; try with_reducible rfl
                  try simp only [Act.put, List.setIfInBounds_toArray, List.set_cons_zero, List.set_cons_succ]
                  refine takeH (i := 2) (d := some 128) (v := ?_) rfl rfl (by kernel_rfl) (by kernel_rfl) (by kernel_rfl) (fun _ _ _ h => h) (Or.inl ⟨by kernel_rfl, ?_⟩) hHeld ?_
                  rotate_left
                  · intro w hSw; (try dsimp only at hSw); go_simp; try with_reducible rfl
                  try simp only [Act.put, List.setIfInBounds_toArray, List.set_cons_zero, List.set_cons_succ]
                  refine takeH (i := 3) (d := some 129) (v := ?_) rfl rfl (by kernel_rfl) (by kernel_rfl) (by kernel_rfl) (fun _ _ _ h => h) (Or.inl ⟨by kernel_rfl, ?_⟩) hHeld ?_
                  rotate_left
                  · intro w hSw; (try dsimp only at hSw); go_simp; try with_reducible rfl
                  try simp only [Act.put, List.setIfInBounds_toArray, List.set_cons_zero, List.set_cons_succ]
                  refine takeH (i := 4) (d := some 130) (v := ?_) rfl rfl (by kernel_rfl) (by kernel_rfl) (by kernel_rfl) (fun _ _ _ h => h) (Or.inl ⟨by kernel_rfl, ?_⟩) hHeld ?_
                  rotate_left
                  · intro w hSw; (try dsimp only at hSw); go_simp; try with_reducible rfl
                  try simp only [Act.put, List.setIfInBounds_toArray, List.set_cons_zero, List.set_cons_succ]
                  refine wpAnyH_ready (rs := [5]) (by kernel_rfl) (by simp) ?_
                  refine AllReadyH.cons rfl (fun K hK => ?_) AllReadyH.nil
                  go_simp
                  refine hK.out _ _ ?_ (fun hHeld => ?_)
                  · exact (drew_cell _ _).trans HZc.out
                  clear hK K
                  refine takeH (i := 6) (d := some 3) (v := ?_) rfl rfl (by kernel_rfl) (by kernel_rfl) (by kernel_rfl) (fun _ _ _ h => h) (Or.inl ⟨by kernel_rfl, ?_⟩) hHeld ?_
                  rotate_left
                  · intro w hSw; (try dsimp only at hSw); go_simp; try with_reducible rfl
                  try simp only [Act.put, List.setIfInBounds_toArray, List.set_cons_zero, List.set_cons_succ]
                  refine wpAnyH_done (by kernel_rfl) ?_ _
                  go_wp2_with fail
                  exact ⟨rfl, _, results_rbook w.heap.size (.int .i64 0) (.string ⟨#[]⟩) (.slice none 0 0) (.slice none 0 0) (.slice none 0 0) (.slice none 0 0) (.slice none 0 0) _ _ _ rfl rfl ((drew_heap_at _ _).trans HZ.out.1), by rw [HRb.out]; exact ⟨rfl, HZ.out.2.2.drew⟩⟩
            have HR4 : Hid (R = match manyR (repR s) n q2 with | .error c => .error c | .ok (rs, p) => secsR s l t rs p) := Lib.hid (by rw [HR3.out, repsR, hn4]; exact if_neg h256)
            have HN6 : Hid (n ≤ 256) := Lib.hid (by omega)
            have hn2 : ¬ (256 : Int) < (n : Int) := by omega
            have cF := HD5.out.rdr.cells.2.2.1
            clear hn4 HR3 h256
            go_wp2_with fail
            clear cF
            obtain ⟨RR, hRR⟩ : ∃ RR, manyR (repR s) n q2 = RR := ⟨_, rfl⟩
            rw [hRR] at HR4
            have HRR := Lib.hid hRR
            clear hRR
            go_loopw [8, 9] (fun _ _ W => ∃ (rs : List Rp) (vr : Value), Hid (rs.length ≤ n) ∧ Hid (W.ownsRow w.heap.size 77 2 vr rs.length (repCells rs)) ∧ Hid (∀ x ∈ rs, x.1.size ≤ 255 ∧ x.2.size ≤ 255) ∧ Hid ((∃ p, p ≤ s.size ∧ RDSt w s W p 0 #[.int .i64 ((leastV l : Nat) : Int), .string t, vr, .slice none 0 0, .slice none 0 0, .slice none 0 0, .slice none 0 0] ∧ RR = prep rs (manyR (repR s) (n - rs.length) p)) ∨ (∃ c a', c ≠ 0 ∧ R = .error c ∧ RDSt w s W a' c #[.int .i64 ((leastV l : Nat) : Int), .string t, vr, .slice none 0 0, .slice none 0 0, .slice none 0 0, .slice none 0 0]))) (fun _ _ W => n - lenV ((W.cell? ⟨w.heap.size + 1 + 1, 2, none⟩).getD undef))
            case atStart => exact ⟨[], .slice none 0 0, Lib.hid (Nat.zero_le _), Lib.hid (World.ownsRow_nil _ _ _ _), Lib.hid (fun _ h => by cases h), Lib.hid (.inl ⟨q2, HQ2.out, HD5.out, by rw [← HRR.out]; exact (prep_nil _).symm⟩)⟩
            case round =>
              obtain ⟨rs, vr, HLn, HO, HSz, HGB⟩ := hrel
              obtain ⟨X, cap, hX⟩ := own_form HO.out
              subst hX
              have hLl : (rs.length : Int) ≤ 256 := by have := HLn.out; have := HN6.out; omega
              rcases HGB.out with ⟨p, hp, hd, hS⟩ | ⟨c, a', hc, hRc, hd⟩
              rotate_left
              · have HD := Lib.hid hd
                have HRb := Lib.hid hRc
                have hc1 : ((c : Int) == 0) = false := by rw [beq_eq_false_iff_ne]; omega
                have hc2 : ((c : Int) != 0) = true := by simpa using hc
                have HC := Lib.hid hc
                clear hd hRc hc HGB
                by_cases hlt : (rs.length : Int) < (n : Int)
                all_goals
                  have c0 := HD.out.cell 0 rfl
                  have c1 := HD.out.cell 1 rfl
                  have c2 := HD.out.cell 2 rfl
                  have c3 := HD.out.cell 3 rfl
                  have c4 := HD.out.cell 4 rfl
                  have c5 := HD.out.cell 5 rfl
                  have c6 := HD.out.cell 6 rfl
                  have cF := HD.out.rdr.cells.2.2.1
                  have hSet := rSettings_any ((leastV l : Nat) : Int) t rs (.slice X rs.length cap) (.slice none 0 0) (.slice none 0 0) (.slice none 0 0) (.slice none 0 0) wr (reps_of_own HO.out) (by have := HTz.out; omega) (fun k h => by have := HSz.out _ (List.getElem_mem h); omega)
                  generalize settingsB _ _ _ = sb at hSet
                  have HSet := Lib.hid hSet
                  clear hSet
                  go_wp2_with fail
                  refine HSet.out.mono ?_
                  rintro e w8 ⟨rfl, hb8⟩
                  have HD8 := Lib.hid (HD.out.kept (Kept.of_below hb8))
                  clear hb8 c0 c1 c2 c3 c4 c5 c6 cF
                  have cF := HD8.out.rdr.cells.2.2.1
                  go_wp2_with fail
                  clear cF
                  go_loopw [11] (fun i W => i = .int .i64 0 ∧ W = w8) (fun _ _ => 0)
                  case atStart => exact ⟨rfl, rfl⟩
                  case round =>
                    obtain ⟨rfl, rfl⟩ := hrel
                    have cF := HD8.out.rdr.cells.2.2.1
                    have r0 := HD8.out.resc 0 rfl
                    have r1 := HD8.out.resc 1 rfl
                    have r2 := HD8.out.resc 2 rfl
                    have r3 := HD8.out.resc 3 rfl
                    have r4 := HD8.out.resc 4 rfl
                    have r5 := HD8.out.resc 5 rfl
                    have r6 := HD8.out.resc 6 rfl
                    have rf := HD8.out.resf
                    have cE := HD8.out.rdr.cells.2.2.1
                    have HZ := Lib.hid (res_store (.int .i64 0) (.string ⟨#[]⟩) (.slice none 0 0) (.slice none 0 0) (.slice none 0 0) (.slice none 0 0) (.slice none 0 0) HD8.out)
                    go_wp2_with fail
                    have HZc := Lib.hid ((HZ.out.2.1.cell (p := ⟨w.heap.size + 1, 2, none⟩) (block_lt (HD8.out.rdr)) (by simp)).trans cE)
                    refine wp_region_held_drew (S := fun W => W.cell? ⟨w.heap.size + 1, 2, none⟩ = some (.int .i64 (c : Int))) (by kernel_rfl) ?_ (fun hHeld => ?_)
                    · exact cE
                    refine takeH (i := 0) (d := some 126) (v := ?_) rfl rfl (by kernel_rfl) (by kernel_rfl) (by kernel_rfl) (fun _ _ _ h => h) (Or.inl ⟨by kernel_rfl, ?_⟩) hHeld ?_
                    rotate_left
                    · intro w hSw; (try dsimp only at hSw); go_simp; try with_reducible rfl
                    try simp only [Act.put, List.setIfInBounds_toArray, List.set_cons_zero, List.set_cons_succ]
                    refine takeH (i := 1) (d := some 127) (v := ?_) rfl rfl (by kernel_rfl) (by kernel_rfl) (by kernel_rfl) (fun _ _ _ h => h) (Or.inl ⟨by kernel_rfl, ?_⟩) hHeld ?_
                    rotate_left
                    · intro w hSw; (try dsimp only at hSw); go_simp; try with_reducible rfl
                    try simp only [Act.put, List.setIfInBounds_toArray, List.set_cons_zero, List.set_cons_succ]
                    refine takeH (i := 2) (d := some 128) (v := ?_) rfl rfl (by kernel_rfl) (by kernel_rfl) (by kernel_rfl) (fun _ _ _ h => h) (Or.inl ⟨by kernel_rfl, ?_⟩) hHeld ?_
                    rotate_left
                    · intro w hSw; (try dsimp only at hSw); go_simp; try with_reducible rfl
                    try simp only [Act.put, List.setIfInBounds_toArray, List.set_cons_zero, List.set_cons_succ]
                    refine takeH (i := 3) (d := some 129) (v := ?_) rfl rfl (by kernel_rfl) (by kernel_rfl) (by kernel_rfl) (fun _ _ _ h => h) (Or.inl ⟨by kernel_rfl, ?_⟩) hHeld ?_
                    rotate_left
                    · intro w hSw; (try dsimp only at hSw); go_simp; try with_reducible rfl
                    try simp only [Act.put, List.setIfInBounds_toArray, List.set_cons_zero, List.set_cons_succ]
                    refine takeH (i := 4) (d := some 130) (v := ?_) rfl rfl (by kernel_rfl) (by kernel_rfl) (by kernel_rfl) (fun _ _ _ h => h) (Or.inl ⟨by kernel_rfl, ?_⟩) hHeld ?_
                    rotate_left
                    · intro w hSw; (try dsimp only at hSw); go_simp; try with_reducible rfl
                    try simp only [Act.put, List.setIfInBounds_toArray, List.set_cons_zero, List.set_cons_succ]
                    refine wpAnyH_ready (rs := [5]) (by kernel_rfl) (by simp) ?_
                    refine AllReadyH.cons rfl (fun K hK => ?_) AllReadyH.nil
                    go_simp
                    refine hK.out _ _ ?_ (fun hHeld => ?_)
                    · exact (drew_cell _ _).trans HZc.out
                    clear hK K
                    refine takeH (i := 6) (d := some 3) (v := ?_) rfl rfl (by kernel_rfl) (by kernel_rfl) (by kernel_rfl) (fun _ _ _ h => h) (Or.inl ⟨by kernel_rfl, ?_⟩) hHeld ?_
                    rotate_left
                    · intro w hSw; (try dsimp only at hSw); go_simp; try with_reducible rfl
                    try simp only [Act.put, List.setIfInBounds_toArray, List.set_cons_zero, List.set_cons_succ]
                    refine wpAnyH_done (by kernel_rfl) ?_ _
                    go_wp2_with fail
                    exact ⟨rfl, _, results_rbook w.heap.size (.int .i64 0) (.string ⟨#[]⟩) (.slice none 0 0) (.slice none 0 0) (.slice none 0 0) (.slice none 0 0) (.slice none 0 0) _ _ _ rfl rfl ((drew_heap_at _ _).trans HZ.out.1), by rw [HRb.out]; exact ⟨rfl, HZ.out.2.2.drew⟩⟩
              · skip
                have HD := Lib.hid hd
                have HS := Lib.hid hS
                have HP := Lib.hid hp
                have t2 := hd.cell 2 rfl
                have cF := hd.rdr.cells.2.2.1
                clear hd hS hp HGB
                by_cases hlt : rs.length < n
                · have hltI : (rs.length : Int) < (n : Int) := by omega
                  obtain ⟨t', ht'⟩ : ∃ t', n - rs.length = t' + 1 := ⟨n - rs.length - 1, by omega⟩
                  have HS1 : Hid (RR = prep rs (manyR (repR s) (t' + 1) p)) := Lib.hid (by rw [HS.out, ht'])
                  have HT : Hid (n - (rs.length + 1) = t') := Lib.hid (by omega)
                  have HLt : Hid (True → rs.length + 1 ≤ n) := Lib.hid (fun _ => hlt)
                  have HErr : Hid (∀ c, repR s p = .error c → R = .error c) := Lib.hid (fun c hc => by rw [HR4.out, HS1.out, manyR_err _ _ _ _ _ hc])
                  clear ht' HS hlt
                  have hF1 := HFrm.out wr p HD.out.rdr HP.out
                  cases hf1 : frmR s p with
                  | error c =>
                    rw [hf1] at hF1
                    have HRb : Hid (R = .error c) := Lib.hid (HErr.out c (by rw [repR, hf1]))
                    have HF1 := Lib.hid hF1
                    have HFs : Hid ((⟨#[]⟩ : ByteArray).size ≤ 255 ∧ (⟨#[]⟩ : ByteArray).size ≤ 255) := Lib.hid (by decide)
                    clear hF1 hf1
                    go_wp2_with fail
                    refine HF1.out.mono ?_
                    rintro e w7 ⟨rfl, hk, hc, a', ha', hr⟩
                    have HD7 := Lib.hid (HD.out.call hk hr)
                    have HO7 := Lib.hid (hk.own HO.out (rownNot HO.out HD.out.rdr (by decide)))
                    have HC := Lib.hid hc
                    clear hk hr t2 cF
                    go_wp2_with fail
                    refine (HFrmF.out _ _ _ HD7.out.rdr HC.out).mono ?_
                    rintro e w8 ⟨rfl, rfl⟩
                    have d2 := HD7.out.cell 2 rfl
                    go_wp2_with (at_builtin; refine wpList_push rfl _ _ 33 rfl w.heap.size 77 i0 _ 2 32 Try.underlying33 hi hz0 hz1 hz2 rfl (by decide) _ rs.length (repCells rs) rfl HO7.out _ rfl (by intro x hx; simp at hx; rcases hx with rfl | rfl <;> rfl) rfl (by unfold maxLen; omega) (by omega) HD7.out.below.size ?_; intro gg cc w9 hown hg9; have HD9 := Lib.hid (HD7.out.push HO7.out (by decide) (by decide) hg9); have HO9 := Lib.hid hown; clear hown hg9; have c9 := HD9.out.cell 2 rfl; have f9 := HD9.out.fz 2)
                    have HDs := Lib.hid (HD9.out.set 2 (.slice (some ⟨gg, 0, none⟩) (rs.length + 1) cc))
                    refine ⟨⟨rs ++ [(⟨#[]⟩, ⟨#[]⟩)], .slice (some ⟨gg, 0, none⟩) (rs.length + 1) cc, Lib.hid (by rw [List.length_append]; exact HLt.out trivial), Lib.hid ?_, Lib.hid ?_, Lib.hid (.inr ⟨c, a', HC.out, HRb.out, HDs.out⟩)⟩, ?_⟩
                    · rw [← repCells_snoc, List.length_append, List.length_singleton]
                      exact rown_set HD9.out HO9.out (by decide)
                    · intro x hx
                      rcases List.mem_append.1 hx with hx | hx
                      · exact HSz.out x hx
                      · simp only [List.mem_singleton] at hx
                        subst hx
                        exact HFs.out
                    · rw [HDs.out.cell 2 rfl, HD.out.cell 2 rfl]
                      show n - (rs.length + 1) < n - rs.length
                      have := HLt.out trivial; omega
                  | ok r =>
                    obtain ⟨f, pa⟩ := r
                    rw [hf1] at hF1
                    have HF1 := Lib.hid hF1
                    have HPa := Lib.hid (frmR_le hf1).2
                    have hsz1 := frmR_size hf1
                    clear hF1
                    go_wp2_with fail
                    refine HF1.out.mono ?_
                    rintro e w7 ⟨rfl, hk, hr⟩
                    have HD7 := Lib.hid (HD.out.call hk hr)
                    have HO7 := Lib.hid (hk.own HO.out (rownNot HO.out HD.out.rdr (by decide)))
                    clear hk hr HF1 t2 cF
                    have hF2 := HFrm.out w7 pa HD7.out.rdr HPa.out
                    cases hf2 : frmR s pa with
                    | error c =>
                      rw [hf2] at hF2
                      have HRb : Hid (R = .error c) := Lib.hid (HErr.out c (by rw [repR, hf1]; simp only [hf2]))
                      have HFs : Hid (f.size ≤ 255 ∧ (⟨#[]⟩ : ByteArray).size ≤ 255) := Lib.hid ⟨hsz1, by decide⟩
                      have HF2 := Lib.hid hF2
                      clear hF2 hf1 hf2 hsz1
                      go_wp2_with fail
                      refine HF2.out.mono ?_
                      rintro e w8 ⟨rfl, hk, hc, a', ha', hr⟩
                      have HD8 := Lib.hid (HD7.out.call hk hr)
                      have HO8 := Lib.hid (hk.own HO7.out (rownNot HO7.out HD7.out.rdr (by decide)))
                      have HC := Lib.hid hc
                      clear hk hr
                      have d2 := HD8.out.cell 2 rfl
                      go_wp2_with (at_builtin; refine wpList_push rfl _ _ 33 rfl w.heap.size 77 i0 _ 2 32 Try.underlying33 hi hz0 hz1 hz2 rfl (by decide) _ rs.length (repCells rs) rfl HO8.out _ rfl (by intro x hx; simp at hx; rcases hx with rfl | rfl <;> rfl) rfl (by unfold maxLen; omega) (by omega) HD8.out.below.size ?_; intro gg cc w9 hown hg9; have HD9 := Lib.hid (HD8.out.push HO8.out (by decide) (by decide) hg9); have HO9 := Lib.hid hown; clear hown hg9; have c9 := HD9.out.cell 2 rfl; have f9 := HD9.out.fz 2)
                      have HDs := Lib.hid (HD9.out.set 2 (.slice (some ⟨gg, 0, none⟩) (rs.length + 1) cc))
                      refine ⟨⟨rs ++ [(f, ⟨#[]⟩)], .slice (some ⟨gg, 0, none⟩) (rs.length + 1) cc, Lib.hid (by rw [List.length_append]; exact HLt.out trivial), Lib.hid ?_, Lib.hid ?_, Lib.hid (.inr ⟨c, a', HC.out, HRb.out, HDs.out⟩)⟩, ?_⟩
                      · rw [← repCells_snoc, List.length_append, List.length_singleton]
                        exact rown_set HD9.out HO9.out (by decide)
                      · intro x hx
                        rcases List.mem_append.1 hx with hx | hx
                        · exact HSz.out x hx
                        · simp only [List.mem_singleton] at hx
                          subst hx
                          exact HFs.out
                      · rw [HDs.out.cell 2 rfl, HD.out.cell 2 rfl]
                        show n - (rs.length + 1) < n - rs.length
                        have := HLt.out trivial; omega
                    | ok r =>
                      obtain ⟨to, pb⟩ := r
                      rw [hf2] at hF2
                      have HPb := Lib.hid (frmR_le hf2).2
                      have HFs : Hid (f.size ≤ 255 ∧ to.size ≤ 255) := Lib.hid ⟨hsz1, frmR_size hf2⟩
                      have HS2 : Hid (RR = prep (rs ++ [(f, to)]) (manyR (repR s) t' pb)) := Lib.hid (by rw [HS1.out, manyR_step (repR s) t' p rs (f, to) pb (by rw [repR, hf1]; simp only [hf2])])
                      have HF2 := Lib.hid hF2
                      clear hF2 hf1 hf2 hsz1
                      go_wp2_with fail
                      refine HF2.out.mono ?_
                      rintro e w8 ⟨rfl, hk, hr⟩
                      have HD8 := Lib.hid (HD7.out.call hk hr)
                      have HO8 := Lib.hid (hk.own HO7.out (rownNot HO7.out HD7.out.rdr (by decide)))
                      clear hk hr
                      have d2 := HD8.out.cell 2 rfl
                      go_wp2_with (at_builtin; refine wpList_push rfl _ _ 33 rfl w.heap.size 77 i0 _ 2 32 Try.underlying33 hi hz0 hz1 hz2 rfl (by decide) _ rs.length (repCells rs) rfl HO8.out _ rfl (by intro x hx; simp at hx; rcases hx with rfl | rfl <;> rfl) rfl (by unfold maxLen; omega) (by omega) HD8.out.below.size ?_; intro gg cc w9 hown hg9; have HD9 := Lib.hid (HD8.out.push HO8.out (by decide) (by decide) hg9); have HO9 := Lib.hid hown; clear hown hg9; have c9 := HD9.out.cell 2 rfl; have f9 := HD9.out.fz 2)
                      have HDs := Lib.hid (HD9.out.set 2 (.slice (some ⟨gg, 0, none⟩) (rs.length + 1) cc))
                      refine ⟨⟨rs ++ [(f, to)], .slice (some ⟨gg, 0, none⟩) (rs.length + 1) cc, Lib.hid (by rw [List.length_append]; exact HLt.out trivial), Lib.hid ?_, Lib.hid ?_, Lib.hid (.inl ⟨pb, HPb.out, HDs.out, by rw [List.length_append, show rs.length + [(f, to)].length = rs.length + 1 from rfl, HT.out]; exact HS2.out⟩)⟩, ?_⟩
                      · rw [← repCells_snoc, List.length_append, List.length_singleton]
                        exact rown_set HD9.out HO9.out (by decide)
                      · intro x hx
                        rcases List.mem_append.1 hx with hx | hx
                        · exact HSz.out x hx
                        · simp only [List.mem_singleton] at hx
                          subst hx
                          exact HFs.out
                      · rw [HDs.out.cell 2 rfl, HD.out.cell 2 rfl]
                        show n - (rs.length + 1) < n - rs.length
                        have := HLt.out trivial; omega
                · have heq : rs.length = n := by have := HLn.out; omega
                  have hltI : ¬ (rs.length : Int) < (n : Int) := by omega
                  have HR5 : Hid (R = secsR s l t rs p) := Lib.hid (by rw [HR4.out, HS.out, heq, Nat.sub_self, manyR]; simp [prep])
                  clear heq hlt HS t2
                  have c0 := HD.out.cell 0 rfl
                  have c1 := HD.out.cell 1 rfl
                  have c2 := HD.out.cell 2 rfl
                  have c3 := HD.out.cell 3 rfl
                  have c4 := HD.out.cell 4 rfl
                  have c5 := HD.out.cell 5 rfl
                  have c6 := HD.out.cell 6 rfl
                  have hSet := rSettings_any (leastV l : Nat) t rs (.slice X rs.length cap) (.slice none 0 0) (.slice none 0 0) (.slice none 0 0) (.slice none 0 0) wr (reps_of_own HO.out) (by have := HTz.out; omega) (fun k h => by have := HSz.out _ (List.getElem_mem h); omega)
                  cases hset : settingsB (leastV l : Nat) t rs with
                  | false =>
                    rw [hset] at hSet
                    obtain ⟨c, hcc⟩ : ∃ c : Nat, c = 201 := ⟨_, rfl⟩
                    have hc : c ≠ 0 := by omega
                    have HRb : Hid (R = .error c) := Lib.hid (by rw [HR5.out, secsR, if_pos hset, hcc])
                    have hc1 : ((c : Int) == 0) = false := by rw [beq_eq_false_iff_ne]; omega
                    have hc2 : ((c : Int) != 0) = true := by simpa using hc
                    have HC := Lib.hid hc
                    have HSet := Lib.hid hSet
                    clear hSet hset hc
                    go_wp2_with fail
                    refine HSet.out.mono ?_
                    rintro e w8' ⟨rfl, hb8⟩
                    have HD8' := Lib.hid (HD.out.kept (Kept.of_below hb8))
                    have HD8 : Hid (RDSt w s (w8'.setCell ⟨w.heap.size + 1, 2, none⟩ (.int .i64 201)) p c #[.int .i64 ((leastV l : Nat) : Int), .string t, .slice X rs.length cap, .slice none 0 0, .slice none 0 0, .slice none 0 0, .slice none 0 0]) := Lib.hid (by rw [hcc]; exact HD8'.out.putF 201)
                    clear hb8 c0 c1 c2 c3 c4 c5 c6 cF
                    obtain ⟨_, _, cF, ff⟩ := HD8'.out.rdr.cells
                    go_wp2_with fail
                    clear cF ff
                    generalize w8'.setCell ⟨w.heap.size + 1, 2, none⟩ (Value.int .i64 201) = w8 at HD8 ⊢
                    clear HD8' hcc
                    go_loopw [11] (fun i W => i = .int .i64 0 ∧ W = w8) (fun _ _ => 0)
                    case atStart => exact ⟨rfl, rfl⟩
                    case round =>
                      obtain ⟨rfl, rfl⟩ := hrel
                      have cF := HD8.out.rdr.cells.2.2.1
                      have r0 := HD8.out.resc 0 rfl
                      have r1 := HD8.out.resc 1 rfl
                      have r2 := HD8.out.resc 2 rfl
                      have r3 := HD8.out.resc 3 rfl
                      have r4 := HD8.out.resc 4 rfl
                      have r5 := HD8.out.resc 5 rfl
                      have r6 := HD8.out.resc 6 rfl
                      have rf := HD8.out.resf
                      have cE := HD8.out.rdr.cells.2.2.1
                      have HZ := Lib.hid (res_store (.int .i64 0) (.string ⟨#[]⟩) (.slice none 0 0) (.slice none 0 0) (.slice none 0 0) (.slice none 0 0) (.slice none 0 0) HD8.out)
                      go_wp2_with fail
                      have HZc := Lib.hid ((HZ.out.2.1.cell (p := ⟨w.heap.size + 1, 2, none⟩) (block_lt (HD8.out.rdr)) (by simp)).trans cE)
                      refine wp_region_held_drew (S := fun W => W.cell? ⟨w.heap.size + 1, 2, none⟩ = some (.int .i64 (c : Int))) (by kernel_rfl) ?_ (fun hHeld => ?_)
                      · exact cE
                      refine takeH (i := 0) (d := some 126) (v := ?_) rfl rfl (by kernel_rfl) (by kernel_rfl) (by kernel_rfl) (fun _ _ _ h => h) (Or.inl ⟨by kernel_rfl, ?_⟩) hHeld ?_
                      rotate_left
                      · intro w hSw; (try dsimp only at hSw); go_simp; try with_reducible rfl
                      try simp only [Act.put, List.setIfInBounds_toArray, List.set_cons_zero, List.set_cons_succ]
                      refine takeH (i := 1) (d := some 127) (v := ?_) rfl rfl (by kernel_rfl) (by kernel_rfl) (by kernel_rfl) (fun _ _ _ h => h) (Or.inl ⟨by kernel_rfl, ?_⟩) hHeld ?_
                      rotate_left
                      · intro w hSw; (try dsimp only at hSw); go_simp; try with_reducible rfl
                      try simp only [Act.put, List.setIfInBounds_toArray, List.set_cons_zero, List.set_cons_succ]
                      refine takeH (i := 2) (d := some 128) (v := ?_) rfl rfl (by kernel_rfl) (by kernel_rfl) (by kernel_rfl) (fun _ _ _ h => h) (Or.inl ⟨by kernel_rfl, ?_⟩) hHeld ?_
                      rotate_left
                      · intro w hSw; (try dsimp only at hSw); go_simp; try with_reducible rfl
                      try simp only [Act.put, List.setIfInBounds_toArray, List.set_cons_zero, List.set_cons_succ]
                      refine takeH (i := 3) (d := some 129) (v := ?_) rfl rfl (by kernel_rfl) (by kernel_rfl) (by kernel_rfl) (fun _ _ _ h => h) (Or.inl ⟨by kernel_rfl, ?_⟩) hHeld ?_
                      rotate_left
                      · intro w hSw; (try dsimp only at hSw); go_simp; try with_reducible rfl
                      try simp only [Act.put, List.setIfInBounds_toArray, List.set_cons_zero, List.set_cons_succ]
                      refine takeH (i := 4) (d := some 130) (v := ?_) rfl rfl (by kernel_rfl) (by kernel_rfl) (by kernel_rfl) (fun _ _ _ h => h) (Or.inl ⟨by kernel_rfl, ?_⟩) hHeld ?_
                      rotate_left
                      · intro w hSw; (try dsimp only at hSw); go_simp; try with_reducible rfl
                      try simp only [Act.put, List.setIfInBounds_toArray, List.set_cons_zero, List.set_cons_succ]
                      refine wpAnyH_ready (rs := [5]) (by kernel_rfl) (by simp) ?_
                      refine AllReadyH.cons rfl (fun K hK => ?_) AllReadyH.nil
                      go_simp
                      refine hK.out _ _ ?_ (fun hHeld => ?_)
                      · exact (drew_cell _ _).trans HZc.out
                      clear hK K
                      refine takeH (i := 6) (d := some 3) (v := ?_) rfl rfl (by kernel_rfl) (by kernel_rfl) (by kernel_rfl) (fun _ _ _ h => h) (Or.inl ⟨by kernel_rfl, ?_⟩) hHeld ?_
                      rotate_left
                      · intro w hSw; (try dsimp only at hSw); go_simp; try with_reducible rfl
                      try simp only [Act.put, List.setIfInBounds_toArray, List.set_cons_zero, List.set_cons_succ]
                      refine wpAnyH_done (by kernel_rfl) ?_ _
                      go_wp2_with fail
                      exact ⟨rfl, _, results_rbook w.heap.size (.int .i64 0) (.string ⟨#[]⟩) (.slice none 0 0) (.slice none 0 0) (.slice none 0 0) (.slice none 0 0) (.slice none 0 0) _ _ _ rfl rfl ((drew_heap_at _ _).trans HZ.out.1), by rw [HRb.out]; exact ⟨rfl, HZ.out.2.2.drew⟩⟩
                  | true =>
                    rw [hset] at hSet
                    have HR6 : Hid (R = match manyR (secR s) 4 p with | .error c => .error c | .ok (As, p) => endR s ⟨leastV l, t, rs, As⟩ p) := Lib.hid (by rw [HR5.out, secsR, if_neg (by rw [hset]; simp)]; rfl)
                    have HSet := Lib.hid hSet
                    clear hSet hset
                    go_wp2_with fail
                    refine HSet.out.mono ?_
                    rintro e w8 ⟨rfl, hb8⟩
                    have HD8 := Lib.hid (HD.out.kept (Kept.of_below hb8))
                    have HO8 := Lib.hid ((Kept.of_below hb8 (E := [])).own HO.out (fun _ _ h => by cases h))
                    clear hb8 c0 c1 c2 c3 c4 c5 c6 cF
                    have cF := HD8.out.rdr.cells.2.2.1
                    go_wp2_with fail
                    clear cF
                    obtain ⟨RX, hRX⟩ : ∃ RX, manyR (secR s) 4 p = RX := ⟨_, rfl⟩
                    rw [hRX] at HR6
                    have HRX := Lib.hid hRX
                    clear hRX HD HO HRR HR4 HR5
                    go_loopw [11] (fun i W => ∃ (j : Nat) (As : List (List St)) (v0 v1 v2 v3 : Value), j ≤ 4 ∧ i = .int .i64 j ∧ Hid (W.ownsRow w.heap.size 77 2 (.slice X rs.length cap) rs.length (repCells rs)) ∧ Hid ((∃ q, q ≤ s.size ∧ As.length = j ∧ RDSt w s W q 0 #[.int .i64 ((leastV l : Nat) : Int), .string t, .slice X rs.length cap, v0, v1, v2, v3] ∧ SecP W (fun g => w.heap.size + 1 + 1 < g) [v0, v1, v2, v3] As ∧ RX = prep As (manyR (secR s) (4 - j) q)) ∨ (∃ c a', c ≠ 0 ∧ R = .error c ∧ RDSt w s W a' c #[.int .i64 ((leastV l : Nat) : Int), .string t, .slice X rs.length cap, v0, v1, v2, v3]))) (fun i _ => 4 - (intOf i).toNat)
                    case atStart => exact ⟨0, [], _, _, _, _, by omega, rfl, HO8, Lib.hid (.inl ⟨p, HP.out, rfl, HD8.out, (fun _ h => by cases h), by rw [← HRX.out]; exact (prep_nil _).symm⟩)⟩
                    case round =>
                      obtain ⟨j, As, v0, v1, v2, v3, hj, rfl, HO, HGB2⟩ := hrel
                      rcases HGB2.out with ⟨q, hq, hl, hd, hsec, hS⟩ | ⟨c, a', hc, hRc, hd⟩
                      rotate_left
                      · have HD := Lib.hid hd
                        have HRb := Lib.hid hRc
                        have hc1 : ((c : Int) == 0) = false := by rw [beq_eq_false_iff_ne]; omega
                        have hc2 : ((c : Int) != 0) = true := by simpa using hc
                        have HC := Lib.hid hc
                        have cF := hd.rdr.cells.2.2.1
                        clear hd hRc hc HGB2
                        by_cases hlt2 : (j : Int) < 4
                        all_goals
                          have r0 := HD.out.resc 0 rfl
                          have r1 := HD.out.resc 1 rfl
                          have r2 := HD.out.resc 2 rfl
                          have r3 := HD.out.resc 3 rfl
                          have r4 := HD.out.resc 4 rfl
                          have r5 := HD.out.resc 5 rfl
                          have r6 := HD.out.resc 6 rfl
                          have rf := HD.out.resf
                          have cE := HD.out.rdr.cells.2.2.1
                          have HZ := Lib.hid (res_store (.int .i64 0) (.string ⟨#[]⟩) (.slice none 0 0) (.slice none 0 0) (.slice none 0 0) (.slice none 0 0) (.slice none 0 0) HD.out)
                          go_wp2_with fail
                          have HZc := Lib.hid ((HZ.out.2.1.cell (p := ⟨w.heap.size + 1, 2, none⟩) (block_lt (HD.out.rdr)) (by simp)).trans cE)
                          refine wp_region_held_drew (S := fun W => W.cell? ⟨w.heap.size + 1, 2, none⟩ = some (.int .i64 (c : Int))) (by kernel_rfl) ?_ (fun hHeld => ?_)
                          · exact cE
                          refine takeH (i := 0) (d := some 126) (v := ?_) rfl rfl (by kernel_rfl) (by kernel_rfl) (by kernel_rfl) (fun _ _ _ h => h) (Or.inl ⟨by kernel_rfl, ?_⟩) hHeld ?_
                          rotate_left
                          · intro w hSw; (try dsimp only at hSw); go_simp; try with_reducible rfl
                          try simp only [Act.put, List.setIfInBounds_toArray, List.set_cons_zero, List.set_cons_succ]
                          refine takeH (i := 1) (d := some 127) (v := ?_) rfl rfl (by kernel_rfl) (by kernel_rfl) (by kernel_rfl) (fun _ _ _ h => h) (Or.inl ⟨by kernel_rfl, ?_⟩) hHeld ?_
                          rotate_left
                          · intro w hSw; (try dsimp only at hSw); go_simp; try with_reducible rfl
                          try simp only [Act.put, List.setIfInBounds_toArray, List.set_cons_zero, List.set_cons_succ]
                          refine takeH (i := 2) (d := some 128) (v := ?_) rfl rfl (by kernel_rfl) (by kernel_rfl) (by kernel_rfl) (fun _ _ _ h => h) (Or.inl ⟨by kernel_rfl, ?_⟩) hHeld ?_
                          rotate_left
                          · intro w hSw; (try dsimp only at hSw); go_simp; try with_reducible rfl
                          try simp only [Act.put, List.setIfInBounds_toArray, List.set_cons_zero, List.set_cons_succ]
                          refine takeH (i := 3) (d := some 129) (v := ?_) rfl rfl (by kernel_rfl) (by kernel_rfl) (by kernel_rfl) (fun _ _ _ h => h) (Or.inl ⟨by kernel_rfl, ?_⟩) hHeld ?_
                          rotate_left
                          · intro w hSw; (try dsimp only at hSw); go_simp; try with_reducible rfl
                          try simp only [Act.put, List.setIfInBounds_toArray, List.set_cons_zero, List.set_cons_succ]
                          refine takeH (i := 4) (d := some 130) (v := ?_) rfl rfl (by kernel_rfl) (by kernel_rfl) (by kernel_rfl) (fun _ _ _ h => h) (Or.inl ⟨by kernel_rfl, ?_⟩) hHeld ?_
                          rotate_left
                          · intro w hSw; (try dsimp only at hSw); go_simp; try with_reducible rfl
                          try simp only [Act.put, List.setIfInBounds_toArray, List.set_cons_zero, List.set_cons_succ]
                          refine wpAnyH_ready (rs := [5]) (by kernel_rfl) (by simp) ?_
                          refine AllReadyH.cons rfl (fun K hK => ?_) AllReadyH.nil
                          go_simp
                          refine hK.out _ _ ?_ (fun hHeld => ?_)
                          · exact (drew_cell _ _).trans HZc.out
                          clear hK K
                          refine takeH (i := 6) (d := some 3) (v := ?_) rfl rfl (by kernel_rfl) (by kernel_rfl) (by kernel_rfl) (fun _ _ _ h => h) (Or.inl ⟨by kernel_rfl, ?_⟩) hHeld ?_
                          rotate_left
                          · intro w hSw; (try dsimp only at hSw); go_simp; try with_reducible rfl
                          try simp only [Act.put, List.setIfInBounds_toArray, List.set_cons_zero, List.set_cons_succ]
                          refine wpAnyH_done (by kernel_rfl) ?_ _
                          go_wp2_with fail
                          exact ⟨rfl, _, results_rbook w.heap.size (.int .i64 0) (.string ⟨#[]⟩) (.slice none 0 0) (.slice none 0 0) (.slice none 0 0) (.slice none 0 0) (.slice none 0 0) _ _ _ rfl rfl ((drew_heap_at _ _).trans HZ.out.1), by rw [HRb.out]; exact ⟨rfl, HZ.out.2.2.drew⟩⟩
                      · have HD := Lib.hid hd
                        have HQ := Lib.hid hq
                        have HL := Lib.hid hl
                        have HSc := Lib.hid hsec
                        have HS := Lib.hid hS
                        have cF := hd.rdr.cells.2.2.1
                        clear hd hq hl hsec hS HGB2
                        by_cases hlt2 : j < 4
                        · have HS1 : Hid (RX = prep As (manyR (secR s) (3 - j + 1) q)) := Lib.hid (by rw [HS.out, show 4 - j = 3 - j + 1 by omega])
                          have hAut := HAut.out wr q HD.out.rdr HQ.out
                          have hj4 : j = 0 ∨ j = 1 ∨ j = 2 ∨ j = 3 := by omega
                          cases hsc : secR s q with
                          | error c =>
                            rw [hsc] at hAut
                            have HRb : Hid (R = .error c) := Lib.hid (by rw [HR6.out, HS1.out, manyR_err _ _ _ _ _ hsc])
                            have HAu := Lib.hid hAut
                            clear hAut hsc HS HS1
                            rcases hj4 with rfl | rfl | rfl | rfl
                            all_goals
                              go_wp2_with fail
                              refine HAu.out.mono ?_
                              rintro e w10 ⟨XX, mm, xc, rfl, hk, hc, a', ha', hr⟩
                              have HD10 := Lib.hid (HD.out.call hk hr)
                              have HO10 := Lib.hid (hk.own HO.out (rownNot HO.out HD.out.rdr (by decide)))
                              have HC := Lib.hid hc
                              clear hk hr cF hc
                              have d3 := HD10.out.cell 3 rfl
                              have d4 := HD10.out.cell 4 rfl
                              have d5 := HD10.out.cell 5 rfl
                              have d6 := HD10.out.cell 6 rfl
                              have g3 := HD10.out.fz 3
                              have g4 := HD10.out.fz 4
                              have g5 := HD10.out.fz 5
                              have g6 := HD10.out.fz 6
                              go_wp2_with fail
                              refine ⟨⟨_ + 1, As, _, _, _, _, by omega, rfl, Lib.hid (rown_set HD10.out HO10.out (by decide)), Lib.hid (.inr ⟨c, a', HC.out, HRb.out, HD10.out.set _ _⟩)⟩, by simp [intOf]⟩
                          | ok r =>
                            obtain ⟨A, q2⟩ := r
                            rw [hsc] at hAut
                            have HQ3 := Lib.hid (secR_le hsc HQ.out)
                            have HS2 : Hid (RX = prep (As ++ [A]) (manyR (secR s) (3 - j) q2)) := Lib.hid (by rw [HS1.out, manyR_step _ _ _ _ _ _ hsc])
                            have HAu := Lib.hid hAut
                            clear hAut hsc HS HS1
                            rcases hj4 with rfl | rfl | rfl | rfl
                            all_goals
                              go_wp2_with fail
                              refine HAu.out.mono ?_
                              rintro e w10 ⟨v, rfl, hk, hr, hA⟩
                              obtain ⟨AX, capX, rfl, _⟩ := id hA
                              have HD10 := Lib.hid (HD.out.call hk hr)
                              have HO10 := Lib.hid (hk.own HO.out (rownNot HO.out HD.out.rdr (by decide)))
                              have HSc10 : Hid (SecP w10 (fun g => w.heap.size + 1 + 1 < g) [v0, v1, v2, v3] As) := Lib.hid (fun j h => (HSc.out j h).kept hk (by simp <;> omega))
                              have HA10 : Hid (AutAt w10 (fun g => w.heap.size + 1 + 1 < g) (.slice AX A.length capX) A) := Lib.hid (hA.mono (fun g hg => by have := HD.out.size; omega))
                              clear hk hr hA cF
                              have d3 := HD10.out.cell 3 rfl
                              have d4 := HD10.out.cell 4 rfl
                              have d5 := HD10.out.cell 5 rfl
                              have d6 := HD10.out.cell 6 rfl
                              have g3 := HD10.out.fz 3
                              have g4 := HD10.out.fz 4
                              have g5 := HD10.out.fz 5
                              have g6 := HD10.out.fz 6
                              go_wp2_with fail
                              refine ⟨⟨_ + 1, As ++ [A], _, _, _, _, by omega, rfl, Lib.hid (rown_set HD10.out HO10.out (by decide)), Lib.hid (.inl ⟨q2, HQ3.out, by rw [List.length_append, HL.out]; rfl, HD10.out.set _ _, SecP.snoc (fun j hj => (HSc10.out j hj).kept ((Kept.refl [w.heap.size + 1 + 1] w10).set _ _ _ (.inl (by simp))) (by simp <;> omega)) (HA10.out.kept ((Kept.refl [w.heap.size + 1 + 1] w10).set _ _ _ (.inl (by simp))) (by simp <;> omega)) (by rw [HL.out]; rfl) (fun j h => by rw [HL.out] at h; rcases j with _ | _ | _ | j <;> first | rfl | omega), HS2.out⟩)⟩, by simp [intOf]⟩
                        · obtain rfl : j = 4 := by omega
                          have HR7 : Hid (R = endR s ⟨leastV l, t, rs, As⟩ q) := Lib.hid (by rw [HR6.out, HS.out, Nat.sub_self, manyR]; simp [prep])
                          have r1 := HD.out.rdr.cells.2.1
                          have rz := HD.out.rdr.cells.2.2.2
                          by_cases hq : q = s.size
                          · have HR8 : Hid (R = .ok ⟨leastV l, t, rs, As⟩) := Lib.hid (by rw [HR7.out, endR, if_pos hq])
                            have hqs : ¬ (q : Int) < (s.size : Int) := by omega
                            have HSl : Hid (∀ v, v ∈ [v0, v1, v2, v3] → ∃ A n cap, v = .slice A n cap) := Lib.hid (by
                              have key : ∀ j (h : j < As.length), ∃ A n cap, [v0, v1, v2, v3].getD j undef = .slice A n cap := fun j h => by
                                obtain ⟨A, cap, e, _⟩ := HSc.out j h
                                exact ⟨_, _, _, e⟩
                              have hl := HL.out
                              intro v hv
                              simp only [List.mem_cons, List.not_mem_nil, or_false] at hv
                              rcases hv with rfl | rfl | rfl | rfl
                              · exact key 0 (by omega)
                              · exact key 1 (by omega)
                              · exact key 2 (by omega)
                              · exact key 3 (by omega))
                            obtain ⟨yA, yn, yc, hy⟩ := HSl.out v0 (by simp)
                            obtain ⟨zA, zn, zc, hz⟩ := HSl.out v1 (by simp)
                            obtain ⟨uA, un, uc, hu⟩ := HSl.out v2 (by simp)
                            obtain ⟨tA, tn, tc, ht⟩ := HSl.out v3 (by simp)
                            subst hy hz hu ht
                            have HZ := Lib.hid (res_store (.int .i64 ((leastV l : Nat) : Int)) (.string t) (.slice X rs.length cap) (.slice yA yn yc) (.slice zA zn zc) (.slice uA un uc) (.slice tA tn tc) HD.out)
                            have HFin := Lib.hid (And.intro (reps_of_own (HZ.out.2.1.own HO.out (fun g hg hm => by
                              simp only [List.mem_cons, List.not_mem_nil, or_false] at hm
                              subst hm
                              exact absurd ((own_ty HO.out hg).1.uniq ⟨_, HD.out.res⟩) (by decide)))) (show SecP _ (fun g => w.heap.size ≤ g) [_, _, _, _] As from fun j hj => ((HSc.out j hj).kept HZ.out.2.1 (by simp <;> omega)).mono (fun g hg => by omega)))
                            clear hq HSl
                            have c0 := HD.out.cell 0 rfl
                            have c1 := HD.out.cell 1 rfl
                            have c2 := HD.out.cell 2 rfl
                            have c3 := HD.out.cell 3 rfl
                            have c4 := HD.out.cell 4 rfl
                            have c5 := HD.out.cell 5 rfl
                            have c6 := HD.out.cell 6 rfl
                            have r0' := HD.out.resc 0 rfl
                            have r1' := HD.out.resc 1 rfl
                            have r2' := HD.out.resc 2 rfl
                            have r3' := HD.out.resc 3 rfl
                            have r4' := HD.out.resc 4 rfl
                            have r5' := HD.out.resc 5 rfl
                            have r6' := HD.out.resc 6 rfl
                            have rf := HD.out.resf
                            go_wp2_with fail
                            exact ⟨rfl, _, results_rbook w.heap.size _ _ _ _ _ _ _ (.int .i64 0) _ _ rfl rfl HZ.out.1, by rw [HR8.out]; exact ⟨_, _, _, _, _, rfl, HZ.out.2.2, HFin.out.1, HL.out, HFin.out.2⟩⟩
                          · obtain ⟨c, hcc⟩ : ∃ c : Nat, c = 202 := ⟨_, rfl⟩
                            have hc : c ≠ 0 := by omega
                            have HRb : Hid (R = .error c) := Lib.hid (by rw [HR7.out, endR, if_neg hq, hcc])
                            have hqs : (q : Int) < (s.size : Int) := by have := HQ.out; omega
                            have hc1 : ((c : Int) == 0) = false := by rw [beq_eq_false_iff_ne]; omega
                            have hc2 : ((c : Int) != 0) = true := by simpa using hc
                            have HC := Lib.hid hc
                            have HD6 : Hid (RDSt w s (wr.setCell ⟨w.heap.size + 1, 2, none⟩ (.int .i64 202)) q c #[.int .i64 ((leastV l : Nat) : Int), .string t, .slice X rs.length cap, v0, v1, v2, v3]) := Lib.hid (by rw [hcc]; exact HD.out.putF 202)
                            clear hq hc
                            go_wp2_with fail
                            clear r1 rz cF
                            generalize wr.setCell ⟨w.heap.size + 1, 2, none⟩ (Value.int .i64 202) = w6 at HD6 ⊢
                            clear hcc
                            have r0 := HD6.out.resc 0 rfl
                            have r1 := HD6.out.resc 1 rfl
                            have r2 := HD6.out.resc 2 rfl
                            have r3 := HD6.out.resc 3 rfl
                            have r4 := HD6.out.resc 4 rfl
                            have r5 := HD6.out.resc 5 rfl
                            have r6 := HD6.out.resc 6 rfl
                            have rf := HD6.out.resf
                            have cE := HD6.out.rdr.cells.2.2.1
                            have HZ := Lib.hid (res_store (.int .i64 0) (.string ⟨#[]⟩) (.slice none 0 0) (.slice none 0 0) (.slice none 0 0) (.slice none 0 0) (.slice none 0 0) HD6.out)
                            have HZc := Lib.hid ((HZ.out.2.1.cell (p := ⟨w.heap.size + 1, 2, none⟩) (block_lt (HD6.out.rdr)) (by simp)).trans cE)
                            refine wp_region_held_drew (S := fun W => W.cell? ⟨w.heap.size + 1, 2, none⟩ = some (.int .i64 (c : Int))) (by kernel_rfl) ?_ (fun hHeld => ?_)
                            · exact cE
                            refine takeH (i := 0) (d := some 126) (v := ?_) rfl rfl (by kernel_rfl) (by kernel_rfl) (by kernel_rfl) (fun _ _ _ h => h) (Or.inl ⟨by kernel_rfl, ?_⟩) hHeld ?_
                            rotate_left
                            · intro w hSw; (try dsimp only at hSw); go_simp; try with_reducible rfl
                            try simp only [Act.put, List.setIfInBounds_toArray, List.set_cons_zero, List.set_cons_succ]
                            refine takeH (i := 1) (d := some 127) (v := ?_) rfl rfl (by kernel_rfl) (by kernel_rfl) (by kernel_rfl) (fun _ _ _ h => h) (Or.inl ⟨by kernel_rfl, ?_⟩) hHeld ?_
                            rotate_left
                            · intro w hSw; (try dsimp only at hSw); go_simp; try with_reducible rfl
                            try simp only [Act.put, List.setIfInBounds_toArray, List.set_cons_zero, List.set_cons_succ]
                            refine takeH (i := 2) (d := some 128) (v := ?_) rfl rfl (by kernel_rfl) (by kernel_rfl) (by kernel_rfl) (fun _ _ _ h => h) (Or.inl ⟨by kernel_rfl, ?_⟩) hHeld ?_
                            rotate_left
                            · intro w hSw; (try dsimp only at hSw); go_simp; try with_reducible rfl
                            try simp only [Act.put, List.setIfInBounds_toArray, List.set_cons_zero, List.set_cons_succ]
                            refine takeH (i := 3) (d := some 129) (v := ?_) rfl rfl (by kernel_rfl) (by kernel_rfl) (by kernel_rfl) (fun _ _ _ h => h) (Or.inl ⟨by kernel_rfl, ?_⟩) hHeld ?_
                            rotate_left
                            · intro w hSw; (try dsimp only at hSw); go_simp; try with_reducible rfl
                            try simp only [Act.put, List.setIfInBounds_toArray, List.set_cons_zero, List.set_cons_succ]
                            refine takeH (i := 4) (d := some 130) (v := ?_) rfl rfl (by kernel_rfl) (by kernel_rfl) (by kernel_rfl) (fun _ _ _ h => h) (Or.inl ⟨by kernel_rfl, ?_⟩) hHeld ?_
                            rotate_left
                            · intro w hSw; (try dsimp only at hSw); go_simp; try with_reducible rfl
                            try simp only [Act.put, List.setIfInBounds_toArray, List.set_cons_zero, List.set_cons_succ]
                            refine wpAnyH_ready (rs := [5]) (by kernel_rfl) (by simp) ?_
                            refine AllReadyH.cons rfl (fun K hK => ?_) AllReadyH.nil
                            go_simp
                            refine hK.out _ _ ?_ (fun hHeld => ?_)
                            · exact (drew_cell _ _).trans HZc.out
                            clear hK K
                            refine takeH (i := 6) (d := some 3) (v := ?_) rfl rfl (by kernel_rfl) (by kernel_rfl) (by kernel_rfl) (fun _ _ _ h => h) (Or.inl ⟨by kernel_rfl, ?_⟩) hHeld ?_
                            rotate_left
                            · intro w hSw; (try dsimp only at hSw); go_simp; try with_reducible rfl
                            try simp only [Act.put, List.setIfInBounds_toArray, List.set_cons_zero, List.set_cons_succ]
                            refine wpAnyH_done (by kernel_rfl) ?_ _
                            go_wp2_with fail
                            exact ⟨rfl, _, results_rbook w.heap.size (.int .i64 0) (.string ⟨#[]⟩) (.slice none 0 0) (.slice none 0 0) (.slice none 0 0) (.slice none 0 0) (.slice none 0 0) _ _ _ rfl rfl ((drew_heap_at _ _).trans HZ.out.1), by rw [HRb.out]; exact ⟨rfl, HZ.out.2.2.drew⟩⟩
      · skip
        go_enter Try.func16, Try.ntmps16
        go_wp2_with fail
        rw [HWs.out]
        refine HN.out.mono ?_
        rintro e w1 ⟨rfl, hk, hr⟩
        have HD1 := Lib.hid (HD0.out.call hk hr)
        clear hk hr
        have b0 := HD1.out.cell 0 rfl
        have f0 := HD1.out.fz 0
        go_wp2_with fail
        clear b0 f0
        have HD2 : Hid (RDSt w s w1 q0 0 #[.int .i64 (leastV l : Nat), .string ⟨#[]⟩, .slice none 0 0, .slice none 0 0, .slice none 0 0, .slice none 0 0, .slice none 0 0]) := Lib.hid (by rw [leastV_gt hl]; exact HD1.out)
        generalize w1 = W2 at HD2 ⊢
        clear HD1
        have hF := HFrm.out W2 q0 HD2.out.rdr HQ0.out
        cases hf : frmR s q0 with
        | error c =>
          rw [hf] at hF
          have HRb : Hid (R = .error c) := Lib.hid (by rw [HR2.out, hf])
          have HTz : Hid ((⟨#[]⟩ : ByteArray).size ≤ 255) := Lib.hid (by decide)
          refine hF.mono ?_
          rintro e w3 ⟨rfl, hk, hc, a', ha', hr⟩
          have HD2b := Lib.hid (HD2.out.call hk hr)
          have hc1 : ((c : Int) == 0) = false := by rw [beq_eq_false_iff_ne]; omega
          have hc2 : ((c : Int) != 0) = true := by simpa using hc
          have HC := Lib.hid hc
          clear hk hr hc hF hf
          have b1 := HD2b.out.cell 1 rfl
          have f1 := HD2b.out.fz 1
          go_wp2_with fail
          clear b1 f1
          have HD3 : Hid (RDSt w s (w3.setCell ⟨w.heap.size + 1 + 1, 1, none⟩ (Value.string ⟨#[]⟩)) a' c #[.int .i64 ((leastV l : Nat) : Int), .string ⟨#[]⟩, .slice none 0 0, .slice none 0 0, .slice none 0 0, .slice none 0 0, .slice none 0 0]) := Lib.hid (HD2b.out.set 1 _)
          generalize w3.setCell ⟨w.heap.size + 1 + 1, 1, none⟩ (Value.string ⟨#[]⟩) = W3 at HD3 ⊢
          clear HD2b
          refine (HNumF.out _ _ _ HD3.out.rdr HC.out).mono ?_
          rintro e w5 ⟨rfl, rfl⟩
          have cF := HD3.out.rdr.cells.2.2.1
          go_wp2_with fail
          clear cF
          have HO : Hid (W3.ownsRow w.heap.size 77 2 (.slice none 0 0) ([] : List Rp).length (repCells [])) := Lib.hid (World.ownsRow_nil _ _ _ _)
          have HSz : Hid (∀ x ∈ ([] : List Rp), x.1.size ≤ 255 ∧ x.2.size ≤ 255) := Lib.hid (fun _ h => by cases h)
          go_loopw [8, 9] (fun _ _ W => W = W3) (fun _ _ _ => 0)
          case atStart => rfl
          case round =>
            subst hrel
            have c0 := HD3.out.cell 0 rfl
            have c1 := HD3.out.cell 1 rfl
            have c2 := HD3.out.cell 2 rfl
            have c3 := HD3.out.cell 3 rfl
            have c4 := HD3.out.cell 4 rfl
            have c5 := HD3.out.cell 5 rfl
            have c6 := HD3.out.cell 6 rfl
            have cF := HD3.out.rdr.cells.2.2.1
            have hSet := rSettings_any ((leastV l : Nat) : Int) ⟨#[]⟩ [] (.slice none 0 0) (.slice none 0 0) (.slice none 0 0) (.slice none 0 0) (.slice none 0 0) wr (reps_of_own HO.out) (by have := HTz.out; omega) (fun k h => by have := HSz.out _ (List.getElem_mem h); omega)
            generalize settingsB _ _ _ = sb at hSet
            have HSet := Lib.hid hSet
            clear hSet
            go_wp2_with fail
            refine HSet.out.mono ?_
            rintro e w8 ⟨rfl, hb8⟩
            have HD8 := Lib.hid (HD3.out.kept (Kept.of_below hb8))
            clear hb8 c0 c1 c2 c3 c4 c5 c6 cF
            have cF := HD8.out.rdr.cells.2.2.1
            go_wp2_with fail
            clear cF
            go_loopw [11] (fun i W => i = .int .i64 0 ∧ W = w8) (fun _ _ => 0)
            case atStart => exact ⟨rfl, rfl⟩
            case round =>
              obtain ⟨rfl, rfl⟩ := hrel
              have cF := HD8.out.rdr.cells.2.2.1
              have r0 := HD8.out.resc 0 rfl
              have r1 := HD8.out.resc 1 rfl
              have r2 := HD8.out.resc 2 rfl
              have r3 := HD8.out.resc 3 rfl
              have r4 := HD8.out.resc 4 rfl
              have r5 := HD8.out.resc 5 rfl
              have r6 := HD8.out.resc 6 rfl
              have rf := HD8.out.resf
              have cE := HD8.out.rdr.cells.2.2.1
              have HZ := Lib.hid (res_store (.int .i64 0) (.string ⟨#[]⟩) (.slice none 0 0) (.slice none 0 0) (.slice none 0 0) (.slice none 0 0) (.slice none 0 0) HD8.out)
              go_wp2_with fail
              have HZc := Lib.hid ((HZ.out.2.1.cell (p := ⟨w.heap.size + 1, 2, none⟩) (block_lt (HD8.out.rdr)) (by simp)).trans cE)
              refine wp_region_held_drew (S := fun W => W.cell? ⟨w.heap.size + 1, 2, none⟩ = some (.int .i64 (c : Int))) (by kernel_rfl) ?_ (fun hHeld => ?_)
              · exact cE
              refine takeH (i := 0) (d := some 126) (v := ?_) rfl rfl (by kernel_rfl) (by kernel_rfl) (by kernel_rfl) (fun _ _ _ h => h) (Or.inl ⟨by kernel_rfl, ?_⟩) hHeld ?_
              rotate_left
              · intro w hSw; (try dsimp only at hSw); go_simp; try with_reducible rfl
              try simp only [Act.put, List.setIfInBounds_toArray, List.set_cons_zero, List.set_cons_succ]
              refine takeH (i := 1) (d := some 127) (v := ?_) rfl rfl (by kernel_rfl) (by kernel_rfl) (by kernel_rfl) (fun _ _ _ h => h) (Or.inl ⟨by kernel_rfl, ?_⟩) hHeld ?_
              rotate_left
              · intro w hSw; (try dsimp only at hSw); go_simp; try with_reducible rfl
              try simp only [Act.put, List.setIfInBounds_toArray, List.set_cons_zero, List.set_cons_succ]
              refine takeH (i := 2) (d := some 128) (v := ?_) rfl rfl (by kernel_rfl) (by kernel_rfl) (by kernel_rfl) (fun _ _ _ h => h) (Or.inl ⟨by kernel_rfl, ?_⟩) hHeld ?_
              rotate_left
              · intro w hSw; (try dsimp only at hSw); go_simp; try with_reducible rfl
              try simp only [Act.put, List.setIfInBounds_toArray, List.set_cons_zero, List.set_cons_succ]
              refine takeH (i := 3) (d := some 129) (v := ?_) rfl rfl (by kernel_rfl) (by kernel_rfl) (by kernel_rfl) (fun _ _ _ h => h) (Or.inl ⟨by kernel_rfl, ?_⟩) hHeld ?_
              rotate_left
              · intro w hSw; (try dsimp only at hSw); go_simp; try with_reducible rfl
              try simp only [Act.put, List.setIfInBounds_toArray, List.set_cons_zero, List.set_cons_succ]
              refine takeH (i := 4) (d := some 130) (v := ?_) rfl rfl (by kernel_rfl) (by kernel_rfl) (by kernel_rfl) (fun _ _ _ h => h) (Or.inl ⟨by kernel_rfl, ?_⟩) hHeld ?_
              rotate_left
              · intro w hSw; (try dsimp only at hSw); go_simp; try with_reducible rfl
              try simp only [Act.put, List.setIfInBounds_toArray, List.set_cons_zero, List.set_cons_succ]
              refine wpAnyH_ready (rs := [5]) (by kernel_rfl) (by simp) ?_
              refine AllReadyH.cons rfl (fun K hK => ?_) AllReadyH.nil
              go_simp
              refine hK.out _ _ ?_ (fun hHeld => ?_)
              · exact (drew_cell _ _).trans HZc.out
              clear hK K
              refine takeH (i := 6) (d := some 3) (v := ?_) rfl rfl (by kernel_rfl) (by kernel_rfl) (by kernel_rfl) (fun _ _ _ h => h) (Or.inl ⟨by kernel_rfl, ?_⟩) hHeld ?_
              rotate_left
              · intro w hSw; (try dsimp only at hSw); go_simp; try with_reducible rfl
              try simp only [Act.put, List.setIfInBounds_toArray, List.set_cons_zero, List.set_cons_succ]
              refine wpAnyH_done (by kernel_rfl) ?_ _
              go_wp2_with fail
              exact ⟨rfl, _, results_rbook w.heap.size (.int .i64 0) (.string ⟨#[]⟩) (.slice none 0 0) (.slice none 0 0) (.slice none 0 0) (.slice none 0 0) (.slice none 0 0) _ _ _ rfl rfl ((drew_heap_at _ _).trans HZ.out.1), by rw [HRb.out]; exact ⟨rfl, HZ.out.2.2.drew⟩⟩
        | ok r =>
          obtain ⟨t, q1⟩ := r
          rw [hf] at hF
          have HQ1 := Lib.hid (frmR_le hf).2
          have HTz := Lib.hid (frmR_size hf)
          have HR3 : Hid (R = repsR s l t q1) := Lib.hid (by rw [HR2.out, hf])
          clear hf
          refine hF.mono ?_
          rintro e w3 ⟨rfl, hk, hr⟩
          have HD3 := Lib.hid (HD2.out.call hk hr)
          clear hk hr hF HR2 HD2
          have b1 := HD3.out.cell 1 rfl
          have f1 := HD3.out.fz 1
          go_wp2_with fail
          clear b1 f1
          have HD4 : Hid (RDSt w s (w3.setCell ⟨w.heap.size + 1 + 1, 1, none⟩ (Value.string t)) q1 0 #[.int .i64 ((leastV l : Nat) : Int), .string t, .slice none 0 0, .slice none 0 0, .slice none 0 0, .slice none 0 0, .slice none 0 0]) := Lib.hid (HD3.out.set 1 _)
          generalize w3.setCell ⟨w.heap.size + 1 + 1, 1, none⟩ (Value.string t) = W4 at HD4 ⊢
          clear HD3
          have hN4 := HNum.out W4 q1 HD4.out.rdr HQ1.out
          cases hn4 : numR s q1 with
          | error c =>
            rw [hn4] at hN4
            have HRb : Hid (R = .error c) := Lib.hid (by rw [HR3.out, repsR, hn4])
            refine hN4.mono ?_
            rintro e w5 ⟨rfl, hk, hc, a', ha', hr⟩
            have HD5 := Lib.hid (HD4.out.call hk hr)
            have hc1 : ((c : Int) == 0) = false := by rw [beq_eq_false_iff_ne]; omega
            have hc2 : ((c : Int) != 0) = true := by simpa using hc
            have HC := Lib.hid hc
            clear hk hr hc hN4 hn4
            have cF := HD5.out.rdr.cells.2.2.1
            go_wp2_with fail
            clear cF
            have HO : Hid (w5.ownsRow w.heap.size 77 2 (.slice none 0 0) ([] : List Rp).length (repCells [])) := Lib.hid (World.ownsRow_nil _ _ _ _)
            have HSz : Hid (∀ x ∈ ([] : List Rp), x.1.size ≤ 255 ∧ x.2.size ≤ 255) := Lib.hid (fun _ h => by cases h)
            go_loopw [8, 9] (fun _ _ W => W = w5) (fun _ _ _ => 0)
            case atStart => rfl
            case round =>
              subst hrel
              have c0 := HD5.out.cell 0 rfl
              have c1 := HD5.out.cell 1 rfl
              have c2 := HD5.out.cell 2 rfl
              have c3 := HD5.out.cell 3 rfl
              have c4 := HD5.out.cell 4 rfl
              have c5 := HD5.out.cell 5 rfl
              have c6 := HD5.out.cell 6 rfl
              have cF := HD5.out.rdr.cells.2.2.1
              have hSet := rSettings_any ((leastV l : Nat) : Int) t [] (.slice none 0 0) (.slice none 0 0) (.slice none 0 0) (.slice none 0 0) (.slice none 0 0) wr (reps_of_own HO.out) (by have := HTz.out; omega) (fun k h => by have := HSz.out _ (List.getElem_mem h); omega)
              generalize settingsB _ _ _ = sb at hSet
              have HSet := Lib.hid hSet
              clear hSet
              go_wp2_with fail
              refine HSet.out.mono ?_
              rintro e w8 ⟨rfl, hb8⟩
              have HD8 := Lib.hid (HD5.out.kept (Kept.of_below hb8))
              clear hb8 c0 c1 c2 c3 c4 c5 c6 cF
              have cF := HD8.out.rdr.cells.2.2.1
              go_wp2_with fail
              clear cF
              go_loopw [11] (fun i W => i = .int .i64 0 ∧ W = w8) (fun _ _ => 0)
              case atStart => exact ⟨rfl, rfl⟩
              case round =>
                obtain ⟨rfl, rfl⟩ := hrel
                have cF := HD8.out.rdr.cells.2.2.1
                have r0 := HD8.out.resc 0 rfl
                have r1 := HD8.out.resc 1 rfl
                have r2 := HD8.out.resc 2 rfl
                have r3 := HD8.out.resc 3 rfl
                have r4 := HD8.out.resc 4 rfl
                have r5 := HD8.out.resc 5 rfl
                have r6 := HD8.out.resc 6 rfl
                have rf := HD8.out.resf
                have cE := HD8.out.rdr.cells.2.2.1
                have HZ := Lib.hid (res_store (.int .i64 0) (.string ⟨#[]⟩) (.slice none 0 0) (.slice none 0 0) (.slice none 0 0) (.slice none 0 0) (.slice none 0 0) HD8.out)
                go_wp2_with fail
                have HZc := Lib.hid ((HZ.out.2.1.cell (p := ⟨w.heap.size + 1, 2, none⟩) (block_lt (HD8.out.rdr)) (by simp)).trans cE)
                refine wp_region_held_drew (S := fun W => W.cell? ⟨w.heap.size + 1, 2, none⟩ = some (.int .i64 (c : Int))) (by kernel_rfl) ?_ (fun hHeld => ?_)
                · exact cE
                refine takeH (i := 0) (d := some 126) (v := ?_) rfl rfl (by kernel_rfl) (by kernel_rfl) (by kernel_rfl) (fun _ _ _ h => h) (Or.inl ⟨by kernel_rfl, ?_⟩) hHeld ?_
                rotate_left
                · intro w hSw; (try dsimp only at hSw); go_simp; try with_reducible rfl
                try simp only [Act.put, List.setIfInBounds_toArray, List.set_cons_zero, List.set_cons_succ]
                refine takeH (i := 1) (d := some 127) (v := ?_) rfl rfl (by kernel_rfl) (by kernel_rfl) (by kernel_rfl) (fun _ _ _ h => h) (Or.inl ⟨by kernel_rfl, ?_⟩) hHeld ?_
                rotate_left
                · intro w hSw; (try dsimp only at hSw); go_simp; try with_reducible rfl
                try simp only [Act.put, List.setIfInBounds_toArray, List.set_cons_zero, List.set_cons_succ]
                refine takeH (i := 2) (d := some 128) (v := ?_) rfl rfl (by kernel_rfl) (by kernel_rfl) (by kernel_rfl) (fun _ _ _ h => h) (Or.inl ⟨by kernel_rfl, ?_⟩) hHeld ?_
                rotate_left
                · intro w hSw; (try dsimp only at hSw); go_simp; try with_reducible rfl
                try simp only [Act.put, List.setIfInBounds_toArray, List.set_cons_zero, List.set_cons_succ]
                refine takeH (i := 3) (d := some 129) (v := ?_) rfl rfl (by kernel_rfl) (by kernel_rfl) (by kernel_rfl) (fun _ _ _ h => h) (Or.inl ⟨by kernel_rfl, ?_⟩) hHeld ?_
                rotate_left
                · intro w hSw; (try dsimp only at hSw); go_simp; try with_reducible rfl
                try simp only [Act.put, List.setIfInBounds_toArray, List.set_cons_zero, List.set_cons_succ]
                refine takeH (i := 4) (d := some 130) (v := ?_) rfl rfl (by kernel_rfl) (by kernel_rfl) (by kernel_rfl) (fun _ _ _ h => h) (Or.inl ⟨by kernel_rfl, ?_⟩) hHeld ?_
                rotate_left
                · intro w hSw; (try dsimp only at hSw); go_simp; try with_reducible rfl
                try simp only [Act.put, List.setIfInBounds_toArray, List.set_cons_zero, List.set_cons_succ]
                refine wpAnyH_ready (rs := [5]) (by kernel_rfl) (by simp) ?_
                refine AllReadyH.cons rfl (fun K hK => ?_) AllReadyH.nil
                go_simp
                refine hK.out _ _ ?_ (fun hHeld => ?_)
                · exact (drew_cell _ _).trans HZc.out
                clear hK K
                refine takeH (i := 6) (d := some 3) (v := ?_) rfl rfl (by kernel_rfl) (by kernel_rfl) (by kernel_rfl) (fun _ _ _ h => h) (Or.inl ⟨by kernel_rfl, ?_⟩) hHeld ?_
                rotate_left
                · intro w hSw; (try dsimp only at hSw); go_simp; try with_reducible rfl
                try simp only [Act.put, List.setIfInBounds_toArray, List.set_cons_zero, List.set_cons_succ]
                refine wpAnyH_done (by kernel_rfl) ?_ _
                go_wp2_with fail
                exact ⟨rfl, _, results_rbook w.heap.size (.int .i64 0) (.string ⟨#[]⟩) (.slice none 0 0) (.slice none 0 0) (.slice none 0 0) (.slice none 0 0) (.slice none 0 0) _ _ _ rfl rfl ((drew_heap_at _ _).trans HZ.out.1), by rw [HRb.out]; exact ⟨rfl, HZ.out.2.2.drew⟩⟩
          | ok r =>
            obtain ⟨n, q2⟩ := r
            rw [hn4] at hN4
            have HQ2 := Lib.hid (numR_le hn4).2
            refine hN4.mono ?_
            rintro e w5 ⟨rfl, hk, hr⟩
            have HD5 := Lib.hid (HD4.out.call hk hr)
            clear hk hr hN4 HD4
            by_cases h256 : 256 < n
            · obtain ⟨c, hcc⟩ : ∃ c : Nat, c = 201 := ⟨_, rfl⟩
              have hc : c ≠ 0 := by omega
              have HRb : Hid (R = .error c) := Lib.hid (by rw [HR3.out, repsR, hn4, hcc]; exact if_pos h256)
              have hn0 : (0 : Int) < (n : Int) := by omega
              have hn2 : (256 : Int) < (n : Int) := by omega
              have HD6 : Hid (RDSt w s (w5.setCell ⟨w.heap.size + 1, 2, none⟩ (.int .i64 201)) q2 c #[.int .i64 ((leastV l : Nat) : Int), .string t, .slice none 0 0, .slice none 0 0, .slice none 0 0, .slice none 0 0, .slice none 0 0]) := Lib.hid (by rw [hcc]; exact HD5.out.putF 201)
              have hc1 : ((c : Int) == 0) = false := by rw [beq_eq_false_iff_ne]; omega
              have hc2 : ((c : Int) != 0) = true := by simpa using hc
              have HC := Lib.hid hc
              have cF := HD5.out.rdr.cells.2.2
              obtain ⟨cF, ff⟩ := cF
              clear hn4 h256 hc
              go_wp2_with fail
              clear cF ff
              generalize w5.setCell ⟨w.heap.size + 1, 2, none⟩ (Value.int .i64 201) = W6 at HD6 ⊢
              clear HD5 hcc
              have HO : Hid (W6.ownsRow w.heap.size 77 2 (.slice none 0 0) ([] : List Rp).length (repCells [])) := Lib.hid (World.ownsRow_nil _ _ _ _)
              have HSz : Hid (∀ x ∈ ([] : List Rp), x.1.size ≤ 255 ∧ x.2.size ≤ 255) := Lib.hid (fun _ h => by cases h)
              go_loopw [8, 9] (fun _ _ W => W = W6) (fun _ _ _ => 0)
              case atStart => rfl
              case round =>
                subst hrel
                have c0 := HD6.out.cell 0 rfl
                have c1 := HD6.out.cell 1 rfl
                have c2 := HD6.out.cell 2 rfl
                have c3 := HD6.out.cell 3 rfl
                have c4 := HD6.out.cell 4 rfl
                have c5 := HD6.out.cell 5 rfl
                have c6 := HD6.out.cell 6 rfl
                have cF := HD6.out.rdr.cells.2.2.1
                have hSet := rSettings_any ((leastV l : Nat) : Int) t [] (.slice none 0 0) (.slice none 0 0) (.slice none 0 0) (.slice none 0 0) (.slice none 0 0) wr (reps_of_own HO.out) (by have := HTz.out; omega) (fun k h => by have := HSz.out _ (List.getElem_mem h); omega)
                generalize settingsB _ _ _ = sb at hSet
                have HSet := Lib.hid hSet
                clear hSet
                go_wp2_with fail
                refine HSet.out.mono ?_
                rintro e w8 ⟨rfl, hb8⟩
                have HD8 := Lib.hid (HD6.out.kept (Kept.of_below hb8))
                clear hb8 c0 c1 c2 c3 c4 c5 c6 cF
                have cF := HD8.out.rdr.cells.2.2.1
                go_wp2_with fail
                clear cF
                go_loopw [11] (fun i W => i = .int .i64 0 ∧ W = w8) (fun _ _ => 0)
                case atStart => exact ⟨rfl, rfl⟩
                case round =>
                  obtain ⟨rfl, rfl⟩ := hrel
                  have cF := HD8.out.rdr.cells.2.2.1
                  have r0 := HD8.out.resc 0 rfl
                  have r1 := HD8.out.resc 1 rfl
                  have r2 := HD8.out.resc 2 rfl
                  have r3 := HD8.out.resc 3 rfl
                  have r4 := HD8.out.resc 4 rfl
                  have r5 := HD8.out.resc 5 rfl
                  have r6 := HD8.out.resc 6 rfl
                  have rf := HD8.out.resf
                  have cE := HD8.out.rdr.cells.2.2.1
                  have HZ := Lib.hid (res_store (.int .i64 0) (.string ⟨#[]⟩) (.slice none 0 0) (.slice none 0 0) (.slice none 0 0) (.slice none 0 0) (.slice none 0 0) HD8.out)
                  go_wp2_with fail
                  have HZc := Lib.hid ((HZ.out.2.1.cell (p := ⟨w.heap.size + 1, 2, none⟩) (block_lt (HD8.out.rdr)) (by simp)).trans cE)
                  refine wp_region_held_drew (S := fun W => W.cell? ⟨w.heap.size + 1, 2, none⟩ = some (.int .i64 (c : Int))) (by kernel_rfl) ?_ (fun hHeld => ?_)
                  · exact cE
                  refine takeH (i := 0) (d := some 126) (v := ?_) rfl rfl (by kernel_rfl) (by kernel_rfl) (by kernel_rfl) (fun _ _ _ h => h) (Or.inl ⟨by kernel_rfl, ?_⟩) hHeld ?_
                  rotate_left
                  · intro w hSw; (try dsimp only at hSw); go_simp; try with_reducible rfl
                  try simp only [Act.put, List.setIfInBounds_toArray, List.set_cons_zero, List.set_cons_succ]
                  refine takeH (i := 1) (d := some 127) (v := ?_) rfl rfl (by kernel_rfl) (by kernel_rfl) (by kernel_rfl) (fun _ _ _ h => h) (Or.inl ⟨by kernel_rfl, ?_⟩) hHeld ?_
                  rotate_left
                  · intro w hSw; (try dsimp only at hSw); go_simp; try with_reducible rfl
                  try simp only [Act.put, List.setIfInBounds_toArray, List.set_cons_zero, List.set_cons_succ]
                  refine takeH (i := 2) (d := some 128) (v := ?_) rfl rfl (by kernel_rfl) (by kernel_rfl) (by kernel_rfl) (fun _ _ _ h => h) (Or.inl ⟨by kernel_rfl, ?_⟩) hHeld ?_
                  rotate_left
                  · intro w hSw; (try dsimp only at hSw); go_simp; try with_reducible rfl
                  try simp only [Act.put, List.setIfInBounds_toArray, List.set_cons_zero, List.set_cons_succ]
                  refine takeH (i := 3) (d := some 129) (v := ?_) rfl rfl (by kernel_rfl) (by kernel_rfl) (by kernel_rfl) (fun _ _ _ h => h) (Or.inl ⟨by kernel_rfl, ?_⟩) hHeld ?_
                  rotate_left
                  · intro w hSw; (try dsimp only at hSw); go_simp; try with_reducible rfl
                  try simp only [Act.put, List.setIfInBounds_toArray, List.set_cons_zero, List.set_cons_succ]
                  refine takeH (i := 4) (d := some 130) (v := ?_) rfl rfl (by kernel_rfl) (by kernel_rfl) (by kernel_rfl) (fun _ _ _ h => h) (Or.inl ⟨by kernel_rfl, ?_⟩) hHeld ?_
                  rotate_left
                  · intro w hSw; (try dsimp only at hSw); go_simp; try with_reducible rfl
                  try simp only [Act.put, List.setIfInBounds_toArray, List.set_cons_zero, List.set_cons_succ]
                  refine wpAnyH_ready (rs := [5]) (by kernel_rfl) (by simp) ?_
                  refine AllReadyH.cons rfl (fun K hK => ?_) AllReadyH.nil
                  go_simp
                  refine hK.out _ _ ?_ (fun hHeld => ?_)
                  · exact (drew_cell _ _).trans HZc.out
                  clear hK K
                  refine takeH (i := 6) (d := some 3) (v := ?_) rfl rfl (by kernel_rfl) (by kernel_rfl) (by kernel_rfl) (fun _ _ _ h => h) (Or.inl ⟨by kernel_rfl, ?_⟩) hHeld ?_
                  rotate_left
                  · intro w hSw; (try dsimp only at hSw); go_simp; try with_reducible rfl
                  try simp only [Act.put, List.setIfInBounds_toArray, List.set_cons_zero, List.set_cons_succ]
                  refine wpAnyH_done (by kernel_rfl) ?_ _
                  go_wp2_with fail
                  exact ⟨rfl, _, results_rbook w.heap.size (.int .i64 0) (.string ⟨#[]⟩) (.slice none 0 0) (.slice none 0 0) (.slice none 0 0) (.slice none 0 0) (.slice none 0 0) _ _ _ rfl rfl ((drew_heap_at _ _).trans HZ.out.1), by rw [HRb.out]; exact ⟨rfl, HZ.out.2.2.drew⟩⟩
            have HR4 : Hid (R = match manyR (repR s) n q2 with | .error c => .error c | .ok (rs, p) => secsR s l t rs p) := Lib.hid (by rw [HR3.out, repsR, hn4]; exact if_neg h256)
            have HN6 : Hid (n ≤ 256) := Lib.hid (by omega)
            have hn2 : ¬ (256 : Int) < (n : Int) := by omega
            have cF := HD5.out.rdr.cells.2.2.1
            clear hn4 HR3 h256
            go_wp2_with fail
            clear cF
            obtain ⟨RR, hRR⟩ : ∃ RR, manyR (repR s) n q2 = RR := ⟨_, rfl⟩
            rw [hRR] at HR4
            have HRR := Lib.hid hRR
            clear hRR
            go_loopw [8, 9] (fun _ _ W => ∃ (rs : List Rp) (vr : Value), Hid (rs.length ≤ n) ∧ Hid (W.ownsRow w.heap.size 77 2 vr rs.length (repCells rs)) ∧ Hid (∀ x ∈ rs, x.1.size ≤ 255 ∧ x.2.size ≤ 255) ∧ Hid ((∃ p, p ≤ s.size ∧ RDSt w s W p 0 #[.int .i64 ((leastV l : Nat) : Int), .string t, vr, .slice none 0 0, .slice none 0 0, .slice none 0 0, .slice none 0 0] ∧ RR = prep rs (manyR (repR s) (n - rs.length) p)) ∨ (∃ c a', c ≠ 0 ∧ R = .error c ∧ RDSt w s W a' c #[.int .i64 ((leastV l : Nat) : Int), .string t, vr, .slice none 0 0, .slice none 0 0, .slice none 0 0, .slice none 0 0]))) (fun _ _ W => n - lenV ((W.cell? ⟨w.heap.size + 1 + 1, 2, none⟩).getD undef))
            case atStart => exact ⟨[], .slice none 0 0, Lib.hid (Nat.zero_le _), Lib.hid (World.ownsRow_nil _ _ _ _), Lib.hid (fun _ h => by cases h), Lib.hid (.inl ⟨q2, HQ2.out, HD5.out, by rw [← HRR.out]; exact (prep_nil _).symm⟩)⟩
            case round =>
              obtain ⟨rs, vr, HLn, HO, HSz, HGB⟩ := hrel
              obtain ⟨X, cap, hX⟩ := own_form HO.out
              subst hX
              have hLl : (rs.length : Int) ≤ 256 := by have := HLn.out; have := HN6.out; omega
              rcases HGB.out with ⟨p, hp, hd, hS⟩ | ⟨c, a', hc, hRc, hd⟩
              rotate_left
              · have HD := Lib.hid hd
                have HRb := Lib.hid hRc
                have hc1 : ((c : Int) == 0) = false := by rw [beq_eq_false_iff_ne]; omega
                have hc2 : ((c : Int) != 0) = true := by simpa using hc
                have HC := Lib.hid hc
                clear hd hRc hc HGB
                by_cases hlt : (rs.length : Int) < (n : Int)
                all_goals
                  have c0 := HD.out.cell 0 rfl
                  have c1 := HD.out.cell 1 rfl
                  have c2 := HD.out.cell 2 rfl
                  have c3 := HD.out.cell 3 rfl
                  have c4 := HD.out.cell 4 rfl
                  have c5 := HD.out.cell 5 rfl
                  have c6 := HD.out.cell 6 rfl
                  have cF := HD.out.rdr.cells.2.2.1
                  have hSet := rSettings_any ((leastV l : Nat) : Int) t rs (.slice X rs.length cap) (.slice none 0 0) (.slice none 0 0) (.slice none 0 0) (.slice none 0 0) wr (reps_of_own HO.out) (by have := HTz.out; omega) (fun k h => by have := HSz.out _ (List.getElem_mem h); omega)
                  generalize settingsB _ _ _ = sb at hSet
                  have HSet := Lib.hid hSet
                  clear hSet
                  go_wp2_with fail
                  refine HSet.out.mono ?_
                  rintro e w8 ⟨rfl, hb8⟩
                  have HD8 := Lib.hid (HD.out.kept (Kept.of_below hb8))
                  clear hb8 c0 c1 c2 c3 c4 c5 c6 cF
                  have cF := HD8.out.rdr.cells.2.2.1
                  go_wp2_with fail
                  clear cF
                  go_loopw [11] (fun i W => i = .int .i64 0 ∧ W = w8) (fun _ _ => 0)
                  case atStart => exact ⟨rfl, rfl⟩
                  case round =>
                    obtain ⟨rfl, rfl⟩ := hrel
                    have cF := HD8.out.rdr.cells.2.2.1
                    have r0 := HD8.out.resc 0 rfl
                    have r1 := HD8.out.resc 1 rfl
                    have r2 := HD8.out.resc 2 rfl
                    have r3 := HD8.out.resc 3 rfl
                    have r4 := HD8.out.resc 4 rfl
                    have r5 := HD8.out.resc 5 rfl
                    have r6 := HD8.out.resc 6 rfl
                    have rf := HD8.out.resf
                    have cE := HD8.out.rdr.cells.2.2.1
                    have HZ := Lib.hid (res_store (.int .i64 0) (.string ⟨#[]⟩) (.slice none 0 0) (.slice none 0 0) (.slice none 0 0) (.slice none 0 0) (.slice none 0 0) HD8.out)
                    go_wp2_with fail
                    have HZc := Lib.hid ((HZ.out.2.1.cell (p := ⟨w.heap.size + 1, 2, none⟩) (block_lt (HD8.out.rdr)) (by simp)).trans cE)
                    refine wp_region_held_drew (S := fun W => W.cell? ⟨w.heap.size + 1, 2, none⟩ = some (.int .i64 (c : Int))) (by kernel_rfl) ?_ (fun hHeld => ?_)
                    · exact cE
                    refine takeH (i := 0) (d := some 126) (v := ?_) rfl rfl (by kernel_rfl) (by kernel_rfl) (by kernel_rfl) (fun _ _ _ h => h) (Or.inl ⟨by kernel_rfl, ?_⟩) hHeld ?_
                    rotate_left
                    · intro w hSw; (try dsimp only at hSw); go_simp; try with_reducible rfl
                    try simp only [Act.put, List.setIfInBounds_toArray, List.set_cons_zero, List.set_cons_succ]
                    refine takeH (i := 1) (d := some 127) (v := ?_) rfl rfl (by kernel_rfl) (by kernel_rfl) (by kernel_rfl) (fun _ _ _ h => h) (Or.inl ⟨by kernel_rfl, ?_⟩) hHeld ?_
                    rotate_left
                    · intro w hSw; (try dsimp only at hSw); go_simp; try with_reducible rfl
                    try simp only [Act.put, List.setIfInBounds_toArray, List.set_cons_zero, List.set_cons_succ]
                    refine takeH (i := 2) (d := some 128) (v := ?_) rfl rfl (by kernel_rfl) (by kernel_rfl) (by kernel_rfl) (fun _ _ _ h => h) (Or.inl ⟨by kernel_rfl, ?_⟩) hHeld ?_
                    rotate_left
                    · intro w hSw; (try dsimp only at hSw); go_simp; try with_reducible rfl
                    try simp only [Act.put, List.setIfInBounds_toArray, List.set_cons_zero, List.set_cons_succ]
                    refine takeH (i := 3) (d := some 129) (v := ?_) rfl rfl (by kernel_rfl) (by kernel_rfl) (by kernel_rfl) (fun _ _ _ h => h) (Or.inl ⟨by kernel_rfl, ?_⟩) hHeld ?_
                    rotate_left
                    · intro w hSw; (try dsimp only at hSw); go_simp; try with_reducible rfl
                    try simp only [Act.put, List.setIfInBounds_toArray, List.set_cons_zero, List.set_cons_succ]
                    refine takeH (i := 4) (d := some 130) (v := ?_) rfl rfl (by kernel_rfl) (by kernel_rfl) (by kernel_rfl) (fun _ _ _ h => h) (Or.inl ⟨by kernel_rfl, ?_⟩) hHeld ?_
                    rotate_left
                    · intro w hSw; (try dsimp only at hSw); go_simp; try with_reducible rfl
                    try simp only [Act.put, List.setIfInBounds_toArray, List.set_cons_zero, List.set_cons_succ]
                    refine wpAnyH_ready (rs := [5]) (by kernel_rfl) (by simp) ?_
                    refine AllReadyH.cons rfl (fun K hK => ?_) AllReadyH.nil
                    go_simp
                    refine hK.out _ _ ?_ (fun hHeld => ?_)
                    · exact (drew_cell _ _).trans HZc.out
                    clear hK K
                    refine takeH (i := 6) (d := some 3) (v := ?_) rfl rfl (by kernel_rfl) (by kernel_rfl) (by kernel_rfl) (fun _ _ _ h => h) (Or.inl ⟨by kernel_rfl, ?_⟩) hHeld ?_
                    rotate_left
                    · intro w hSw; (try dsimp only at hSw); go_simp; try with_reducible rfl
                    try simp only [Act.put, List.setIfInBounds_toArray, List.set_cons_zero, List.set_cons_succ]
                    refine wpAnyH_done (by kernel_rfl) ?_ _
                    go_wp2_with fail
                    exact ⟨rfl, _, results_rbook w.heap.size (.int .i64 0) (.string ⟨#[]⟩) (.slice none 0 0) (.slice none 0 0) (.slice none 0 0) (.slice none 0 0) (.slice none 0 0) _ _ _ rfl rfl ((drew_heap_at _ _).trans HZ.out.1), by rw [HRb.out]; exact ⟨rfl, HZ.out.2.2.drew⟩⟩
              · skip
                have HD := Lib.hid hd
                have HS := Lib.hid hS
                have HP := Lib.hid hp
                have t2 := hd.cell 2 rfl
                have cF := hd.rdr.cells.2.2.1
                clear hd hS hp HGB
                by_cases hlt : rs.length < n
                · have hltI : (rs.length : Int) < (n : Int) := by omega
                  obtain ⟨t', ht'⟩ : ∃ t', n - rs.length = t' + 1 := ⟨n - rs.length - 1, by omega⟩
                  have HS1 : Hid (RR = prep rs (manyR (repR s) (t' + 1) p)) := Lib.hid (by rw [HS.out, ht'])
                  have HT : Hid (n - (rs.length + 1) = t') := Lib.hid (by omega)
                  have HLt : Hid (True → rs.length + 1 ≤ n) := Lib.hid (fun _ => hlt)
                  have HErr : Hid (∀ c, repR s p = .error c → R = .error c) := Lib.hid (fun c hc => by rw [HR4.out, HS1.out, manyR_err _ _ _ _ _ hc])
                  clear ht' HS hlt
                  have hF1 := HFrm.out wr p HD.out.rdr HP.out
                  cases hf1 : frmR s p with
                  | error c =>
                    rw [hf1] at hF1
                    have HRb : Hid (R = .error c) := Lib.hid (HErr.out c (by rw [repR, hf1]))
                    have HF1 := Lib.hid hF1
                    have HFs : Hid ((⟨#[]⟩ : ByteArray).size ≤ 255 ∧ (⟨#[]⟩ : ByteArray).size ≤ 255) := Lib.hid (by decide)
                    clear hF1 hf1
                    go_wp2_with fail
                    refine HF1.out.mono ?_
                    rintro e w7 ⟨rfl, hk, hc, a', ha', hr⟩
                    have HD7 := Lib.hid (HD.out.call hk hr)
                    have HO7 := Lib.hid (hk.own HO.out (rownNot HO.out HD.out.rdr (by decide)))
                    have HC := Lib.hid hc
                    clear hk hr t2 cF
                    go_wp2_with fail
                    refine (HFrmF.out _ _ _ HD7.out.rdr HC.out).mono ?_
                    rintro e w8 ⟨rfl, rfl⟩
                    have d2 := HD7.out.cell 2 rfl
                    go_wp2_with (at_builtin; refine wpList_push rfl _ _ 33 rfl w.heap.size 77 i0 _ 2 32 Try.underlying33 hi hz0 hz1 hz2 rfl (by decide) _ rs.length (repCells rs) rfl HO7.out _ rfl (by intro x hx; simp at hx; rcases hx with rfl | rfl <;> rfl) rfl (by unfold maxLen; omega) (by omega) HD7.out.below.size ?_; intro gg cc w9 hown hg9; have HD9 := Lib.hid (HD7.out.push HO7.out (by decide) (by decide) hg9); have HO9 := Lib.hid hown; clear hown hg9; have c9 := HD9.out.cell 2 rfl; have f9 := HD9.out.fz 2)
                    have HDs := Lib.hid (HD9.out.set 2 (.slice (some ⟨gg, 0, none⟩) (rs.length + 1) cc))
                    refine ⟨⟨rs ++ [(⟨#[]⟩, ⟨#[]⟩)], .slice (some ⟨gg, 0, none⟩) (rs.length + 1) cc, Lib.hid (by rw [List.length_append]; exact HLt.out trivial), Lib.hid ?_, Lib.hid ?_, Lib.hid (.inr ⟨c, a', HC.out, HRb.out, HDs.out⟩)⟩, ?_⟩
                    · rw [← repCells_snoc, List.length_append, List.length_singleton]
                      exact rown_set HD9.out HO9.out (by decide)
                    · intro x hx
                      rcases List.mem_append.1 hx with hx | hx
                      · exact HSz.out x hx
                      · simp only [List.mem_singleton] at hx
                        subst hx
                        exact HFs.out
                    · rw [HDs.out.cell 2 rfl, HD.out.cell 2 rfl]
                      show n - (rs.length + 1) < n - rs.length
                      have := HLt.out trivial; omega
                  | ok r =>
                    obtain ⟨f, pa⟩ := r
                    rw [hf1] at hF1
                    have HF1 := Lib.hid hF1
                    have HPa := Lib.hid (frmR_le hf1).2
                    have hsz1 := frmR_size hf1
                    clear hF1
                    go_wp2_with fail
                    refine HF1.out.mono ?_
                    rintro e w7 ⟨rfl, hk, hr⟩
                    have HD7 := Lib.hid (HD.out.call hk hr)
                    have HO7 := Lib.hid (hk.own HO.out (rownNot HO.out HD.out.rdr (by decide)))
                    clear hk hr HF1 t2 cF
                    have hF2 := HFrm.out w7 pa HD7.out.rdr HPa.out
                    cases hf2 : frmR s pa with
                    | error c =>
                      rw [hf2] at hF2
                      have HRb : Hid (R = .error c) := Lib.hid (HErr.out c (by rw [repR, hf1]; simp only [hf2]))
                      have HFs : Hid (f.size ≤ 255 ∧ (⟨#[]⟩ : ByteArray).size ≤ 255) := Lib.hid ⟨hsz1, by decide⟩
                      have HF2 := Lib.hid hF2
                      clear hF2 hf1 hf2 hsz1
                      go_wp2_with fail
                      refine HF2.out.mono ?_
                      rintro e w8 ⟨rfl, hk, hc, a', ha', hr⟩
                      have HD8 := Lib.hid (HD7.out.call hk hr)
                      have HO8 := Lib.hid (hk.own HO7.out (rownNot HO7.out HD7.out.rdr (by decide)))
                      have HC := Lib.hid hc
                      clear hk hr
                      have d2 := HD8.out.cell 2 rfl
                      go_wp2_with (at_builtin; refine wpList_push rfl _ _ 33 rfl w.heap.size 77 i0 _ 2 32 Try.underlying33 hi hz0 hz1 hz2 rfl (by decide) _ rs.length (repCells rs) rfl HO8.out _ rfl (by intro x hx; simp at hx; rcases hx with rfl | rfl <;> rfl) rfl (by unfold maxLen; omega) (by omega) HD8.out.below.size ?_; intro gg cc w9 hown hg9; have HD9 := Lib.hid (HD8.out.push HO8.out (by decide) (by decide) hg9); have HO9 := Lib.hid hown; clear hown hg9; have c9 := HD9.out.cell 2 rfl; have f9 := HD9.out.fz 2)
                      have HDs := Lib.hid (HD9.out.set 2 (.slice (some ⟨gg, 0, none⟩) (rs.length + 1) cc))
                      refine ⟨⟨rs ++ [(f, ⟨#[]⟩)], .slice (some ⟨gg, 0, none⟩) (rs.length + 1) cc, Lib.hid (by rw [List.length_append]; exact HLt.out trivial), Lib.hid ?_, Lib.hid ?_, Lib.hid (.inr ⟨c, a', HC.out, HRb.out, HDs.out⟩)⟩, ?_⟩
                      · rw [← repCells_snoc, List.length_append, List.length_singleton]
                        exact rown_set HD9.out HO9.out (by decide)
                      · intro x hx
                        rcases List.mem_append.1 hx with hx | hx
                        · exact HSz.out x hx
                        · simp only [List.mem_singleton] at hx
                          subst hx
                          exact HFs.out
                      · rw [HDs.out.cell 2 rfl, HD.out.cell 2 rfl]
                        show n - (rs.length + 1) < n - rs.length
                        have := HLt.out trivial; omega
                    | ok r =>
                      obtain ⟨to, pb⟩ := r
                      rw [hf2] at hF2
                      have HPb := Lib.hid (frmR_le hf2).2
                      have HFs : Hid (f.size ≤ 255 ∧ to.size ≤ 255) := Lib.hid ⟨hsz1, frmR_size hf2⟩
                      have HS2 : Hid (RR = prep (rs ++ [(f, to)]) (manyR (repR s) t' pb)) := Lib.hid (by rw [HS1.out, manyR_step (repR s) t' p rs (f, to) pb (by rw [repR, hf1]; simp only [hf2])])
                      have HF2 := Lib.hid hF2
                      clear hF2 hf1 hf2 hsz1
                      go_wp2_with fail
                      refine HF2.out.mono ?_
                      rintro e w8 ⟨rfl, hk, hr⟩
                      have HD8 := Lib.hid (HD7.out.call hk hr)
                      have HO8 := Lib.hid (hk.own HO7.out (rownNot HO7.out HD7.out.rdr (by decide)))
                      clear hk hr
                      have d2 := HD8.out.cell 2 rfl
                      go_wp2_with (at_builtin; refine wpList_push rfl _ _ 33 rfl w.heap.size 77 i0 _ 2 32 Try.underlying33 hi hz0 hz1 hz2 rfl (by decide) _ rs.length (repCells rs) rfl HO8.out _ rfl (by intro x hx; simp at hx; rcases hx with rfl | rfl <;> rfl) rfl (by unfold maxLen; omega) (by omega) HD8.out.below.size ?_; intro gg cc w9 hown hg9; have HD9 := Lib.hid (HD8.out.push HO8.out (by decide) (by decide) hg9); have HO9 := Lib.hid hown; clear hown hg9; have c9 := HD9.out.cell 2 rfl; have f9 := HD9.out.fz 2)
                      have HDs := Lib.hid (HD9.out.set 2 (.slice (some ⟨gg, 0, none⟩) (rs.length + 1) cc))
                      refine ⟨⟨rs ++ [(f, to)], .slice (some ⟨gg, 0, none⟩) (rs.length + 1) cc, Lib.hid (by rw [List.length_append]; exact HLt.out trivial), Lib.hid ?_, Lib.hid ?_, Lib.hid (.inl ⟨pb, HPb.out, HDs.out, by rw [List.length_append, show rs.length + [(f, to)].length = rs.length + 1 from rfl, HT.out]; exact HS2.out⟩)⟩, ?_⟩
                      · rw [← repCells_snoc, List.length_append, List.length_singleton]
                        exact rown_set HD9.out HO9.out (by decide)
                      · intro x hx
                        rcases List.mem_append.1 hx with hx | hx
                        · exact HSz.out x hx
                        · simp only [List.mem_singleton] at hx
                          subst hx
                          exact HFs.out
                      · rw [HDs.out.cell 2 rfl, HD.out.cell 2 rfl]
                        show n - (rs.length + 1) < n - rs.length
                        have := HLt.out trivial; omega
                · have heq : rs.length = n := by have := HLn.out; omega
                  have hltI : ¬ (rs.length : Int) < (n : Int) := by omega
                  have HR5 : Hid (R = secsR s l t rs p) := Lib.hid (by rw [HR4.out, HS.out, heq, Nat.sub_self, manyR]; simp [prep])
                  clear heq hlt HS t2
                  have c0 := HD.out.cell 0 rfl
                  have c1 := HD.out.cell 1 rfl
                  have c2 := HD.out.cell 2 rfl
                  have c3 := HD.out.cell 3 rfl
                  have c4 := HD.out.cell 4 rfl
                  have c5 := HD.out.cell 5 rfl
                  have c6 := HD.out.cell 6 rfl
                  have hSet := rSettings_any (leastV l : Nat) t rs (.slice X rs.length cap) (.slice none 0 0) (.slice none 0 0) (.slice none 0 0) (.slice none 0 0) wr (reps_of_own HO.out) (by have := HTz.out; omega) (fun k h => by have := HSz.out _ (List.getElem_mem h); omega)
                  cases hset : settingsB (leastV l : Nat) t rs with
                  | false =>
                    rw [hset] at hSet
                    obtain ⟨c, hcc⟩ : ∃ c : Nat, c = 201 := ⟨_, rfl⟩
                    have hc : c ≠ 0 := by omega
                    have HRb : Hid (R = .error c) := Lib.hid (by rw [HR5.out, secsR, if_pos hset, hcc])
                    have hc1 : ((c : Int) == 0) = false := by rw [beq_eq_false_iff_ne]; omega
                    have hc2 : ((c : Int) != 0) = true := by simpa using hc
                    have HC := Lib.hid hc
                    have HSet := Lib.hid hSet
                    clear hSet hset hc
                    go_wp2_with fail
                    refine HSet.out.mono ?_
                    rintro e w8' ⟨rfl, hb8⟩
                    have HD8' := Lib.hid (HD.out.kept (Kept.of_below hb8))
                    have HD8 : Hid (RDSt w s (w8'.setCell ⟨w.heap.size + 1, 2, none⟩ (.int .i64 201)) p c #[.int .i64 ((leastV l : Nat) : Int), .string t, .slice X rs.length cap, .slice none 0 0, .slice none 0 0, .slice none 0 0, .slice none 0 0]) := Lib.hid (by rw [hcc]; exact HD8'.out.putF 201)
                    clear hb8 c0 c1 c2 c3 c4 c5 c6 cF
                    obtain ⟨_, _, cF, ff⟩ := HD8'.out.rdr.cells
                    go_wp2_with fail
                    clear cF ff
                    generalize w8'.setCell ⟨w.heap.size + 1, 2, none⟩ (Value.int .i64 201) = w8 at HD8 ⊢
                    clear HD8' hcc
                    go_loopw [11] (fun i W => i = .int .i64 0 ∧ W = w8) (fun _ _ => 0)
                    case atStart => exact ⟨rfl, rfl⟩
                    case round =>
                      obtain ⟨rfl, rfl⟩ := hrel
                      have cF := HD8.out.rdr.cells.2.2.1
                      have r0 := HD8.out.resc 0 rfl
                      have r1 := HD8.out.resc 1 rfl
                      have r2 := HD8.out.resc 2 rfl
                      have r3 := HD8.out.resc 3 rfl
                      have r4 := HD8.out.resc 4 rfl
                      have r5 := HD8.out.resc 5 rfl
                      have r6 := HD8.out.resc 6 rfl
                      have rf := HD8.out.resf
                      have cE := HD8.out.rdr.cells.2.2.1
                      have HZ := Lib.hid (res_store (.int .i64 0) (.string ⟨#[]⟩) (.slice none 0 0) (.slice none 0 0) (.slice none 0 0) (.slice none 0 0) (.slice none 0 0) HD8.out)
                      go_wp2_with fail
                      have HZc := Lib.hid ((HZ.out.2.1.cell (p := ⟨w.heap.size + 1, 2, none⟩) (block_lt (HD8.out.rdr)) (by simp)).trans cE)
                      refine wp_region_held_drew (S := fun W => W.cell? ⟨w.heap.size + 1, 2, none⟩ = some (.int .i64 (c : Int))) (by kernel_rfl) ?_ (fun hHeld => ?_)
                      · exact cE
                      refine takeH (i := 0) (d := some 126) (v := ?_) rfl rfl (by kernel_rfl) (by kernel_rfl) (by kernel_rfl) (fun _ _ _ h => h) (Or.inl ⟨by kernel_rfl, ?_⟩) hHeld ?_
                      rotate_left
                      · intro w hSw; (try dsimp only at hSw); go_simp; try with_reducible rfl
                      try simp only [Act.put, List.setIfInBounds_toArray, List.set_cons_zero, List.set_cons_succ]
                      refine takeH (i := 1) (d := some 127) (v := ?_) rfl rfl (by kernel_rfl) (by kernel_rfl) (by kernel_rfl) (fun _ _ _ h => h) (Or.inl ⟨by kernel_rfl, ?_⟩) hHeld ?_
                      rotate_left
                      · intro w hSw; (try dsimp only at hSw); go_simp; try with_reducible rfl
                      try simp only [Act.put, List.setIfInBounds_toArray, List.set_cons_zero, List.set_cons_succ]
                      refine takeH (i := 2) (d := some 128) (v := ?_) rfl rfl (by kernel_rfl) (by kernel_rfl) (by kernel_rfl) (fun _ _ _ h => h) (Or.inl ⟨by kernel_rfl, ?_⟩) hHeld ?_
                      rotate_left
                      · intro w hSw; (try dsimp only at hSw); go_simp; try with_reducible rfl
                      try simp only [Act.put, List.setIfInBounds_toArray, List.set_cons_zero, List.set_cons_succ]
                      refine takeH (i := 3) (d := some 129) (v := ?_) rfl rfl (by kernel_rfl) (by kernel_rfl) (by kernel_rfl) (fun _ _ _ h => h) (Or.inl ⟨by kernel_rfl, ?_⟩) hHeld ?_
                      rotate_left
                      · intro w hSw; (try dsimp only at hSw); go_simp; try with_reducible rfl
                      try simp only [Act.put, List.setIfInBounds_toArray, List.set_cons_zero, List.set_cons_succ]
                      refine takeH (i := 4) (d := some 130) (v := ?_) rfl rfl (by kernel_rfl) (by kernel_rfl) (by kernel_rfl) (fun _ _ _ h => h) (Or.inl ⟨by kernel_rfl, ?_⟩) hHeld ?_
                      rotate_left
                      · intro w hSw; (try dsimp only at hSw); go_simp; try with_reducible rfl
                      try simp only [Act.put, List.setIfInBounds_toArray, List.set_cons_zero, List.set_cons_succ]
                      refine wpAnyH_ready (rs := [5]) (by kernel_rfl) (by simp) ?_
                      refine AllReadyH.cons rfl (fun K hK => ?_) AllReadyH.nil
                      go_simp
                      refine hK.out _ _ ?_ (fun hHeld => ?_)
                      · exact (drew_cell _ _).trans HZc.out
                      clear hK K
                      refine takeH (i := 6) (d := some 3) (v := ?_) rfl rfl (by kernel_rfl) (by kernel_rfl) (by kernel_rfl) (fun _ _ _ h => h) (Or.inl ⟨by kernel_rfl, ?_⟩) hHeld ?_
                      rotate_left
                      · intro w hSw; (try dsimp only at hSw); go_simp; try with_reducible rfl
                      try simp only [Act.put, List.setIfInBounds_toArray, List.set_cons_zero, List.set_cons_succ]
                      refine wpAnyH_done (by kernel_rfl) ?_ _
                      go_wp2_with fail
                      exact ⟨rfl, _, results_rbook w.heap.size (.int .i64 0) (.string ⟨#[]⟩) (.slice none 0 0) (.slice none 0 0) (.slice none 0 0) (.slice none 0 0) (.slice none 0 0) _ _ _ rfl rfl ((drew_heap_at _ _).trans HZ.out.1), by rw [HRb.out]; exact ⟨rfl, HZ.out.2.2.drew⟩⟩
                  | true =>
                    rw [hset] at hSet
                    have HR6 : Hid (R = match manyR (secR s) 4 p with | .error c => .error c | .ok (As, p) => endR s ⟨leastV l, t, rs, As⟩ p) := Lib.hid (by rw [HR5.out, secsR, if_neg (by rw [hset]; simp)]; rfl)
                    have HSet := Lib.hid hSet
                    clear hSet hset
                    go_wp2_with fail
                    refine HSet.out.mono ?_
                    rintro e w8 ⟨rfl, hb8⟩
                    have HD8 := Lib.hid (HD.out.kept (Kept.of_below hb8))
                    have HO8 := Lib.hid ((Kept.of_below hb8 (E := [])).own HO.out (fun _ _ h => by cases h))
                    clear hb8 c0 c1 c2 c3 c4 c5 c6 cF
                    have cF := HD8.out.rdr.cells.2.2.1
                    go_wp2_with fail
                    clear cF
                    obtain ⟨RX, hRX⟩ : ∃ RX, manyR (secR s) 4 p = RX := ⟨_, rfl⟩
                    rw [hRX] at HR6
                    have HRX := Lib.hid hRX
                    clear hRX HD HO HRR HR4 HR5
                    go_loopw [11] (fun i W => ∃ (j : Nat) (As : List (List St)) (v0 v1 v2 v3 : Value), j ≤ 4 ∧ i = .int .i64 j ∧ Hid (W.ownsRow w.heap.size 77 2 (.slice X rs.length cap) rs.length (repCells rs)) ∧ Hid ((∃ q, q ≤ s.size ∧ As.length = j ∧ RDSt w s W q 0 #[.int .i64 ((leastV l : Nat) : Int), .string t, .slice X rs.length cap, v0, v1, v2, v3] ∧ SecP W (fun g => w.heap.size + 1 + 1 < g) [v0, v1, v2, v3] As ∧ RX = prep As (manyR (secR s) (4 - j) q)) ∨ (∃ c a', c ≠ 0 ∧ R = .error c ∧ RDSt w s W a' c #[.int .i64 ((leastV l : Nat) : Int), .string t, .slice X rs.length cap, v0, v1, v2, v3]))) (fun i _ => 4 - (intOf i).toNat)
                    case atStart => exact ⟨0, [], _, _, _, _, by omega, rfl, HO8, Lib.hid (.inl ⟨p, HP.out, rfl, HD8.out, (fun _ h => by cases h), by rw [← HRX.out]; exact (prep_nil _).symm⟩)⟩
                    case round =>
                      obtain ⟨j, As, v0, v1, v2, v3, hj, rfl, HO, HGB2⟩ := hrel
                      rcases HGB2.out with ⟨q, hq, hl, hd, hsec, hS⟩ | ⟨c, a', hc, hRc, hd⟩
                      rotate_left
                      · have HD := Lib.hid hd
                        have HRb := Lib.hid hRc
                        have hc1 : ((c : Int) == 0) = false := by rw [beq_eq_false_iff_ne]; omega
                        have hc2 : ((c : Int) != 0) = true := by simpa using hc
                        have HC := Lib.hid hc
                        have cF := hd.rdr.cells.2.2.1
                        clear hd hRc hc HGB2
                        by_cases hlt2 : (j : Int) < 4
                        all_goals
                          have r0 := HD.out.resc 0 rfl
                          have r1 := HD.out.resc 1 rfl
                          have r2 := HD.out.resc 2 rfl
                          have r3 := HD.out.resc 3 rfl
                          have r4 := HD.out.resc 4 rfl
                          have r5 := HD.out.resc 5 rfl
                          have r6 := HD.out.resc 6 rfl
                          have rf := HD.out.resf
                          have cE := HD.out.rdr.cells.2.2.1
                          have HZ := Lib.hid (res_store (.int .i64 0) (.string ⟨#[]⟩) (.slice none 0 0) (.slice none 0 0) (.slice none 0 0) (.slice none 0 0) (.slice none 0 0) HD.out)
                          go_wp2_with fail
                          have HZc := Lib.hid ((HZ.out.2.1.cell (p := ⟨w.heap.size + 1, 2, none⟩) (block_lt (HD.out.rdr)) (by simp)).trans cE)
                          refine wp_region_held_drew (S := fun W => W.cell? ⟨w.heap.size + 1, 2, none⟩ = some (.int .i64 (c : Int))) (by kernel_rfl) ?_ (fun hHeld => ?_)
                          · exact cE
                          refine takeH (i := 0) (d := some 126) (v := ?_) rfl rfl (by kernel_rfl) (by kernel_rfl) (by kernel_rfl) (fun _ _ _ h => h) (Or.inl ⟨by kernel_rfl, ?_⟩) hHeld ?_
                          rotate_left
                          · intro w hSw; (try dsimp only at hSw); go_simp; try with_reducible rfl
                          try simp only [Act.put, List.setIfInBounds_toArray, List.set_cons_zero, List.set_cons_succ]
                          refine takeH (i := 1) (d := some 127) (v := ?_) rfl rfl (by kernel_rfl) (by kernel_rfl) (by kernel_rfl) (fun _ _ _ h => h) (Or.inl ⟨by kernel_rfl, ?_⟩) hHeld ?_
                          rotate_left
                          · intro w hSw; (try dsimp only at hSw); go_simp; try with_reducible rfl
                          try simp only [Act.put, List.setIfInBounds_toArray, List.set_cons_zero, List.set_cons_succ]
                          refine takeH (i := 2) (d := some 128) (v := ?_) rfl rfl (by kernel_rfl) (by kernel_rfl) (by kernel_rfl) (fun _ _ _ h => h) (Or.inl ⟨by kernel_rfl, ?_⟩) hHeld ?_
                          rotate_left
                          · intro w hSw; (try dsimp only at hSw); go_simp; try with_reducible rfl
                          try simp only [Act.put, List.setIfInBounds_toArray, List.set_cons_zero, List.set_cons_succ]
                          refine takeH (i := 3) (d := some 129) (v := ?_) rfl rfl (by kernel_rfl) (by kernel_rfl) (by kernel_rfl) (fun _ _ _ h => h) (Or.inl ⟨by kernel_rfl, ?_⟩) hHeld ?_
                          rotate_left
                          · intro w hSw; (try dsimp only at hSw); go_simp; try with_reducible rfl
                          try simp only [Act.put, List.setIfInBounds_toArray, List.set_cons_zero, List.set_cons_succ]
                          refine takeH (i := 4) (d := some 130) (v := ?_) rfl rfl (by kernel_rfl) (by kernel_rfl) (by kernel_rfl) (fun _ _ _ h => h) (Or.inl ⟨by kernel_rfl, ?_⟩) hHeld ?_
                          rotate_left
                          · intro w hSw; (try dsimp only at hSw); go_simp; try with_reducible rfl
                          try simp only [Act.put, List.setIfInBounds_toArray, List.set_cons_zero, List.set_cons_succ]
                          refine wpAnyH_ready (rs := [5]) (by kernel_rfl) (by simp) ?_
                          refine AllReadyH.cons rfl (fun K hK => ?_) AllReadyH.nil
                          go_simp
                          refine hK.out _ _ ?_ (fun hHeld => ?_)
                          · exact (drew_cell _ _).trans HZc.out
                          clear hK K
                          refine takeH (i := 6) (d := some 3) (v := ?_) rfl rfl (by kernel_rfl) (by kernel_rfl) (by kernel_rfl) (fun _ _ _ h => h) (Or.inl ⟨by kernel_rfl, ?_⟩) hHeld ?_
                          rotate_left
                          · intro w hSw; (try dsimp only at hSw); go_simp; try with_reducible rfl
                          try simp only [Act.put, List.setIfInBounds_toArray, List.set_cons_zero, List.set_cons_succ]
                          refine wpAnyH_done (by kernel_rfl) ?_ _
                          go_wp2_with fail
                          exact ⟨rfl, _, results_rbook w.heap.size (.int .i64 0) (.string ⟨#[]⟩) (.slice none 0 0) (.slice none 0 0) (.slice none 0 0) (.slice none 0 0) (.slice none 0 0) _ _ _ rfl rfl ((drew_heap_at _ _).trans HZ.out.1), by rw [HRb.out]; exact ⟨rfl, HZ.out.2.2.drew⟩⟩
                      · have HD := Lib.hid hd
                        have HQ := Lib.hid hq
                        have HL := Lib.hid hl
                        have HSc := Lib.hid hsec
                        have HS := Lib.hid hS
                        have cF := hd.rdr.cells.2.2.1
                        clear hd hq hl hsec hS HGB2
                        by_cases hlt2 : j < 4
                        · have HS1 : Hid (RX = prep As (manyR (secR s) (3 - j + 1) q)) := Lib.hid (by rw [HS.out, show 4 - j = 3 - j + 1 by omega])
                          have hAut := HAut.out wr q HD.out.rdr HQ.out
                          have hj4 : j = 0 ∨ j = 1 ∨ j = 2 ∨ j = 3 := by omega
                          cases hsc : secR s q with
                          | error c =>
                            rw [hsc] at hAut
                            have HRb : Hid (R = .error c) := Lib.hid (by rw [HR6.out, HS1.out, manyR_err _ _ _ _ _ hsc])
                            have HAu := Lib.hid hAut
                            clear hAut hsc HS HS1
                            rcases hj4 with rfl | rfl | rfl | rfl
                            all_goals
                              go_wp2_with fail
                              refine HAu.out.mono ?_
                              rintro e w10 ⟨XX, mm, xc, rfl, hk, hc, a', ha', hr⟩
                              have HD10 := Lib.hid (HD.out.call hk hr)
                              have HO10 := Lib.hid (hk.own HO.out (rownNot HO.out HD.out.rdr (by decide)))
                              have HC := Lib.hid hc
                              clear hk hr cF hc
                              have d3 := HD10.out.cell 3 rfl
                              have d4 := HD10.out.cell 4 rfl
                              have d5 := HD10.out.cell 5 rfl
                              have d6 := HD10.out.cell 6 rfl
                              have g3 := HD10.out.fz 3
                              have g4 := HD10.out.fz 4
                              have g5 := HD10.out.fz 5
                              have g6 := HD10.out.fz 6
                              go_wp2_with fail
                              refine ⟨⟨_ + 1, As, _, _, _, _, by omega, rfl, Lib.hid (rown_set HD10.out HO10.out (by decide)), Lib.hid (.inr ⟨c, a', HC.out, HRb.out, HD10.out.set _ _⟩)⟩, by simp [intOf]⟩
                          | ok r =>
                            obtain ⟨A, q2⟩ := r
                            rw [hsc] at hAut
                            have HQ3 := Lib.hid (secR_le hsc HQ.out)
                            have HS2 : Hid (RX = prep (As ++ [A]) (manyR (secR s) (3 - j) q2)) := Lib.hid (by rw [HS1.out, manyR_step _ _ _ _ _ _ hsc])
                            have HAu := Lib.hid hAut
                            clear hAut hsc HS HS1
                            rcases hj4 with rfl | rfl | rfl | rfl
                            all_goals
                              go_wp2_with fail
                              refine HAu.out.mono ?_
                              rintro e w10 ⟨v, rfl, hk, hr, hA⟩
                              obtain ⟨AX, capX, rfl, _⟩ := id hA
                              have HD10 := Lib.hid (HD.out.call hk hr)
                              have HO10 := Lib.hid (hk.own HO.out (rownNot HO.out HD.out.rdr (by decide)))
                              have HSc10 : Hid (SecP w10 (fun g => w.heap.size + 1 + 1 < g) [v0, v1, v2, v3] As) := Lib.hid (fun j h => (HSc.out j h).kept hk (by simp <;> omega))
                              have HA10 : Hid (AutAt w10 (fun g => w.heap.size + 1 + 1 < g) (.slice AX A.length capX) A) := Lib.hid (hA.mono (fun g hg => by have := HD.out.size; omega))
                              clear hk hr hA cF
                              have d3 := HD10.out.cell 3 rfl
                              have d4 := HD10.out.cell 4 rfl
                              have d5 := HD10.out.cell 5 rfl
                              have d6 := HD10.out.cell 6 rfl
                              have g3 := HD10.out.fz 3
                              have g4 := HD10.out.fz 4
                              have g5 := HD10.out.fz 5
                              have g6 := HD10.out.fz 6
                              go_wp2_with fail
                              refine ⟨⟨_ + 1, As ++ [A], _, _, _, _, by omega, rfl, Lib.hid (rown_set HD10.out HO10.out (by decide)), Lib.hid (.inl ⟨q2, HQ3.out, by rw [List.length_append, HL.out]; rfl, HD10.out.set _ _, SecP.snoc (fun j hj => (HSc10.out j hj).kept ((Kept.refl [w.heap.size + 1 + 1] w10).set _ _ _ (.inl (by simp))) (by simp <;> omega)) (HA10.out.kept ((Kept.refl [w.heap.size + 1 + 1] w10).set _ _ _ (.inl (by simp))) (by simp <;> omega)) (by rw [HL.out]; rfl) (fun j h => by rw [HL.out] at h; rcases j with _ | _ | _ | j <;> first | rfl | omega), HS2.out⟩)⟩, by simp [intOf]⟩
                        · obtain rfl : j = 4 := by omega
                          have HR7 : Hid (R = endR s ⟨leastV l, t, rs, As⟩ q) := Lib.hid (by rw [HR6.out, HS.out, Nat.sub_self, manyR]; simp [prep])
                          have r1 := HD.out.rdr.cells.2.1
                          have rz := HD.out.rdr.cells.2.2.2
                          by_cases hq : q = s.size
                          · have HR8 : Hid (R = .ok ⟨leastV l, t, rs, As⟩) := Lib.hid (by rw [HR7.out, endR, if_pos hq])
                            have hqs : ¬ (q : Int) < (s.size : Int) := by omega
                            have HSl : Hid (∀ v, v ∈ [v0, v1, v2, v3] → ∃ A n cap, v = .slice A n cap) := Lib.hid (by
                              have key : ∀ j (h : j < As.length), ∃ A n cap, [v0, v1, v2, v3].getD j undef = .slice A n cap := fun j h => by
                                obtain ⟨A, cap, e, _⟩ := HSc.out j h
                                exact ⟨_, _, _, e⟩
                              have hl := HL.out
                              intro v hv
                              simp only [List.mem_cons, List.not_mem_nil, or_false] at hv
                              rcases hv with rfl | rfl | rfl | rfl
                              · exact key 0 (by omega)
                              · exact key 1 (by omega)
                              · exact key 2 (by omega)
                              · exact key 3 (by omega))
                            obtain ⟨yA, yn, yc, hy⟩ := HSl.out v0 (by simp)
                            obtain ⟨zA, zn, zc, hz⟩ := HSl.out v1 (by simp)
                            obtain ⟨uA, un, uc, hu⟩ := HSl.out v2 (by simp)
                            obtain ⟨tA, tn, tc, ht⟩ := HSl.out v3 (by simp)
                            subst hy hz hu ht
                            have HZ := Lib.hid (res_store (.int .i64 ((leastV l : Nat) : Int)) (.string t) (.slice X rs.length cap) (.slice yA yn yc) (.slice zA zn zc) (.slice uA un uc) (.slice tA tn tc) HD.out)
                            have HFin := Lib.hid (And.intro (reps_of_own (HZ.out.2.1.own HO.out (fun g hg hm => by
                              simp only [List.mem_cons, List.not_mem_nil, or_false] at hm
                              subst hm
                              exact absurd ((own_ty HO.out hg).1.uniq ⟨_, HD.out.res⟩) (by decide)))) (show SecP _ (fun g => w.heap.size ≤ g) [_, _, _, _] As from fun j hj => ((HSc.out j hj).kept HZ.out.2.1 (by simp <;> omega)).mono (fun g hg => by omega)))
                            clear hq HSl
                            have c0 := HD.out.cell 0 rfl
                            have c1 := HD.out.cell 1 rfl
                            have c2 := HD.out.cell 2 rfl
                            have c3 := HD.out.cell 3 rfl
                            have c4 := HD.out.cell 4 rfl
                            have c5 := HD.out.cell 5 rfl
                            have c6 := HD.out.cell 6 rfl
                            have r0' := HD.out.resc 0 rfl
                            have r1' := HD.out.resc 1 rfl
                            have r2' := HD.out.resc 2 rfl
                            have r3' := HD.out.resc 3 rfl
                            have r4' := HD.out.resc 4 rfl
                            have r5' := HD.out.resc 5 rfl
                            have r6' := HD.out.resc 6 rfl
                            have rf := HD.out.resf
                            go_wp2_with fail
                            exact ⟨rfl, _, results_rbook w.heap.size _ _ _ _ _ _ _ (.int .i64 0) _ _ rfl rfl HZ.out.1, by rw [HR8.out]; exact ⟨_, _, _, _, _, rfl, HZ.out.2.2, HFin.out.1, HL.out, HFin.out.2⟩⟩
                          · obtain ⟨c, hcc⟩ : ∃ c : Nat, c = 202 := ⟨_, rfl⟩
                            have hc : c ≠ 0 := by omega
                            have HRb : Hid (R = .error c) := Lib.hid (by rw [HR7.out, endR, if_neg hq, hcc])
                            have hqs : (q : Int) < (s.size : Int) := by have := HQ.out; omega
                            have hc1 : ((c : Int) == 0) = false := by rw [beq_eq_false_iff_ne]; omega
                            have hc2 : ((c : Int) != 0) = true := by simpa using hc
                            have HC := Lib.hid hc
                            have HD6 : Hid (RDSt w s (wr.setCell ⟨w.heap.size + 1, 2, none⟩ (.int .i64 202)) q c #[.int .i64 ((leastV l : Nat) : Int), .string t, .slice X rs.length cap, v0, v1, v2, v3]) := Lib.hid (by rw [hcc]; exact HD.out.putF 202)
                            clear hq hc
                            go_wp2_with fail
                            clear r1 rz cF
                            generalize wr.setCell ⟨w.heap.size + 1, 2, none⟩ (Value.int .i64 202) = w6 at HD6 ⊢
                            clear hcc
                            have r0 := HD6.out.resc 0 rfl
                            have r1 := HD6.out.resc 1 rfl
                            have r2 := HD6.out.resc 2 rfl
                            have r3 := HD6.out.resc 3 rfl
                            have r4 := HD6.out.resc 4 rfl
                            have r5 := HD6.out.resc 5 rfl
                            have r6 := HD6.out.resc 6 rfl
                            have rf := HD6.out.resf
                            have cE := HD6.out.rdr.cells.2.2.1
                            have HZ := Lib.hid (res_store (.int .i64 0) (.string ⟨#[]⟩) (.slice none 0 0) (.slice none 0 0) (.slice none 0 0) (.slice none 0 0) (.slice none 0 0) HD6.out)
                            have HZc := Lib.hid ((HZ.out.2.1.cell (p := ⟨w.heap.size + 1, 2, none⟩) (block_lt (HD6.out.rdr)) (by simp)).trans cE)
                            refine wp_region_held_drew (S := fun W => W.cell? ⟨w.heap.size + 1, 2, none⟩ = some (.int .i64 (c : Int))) (by kernel_rfl) ?_ (fun hHeld => ?_)
                            · exact cE
                            refine takeH (i := 0) (d := some 126) (v := ?_) rfl rfl (by kernel_rfl) (by kernel_rfl) (by kernel_rfl) (fun _ _ _ h => h) (Or.inl ⟨by kernel_rfl, ?_⟩) hHeld ?_
                            rotate_left
                            · intro w hSw; (try dsimp only at hSw); go_simp; try with_reducible rfl
                            try simp only [Act.put, List.setIfInBounds_toArray, List.set_cons_zero, List.set_cons_succ]
                            refine takeH (i := 1) (d := some 127) (v := ?_) rfl rfl (by kernel_rfl) (by kernel_rfl) (by kernel_rfl) (fun _ _ _ h => h) (Or.inl ⟨by kernel_rfl, ?_⟩) hHeld ?_
                            rotate_left
                            · intro w hSw; (try dsimp only at hSw); go_simp; try with_reducible rfl
                            try simp only [Act.put, List.setIfInBounds_toArray, List.set_cons_zero, List.set_cons_succ]
                            refine takeH (i := 2) (d := some 128) (v := ?_) rfl rfl (by kernel_rfl) (by kernel_rfl) (by kernel_rfl) (fun _ _ _ h => h) (Or.inl ⟨by kernel_rfl, ?_⟩) hHeld ?_
                            rotate_left
                            · intro w hSw; (try dsimp only at hSw); go_simp; try with_reducible rfl
                            try simp only [Act.put, List.setIfInBounds_toArray, List.set_cons_zero, List.set_cons_succ]
                            refine takeH (i := 3) (d := some 129) (v := ?_) rfl rfl (by kernel_rfl) (by kernel_rfl) (by kernel_rfl) (fun _ _ _ h => h) (Or.inl ⟨by kernel_rfl, ?_⟩) hHeld ?_
                            rotate_left
                            · intro w hSw; (try dsimp only at hSw); go_simp; try with_reducible rfl
                            try simp only [Act.put, List.setIfInBounds_toArray, List.set_cons_zero, List.set_cons_succ]
                            refine takeH (i := 4) (d := some 130) (v := ?_) rfl rfl (by kernel_rfl) (by kernel_rfl) (by kernel_rfl) (fun _ _ _ h => h) (Or.inl ⟨by kernel_rfl, ?_⟩) hHeld ?_
                            rotate_left
                            · intro w hSw; (try dsimp only at hSw); go_simp; try with_reducible rfl
                            try simp only [Act.put, List.setIfInBounds_toArray, List.set_cons_zero, List.set_cons_succ]
                            refine wpAnyH_ready (rs := [5]) (by kernel_rfl) (by simp) ?_
                            refine AllReadyH.cons rfl (fun K hK => ?_) AllReadyH.nil
                            go_simp
                            refine hK.out _ _ ?_ (fun hHeld => ?_)
                            · exact (drew_cell _ _).trans HZc.out
                            clear hK K
                            refine takeH (i := 6) (d := some 3) (v := ?_) rfl rfl (by kernel_rfl) (by kernel_rfl) (by kernel_rfl) (fun _ _ _ h => h) (Or.inl ⟨by kernel_rfl, ?_⟩) hHeld ?_
                            rotate_left
                            · intro w hSw; (try dsimp only at hSw); go_simp; try with_reducible rfl
                            try simp only [Act.put, List.setIfInBounds_toArray, List.set_cons_zero, List.set_cons_succ]
                            refine wpAnyH_done (by kernel_rfl) ?_ _
                            go_wp2_with fail
                            exact ⟨rfl, _, results_rbook w.heap.size (.int .i64 0) (.string ⟨#[]⟩) (.slice none 0 0) (.slice none 0 0) (.slice none 0 0) (.slice none 0 0) (.slice none 0 0) _ _ _ rfl rfl ((drew_heap_at _ _).trans HZ.out.1), by rw [HRb.out]; exact ⟨rfl, HZ.out.2.2.drew⟩⟩
end
end Go.Proofs.Ytehbjfjhalpgaaa
