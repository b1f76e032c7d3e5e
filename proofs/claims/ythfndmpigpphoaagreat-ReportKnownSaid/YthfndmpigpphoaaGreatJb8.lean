/-
  The split of a joined word, walked.
-/
import Derived.Test.YthfndmpigpphoaaGreatRows
import Derived.Test.YthfndmpigpphoaaGreatJb8a
namespace Go.Proofs.YthfndmpigpphoaaGreat
open Go.RowKit Go.Shelf
attribute [local go_sem] Oper.semAt_some

set_option maxRecDepth 100000 in
set_option maxHeartbeats 8000000 in
theorem so_Split_tbl (c : Value) (s : ByteArray) (E : Nat → List Nat) (w : World) (hE : ∀ i, i < s.size → ∀ k ∈ E i, i < k ∧ k ≤ s.size) (hs : s.size ≤ 1024)
    (hL : ∀ W, Below w.heap.size w W → Calls Tryz.prog 63 #[c, .string s] W fun e w' => ∃ tb ge gf gw es G, e = .returned (.pointer (some ⟨tb, 0, none⟩)) ∧ TblS W w' s.size tb ge gf gw es (fun j => (fewF s.size E s.size j : Int)) G ∧ EndsOK w' ge gf gw s.size s.size E es) :
    Calls Tryz.prog 39 #[c, .string s] w fun e w' => ∃ P m cp, e = .returned (.slice P m cp) ∧ decide (0 < m) = decide (fewF s.size E s.size 0 ≠ 0) ∧ Below w.heap.size w w' := by
  have HL := Lib.hid hL
  obtain ⟨i0, hi0, hz0, hz1, hz2⟩ := info_parts str_info
  clear hL
  refine (callsIn_wide (n := 7)).1 ?_
  refine callsIn_of_wp_marks Tryz.func39 rfl trivial ?_ rfl
  simp only [Tryz.ntmps39, List.size_toArray, List.length_cons, List.length_nil, Nat.reduceAdd, Nat.reduceSub, Array.replicate_succ, Array.replicate_zero, List.push_toArray, List.append_toArray, List.nil_append, List.cons_append]
  have HB0 := Lib.hid ((Below.refl w.heap.size w).alloc (Nat.le_refl _) (.cells #[.string s] 9))
  have HT0 := Lib.hid (Boxed.new w 9 (.string s))
  obtain ⟨W0, hW0⟩ : ∃ W0, w.alloc (.cells #[.string s] 9) = W0 := ⟨_, rfl⟩
  rw [hW0] at HB0 HT0
  have hsz0 : W0.heap.size = w.heap.size + 1 := by rw [← hW0, World.size_alloc]
  have hc0 := HT0.out.cell
  obtain ⟨f, hf⟩ : ∃ f, fewF s.size E s.size = f := ⟨_, rfl⟩
  have HFn := Lib.hid hf
  rw [hf] at HL ⊢
  clear hf
  by_cases hz : f 0 = 0
  · have q0 : ((f 0 : Int) == 0) = true := by rw [hz]; rfl
    have hN := Lib.hid hz
    clear hz
    gi_wp2_with (refine ⟨trivial, ?_⟩; gi_at_call 63; refine (callsIn_wide.2 (HL.out W0 HB0.out)).mono ?_; rintro e w1 ⟨tb, ge, gf, gw, es, G, rfl, ht, ho⟩; obtain ⟨W1, hW1⟩ : ∃ W1, w1.alloc (.cells #[.pointer (some ⟨tb, 0, none⟩)] 136) = W1 := ⟨_, rfl⟩; have hb1 : Below w1.heap.size w1 W1 := (by rw [← hW1]; exact (Below.refl w1.heap.size w1).alloc (Nat.le_refl _) _); have HB1 := Lib.hid ((HB0.out.trans (ht.below.mono HB0.out.size)).trans (hb1.mono (HB0.out.trans (ht.below.mono HB0.out.size)).size)); have HT1 := Lib.hid (boxed_keep_ (boxed_keep_ HT0.out ht.below) hb1); have HT := Lib.hid (ht.keep hb1); have HO := Lib.hid (ho.kept (Kept.of_below (E := []) hb1) (fun k hk => (by cases hk))); have HP : Hid (Boxed W1 w1.heap.size 136 (.pointer (some ⟨tb, 0, none⟩))) := Lib.hid (by rw [← hW1]; exact Boxed.new w1 136 _); have hsz1 : W1.heap.size = w1.heap.size + 1 := (by rw [← hW1, World.size_alloc]); clear ht ho hb1; have cp := HP.out.cell; have c1 := HT.out.t0.2.1; have c2 := HT.out.few.cell 0 (by omega))
    exact marks_leave (B := w.heap.size) rfl [] W1 List.nodup_nil (fun _ h => by cases h) (fun W' hW' => ⟨_, _, _, rfl, by rw [hN.out]; rfl, HB1.out.trans hW'⟩)
  · have q0 : ((f 0 : Int) == 0) = false := by rw [beq_eq_false_iff_ne]; omega
    have hN := Lib.hid hz
    have HFb : Hid (∀ j, f j ≤ s.size) := Lib.hid (fun j => by rw [← HFn.out]; exact fewF_bd _ _)
    have HZ : Hid (s.size ≠ 0) := Lib.hid (fun h0 => hz (by rw [← HFn.out, h0]; rfl))
    clear hz
    gi_wp2_with (refine ⟨trivial, ?_⟩; gi_at_call 63; refine (callsIn_wide.2 (HL.out W0 HB0.out)).mono ?_; rintro e w1 ⟨tb, ge, gf, gw, es, G, rfl, ht, ho⟩; obtain ⟨W1, hW1⟩ : ∃ W1, w1.alloc (.cells #[.pointer (some ⟨tb, 0, none⟩)] 136) = W1 := ⟨_, rfl⟩; have hb1 : Below w1.heap.size w1 W1 := (by rw [← hW1]; exact (Below.refl w1.heap.size w1).alloc (Nat.le_refl _) _); have HB1 := Lib.hid ((HB0.out.trans (ht.below.mono HB0.out.size)).trans (hb1.mono (HB0.out.trans (ht.below.mono HB0.out.size)).size)); have HT1 := Lib.hid (boxed_keep_ (boxed_keep_ HT0.out ht.below) hb1); have HT := Lib.hid (ht.keep hb1); have HO := Lib.hid (ho.kept (Kept.of_below (E := []) hb1) (fun k hk => (by cases hk))); have HP : Hid (Boxed W1 w1.heap.size 136 (.pointer (some ⟨tb, 0, none⟩))) := Lib.hid (by rw [← hW1]; exact Boxed.new w1 136 _); have hsz1 : W1.heap.size = w1.heap.size + 1 := (by rw [← hW1, World.size_alloc]); clear ht ho hb1; have cp := HP.out.cell; have c1 := HT.out.t0.2.1; have c2 := HT.out.few.cell 0 (by omega))
    rw [← hsz1]
    have HSz := Lib.hid hsz1
    clear cp c1 c2 q0 hsz1
    refine wpIn_loop (fun a wr => ∃ (Bi q m : Nat) (ds : List Nat) (u24 u25 u26 u27 u28 u29 u30 u31 u32 u33 u34 u35 u88 : Value), a = ({ tmps := #[c, .string s, undef, .pointer (some ⟨w.heap.size, 0, none⟩), .slice none 0 0, .pointer (some ⟨w1.heap.size, 0, none⟩), .pointer (some ⟨W1.heap.size, 0, none⟩), .pointer (some ⟨Bi, 0, none⟩), undef, undef, c, .string s, .pointer (some ⟨tb, 0, none⟩), .pointer (some ⟨tb, 0, none⟩), .bool false, .bool false, .pointer (some ⟨tb, 0, none⟩), .pointer (some ⟨tb, 0, none⟩), .pointer (some ⟨tb, 1, none⟩), .slice (some ⟨gf, 0, none⟩) (s.size + 1) (s.size + 1), .pointer (some ⟨gf, 0, none⟩), .int .i64 ((f 0 : Nat) : Int), .bool false, .bool false, u24, u25, u26, u27, u28, u29, u30, u31, u32, u33, u34, u35, undef, undef, undef, undef, undef, undef, undef, undef, undef, undef, undef, undef, undef, undef, undef, undef, undef, undef, undef, undef, undef, undef, undef, undef, undef, undef, undef, undef, undef, undef, undef, undef, undef, undef, undef, undef, undef, undef, undef, undef, undef, undef, undef, undef, undef, undef, undef, undef, undef, undef, undef, undef, u88, undef], defers := ds.map fun D => { target := .collected D, args := #[] } } : Act) ∧ SpI W1 wr Bi q m ds ∧ q ≤ s.size ∧ (q < s.size → f q ≠ 0) ∧ ((0 < q → 0 < m) ∧ m ≤ q)) (fun a wr => s.size - placeOf a wr) ?_ ?_
    · exact ⟨W1.heap.size + 1, 0, 0, [], undef, undef, undef, undef, undef, undef, undef, undef, undef, undef, undef, undef, undef, rfl, sp_start W1, Nat.zero_le _, fun _ => hN.out, fun h => absurd h (by omega), Nat.le_refl _⟩
    · rintro a wr ⟨Bi, q, m, ds, u24, u25, u26, u27, u28, u29, u30, u31, u32, u33, u34, u35, u88, rfl, hsp, hq, hfq, hqm⟩
      have HSP := Lib.hid hsp
      have HQM := Lib.hid hqm
      have HFQ := Lib.hid hfq
      have HTr := Lib.hid (HT.out.keep hsp.below)
      have hci := hsp.ib.cell
      have hcs := (boxed_keep_ HT1.out hsp.below).cell
      have hcp := (boxed_keep_ HP.out hsp.below).cell
      clear hsp hqm hfq
      by_cases hlt : q < s.size
      · have hlI : (q : Int) < (s.size : Int) := by omega
        obtain ⟨Pe, ce, hes, hcc, hgs⟩ := (HO.out.kept (Kept.of_below (E := []) HSP.out.below) (fun k hk => by cases hk)) q (by rw [HT.out.len]; exact hlt) (by omega)
        have hce := (HTr.out.e q (by rw [HT.out.len]; exact hlt)).1
        rw [hes] at hce
        have hct := HTr.out.t0.1
        have HX : Hid (wr.drew.cell? ⟨w1.heap.size, 0, none⟩ = some (.pointer (some ⟨tb, 0, none⟩)) ∧ wr.drew.cell? ⟨tb, 0, none⟩ = some (.slice (some ⟨ge, 0, none⟩) s.size s.size) ∧ wr.drew.cell? ⟨Bi, 0, none⟩ = some (.int .i64 (q : Int)) ∧ wr.drew.cell? ⟨ge, q, none⟩ = some (.slice Pe (E q).length ce)) := Lib.hid ⟨hcp, hct, hci, hce⟩
        have HX2 := Lib.hid (fun o : Obj => (have hb : Below wr.heap.size wr (wr.drew.alloc o) := (show Below wr.heap.size wr wr.drew from ⟨rfl, rfl, rfl, Nat.le_refl _, fun _ _ => rfl⟩).alloc (Nat.le_refl _) o
          (⟨(hb.cell (World.block_lt_of_cell? wr _ hcp)).trans hcp, (hb.cell (World.block_lt_of_cell? wr _ hct)).trans hct, (hb.cell (World.block_lt_of_cell? wr _ hci)).trans hci, (hb.cell (World.block_lt_of_cell? wr _ hce)).trans hce⟩ : (wr.drew.alloc o).cell? ⟨w1.heap.size, 0, none⟩ = some (.pointer (some ⟨tb, 0, none⟩)) ∧ (wr.drew.alloc o).cell? ⟨tb, 0, none⟩ = some (.slice (some ⟨ge, 0, none⟩) s.size s.size) ∧ (wr.drew.alloc o).cell? ⟨Bi, 0, none⟩ = some (.int .i64 (q : Int)) ∧ (wr.drew.alloc o).cell? ⟨ge, q, none⟩ = some (.slice Pe (E q).length ce))))
        have HGS := Lib.hid hgs
        have HCC := Lib.hid hcc
        have HES := Lib.hid hes
        have hq0 : (0 : Int) ≤ (q : Int) := by omega
        clear hgs hes hcc
        gi_wp2_with fail
        refine wpIn_region_heldW (fun _ _ h => h) (S := fun W' => W'.cell? ⟨w1.heap.size, 0, none⟩ = some (.pointer (some ⟨tb, 0, none⟩)) ∧ W'.cell? ⟨tb, 0, none⟩ = some (.slice (some ⟨ge, 0, none⟩) s.size s.size) ∧ W'.cell? ⟨Bi, 0, none⟩ = some (.int .i64 (q : Int)) ∧ W'.cell? ⟨ge, q, none⟩ = some (.slice Pe (E q).length ce)) (by kernel_rfl) ?_ (fun hHeld => ?_)
        · exact HX.out
        refine takeH (i := 0) (d := some 28) (v := ?_) rfl rfl (by kernel_rfl) (by kernel_rfl) (by kernel_rfl) (fun _ _ _ h => h) (Or.inl ⟨by kernel_rfl, ?_⟩) hHeld ?_
        rotate_left
        · intro w hSw; (try dsimp only at hSw); go_simp; try with_reducible rfl
        try simp only [put_norm]
        refine takeH (i := 1) (d := some 29) (v := ?_) rfl rfl (by kernel_rfl) (by kernel_rfl) (by kernel_rfl) (fun _ _ _ h => h) (Or.inl ⟨by kernel_rfl, ?_⟩) hHeld ?_
        rotate_left
        · intro w hSw; (try dsimp only at hSw); go_simp; try with_reducible rfl
        try simp only [put_norm]
        refine takeH (i := 2) (d := some 30) (v := ?_) rfl rfl (by kernel_rfl) (by kernel_rfl) (by kernel_rfl) (fun _ _ _ h => h) (Or.inl ⟨by kernel_rfl, ?_⟩) hHeld ?_
        rotate_left
        · intro w hSw; (try dsimp only at hSw); go_simp; try with_reducible rfl
        try simp only [put_norm]
        refine takeH (i := 3) (d := some 31) (v := ?_) rfl rfl (by kernel_rfl) (by kernel_rfl) (by kernel_rfl) (fun _ _ _ h => h) (Or.inl ⟨by kernel_rfl, ?_⟩) hHeld ?_
        rotate_left
        · intro w hSw; (try dsimp only at hSw); go_simp; try with_reducible rfl
        try simp only [put_norm]
        refine takeH (i := 4) (d := some 32) (v := ?_) rfl rfl (by kernel_rfl) (by kernel_rfl) (by kernel_rfl) (fun _ _ _ h => h) (Or.inl ⟨by kernel_rfl, ?_⟩) hHeld ?_
        rotate_left
        · intro w hSw; (try dsimp only at hSw); go_simp; try with_reducible rfl
        try simp only [put_norm]
        refine takeH (i := 5) (d := some 33) (v := ?_) rfl rfl (by kernel_rfl) (by kernel_rfl) (by kernel_rfl) (fun _ _ _ h => h) (Or.inl ⟨by kernel_rfl, ?_⟩) hHeld ?_
        rotate_left
        · intro w hSw; (try dsimp only at hSw); go_simp; try with_reducible rfl
        try simp only [put_norm]
        refine takeH (i := 6) (d := some 34) (v := ?_) rfl rfl (by kernel_rfl) (by kernel_rfl) (by kernel_rfl) (fun _ _ _ h => h) (Or.inl ⟨by kernel_rfl, ?_⟩) hHeld ?_
        rotate_left
        · intro w hSw; (try dsimp only at hSw); go_simp; try with_reducible rfl
        try simp only [put_norm]
        refine wpAnyH_ready (rs := [7]) (by kernel_rfl) (by simp) ?_
        refine AllReadyH.cons rfl (fun K hK => ?_) AllReadyH.nil
        go_simp
        go_at_call 64
        refine (Back_is _ _ _ _).mono ?_
        rintro e wb ⟨rfl, rfl⟩
        refine hK.out _ _ ?_ (fun hHeld => ?_)
        · exact HX2.out _
        try clear hK K
        refine wpAnyH_done (by kernel_rfl) ?_ _
        clear hHeld
        obtain ⟨Wb, hWb⟩ : ∃ Wb, wr.drew.alloc (.cells #[.slice Pe (E q).length ce] 72) = Wb := ⟨_, rfl⟩
        have hbb : Below wr.heap.size wr Wb := by rw [← hWb]; exact (show Below wr.heap.size wr wr.drew from ⟨rfl, rfl, rfl, Nat.le_refl _, fun _ _ => rfl⟩).alloc (Nat.le_refl _) _
        have hBn : Wb.cell? ⟨wr.heap.size, 0, none⟩ = some (.slice Pe (E q).length ce) := by rw [← hWb]; exact (Boxed.new wr.drew 72 _).cell
        have hSb := sp_keep HSP.out hbb
        have hlo := Nat.lt_of_lt_of_le HSP.out.ib.lt hbb.size
        have hloW := Nat.le_trans HSP.out.below.size hbb.size
        rw [hWb]
        have hcE : ∀ j (h : j < (E q).length), ∃ g, Pe = some ⟨g, 0, none⟩ ∧ Wb.cell? ⟨g, j, none⟩ = some (.int .i64 ((E q)[j] : Int)) := fun j h => by
          obtain ⟨g, h1, h2, _, h4⟩ := HGS.out.resolve_left (by omega)
          exact ⟨g, h1, (hbb.cell (p := ⟨g, j, none⟩) (World.block_lt_of_cell? wr _ (h4 j h))).trans (h4 j h)⟩
        have HEl : Hid ((E q).length ≤ maxLen) := Lib.hid (Nat.le_trans HCC.out.1 HCC.out.2)
        have HSB := Lib.hid hSb
        have HWB := Lib.hid hWb
        have HBn := Lib.hid hBn
        have HcE := Lib.hid hcE
        have HLo := Lib.hid hlo
        have HLoW := Lib.hid hloW
        clear hbb hBn hSb hlo hloW hcE hWb hcp hct hci hce hcs hq0
        dsimp only [Exit.then]
        gi_wp2_with fail
        refine wpIn_rangeFunc_ownG rfl (by omega) (gf := 89) (lb := #[.pointer (some ⟨wr.heap.size, 0, none⟩)]) rfl trivial (enters_of Tryz.func89 (by kernel_rfl) rfl)
          (back_stops (7 - 1) (by omega) wr.heap.size Pe ce (E q) HEl.out Wb HBn.out HcE.out) (fun h k => KC.trans h k) (fun W l o o' _ ho hc _ => KC.put W l o o' ho hc) (Below.refl _ _) (fun _ => rfl)
          (fun pre W => (∀ x ∈ pre, ¬ GoodK s.size f q (E q)[x.val]) ∧ Below Wb.heap.size Wb W)
          (fun c _ W => c = .exit 2 ∧ ∃ k m', q < k ∧ k ≤ s.size ∧ (k < s.size → f k ≠ 0) ∧ 0 < m' ∧ m' ≤ k ∧ SpI W1 W Bi k m' ds)
          (fun _ _ _ _ h hg hr => ⟨h.1, h.2.grown hg h.2.size (fun k e => (hr k e).1)⟩)
          (fun _ _ _ _ _ ⟨e, k, m', h1, h2, h3, h4, h6, h5⟩ hg hr => ⟨e, k, m', h1, h2, h3, h4, h6, sp_grown h5 hg hr HLoW.out (fun D hD => block_lt (HSB.out.ms D hD).2)⟩)
          ⟨fun _ h => (by cases h), Below.refl _ _⟩ (fun (x : Fin (E q).length) => { tmps := #[c, .string s, undef, .pointer (some ⟨w.heap.size, 0, none⟩), .slice none 0 0, .pointer (some ⟨w1.heap.size, 0, none⟩), .pointer (some ⟨W1.heap.size, 0, none⟩), .pointer (some ⟨Bi, 0, none⟩), undef, .int .i64 (((E q)[x.val] : Nat) : Int), c, .string s, .pointer (some ⟨tb, 0, none⟩), .pointer (some ⟨tb, 0, none⟩), .bool false, .bool false, .pointer (some ⟨tb, 0, none⟩), .pointer (some ⟨tb, 0, none⟩), .pointer (some ⟨tb, 1, none⟩), .slice (some ⟨gf, 0, none⟩) (s.size + 1) (s.size + 1), .pointer (some ⟨gf, 0, none⟩), .int .i64 ((f 0 : Nat) : Int), .bool false, .bool false, .int .i64 (q : Int), .string s, .int .i64 (s.size : Int), .bool true, .pointer (some ⟨tb, 0, none⟩), .pointer (some ⟨tb, 0, none⟩), .pointer (some ⟨tb, 0, none⟩), .slice (some ⟨ge, 0, none⟩) s.size s.size, .int .i64 (q : Int), .pointer (some ⟨ge, q, none⟩), .slice Pe (E q).length ce, .func (.func 89) #[] #[.pointer (some ⟨wr.heap.size, 0, none⟩)], .int .i64 (x.val : Int), .int .i64 (((E q)[x.val] : Nat) : Int), undef, undef, undef, undef, undef, undef, undef, undef, undef, undef, undef, undef, undef, undef, undef, undef, undef, undef, undef, undef, undef, undef, undef, undef, undef, undef, undef, undef, undef, undef, undef, undef, undef, undef, undef, undef, undef, undef, undef, undef, undef, undef, undef, undef, undef, undef, undef, undef, undef, undef, u88, undef], defers := [] }) ?_ ?_ ?_ ?_
        · intro l x W K hK
          gi_wp2
          exact hK
        · rintro l pre x W ⟨hno, hB⟩ hpl
          obtain ⟨k, hk⟩ : ∃ k, (E q)[x.val] = k := ⟨_, rfl⟩
          have HX1 := Lib.hid hk
          simp only [hk]
          have hkb := hE q hlt k (by rw [← hk]; exact List.getElem_mem _)
          have HKB := Lib.hid hkb
          have hSW := sp_keep HSB.out hB
          have hTr := HT.out.keep hSW.below
          have hci := hSW.ib.cell
          have hcs := (boxed_keep_ HT1.out hSW.below).cell
          have hcp := (boxed_keep_ HP.out hSW.below).cell
          have hc1 := hTr.t0.2.1
          have hck : W.cell? ⟨gf, k, none⟩ = some (.int .i64 ((f k : Nat) : Int)) := hTr.few.cell k (by omega)
          have hcq : W.cell? ⟨gf, q, none⟩ = some (.int .i64 ((f q : Nat) : Int)) := hTr.few.cell q (by omega)
          have HNo := Lib.hid hno
          have HBW := Lib.hid hB
          have HSW := Lib.hid hSW
          have hfb := HFb.out k
          have hk0 : (0 : Int) ≤ (k : Int) := by omega
          have hk1 : (k : Int) < (s.size : Int) + 1 := by omega
          have hq0 : (0 : Int) ≤ (q : Int) := by omega
          have hq1 : (q : Int) < (s.size : Int) + 1 := by omega
          have hf0 : (0 : Int) ≤ ((f k : Nat) : Int) := by omega
          have hf1 : ((f k : Nat) : Int) ≤ 1024 := by omega
          clear hno hB hSW hTr hk hkb hfb
          gi_wp2_with fail
          by_cases hA : 0 < q
          · have dA : decide ((0 : Int) < (q : Int)) = true := decide_eq_true (by omega)
            by_cases hC : k = s.size
            · have dC : ((k : Int) == (s.size : Int)) = true := by rw [beq_iff_eq]; omega
              have HGd : Hid (k < s.size → f k ≠ 0) := Lib.hid (fun h => by omega)
              clear hC
              by_cases hG : f k + 1 = f q
              · have dG : (((f k : Nat) : Int) + 1 == ((f q : Nat) : Int)) = true := by rw [beq_iff_eq]; omega
                refine wpIn_region_quiet (by kernel_rfl) (by kernel_rfl) (by kernel_rfl) ?_
                repeat (go_big_quiet_step (fail))
                refine wpQuiet_nil ?_
                intro _ hw9
                obtain ⟨nq, rfl⟩ := hw9
                obtain ⟨ov, xs, ho, hx⟩ := HSW.out.out
                obtain ⟨Po, co, rfl⟩ := own_sl hx
                have hco := ho.cell
                have hqk : (q : Int) ≤ (k : Int) := by have := HKB.out; omega
                have hkn : (k : Int) ≤ (s.size : Int) := by have := HKB.out; omega
                have HS0 : Hid ((W.drewN nq).drew.cell? ⟨w.heap.size, 0, none⟩ = some (.string s) ∧ (W.drewN nq).drew.cell? ⟨Bi, 0, none⟩ = some (.int .i64 (q : Int))) := Lib.hid ⟨hcs, hci⟩
                obtain ⟨X, hX⟩ : ∃ X, (W.drewN (nq + 1)).alloc (.cells #[.string (s.extract q k)] 9) = X := ⟨_, rfl⟩
                have hb : Below W.heap.size W X := by rw [← hX]; exact (show Below W.heap.size W (W.drewN (nq + 1)) from ⟨rfl, rfl, rfl, Nat.le_refl _, fun _ _ => rfl⟩).alloc (Nat.le_refl _) _
                have HS1 : Hid (X.cell? ⟨w.heap.size, 0, none⟩ = some (.string s) ∧ X.cell? ⟨Bi, 0, none⟩ = some (.int .i64 (q : Int))) := Lib.hid ⟨(hb.cell (World.block_lt_of_cell? W _ hcs)).trans hcs, (hb.cell (World.block_lt_of_cell? W _ hci)).trans hci⟩
                have HO1 := Lib.hid (boxed_keep_ ho hb)
                have hco1 := HO1.out.cell
                have HSX := Lib.hid (sp_keep HSW.out hb)
                have HXA := Lib.hid ((Kept.of_below (E := []) hb).own hx (fun _ _ => by simp))
                have HTX := Lib.hid (boxed_keep_ HT1.out HSX.out.below)
                have HNW : Hid (X.cell? ⟨W.heap.size, 0, none⟩ = some (.string (s.extract q k))) := Lib.hid (by rw [← hX]; exact (Boxed.new (W.drewN (nq + 1)) 9 _).cell)
                have HKX := Lib.hid (ko_below hb)
                have HQ := HQM.out.2
                have HsX := Lib.hid hb.size
                clear ho hx hb
                gi_wp2_with fail
                refine wpIn_region_held (fun _ _ h => h) (S := fun W' => W'.cell? ⟨w.heap.size, 0, none⟩ = some (.string s) ∧ W'.cell? ⟨Bi, 0, none⟩ = some (.int .i64 (q : Int))) (by kernel_rfl) (by kernel_rfl) ?_ (fun hHeld => ?_)
                · exact HS0.out
                refine takeH (i := 1) (d := some 81) (v := ?_) rfl rfl (by kernel_rfl) (by kernel_rfl) (by kernel_rfl) (fun _ _ _ h => h) (Or.inl ⟨by kernel_rfl, ?_⟩) hHeld ?_
                rotate_left
                · intro w hSw; (try dsimp only at hSw); go_simp; try with_reducible rfl
                try simp only [put_norm]
                refine takeH (i := 2) (d := some 82) (v := ?_) rfl rfl (by kernel_rfl) (by kernel_rfl) (by kernel_rfl) (fun _ _ _ h => h) (Or.inl ⟨by kernel_rfl, ?_⟩) hHeld ?_
                rotate_left
                · intro w hSw; (try dsimp only at hSw); go_simp; try with_reducible rfl
                try simp only [put_norm]
                refine takeH (i := 3) (d := some 83) (v := ?_) rfl rfl (by kernel_rfl) (by kernel_rfl) (by kernel_rfl) (fun _ _ _ h => h) (Or.inl ⟨by kernel_rfl, ?_⟩) hHeld ?_
                rotate_left
                · intro w hSw; (try dsimp only at hSw); go_simp; try with_reducible rfl
                try simp only [put_norm]
                refine takeH (i := 4) (d := some 84) (v := ?_) rfl rfl (by kernel_rfl) (by kernel_rfl) (by kernel_rfl) (fun _ _ _ h => h) (Or.inl ⟨by kernel_rfl, ?_⟩) hHeld ?_
                rotate_left
                · intro w hSw; (try dsimp only at hSw); go_simp; try with_reducible rfl
                try simp only [put_norm]
                refine wpAnyH_ready (rs := [0, 5]) (by kernel_rfl) (by simp) ?_
                refine AllReadyH.cons rfl (fun K hK => ?_) ?_
                · go_simp
                  refine hK.out _ _ ?_ (fun hHeld => ?_)
                  · first | exact HS0.out | exact HS1.out
                  try clear hK K
                  refine wpAnyH_ready (rs := [5]) (by kernel_rfl) (by simp) ?_
                  refine AllReadyH.cons rfl (fun K hK => ?_) AllReadyH.nil
                  go_simp
                  refine hK.out _ _ ?_ (fun hHeld => ?_)
                  · first | exact HS0.out | exact HS1.out
                  try clear hK K
                  refine wpAnyH_ready (rs := [6]) (by kernel_rfl) (by simp) ?_
                  refine AllReadyH.cons rfl (fun K hK => ?_) AllReadyH.nil
                  refine step_append_src (by rfl) _ _ 22 (by rfl) (W1.heap.size + 1) 9 i0 _ 1 16 Tryz.underlying22 hi0 hz0 hz1 hz2 rfl (by decide) (.slice Po m co) m xs (by rfl) HXA.out (some ⟨W.heap.size, 0, none⟩) 1 1 [.string (s.extract q k)] (by rfl) (by rfl) (.inr ⟨_, rfl, fun j u hj => by cases j with | zero => (injection hj with hj; subst hj; exact HNW.out) | succ j => cases hj⟩) (by intro u hu; simp at hu; subst hu; rfl) (by unfold maxLen; omega) (by omega) (by have := HSX.out.lo; have := HSX.out.ib.lt; omega) ?_
                  intro vp Y hrow hg hbk
                  obtain ⟨Pv, cv, rfl⟩ := own_sl hrow
                  obtain ⟨hyo, hyi, hyb⟩ := sp_app HSX.out HO1.out HXA.out hg
                  have hyt := hyb.block w.heap.size (by have := HT1.out.lt; omega) |>.trans HTX.out
                  have hyt : Boxed Y w.heap.size 9 (.string s) := hyt
                  have hcy := hyo.cell
                  have hfy := hyo.frozen
                  have HYT := Lib.hid (hyt.other (B' := W1.heap.size) (by have := HT1.out.lt; omega) (.slice Pv (m + 1) cv))
                  have HYI := Lib.hid (hyi.other (B' := W1.heap.size) (by have := HSX.out.lo; omega) (.slice Pv (m + 1) cv))
                  have HSP2 := Lib.hid (sp_push (k := k) HSX.out HO1.out HXA.out hg hrow)
                  have HKY := Lib.hid (ko_push HXA.out hg)
                  refine hK.out _ _ ⟨hyt.cell, hyi.cell⟩ (fun hHeld => ?_)
                  clear hyt hyi hyo hyb hrow hg hbk
                  try clear hK K
                  refine wpAnyH_ready (rs := [7]) (by kernel_rfl) (by simp) ?_
                  refine AllReadyH.cons rfl (fun K hK => ?_) AllReadyH.nil
                  go_simp
                  refine hK.out _ _ ⟨HYT.out.cell, HYI.out.cell⟩ (fun hHeld => ?_)
                  try clear hK K
                  refine wpAnyH_done (by kernel_rfl) ?_ _
                  clear hHeld
                  have hci2 := HYI.out.cell
                  have hfi2 := HYI.out.frozen
                  dsimp only [Exit.then]
                  gi_wp2_with fail
                  exact ⟨((HKX.out.trans HKY.out).trans ((KeepsOthers.setCell _ _ _).trans (KeepsOthers.setCell _ _ _))).from _, rfl, k, m + 1, HKB.out.1, HKB.out.2, HGd.out, by omega, by have := HKB.out.1; omega, HSP2.out⟩
                refine AllReadyH.cons rfl (fun K hK => ?_) ?_
                · go_simp
                  refine hK.out _ _ ?_ (fun hHeld => ?_)
                  · first | exact HS0.out | exact HS1.out
                  try clear hK K
                  refine wpAnyH_ready (rs := [0]) (by kernel_rfl) (by simp) ?_
                  refine AllReadyH.cons rfl (fun K hK => ?_) AllReadyH.nil
                  go_simp
                  refine hK.out _ _ ?_ (fun hHeld => ?_)
                  · first | exact HS0.out | exact HS1.out
                  try clear hK K
                  refine wpAnyH_ready (rs := [6]) (by kernel_rfl) (by simp) ?_
                  refine AllReadyH.cons rfl (fun K hK => ?_) AllReadyH.nil
                  refine step_append_src (by rfl) _ _ 22 (by rfl) (W1.heap.size + 1) 9 i0 _ 1 16 Tryz.underlying22 hi0 hz0 hz1 hz2 rfl (by decide) (.slice Po m co) m xs (by rfl) HXA.out (some ⟨W.heap.size, 0, none⟩) 1 1 [.string (s.extract q k)] (by rfl) (by rfl) (.inr ⟨_, rfl, fun j u hj => by cases j with | zero => (injection hj with hj; subst hj; exact HNW.out) | succ j => cases hj⟩) (by intro u hu; simp at hu; subst hu; rfl) (by unfold maxLen; omega) (by omega) (by have := HSX.out.lo; have := HSX.out.ib.lt; omega) ?_
                  intro vp Y hrow hg hbk
                  obtain ⟨Pv, cv, rfl⟩ := own_sl hrow
                  obtain ⟨hyo, hyi, hyb⟩ := sp_app HSX.out HO1.out HXA.out hg
                  have hyt := hyb.block w.heap.size (by have := HT1.out.lt; omega) |>.trans HTX.out
                  have hyt : Boxed Y w.heap.size 9 (.string s) := hyt
                  have hcy := hyo.cell
                  have hfy := hyo.frozen
                  have HYT := Lib.hid (hyt.other (B' := W1.heap.size) (by have := HT1.out.lt; omega) (.slice Pv (m + 1) cv))
                  have HYI := Lib.hid (hyi.other (B' := W1.heap.size) (by have := HSX.out.lo; omega) (.slice Pv (m + 1) cv))
                  have HSP2 := Lib.hid (sp_push (k := k) HSX.out HO1.out HXA.out hg hrow)
                  have HKY := Lib.hid (ko_push HXA.out hg)
                  refine hK.out _ _ ⟨hyt.cell, hyi.cell⟩ (fun hHeld => ?_)
                  clear hyt hyi hyo hyb hrow hg hbk
                  try clear hK K
                  refine wpAnyH_ready (rs := [7]) (by kernel_rfl) (by simp) ?_
                  refine AllReadyH.cons rfl (fun K hK => ?_) AllReadyH.nil
                  go_simp
                  refine hK.out _ _ ⟨HYT.out.cell, HYI.out.cell⟩ (fun hHeld => ?_)
                  try clear hK K
                  refine wpAnyH_done (by kernel_rfl) ?_ _
                  clear hHeld
                  have hci2 := HYI.out.cell
                  have hfi2 := HYI.out.frozen
                  dsimp only [Exit.then]
                  gi_wp2_with fail
                  exact ⟨((HKX.out.trans HKY.out).trans ((KeepsOthers.setCell _ _ _).trans (KeepsOthers.setCell _ _ _))).from _, rfl, k, m + 1, HKB.out.1, HKB.out.2, HGd.out, by omega, by have := HKB.out.1; omega, HSP2.out⟩
                exact AllReadyH.nil
              · have dG : (((f k : Nat) : Int) + 1 == ((f q : Nat) : Int)) = false := by rw [beq_eq_false_iff_ne]; omega
                have HNg : Hid (¬ GoodK s.size f q k) := Lib.hid (fun hg => by have h1 := hg.1; have h2 := hg.2.1; have h3 := hg.2.2; omega)
                refine wpIn_region_quiet (by kernel_rfl) (by kernel_rfl) (by kernel_rfl) ?_
                repeat (go_big_quiet_step (fail))
                refine wpQuiet_nil ?_
                intro _ hw9
                obtain ⟨nq, rfl⟩ := hw9
                gi_wp2_with fail
                exact ⟨⟨Nat.le_refl _, fun _ _ _ h _ => h⟩, fun _ _ _ _ h _ => h, ⟨fun y hy => by rcases List.mem_append.1 hy with hy | hy; exact HNo.out y hy; rw [List.mem_singleton] at hy; subst hy; rw [HX1.out]; exact HNg.out, ⟨HBW.out.os, HBW.out.tape, HBW.out.output, HBW.out.size, HBW.out.block⟩⟩⟩
            · have dC : ((k : Int) == (s.size : Int)) = false := by rw [beq_eq_false_iff_ne]; omega
              by_cases hD : 0 < f k
              · have dD : decide ((0 : Int) < ((f k : Nat) : Int)) = true := decide_eq_true (by omega)
                have HGd : Hid (k < s.size → f k ≠ 0) := Lib.hid (fun h => by omega)
                by_cases hG : f k + 1 = f q
                · have dG : (((f k : Nat) : Int) + 1 == ((f q : Nat) : Int)) = true := by rw [beq_iff_eq]; omega
                  refine wpIn_region_quiet (by kernel_rfl) (by kernel_rfl) (by kernel_rfl) ?_
                  repeat (go_big_quiet_step (fail))
                  refine wpQuiet_nil ?_
                  intro _ hw9
                  obtain ⟨nq, rfl⟩ := hw9
                  obtain ⟨ov, xs, ho, hx⟩ := HSW.out.out
                  obtain ⟨Po, co, rfl⟩ := own_sl hx
                  have hco := ho.cell
                  have hqk : (q : Int) ≤ (k : Int) := by have := HKB.out; omega
                  have hkn : (k : Int) ≤ (s.size : Int) := by have := HKB.out; omega
                  have HS0 : Hid ((W.drewN nq).drew.cell? ⟨w.heap.size, 0, none⟩ = some (.string s) ∧ (W.drewN nq).drew.cell? ⟨Bi, 0, none⟩ = some (.int .i64 (q : Int))) := Lib.hid ⟨hcs, hci⟩
                  obtain ⟨X, hX⟩ : ∃ X, (W.drewN (nq + 1)).alloc (.cells #[.string (s.extract q k)] 9) = X := ⟨_, rfl⟩
                  have hb : Below W.heap.size W X := by rw [← hX]; exact (show Below W.heap.size W (W.drewN (nq + 1)) from ⟨rfl, rfl, rfl, Nat.le_refl _, fun _ _ => rfl⟩).alloc (Nat.le_refl _) _
                  have HS1 : Hid (X.cell? ⟨w.heap.size, 0, none⟩ = some (.string s) ∧ X.cell? ⟨Bi, 0, none⟩ = some (.int .i64 (q : Int))) := Lib.hid ⟨(hb.cell (World.block_lt_of_cell? W _ hcs)).trans hcs, (hb.cell (World.block_lt_of_cell? W _ hci)).trans hci⟩
                  have HO1 := Lib.hid (boxed_keep_ ho hb)
                  have hco1 := HO1.out.cell
                  have HSX := Lib.hid (sp_keep HSW.out hb)
                  have HXA := Lib.hid ((Kept.of_below (E := []) hb).own hx (fun _ _ => by simp))
                  have HTX := Lib.hid (boxed_keep_ HT1.out HSX.out.below)
                  have HNW : Hid (X.cell? ⟨W.heap.size, 0, none⟩ = some (.string (s.extract q k))) := Lib.hid (by rw [← hX]; exact (Boxed.new (W.drewN (nq + 1)) 9 _).cell)
                  have HKX := Lib.hid (ko_below hb)
                  have HQ := HQM.out.2
                  have HsX := Lib.hid hb.size
                  clear ho hx hb
                  gi_wp2_with fail
                  refine wpIn_region_held (fun _ _ h => h) (S := fun W' => W'.cell? ⟨w.heap.size, 0, none⟩ = some (.string s) ∧ W'.cell? ⟨Bi, 0, none⟩ = some (.int .i64 (q : Int))) (by kernel_rfl) (by kernel_rfl) ?_ (fun hHeld => ?_)
                  · exact HS0.out
                  refine takeH (i := 1) (d := some 81) (v := ?_) rfl rfl (by kernel_rfl) (by kernel_rfl) (by kernel_rfl) (fun _ _ _ h => h) (Or.inl ⟨by kernel_rfl, ?_⟩) hHeld ?_
                  rotate_left
                  · intro w hSw; (try dsimp only at hSw); go_simp; try with_reducible rfl
                  try simp only [put_norm]
                  refine takeH (i := 2) (d := some 82) (v := ?_) rfl rfl (by kernel_rfl) (by kernel_rfl) (by kernel_rfl) (fun _ _ _ h => h) (Or.inl ⟨by kernel_rfl, ?_⟩) hHeld ?_
                  rotate_left
                  · intro w hSw; (try dsimp only at hSw); go_simp; try with_reducible rfl
                  try simp only [put_norm]
                  refine takeH (i := 3) (d := some 83) (v := ?_) rfl rfl (by kernel_rfl) (by kernel_rfl) (by kernel_rfl) (fun _ _ _ h => h) (Or.inl ⟨by kernel_rfl, ?_⟩) hHeld ?_
                  rotate_left
                  · intro w hSw; (try dsimp only at hSw); go_simp; try with_reducible rfl
                  try simp only [put_norm]
                  refine takeH (i := 4) (d := some 84) (v := ?_) rfl rfl (by kernel_rfl) (by kernel_rfl) (by kernel_rfl) (fun _ _ _ h => h) (Or.inl ⟨by kernel_rfl, ?_⟩) hHeld ?_
                  rotate_left
                  · intro w hSw; (try dsimp only at hSw); go_simp; try with_reducible rfl
                  try simp only [put_norm]
                  refine wpAnyH_ready (rs := [0, 5]) (by kernel_rfl) (by simp) ?_
                  refine AllReadyH.cons rfl (fun K hK => ?_) ?_
                  · go_simp
                    refine hK.out _ _ ?_ (fun hHeld => ?_)
                    · first | exact HS0.out | exact HS1.out
                    try clear hK K
                    refine wpAnyH_ready (rs := [5]) (by kernel_rfl) (by simp) ?_
                    refine AllReadyH.cons rfl (fun K hK => ?_) AllReadyH.nil
                    go_simp
                    refine hK.out _ _ ?_ (fun hHeld => ?_)
                    · first | exact HS0.out | exact HS1.out
                    try clear hK K
                    refine wpAnyH_ready (rs := [6]) (by kernel_rfl) (by simp) ?_
                    refine AllReadyH.cons rfl (fun K hK => ?_) AllReadyH.nil
                    refine step_append_src (by rfl) _ _ 22 (by rfl) (W1.heap.size + 1) 9 i0 _ 1 16 Tryz.underlying22 hi0 hz0 hz1 hz2 rfl (by decide) (.slice Po m co) m xs (by rfl) HXA.out (some ⟨W.heap.size, 0, none⟩) 1 1 [.string (s.extract q k)] (by rfl) (by rfl) (.inr ⟨_, rfl, fun j u hj => by cases j with | zero => (injection hj with hj; subst hj; exact HNW.out) | succ j => cases hj⟩) (by intro u hu; simp at hu; subst hu; rfl) (by unfold maxLen; omega) (by omega) (by have := HSX.out.lo; have := HSX.out.ib.lt; omega) ?_
                    intro vp Y hrow hg hbk
                    obtain ⟨Pv, cv, rfl⟩ := own_sl hrow
                    obtain ⟨hyo, hyi, hyb⟩ := sp_app HSX.out HO1.out HXA.out hg
                    have hyt := hyb.block w.heap.size (by have := HT1.out.lt; omega) |>.trans HTX.out
                    have hyt : Boxed Y w.heap.size 9 (.string s) := hyt
                    have hcy := hyo.cell
                    have hfy := hyo.frozen
                    have HYT := Lib.hid (hyt.other (B' := W1.heap.size) (by have := HT1.out.lt; omega) (.slice Pv (m + 1) cv))
                    have HYI := Lib.hid (hyi.other (B' := W1.heap.size) (by have := HSX.out.lo; omega) (.slice Pv (m + 1) cv))
                    have HSP2 := Lib.hid (sp_push (k := k) HSX.out HO1.out HXA.out hg hrow)
                    have HKY := Lib.hid (ko_push HXA.out hg)
                    refine hK.out _ _ ⟨hyt.cell, hyi.cell⟩ (fun hHeld => ?_)
                    clear hyt hyi hyo hyb hrow hg hbk
                    try clear hK K
                    refine wpAnyH_ready (rs := [7]) (by kernel_rfl) (by simp) ?_
                    refine AllReadyH.cons rfl (fun K hK => ?_) AllReadyH.nil
                    go_simp
                    refine hK.out _ _ ⟨HYT.out.cell, HYI.out.cell⟩ (fun hHeld => ?_)
                    try clear hK K
                    refine wpAnyH_done (by kernel_rfl) ?_ _
                    clear hHeld
                    have hci2 := HYI.out.cell
                    have hfi2 := HYI.out.frozen
                    dsimp only [Exit.then]
                    gi_wp2_with fail
                    exact ⟨((HKX.out.trans HKY.out).trans ((KeepsOthers.setCell _ _ _).trans (KeepsOthers.setCell _ _ _))).from _, rfl, k, m + 1, HKB.out.1, HKB.out.2, HGd.out, by omega, by have := HKB.out.1; omega, HSP2.out⟩
                  refine AllReadyH.cons rfl (fun K hK => ?_) ?_
                  · go_simp
                    refine hK.out _ _ ?_ (fun hHeld => ?_)
                    · first | exact HS0.out | exact HS1.out
                    try clear hK K
                    refine wpAnyH_ready (rs := [0]) (by kernel_rfl) (by simp) ?_
                    refine AllReadyH.cons rfl (fun K hK => ?_) AllReadyH.nil
                    go_simp
                    refine hK.out _ _ ?_ (fun hHeld => ?_)
                    · first | exact HS0.out | exact HS1.out
                    try clear hK K
                    refine wpAnyH_ready (rs := [6]) (by kernel_rfl) (by simp) ?_
                    refine AllReadyH.cons rfl (fun K hK => ?_) AllReadyH.nil
                    refine step_append_src (by rfl) _ _ 22 (by rfl) (W1.heap.size + 1) 9 i0 _ 1 16 Tryz.underlying22 hi0 hz0 hz1 hz2 rfl (by decide) (.slice Po m co) m xs (by rfl) HXA.out (some ⟨W.heap.size, 0, none⟩) 1 1 [.string (s.extract q k)] (by rfl) (by rfl) (.inr ⟨_, rfl, fun j u hj => by cases j with | zero => (injection hj with hj; subst hj; exact HNW.out) | succ j => cases hj⟩) (by intro u hu; simp at hu; subst hu; rfl) (by unfold maxLen; omega) (by omega) (by have := HSX.out.lo; have := HSX.out.ib.lt; omega) ?_
                    intro vp Y hrow hg hbk
                    obtain ⟨Pv, cv, rfl⟩ := own_sl hrow
                    obtain ⟨hyo, hyi, hyb⟩ := sp_app HSX.out HO1.out HXA.out hg
                    have hyt := hyb.block w.heap.size (by have := HT1.out.lt; omega) |>.trans HTX.out
                    have hyt : Boxed Y w.heap.size 9 (.string s) := hyt
                    have hcy := hyo.cell
                    have hfy := hyo.frozen
                    have HYT := Lib.hid (hyt.other (B' := W1.heap.size) (by have := HT1.out.lt; omega) (.slice Pv (m + 1) cv))
                    have HYI := Lib.hid (hyi.other (B' := W1.heap.size) (by have := HSX.out.lo; omega) (.slice Pv (m + 1) cv))
                    have HSP2 := Lib.hid (sp_push (k := k) HSX.out HO1.out HXA.out hg hrow)
                    have HKY := Lib.hid (ko_push HXA.out hg)
                    refine hK.out _ _ ⟨hyt.cell, hyi.cell⟩ (fun hHeld => ?_)
                    clear hyt hyi hyo hyb hrow hg hbk
                    try clear hK K
                    refine wpAnyH_ready (rs := [7]) (by kernel_rfl) (by simp) ?_
                    refine AllReadyH.cons rfl (fun K hK => ?_) AllReadyH.nil
                    go_simp
                    refine hK.out _ _ ⟨HYT.out.cell, HYI.out.cell⟩ (fun hHeld => ?_)
                    try clear hK K
                    refine wpAnyH_done (by kernel_rfl) ?_ _
                    clear hHeld
                    have hci2 := HYI.out.cell
                    have hfi2 := HYI.out.frozen
                    dsimp only [Exit.then]
                    gi_wp2_with fail
                    exact ⟨((HKX.out.trans HKY.out).trans ((KeepsOthers.setCell _ _ _).trans (KeepsOthers.setCell _ _ _))).from _, rfl, k, m + 1, HKB.out.1, HKB.out.2, HGd.out, by omega, by have := HKB.out.1; omega, HSP2.out⟩
                  exact AllReadyH.nil
                · have dG : (((f k : Nat) : Int) + 1 == ((f q : Nat) : Int)) = false := by rw [beq_eq_false_iff_ne]; omega
                  have HNg : Hid (¬ GoodK s.size f q k) := Lib.hid (fun hg => by have h1 := hg.1; have h2 := hg.2.1; have h3 := hg.2.2; omega)
                  refine wpIn_region_quiet (by kernel_rfl) (by kernel_rfl) (by kernel_rfl) ?_
                  repeat (go_big_quiet_step (fail))
                  refine wpQuiet_nil ?_
                  intro _ hw9
                  obtain ⟨nq, rfl⟩ := hw9
                  gi_wp2_with fail
                  exact ⟨⟨Nat.le_refl _, fun _ _ _ h _ => h⟩, fun _ _ _ _ h _ => h, ⟨fun y hy => by rcases List.mem_append.1 hy with hy | hy; exact HNo.out y hy; rw [List.mem_singleton] at hy; subst hy; rw [HX1.out]; exact HNg.out, ⟨HBW.out.os, HBW.out.tape, HBW.out.output, HBW.out.size, HBW.out.block⟩⟩⟩
              · have dD : decide ((0 : Int) < ((f k : Nat) : Int)) = false := decide_eq_false (by omega)
                have HNg : Hid (¬ GoodK s.size f q k) := Lib.hid (fun hg => by have h1 := hg.1; have h2 := hg.2.1; have h3 := hg.2.2; omega)
                refine wpIn_region_quiet (by kernel_rfl) (by kernel_rfl) (by kernel_rfl) ?_
                repeat (go_big_quiet_step (fail))
                refine wpQuiet_nil ?_
                intro _ hw9
                obtain ⟨nq, rfl⟩ := hw9
                gi_wp2_with fail
                exact ⟨⟨Nat.le_refl _, fun _ _ _ h _ => h⟩, fun _ _ _ _ h _ => h, ⟨fun y hy => by rcases List.mem_append.1 hy with hy | hy; exact HNo.out y hy; rw [List.mem_singleton] at hy; subst hy; rw [HX1.out]; exact HNg.out, ⟨HBW.out.os, HBW.out.tape, HBW.out.output, HBW.out.size, HBW.out.block⟩⟩⟩
          · have dA : decide ((0 : Int) < (q : Int)) = false := decide_eq_false (by omega)
            by_cases hB : k < s.size
            · have dB : decide ((k : Int) < (s.size : Int)) = true := decide_eq_true (by omega)
              have dC : ((k : Int) == (s.size : Int)) = false := by rw [beq_eq_false_iff_ne]; omega
              by_cases hD : 0 < f k
              · have dD : decide ((0 : Int) < ((f k : Nat) : Int)) = true := decide_eq_true (by omega)
                have HGd : Hid (k < s.size → f k ≠ 0) := Lib.hid (fun h => by omega)
                by_cases hG : f k + 1 = f q
                · have dG : (((f k : Nat) : Int) + 1 == ((f q : Nat) : Int)) = true := by rw [beq_iff_eq]; omega
                  refine wpIn_region_quiet (by kernel_rfl) (by kernel_rfl) (by kernel_rfl) ?_
                  repeat (go_big_quiet_step (fail))
                  refine wpQuiet_nil ?_
                  intro _ hw9
                  obtain ⟨nq, rfl⟩ := hw9
                  obtain ⟨ov, xs, ho, hx⟩ := HSW.out.out
                  obtain ⟨Po, co, rfl⟩ := own_sl hx
                  have hco := ho.cell
                  have hqk : (q : Int) ≤ (k : Int) := by have := HKB.out; omega
                  have hkn : (k : Int) ≤ (s.size : Int) := by have := HKB.out; omega
                  have HS0 : Hid ((W.drewN nq).drew.cell? ⟨w.heap.size, 0, none⟩ = some (.string s) ∧ (W.drewN nq).drew.cell? ⟨Bi, 0, none⟩ = some (.int .i64 (q : Int))) := Lib.hid ⟨hcs, hci⟩
                  obtain ⟨X, hX⟩ : ∃ X, (W.drewN (nq + 1)).alloc (.cells #[.string (s.extract q k)] 9) = X := ⟨_, rfl⟩
                  have hb : Below W.heap.size W X := by rw [← hX]; exact (show Below W.heap.size W (W.drewN (nq + 1)) from ⟨rfl, rfl, rfl, Nat.le_refl _, fun _ _ => rfl⟩).alloc (Nat.le_refl _) _
                  have HS1 : Hid (X.cell? ⟨w.heap.size, 0, none⟩ = some (.string s) ∧ X.cell? ⟨Bi, 0, none⟩ = some (.int .i64 (q : Int))) := Lib.hid ⟨(hb.cell (World.block_lt_of_cell? W _ hcs)).trans hcs, (hb.cell (World.block_lt_of_cell? W _ hci)).trans hci⟩
                  have HO1 := Lib.hid (boxed_keep_ ho hb)
                  have hco1 := HO1.out.cell
                  have HSX := Lib.hid (sp_keep HSW.out hb)
                  have HXA := Lib.hid ((Kept.of_below (E := []) hb).own hx (fun _ _ => by simp))
                  have HTX := Lib.hid (boxed_keep_ HT1.out HSX.out.below)
                  have HNW : Hid (X.cell? ⟨W.heap.size, 0, none⟩ = some (.string (s.extract q k))) := Lib.hid (by rw [← hX]; exact (Boxed.new (W.drewN (nq + 1)) 9 _).cell)
                  have HKX := Lib.hid (ko_below hb)
                  have HQ := HQM.out.2
                  have HsX := Lib.hid hb.size
                  clear ho hx hb
                  gi_wp2_with fail
                  refine wpIn_region_held (fun _ _ h => h) (S := fun W' => W'.cell? ⟨w.heap.size, 0, none⟩ = some (.string s) ∧ W'.cell? ⟨Bi, 0, none⟩ = some (.int .i64 (q : Int))) (by kernel_rfl) (by kernel_rfl) ?_ (fun hHeld => ?_)
                  · exact HS0.out
                  refine takeH (i := 1) (d := some 81) (v := ?_) rfl rfl (by kernel_rfl) (by kernel_rfl) (by kernel_rfl) (fun _ _ _ h => h) (Or.inl ⟨by kernel_rfl, ?_⟩) hHeld ?_
                  rotate_left
                  · intro w hSw; (try dsimp only at hSw); go_simp; try with_reducible rfl
                  try simp only [put_norm]
                  refine takeH (i := 2) (d := some 82) (v := ?_) rfl rfl (by kernel_rfl) (by kernel_rfl) (by kernel_rfl) (fun _ _ _ h => h) (Or.inl ⟨by kernel_rfl, ?_⟩) hHeld ?_
                  rotate_left
                  · intro w hSw; (try dsimp only at hSw); go_simp; try with_reducible rfl
                  try simp only [put_norm]
                  refine takeH (i := 3) (d := some 83) (v := ?_) rfl rfl (by kernel_rfl) (by kernel_rfl) (by kernel_rfl) (fun _ _ _ h => h) (Or.inl ⟨by kernel_rfl, ?_⟩) hHeld ?_
                  rotate_left
                  · intro w hSw; (try dsimp only at hSw); go_simp; try with_reducible rfl
                  try simp only [put_norm]
                  refine takeH (i := 4) (d := some 84) (v := ?_) rfl rfl (by kernel_rfl) (by kernel_rfl) (by kernel_rfl) (fun _ _ _ h => h) (Or.inl ⟨by kernel_rfl, ?_⟩) hHeld ?_
                  rotate_left
                  · intro w hSw; (try dsimp only at hSw); go_simp; try with_reducible rfl
                  try simp only [put_norm]
                  refine wpAnyH_ready (rs := [0, 5]) (by kernel_rfl) (by simp) ?_
                  refine AllReadyH.cons rfl (fun K hK => ?_) ?_
                  · go_simp
                    refine hK.out _ _ ?_ (fun hHeld => ?_)
                    · first | exact HS0.out | exact HS1.out
                    try clear hK K
                    refine wpAnyH_ready (rs := [5]) (by kernel_rfl) (by simp) ?_
                    refine AllReadyH.cons rfl (fun K hK => ?_) AllReadyH.nil
                    go_simp
                    refine hK.out _ _ ?_ (fun hHeld => ?_)
                    · first | exact HS0.out | exact HS1.out
                    try clear hK K
                    refine wpAnyH_ready (rs := [6]) (by kernel_rfl) (by simp) ?_
                    refine AllReadyH.cons rfl (fun K hK => ?_) AllReadyH.nil
                    refine step_append_src (by rfl) _ _ 22 (by rfl) (W1.heap.size + 1) 9 i0 _ 1 16 Tryz.underlying22 hi0 hz0 hz1 hz2 rfl (by decide) (.slice Po m co) m xs (by rfl) HXA.out (some ⟨W.heap.size, 0, none⟩) 1 1 [.string (s.extract q k)] (by rfl) (by rfl) (.inr ⟨_, rfl, fun j u hj => by cases j with | zero => (injection hj with hj; subst hj; exact HNW.out) | succ j => cases hj⟩) (by intro u hu; simp at hu; subst hu; rfl) (by unfold maxLen; omega) (by omega) (by have := HSX.out.lo; have := HSX.out.ib.lt; omega) ?_
                    intro vp Y hrow hg hbk
                    obtain ⟨Pv, cv, rfl⟩ := own_sl hrow
                    obtain ⟨hyo, hyi, hyb⟩ := sp_app HSX.out HO1.out HXA.out hg
                    have hyt := hyb.block w.heap.size (by have := HT1.out.lt; omega) |>.trans HTX.out
                    have hyt : Boxed Y w.heap.size 9 (.string s) := hyt
                    have hcy := hyo.cell
                    have hfy := hyo.frozen
                    have HYT := Lib.hid (hyt.other (B' := W1.heap.size) (by have := HT1.out.lt; omega) (.slice Pv (m + 1) cv))
                    have HYI := Lib.hid (hyi.other (B' := W1.heap.size) (by have := HSX.out.lo; omega) (.slice Pv (m + 1) cv))
                    have HSP2 := Lib.hid (sp_push (k := k) HSX.out HO1.out HXA.out hg hrow)
                    have HKY := Lib.hid (ko_push HXA.out hg)
                    refine hK.out _ _ ⟨hyt.cell, hyi.cell⟩ (fun hHeld => ?_)
                    clear hyt hyi hyo hyb hrow hg hbk
                    try clear hK K
                    refine wpAnyH_ready (rs := [7]) (by kernel_rfl) (by simp) ?_
                    refine AllReadyH.cons rfl (fun K hK => ?_) AllReadyH.nil
                    go_simp
                    refine hK.out _ _ ⟨HYT.out.cell, HYI.out.cell⟩ (fun hHeld => ?_)
                    try clear hK K
                    refine wpAnyH_done (by kernel_rfl) ?_ _
                    clear hHeld
                    have hci2 := HYI.out.cell
                    have hfi2 := HYI.out.frozen
                    dsimp only [Exit.then]
                    gi_wp2_with fail
                    exact ⟨((HKX.out.trans HKY.out).trans ((KeepsOthers.setCell _ _ _).trans (KeepsOthers.setCell _ _ _))).from _, rfl, k, m + 1, HKB.out.1, HKB.out.2, HGd.out, by omega, by have := HKB.out.1; omega, HSP2.out⟩
                  refine AllReadyH.cons rfl (fun K hK => ?_) ?_
                  · go_simp
                    refine hK.out _ _ ?_ (fun hHeld => ?_)
                    · first | exact HS0.out | exact HS1.out
                    try clear hK K
                    refine wpAnyH_ready (rs := [0]) (by kernel_rfl) (by simp) ?_
                    refine AllReadyH.cons rfl (fun K hK => ?_) AllReadyH.nil
                    go_simp
                    refine hK.out _ _ ?_ (fun hHeld => ?_)
                    · first | exact HS0.out | exact HS1.out
                    try clear hK K
                    refine wpAnyH_ready (rs := [6]) (by kernel_rfl) (by simp) ?_
                    refine AllReadyH.cons rfl (fun K hK => ?_) AllReadyH.nil
                    refine step_append_src (by rfl) _ _ 22 (by rfl) (W1.heap.size + 1) 9 i0 _ 1 16 Tryz.underlying22 hi0 hz0 hz1 hz2 rfl (by decide) (.slice Po m co) m xs (by rfl) HXA.out (some ⟨W.heap.size, 0, none⟩) 1 1 [.string (s.extract q k)] (by rfl) (by rfl) (.inr ⟨_, rfl, fun j u hj => by cases j with | zero => (injection hj with hj; subst hj; exact HNW.out) | succ j => cases hj⟩) (by intro u hu; simp at hu; subst hu; rfl) (by unfold maxLen; omega) (by omega) (by have := HSX.out.lo; have := HSX.out.ib.lt; omega) ?_
                    intro vp Y hrow hg hbk
                    obtain ⟨Pv, cv, rfl⟩ := own_sl hrow
                    obtain ⟨hyo, hyi, hyb⟩ := sp_app HSX.out HO1.out HXA.out hg
                    have hyt := hyb.block w.heap.size (by have := HT1.out.lt; omega) |>.trans HTX.out
                    have hyt : Boxed Y w.heap.size 9 (.string s) := hyt
                    have hcy := hyo.cell
                    have hfy := hyo.frozen
                    have HYT := Lib.hid (hyt.other (B' := W1.heap.size) (by have := HT1.out.lt; omega) (.slice Pv (m + 1) cv))
                    have HYI := Lib.hid (hyi.other (B' := W1.heap.size) (by have := HSX.out.lo; omega) (.slice Pv (m + 1) cv))
                    have HSP2 := Lib.hid (sp_push (k := k) HSX.out HO1.out HXA.out hg hrow)
                    have HKY := Lib.hid (ko_push HXA.out hg)
                    refine hK.out _ _ ⟨hyt.cell, hyi.cell⟩ (fun hHeld => ?_)
                    clear hyt hyi hyo hyb hrow hg hbk
                    try clear hK K
                    refine wpAnyH_ready (rs := [7]) (by kernel_rfl) (by simp) ?_
                    refine AllReadyH.cons rfl (fun K hK => ?_) AllReadyH.nil
                    go_simp
                    refine hK.out _ _ ⟨HYT.out.cell, HYI.out.cell⟩ (fun hHeld => ?_)
                    try clear hK K
                    refine wpAnyH_done (by kernel_rfl) ?_ _
                    clear hHeld
                    have hci2 := HYI.out.cell
                    have hfi2 := HYI.out.frozen
                    dsimp only [Exit.then]
                    gi_wp2_with fail
                    exact ⟨((HKX.out.trans HKY.out).trans ((KeepsOthers.setCell _ _ _).trans (KeepsOthers.setCell _ _ _))).from _, rfl, k, m + 1, HKB.out.1, HKB.out.2, HGd.out, by omega, by have := HKB.out.1; omega, HSP2.out⟩
                  exact AllReadyH.nil
                · have dG : (((f k : Nat) : Int) + 1 == ((f q : Nat) : Int)) = false := by rw [beq_eq_false_iff_ne]; omega
                  have HNg : Hid (¬ GoodK s.size f q k) := Lib.hid (fun hg => by have h1 := hg.1; have h2 := hg.2.1; have h3 := hg.2.2; omega)
                  refine wpIn_region_quiet (by kernel_rfl) (by kernel_rfl) (by kernel_rfl) ?_
                  repeat (go_big_quiet_step (fail))
                  refine wpQuiet_nil ?_
                  intro _ hw9
                  obtain ⟨nq, rfl⟩ := hw9
                  gi_wp2_with fail
                  exact ⟨⟨Nat.le_refl _, fun _ _ _ h _ => h⟩, fun _ _ _ _ h _ => h, ⟨fun y hy => by rcases List.mem_append.1 hy with hy | hy; exact HNo.out y hy; rw [List.mem_singleton] at hy; subst hy; rw [HX1.out]; exact HNg.out, ⟨HBW.out.os, HBW.out.tape, HBW.out.output, HBW.out.size, HBW.out.block⟩⟩⟩
              · have dD : decide ((0 : Int) < ((f k : Nat) : Int)) = false := decide_eq_false (by omega)
                have HNg : Hid (¬ GoodK s.size f q k) := Lib.hid (fun hg => by have h1 := hg.1; have h2 := hg.2.1; have h3 := hg.2.2; omega)
                refine wpIn_region_quiet (by kernel_rfl) (by kernel_rfl) (by kernel_rfl) ?_
                repeat (go_big_quiet_step (fail))
                refine wpQuiet_nil ?_
                intro _ hw9
                obtain ⟨nq, rfl⟩ := hw9
                gi_wp2_with fail
                exact ⟨⟨Nat.le_refl _, fun _ _ _ h _ => h⟩, fun _ _ _ _ h _ => h, ⟨fun y hy => by rcases List.mem_append.1 hy with hy | hy; exact HNo.out y hy; rw [List.mem_singleton] at hy; subst hy; rw [HX1.out]; exact HNg.out, ⟨HBW.out.os, HBW.out.tape, HBW.out.output, HBW.out.size, HBW.out.block⟩⟩⟩
            · have dB : decide ((k : Int) < (s.size : Int)) = false := decide_eq_false (by omega)
              have HNg : Hid (¬ GoodK s.size f q k) := Lib.hid (fun hg => by have h1 := hg.1; have h2 := hg.2.1; have h3 := hg.2.2; omega)
              refine wpIn_region_quiet (by kernel_rfl) (by kernel_rfl) (by kernel_rfl) ?_
              repeat (go_big_quiet_step (fail))
              refine wpQuiet_nil ?_
              intro _ hw9
              obtain ⟨nq, rfl⟩ := hw9
              gi_wp2_with fail
              exact ⟨⟨Nat.le_refl _, fun _ _ _ h _ => h⟩, fun _ _ _ _ h _ => h, ⟨fun y hy => by rcases List.mem_append.1 hy with hy | hy; exact HNo.out y hy; rw [List.mem_singleton] at hy; subst hy; rw [HX1.out]; exact HNg.out, ⟨HBW.out.os, HBW.out.tape, HBW.out.output, HBW.out.size, HBW.out.block⟩⟩⟩
        · rintro D xs W hD rfl ⟨hno, _⟩ _
          exfalso
          obtain ⟨k, hk, h1, h2, h3⟩ := fewF_next hE hlt (by rw [HFn.out]; exact HFQ.out hlt)
          obtain ⟨j, hj, rfl⟩ := List.getElem_of_mem hk
          rw [HFn.out] at h2 h3
          exact hno ⟨j, hj⟩ (backF_mem _) ⟨h1, h2, h3⟩
        · rintro D c2 pre W hD hpre ⟨rfl, k, m', h1, h2, h3, h4, h6, h5⟩ hK
          have hci := h5.ib.cell
          have H5 := Lib.hid h5
          have HK := Lib.hid hK
          have HM : Hid (D ∉ ds) := Lib.hid (fun hm => by have := block_lt (HSB.out.ms D hm).2; omega)
          have hlD : W1.heap.size < D := by have := HLo.out; have := HSB.out.lo; omega
          dsimp only
          clear h5 hK hpre
          gi_wp2_with fail
          refine ⟨⟨W.heap.size, k, m', D :: ds, _, _, _, _, _, _, _, _, _, _, _, _, _, rfl, sp_next H5.out HK.out hlD HM.out, h2, h3, fun _ => h4, h6⟩, ?_⟩
          exact place_less rfl HSP.out.ib.cell rfl (Boxed.new W 3 (.int .i64 (k : Int))).cell h1 h2
      · obtain rfl : q = s.size := by omega
        obtain ⟨ov, xs, ho, hx⟩ := HSP.out.out
        obtain ⟨Po, co, rfl⟩ := own_sl hx
        have hco := ho.cell
        clear ho hx
        gi_wp2_with fail
        exact marks_leave (B := W1.heap.size) rfl ds wr HSP.out.nd HSP.out.ms (fun W' hW' => ⟨_, _, _, rfl, by have := HQM.out.1; have := hN.out; by_cases hz : s.size = 0; exact absurd hz HZ.out; rw [decide_eq_true (show 0 < m by omega), decide_eq_true hN.out], HB1.out.trans ((HSP.out.below.trans hW').mono HB1.out.size)⟩)
end Go.Proofs.YthfndmpigpphoaaGreat
