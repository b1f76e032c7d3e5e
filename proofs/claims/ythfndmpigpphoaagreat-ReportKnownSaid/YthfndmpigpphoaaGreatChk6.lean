/-
  The reference's Check; Load.
-/
import Derived.Test.YthfndmpigpphoaaGreatRows
import Derived.Test.YthfndmpigpphoaaGreatChk5
namespace Go.Proofs.YthfndmpigpphoaaGreat
open Go.RowKit

set_option maxHeartbeats 2000000 in
set_option maxRecDepth 100000 in
theorem so_rCheck (n : Int) (t : ByteArray) (rs : List Rp) (As : List (List St)) (A0 A2 : List St) (vr v0 v1 v2 v3 : Value) (s : ByteArray) (w : World) (h : BkAt w (fun _ => True) vr v0 v1 v2 v3 rs As)
    (hA0 : As[0]? = some A0) (hA2 : As[2]? = some A2) (h0 : shapeB A0 = true) (h2 : shapeB A2 = true) (hs : s.size ≤ 140737488355328) :
    Calls Tryz.prog 17 #[.agg #[.int .i64 n, .string t, vr, v0, v1, v2, v3], .string s] w fun e w' => e = .returned (chkV (chkB (accS A0) (accS A2) s)) ∧ Below w.heap.size w w' := by
  obtain ⟨hl0, hE0⟩ := List.getElem?_eq_some_iff.1 hA0
  obtain ⟨hl2, hE2⟩ := List.getElem?_eq_some_iff.1 hA2
  have k0 := h.secs 0 hl0
  have k2 := h.secs 2 hl2
  rw [hE0] at k0
  rw [hE2] at k2
  obtain ⟨X, k, X0, n0, c0, X1, n1, c1, X2, n2, c2, X3, n3, c3, rfl, rfl, rfl, rfl, rfl⟩ := h.form
  have K0 := Lib.hid (show AutAt w (fun _ => True) (.slice X0 n0 c0) A0 from k0)
  have K2 := Lib.hid (show AutAt w (fun _ => True) (.slice X2 n2 c2) A2 from k2)
  have S0 := Lib.hid h0
  have S2 := Lib.hid h2
  clear h hA0 hA2 h0 h2 hE0 hE2 k0 k2
  have HZ := Lib.hid (formsOf_size s)
  have hl := formsOf_len s
  have hfs : Hid (chkB (accS A0) (accS A2) s = chkGo (accS A0) (accS A2) true (formsOf s)) := Lib.hid rfl
  have HG := Lib.hid (forms_eq s)
  rw [HG.out] at hfs hl HZ
  generalize hg : formsRef s = fs at hfs hl HZ
  have HGR := Lib.hid hg
  clear hg
  have HB0 := Lib.hid ((Below.refl w.heap.size w).alloc (Nat.le_refl _) (.cells #[.int .i64 n, .string t, .slice X rs.length k, .slice X0 n0 c0, .slice X1 n1 c1, .slice X2 n2 c2, .slice X3 n3 c3] 33))
  obtain ⟨W0, hW0⟩ : ∃ W, w.alloc (.cells #[.int .i64 n, .string t, .slice X rs.length k, .slice X0 n0 c0, .slice X1 n1 c1, .slice X2 n2 c2, .slice X3 n3 c3] 33) = W := ⟨_, rfl⟩
  have hbb : W0.heap[w.heap.size]? = some (.cells #[.int .i64 n, .string t, .slice X rs.length k, .slice X0 n0 c0, .slice X1 n1 c1, .slice X2 n2 c2, .slice X3 n3 c3] 33 (0, 0)) := by rw [← hW0]; exact heap_alloc_new w _
  rw [hW0] at HB0
  have HW0 := Lib.hid hW0
  have HBB := Lib.hid hbb
  clear hW0 hbb
  go_enter Tryz.func17, Tryz.ntmps17
  go_wp2_with fail
  rw [HW0.out]
  refine (Forms22_any s _ hs).mono ?_
  rw [HGR.out]
  rintro e w1 ⟨⟨g, cap, rfl, hown⟩, hb1⟩
  have HC := Lib.hid (fun j hj => own_strD hown j hj)
  have HB1 := Lib.hid (HB0.out.trans (hb1.mono HB0.out.size))
  have hcell : ∀ j, w1.cell? ⟨w.heap.size, j, none⟩ = W0.cell? ⟨w.heap.size, j, none⟩ := fun j => hb1.cell (p := ⟨w.heap.size, j, none⟩) (block_lt HBB.out)
  have hv0 : w1.cell? ⟨w.heap.size, 3, none⟩ = some (.slice X0 n0 c0) := by rw [hcell, Lib.cell_of_heap HBB.out]; rfl
  have hv2 : w1.cell? ⟨w.heap.size, 5, none⟩ = some (.slice X2 n2 c2) := by rw [hcell, Lib.cell_of_heap HBB.out]; rfl
  have HK0 := Lib.hid (show ∀ m, AutAt (w1.drewN m) (fun _ => True) (.slice X0 n0 c0) A0 from fun m => K0.out.keep (below_drewN HB1.out m))
  have HK2 := Lib.hid (show ∀ m, AutAt (w1.drewN m) (fun _ => True) (.slice X2 n2 c2) A2 from fun m => K2.out.keep (below_drewN HB1.out m))
  clear hown hb1 hcell
  go_wp2_with fail
  go_loopw [7] (fun i wr => ∃ k m : Nat, k ≤ fs.length ∧ i = .int .i64 k ∧ wr = w1.drewN m ∧ Hid (chkGo (accS A0) (accS A2) (decide (k = 0)) (fs.drop k) = chkB (accS A0) (accS A2) s)) (fun i _ => fs.length - (intOf i).toNat)
  case atStart => exact ⟨0, 0, Nat.zero_le _, rfl, rfl, Lib.hid (by rw [hfs.out]; rfl)⟩
  case round =>
    obtain ⟨k, m, hk, rfl, rfl, HR⟩ := hrel
    by_cases hlt : k < fs.length
    · have ck := HC.out k hlt
      have hd : fs.drop k = fs.getD k ByteArray.empty :: fs.drop (k + 1) := by
        rw [List.drop_eq_getElem_cons hlt]; simp [List.getD, hlt]
      have hsz : (fs.getD k ByteArray.empty).size = s.size := by
        have := HZ.out fs[k] (List.getElem_mem hlt)
        simpa [List.getD, hlt] using this
      have hr := HR.out
      rw [hd, chkGo] at hr
      obtain ⟨f, hf⟩ : ∃ f, fs.getD k ByteArray.empty = f := ⟨_, rfl⟩
      rw [hf] at ck hr hsz
      rw [Nat.zero_add] at ck
      have hm : f.size ≤ maxLen := by rw [hsz]; unfold maxLen; omega
      clear hd hf hsz
      obtain ⟨a0, ha0⟩ : ∃ b, accS A0 f = b := ⟨_, rfl⟩
      obtain ⟨a2, ha2⟩ : ∃ b, accS A2 f = b := ⟨_, rfl⟩
      have hb0 : accB A0 f.data.toList = a0 := ha0
      have hb2 : accB A2 f.data.toList = a2 := ha2
      obtain ⟨N0, hN0⟩ : ∃ b, accN A0 0 f.data.toList = b := ⟨_, rfl⟩
      obtain ⟨N2, hN2⟩ : ∃ b, accN A2 0 f.data.toList = b := ⟨_, rfl⟩
      have hq0 : ∀ a x, Calls Tryz.prog 41 #[.slice X0 n0 c0, .string f] (w1.drewN (a + x)) fun e w'' => e = .returned (.tuple #[.bool (accB A0 f.data.toList), .int .i64 (accN A0 0 f.data.toList : Nat)]) ∧ ∃ n, w'' = w1.drewN (a + n) := fun a x => (so_Accepts _ A0 f _ (HK0.out _) S0.out hm).mono fun e w'' h => ⟨h.1, x, h.2⟩
      have hq2 : ∀ a x, Calls Tryz.prog 41 #[.slice X2 n2 c2, .string f] (w1.drewN (a + x)) fun e w'' => e = .returned (.tuple #[.bool (accB A2 f.data.toList), .int .i64 (accN A2 0 f.data.toList : Nat)]) ∧ ∃ n, w'' = w1.drewN (a + n) := fun a x => (so_Accepts _ A2 f _ (HK2.out _) S2.out hm).mono fun e w'' h => ⟨h.1, x, h.2⟩
      rw [hb0, hN0] at hq0
      rw [hb2, hN2] at hq2
      have HQ0 := Lib.hid hq0
      have HQ2 := Lib.hid hq2
      rw [ha0, ha2] at hr
      have HRR := Lib.hid hr
      clear hr ha0 ha2 hb0 hb2 hN0 hN2 hq0 hq2
      have q0 : ((k : Int) == 0) = decide (k = 0) := by rw [Bool.eq_iff_iff]; simp
      cases hk0 : decide (k = 0) <;> cases a0 <;> cases a2 <;> rw [hk0] at HRR q0
      all_goals
        go_wp2_with fail
        go_quiet (first | (go_at_call 41; exact HQ0.out _ _))
        go_wp2_with fail
        go_quiet (first | (go_at_call 41; exact HQ2.out _ _))
        go_wp2_with fail
        first
          | (go_roundw
             case rel => exact ⟨k + 1, _, by omega, by go_num, rfl, Lib.hid (by have h := HRR.out; simpa using h)⟩
             case measure => simp [intOf]; omega)
          | (go_ret2
             exact ⟨by rw [show chkB (accS A0) (accS A2) s = some f from by have h := HRR.out; simpa using h.symm]; rfl, below_drewN HB1.out _⟩)
    · have hke : k = fs.length := by omega
      have HR' := Lib.hid (show none = chkB (accS A0) (accS A2) s by
        have := HR.out
        rw [hke, List.drop_length, chkGo] at this
        exact this)
      go_wp2_with fail
      go_ret2
      exact ⟨by rw [← HR'.out]; rfl, below_drewN HB1.out m⟩

theorem edgR_ne {s : ByteArray} {n a c : Nat} (h : edgR s n a = .error c) : c ≠ 0 := by
  unfold edgR at h
  split at h
  · injection h with h; omega
  · split at h
    · rename_i c' hc
      injection h with h
      subst h
      exact numR_err hc
    · split at h
      · injection h with h; omega
      · cases h
theorem manyE_ne {α : Type} {f : Nat → Except Nat (α × Nat)} {g : Nat → Nat → Except Nat (List α × Nat)} (hf : ∀ a c, f a = .error c → c ≠ 0) (h0 : ∀ a, g 0 a = .ok ([], a))
    (hs : ∀ k a, g (k + 1) a = match f a with | .error c => .error c | .ok (x, q) => match g k q with | .error c => .error c | .ok (xs, p) => .ok (x :: xs, p)) : ∀ (k a c : Nat), g k a = .error c → c ≠ 0
  | 0, a, c, h => by rw [h0] at h; cases h
  | k + 1, a, c, h => by
    rw [hs] at h
    split at h
    · rename_i c' hc
      injection h with h
      subst h
      exact hf _ _ hc
    · split at h
      · rename_i c' hc
        injection h with h
        subst h
        exact manyE_ne hf h0 hs k _ _ hc
      · cases h
theorem staR_ne {s : ByteArray} {n a c : Nat} (h : staR s n a = .error c) : c ≠ 0 := by
  unfold staR at h
  split at h
  · rename_i c' hc
    injection h with h
    subst h
    exact numR_err hc
  · split at h
    · injection h with h; omega
    · split at h
      · rename_i c' hc
        injection h with h
        subst h
        exact manyE_ne (f := edgR s n) (g := edgesR s n) (fun a c h => edgR_ne h) (fun _ => rfl) (fun k a => by rw [edgesR]; cases edgR s n a with | error c => rfl | ok r => (dsimp only; cases edgesR s n k r.2 <;> rfl)) _ _ _ hc
      · cases h
theorem secR_ne {s : ByteArray} {a c : Nat} (h : secR s a = .error c) : c ≠ 0 := by
  unfold secR at h
  split at h
  · rename_i c' hc
    injection h with h
    subst h
    exact numR_err hc
  · split at h
    · injection h with h; omega
    · split at h
      · rename_i c' hc
        injection h with h
        subst h
        exact manyE_ne (f := staR s _) (g := statesR s _) (fun a c h => staR_ne h) (fun _ => rfl) (fun k a => by rw [statesR]; cases staR s _ a with | error c => rfl | ok r => (dsimp only; cases statesR s _ k r.2 <;> rfl)) _ _ _ hc
      · split at h
        · cases h
        · injection h with h; omega
theorem repR_ne {s : ByteArray} {a c : Nat} (h : repR s a = .error c) : c ≠ 0 := by
  unfold repR at h
  split at h
  · rename_i c' hc
    injection h with h
    subst h
    exact frmR_err hc
  · split at h
    · rename_i c' hc
      injection h with h
      subst h
      exact frmR_err hc
    · cases h
theorem decR_err {s : ByteArray} {c : Nat} (h : decR s = .error c) : c ≠ 0 := by
  unfold decR at h
  split at h
  · unfold bookR at h
    split at h
    · rename_i c' hc
      injection h with h
      subst h
      exact numR_err hc
    · split at h
      · rename_i c' hc
        injection h with h
        subst h
        exact frmR_err hc
      · unfold repsR at h
        split at h
        · rename_i c' hc
          injection h with h
          subst h
          exact numR_err hc
        · split at h
          · injection h with h; omega
          · split at h
            · rename_i c' hc
              injection h with h
              subst h
              exact manyE_ne (fun a c h => repR_ne h) (fun _ => rfl) (fun _ _ => rfl) _ _ _ hc
            · unfold secsR at h
              split at h
              · injection h with h; omega
              · split at h
                · rename_i c' hc
                  injection h with h
                  subst h
                  exact manyE_ne (fun a c h => secR_ne h) (fun _ => rfl) (fun _ _ => rfl) _ _ _ hc
                · unfold endR at h
                  split at h
                  · cases h
                  · injection h with h; omega
  · injection h with h; omega

/-- What Load answers. -/
theorem so_Load (s : ByteArray) (w : World) (hs : s.size ≤ 562949953421311) :
    Calls Tryz.prog 5 #[.string s] w fun e w' => ∃ c err, e = .returned (.tuple #[c, err]) ∧ Below w.heap.size w w' ∧ match decR s with | .ok b => CkAt w' c b.secs | .error _ => c = .pointer none := by
  have hD := Decode_b s w hs
  cases hr : decR s with
  | error code =>
    rw [hr] at hD
    have HD := Lib.hid hD
    have hcne : code ≠ 0 := decR_err hr
    have q1 : ((code : Int) != 0) = true := by rw [bne_iff_ne]; omega
    clear hD hr
    go_enter Tryz.func5, Tryz.ntmps5
    go_wp2_with fail
    refine HD.out.mono ?_
    rintro e w1 ⟨vr, v0, v1, v2, v3, rfl, hb1, hk1⟩
    have HB1 := Lib.hid hb1
    obtain ⟨X, k, X0, n0, k0, X1, n1, k1, X2, n2, k2, X3, n3, k3, rfl, rfl, rfl, rfl, rfl⟩ := hk1.form
    clear hb1 hk1
    dsimp only [decB]
    go_wp2_with fail
    go_ret2
    exact ⟨_, _, rfl, HB1.out.alloc HB1.out.size _, rfl⟩
  | ok b =>
    rw [hr] at hD
    have HD := Lib.hid hD
    clear hD
    have hbd := decR_bounds hr
    have HBD := Lib.hid hbd
    clear hbd hr
    go_enter Tryz.func5, Tryz.ntmps5
    go_wp2_with fail
    refine HD.out.mono ?_
    rintro e w1 ⟨vr, v0, v1, v2, v3, rfl, hb1, hk1⟩
    have HB1 := Lib.hid hb1
    have HK1 := Lib.hid hk1
    obtain ⟨X, k, X0, n0, k0, X1, n1, k1, X2, n2, k2, X3, n3, k3, rfl, rfl, rfl, rfl, rfl⟩ := hk1.form
    clear hb1 hk1
    dsimp only [decB]
    go_wp2_with fail
    go_ret2
    refine ⟨_, _, rfl, (HB1.out.alloc HB1.out.size _).alloc (by simp; have := HB1.out.size; omega) _, ?_⟩
    obtain ⟨-, -, hl, hb⟩ := HBD.out
    have hnew := fun o => heap_alloc_new (w1.alloc (.cells #[.int .i64 (b.least : Int), .string b.tryT, .slice X b.reps.length k, .slice X0 n0 k0, .slice X1 n1 k1, .slice X2 n2 k2, .slice X3 n3 k3] 49)) o
    simp only [World.size_alloc] at hnew
    refine ⟨_, _, _, _, _, _, _, _, _, rfl, hnew _, hl, (HK1.out.secs.keep (below_alloc w1 _)).keep (below_alloc _ _), fun A hA => ⟨(hb A hA).1, (hb A hA).2.2⟩⟩
end Go.Proofs.YthfndmpigpphoaaGreat
