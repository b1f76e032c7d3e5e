/-
  The reference's fewest walked: the document's table of the fewest pieces.
-/
import Derived.Test.YthfndmpigpphoaaGreatRows
import Derived.Test.YthfndmpigpphoaaGreatJn0
import Derived.BigQuiet
import Derived.Deep.OwnRows
namespace Go.Proofs.YthfndmpigpphoaaGreat
open Go.RowKit

theorem int_info : (Tryz.prog.info? 3).map (fun i => (i.zero, i.size, i.bytes)) = some (some (.int .i64 0), 1, 8) := by kernel_rfl
/-- A row of n + 1 ints in the block g. -/
def RowF (w : World) (g n : Nat) (f : Nat → Int) : Prop := ∃ cs, w.heap[g]? = some (.cells cs 3 (0, 0)) ∧ cs.size = n + 1 ∧ ∀ j, j ≤ n → cs[j]? = some (.int .i64 (f j))
theorem RowF.cell {w : World} {g n : Nat} {f : Nat → Int} (h : RowF w g n f) (j : Nat) (hj : j ≤ n) : w.cell? ⟨g, j, none⟩ = some (.int .i64 (f j)) := by
  obtain ⟨cs, hc, _, hx⟩ := h
  rw [Lib.cell_of_heap hc]; exact hx j hj
theorem RowF.fz {w : World} {g n : Nat} {f : Nat → Int} (h : RowF w g n f) (j : Nat) : w.frozen? ⟨g, j, none⟩ = false := by
  obtain ⟨cs, hc, _⟩ := h
  exact Lib.frozen_of_heap hc j
theorem RowF.drewN {w : World} {g n : Nat} {f : Nat → Int} (h : RowF w g n f) (k : Nat) : RowF (w.drewN k) g n f := h
theorem RowF.congr {w : World} {g n : Nat} {f f' : Nat → Int} (h : RowF w g n f) (he : ∀ j, j ≤ n → f j = f' j) : RowF w g n f' := by
  obtain ⟨cs, hc, hn, hx⟩ := h
  exact ⟨cs, hc, hn, fun j hj => by rw [← he j hj]; exact hx j hj⟩
theorem RowF.set {w : World} {g n : Nat} {f : Nat → Int} (h : RowF w g n f) (i : Nat) (x : Int) : RowF (w.setCell ⟨g, i, none⟩ (.int .i64 x)) g n (fun j => if j = i then x else f j) := by
  obtain ⟨cs, hc, hn, hx⟩ := h
  refine ⟨_, Go.heap_setCell_same w g i _ _ _ hc, by simp [hn], fun j hj => ?_⟩
  by_cases e : j = i
  · subst e
    show _ = some (Value.int .i64 (if j = j then x else f j))
    rw [if_pos rfl]
    simp [hn, Nat.lt_succ_of_le hj]
  · show _ = some (Value.int .i64 (if j = i then x else f j))
    rw [if_neg e, Array.getElem?_setIfInBounds_ne (Ne.symm e)]
    exact hx j hj
theorem RowF.new (w : World) (n : Nat) : RowF (w.alloc (.cells (madeCells #[Value.int .i64 0] (n + 1)) 3)) w.heap.size n (fun _ => 0) := by
  refine ⟨madeCells #[Value.int .i64 0] (n + 1), heap_alloc_new w _, size_madeCells _ _, fun j hj => ?_⟩
  rw [← Array.getElem?_toList, toList_madeCells_one]
  simp [Nat.lt_succ_of_le hj]
/-- The table of the pieces in memory: n rows of n + 1 answers. -/
def TabAt (w : World) (v : Value) (n : Nat) (p : Nat → Nat → Bool) : Prop := ∃ P c, v = .slice P n c ∧ (n = 0 ∨ ∃ g o, P = some ⟨g, o, none⟩ ∧ ∀ i, i < n → ∃ g2 o2 c2, w.cell? ⟨g, o + i, none⟩ = some (.slice (some ⟨g2, o2, none⟩) (n + 1) c2) ∧ ∀ j, j ≤ n → w.cell? ⟨g2, o2 + j, none⟩ = some (.bool (p i j)))

/-- The document's table behind m places from the end on. -/
def fewG (n : Nat) (p : Nat → Nat → Bool) : Nat → Nat → Int
  | 0 => fun _ => 0
  | m + 1 => fun j => if j = n - 1 - m then fewR n (n - 1 - m) (fewG n p m) (p (n - 1 - m)) (List.range' (n - m) (m + 1)) else fewG n p m j
theorem foldR_bd {n i : Nat} {g : Nat → Int} {p : Nat → Bool} {M : Int} (hM : 0 ≤ M) (hg : ∀ k, g k ≤ M) (ks : List Nat) : -1 ≤ ks.foldl (stepR n i g p) (-1) ∧ ks.foldl (stepR n i g p) (-1) ≤ M + 1 := by
  rcases (foldR (n := n) (i := i) (g := g) (p := p) ks (-1) (by omega)).1 with h | ⟨k, _, h1, h2⟩
  · rw [h]; omega
  · rw [← h2]
    have := hg k
    have := h1.2.1
    omega
theorem fewG_bd {n : Nat} {p : Nat → Nat → Bool} : ∀ (m j : Nat), -1 ≤ fewG n p m j ∧ fewG n p m j ≤ m
  | 0, j => by rw [fewG]; show (-1 : Int) ≤ 0 ∧ (0 : Int) ≤ ((0 : Nat) : Int); omega
  | m + 1, j => by
    rw [fewG]
    dsimp only
    split
    · have := foldR_bd (n := n) (i := n - 1 - m) (g := fewG n p m) (p := p (n - 1 - m)) (M := m) (by omega) (fun k => (fewG_bd m k).2) (List.range' (n - m) (m + 1))
      unfold fewR
      omega
    · have := fewG_bd (n := n) (p := p) m j
      omega

set_option maxHeartbeats 2000000 in
set_option maxRecDepth 100000 in
theorem so_fewest (v : Value) (n : Nat) (p : Nat → Nat → Bool) (w : World) (h : TabAt w v n p) (hn : n ≤ 1024) (hn0 : 0 < n) :
    Calls Tryz.prog 43 #[v, .int .i64 n] w fun e w' => e = .returned (.slice (some ⟨w.heap.size, 0, none⟩) (n + 1) (n + 1)) ∧ RowF w' w.heap.size n (fewG n p n) ∧ Below w.heap.size w w' := by
  have hmk := run_make_row' (P := Tryz.prog) 72 3 (.int .i64 0) 8 Tryz.underlying72 int_info rfl .i64 .i64 (n + 1) (by omega) (by omega) w
  obtain ⟨P, c, rfl, h0⟩ := h
  have HT := Lib.hid h0
  have HR0 := Lib.hid (RowF.new w n)
  have HB0 := Lib.hid ((Below.refl w.heap.size w).alloc (Nat.le_refl _) (.cells (madeCells #[Value.int .i64 0] (n + 1)) 3))
  rw [show ((n + 1 : Nat) : Int) = (n : Int) + 1 from rfl] at hmk
  clear h0
  go_enter Tryz.func43, Tryz.ntmps43
  go_wp2_with fail
  obtain ⟨w1, hw1⟩ : ∃ w1, w.alloc (.cells (madeCells #[Value.int .i64 0] (n + 1)) 3) = w1 := ⟨_, rfl⟩
  rw [hw1] at HR0 HB0 ⊢
  go_loopw [6] (fun i wr => ∃ m : Nat, m ≤ n ∧ i = .int .i64 ((n : Int) - 1 - m) ∧ Hid (RowF wr w.heap.size n (fewG n p m)) ∧ Hid (Below w.heap.size w wr)) (fun i _ => (intOf i + 1).toNat)
  case atStart => exact ⟨0, Nat.zero_le _, by simp, HR0, HB0⟩
  case round =>
    obtain ⟨m, hm, rfl, HR, HB⟩ := hrel
    by_cases hlt : m < n
    · obtain ⟨i, hi⟩ : ∃ i, i = n - 1 - m := ⟨_, rfl⟩
      have hii : (n : Int) - 1 - m = (i : Int) := by omega
      have hin : i < n := by omega
      have hrm : n - m = i + 1 := by omega
      rw [hii]
      have HM := Lib.hid (show m = n - 1 - i by omega)
      have HG := Lib.hid (show ∀ j, fewG n p (m + 1) j = if j = i then fewR n i (fewG n p m) (p i) (List.range' (i + 1) (m + 1)) else fewG n p m j from fun j => by
        rw [fewG]; dsimp only; rw [← hi, hrm])
      have hbd := fewG_bd (n := n) (p := p) m
      have HBD := Lib.hid hbd
      obtain ⟨G, hGG⟩ : ∃ G, fewG n p m = G := ⟨_, rfl⟩
      rw [hGG] at HG HR HBD
      have HGG := Lib.hid hGG
      have c0 := HR.out.cell i (by omega)
      have f0 := HR.out.fz i
      have H0 := Lib.hid (HR.out.set i (-1))
      have HBs := Lib.hid (HB.out.setCell (p := ⟨w.heap.size, i, none⟩) (Nat.le_refl _) (.int .i64 (-1)))
      clear hi hii hrm hbd hGG
      obtain ⟨wo, rfl⟩ : ∃ wo : World, wo = wr := ⟨_, rfl⟩
      go_wp2_with fail
      go_loopw [7] (fun k' wr => ∃ k : Nat, i + 1 ≤ k ∧ k ≤ n + 1 ∧ k' = .int .i64 (k : Int) ∧ Hid (RowF wr w.heap.size n (fun j => if j = i then (List.range' (i + 1) (k - (i + 1))).foldl (stepR n i G (p i)) (-1) else G j)) ∧ Hid (Below w.heap.size w wr)) (fun k _ => ((n : Int) + 1 - intOf k).toNat)
      case atStart => exact ⟨i + 1, by omega, by omega, by simp, Lib.hid (by rw [Nat.sub_self]; exact H0.out), HBs⟩
      case round =>
        obtain ⟨k, hk1, hk2, rfl, HRk, HBk⟩ := hrel
        by_cases hkn : k ≤ n
        · obtain ⟨g, o, rfl, hrows⟩ := HT.out.resolve_left (by omega)
          obtain ⟨g2, o2, c2, hci, hcells⟩ := hrows i hin
          have t0 := (HBk.out.cell (World.block_lt_of_cell? w _ hci)).trans hci
          have hck := hcells k hkn
          have t1 := (HBk.out.cell (World.block_lt_of_cell? w _ hck)).trans hck
          have u0 := HRk.out.cell i (by omega)
          have u1 := HRk.out.cell k hkn
          have uf := HRk.out.fz i
          obtain ⟨a, ha⟩ : ∃ a, (List.range' (i + 1) (k - (i + 1))).foldl (stepR n i G (p i)) (-1) = a := ⟨_, rfl⟩
          have hst : (List.range' (i + 1) (k + 1 - (i + 1))).foldl (stepR n i G (p i)) (-1) = stepR n i G (p i) a k := by
            rw [show k + 1 - (i + 1) = (k - (i + 1)) + 1 by omega, List.range'_1_concat, List.foldl_append, ha, show i + 1 + (k - (i + 1)) = k by omega]
            rfl
          rw [show (if i = i then (List.range' (i + 1) (k - (i + 1))).foldl (stepR n i G (p i)) (-1) else G i) = a from by rw [if_pos rfl, ha]] at u0
          rw [show (if k = i then (List.range' (i + 1) (k - (i + 1))).foldl (stepR n i G (p i)) (-1) else G k) = G k from if_neg (by omega)] at u1
          rw [ha] at HRk
          have HSM := Lib.hid (show ¬ okR n i G (p i) k → ∀ j, j ≤ n → (fun j => if j = i then a else G j) j = (fun j => if j = i then (List.range' (i + 1) (k + 1 - (i + 1))).foldl (stepR n i G (p i)) (-1) else G j) j from fun hno j _ => by
            dsimp only
            rw [hst, stepR, if_neg hno])
          have HSS := Lib.hid (show okR n i G (p i) k → (a < 0 ∨ G k + 1 < a) → ∀ j, j ≤ n → (fun j => if j = i then G k + 1 else (fun j => if j = i then a else G j) j) j = (fun j => if j = i then (List.range' (i + 1) (k + 1 - (i + 1))).foldl (stepR n i G (p i)) (-1) else G j) j from fun hy ht j _ => by
            dsimp only
            rw [hst, stepR, if_pos hy, if_pos ht]
            by_cases e : j = i
            · rw [if_pos e, if_pos e]
            · rw [if_neg e, if_neg e, if_neg e])
          have HSK := Lib.hid (show okR n i G (p i) k → ¬ (a < 0 ∨ G k + 1 < a) → ∀ j, j ≤ n → (fun j => if j = i then a else G j) j = (fun j => if j = i then (List.range' (i + 1) (k + 1 - (i + 1))).foldl (stepR n i G (p i)) (-1) else G j) j from fun hy ht j _ => by
            dsimp only
            rw [hst, stepR, if_pos hy, if_neg ht])
          have hgb := HBD.out k
          have hgb1 := hgb.1
          have hgb2 : G k ≤ 1024 := by have := hgb.2; omega
          clear hrows hci hcells hck ha hst hgb
          cases hpk : p i k
          · have HNO := Lib.hid (show ¬ okR n i G (p i) k from fun h => by have := h.1; rw [hpk] at this; cases this)
            rw [hpk] at t1
            go_wp2_with fail
            go_roundw
            case rel => exact ⟨k + 1, by omega, by omega, by go_num, Lib.hid (HRk.out.congr (HSM.out HNO.out)), HBk⟩
            case measure => simp [intOf]; omega
          · rw [hpk] at t1
            by_cases hg0 : G k < 0
            · have HNO := Lib.hid (show ¬ okR n i G (p i) k from fun h => by have := h.2.1; omega)
              go_wp2_with fail
              go_roundw
              case rel => exact ⟨k + 1, by omega, by omega, by go_num, Lib.hid (HRk.out.congr (HSM.out HNO.out)), HBk⟩
              case measure => simp [intOf]; omega
            · by_cases hi0 : i = 0
              · by_cases hkk : k = n
                · have HNO := Lib.hid (show ¬ okR n i G (p i) k from fun h => h.2.2 ⟨hi0, hkk⟩)
                  have qi : ((i : Int) == 0) = true := by rw [beq_iff_eq]; omega
                  have qk : ((k : Int) == (n : Int)) = true := by rw [beq_iff_eq]; omega
                  clear hi0 hkk
                  go_wp2_with fail
                  go_roundw
                  case rel => exact ⟨k + 1, by omega, by omega, by go_num, Lib.hid (HRk.out.congr (HSM.out HNO.out)), HBk⟩
                  case measure => simp [intOf]; omega
                · have qi : ((i : Int) == 0) = true := by rw [beq_iff_eq]; omega
                  have qk : ((k : Int) == (n : Int)) = false := by rw [beq_eq_false_iff_ne]; omega
                  have HYES := Lib.hid (show okR n i G (p i) k from ⟨hpk, by omega, fun h => hkk h.2⟩)
                  clear hi0
                  by_cases ha0 : a < 0
                  · have HTK := Lib.hid (show a < 0 ∨ G k + 1 < a from .inl ha0)
                    go_wp2_with fail
                    go_quiet (fail)
                    go_wp2_with fail
                    go_roundw
                    case rel => exact ⟨k + 1, by omega, by omega, by go_num, Lib.hid (((HRk.out.drewN _).set i (G k + 1)).congr (HSS.out HYES.out HTK.out)), Lib.hid ((below_drewN HBk.out _).setCell (p := ⟨w.heap.size, i, none⟩) (Nat.le_refl _) _)⟩
                    case measure => simp [intOf]; omega
                  · have qa0 : decide (a < 0) = false := decide_eq_false ha0
                    by_cases ha1 : G k + 1 < a
                    · have qa1 : decide (G k + 1 < a) = true := decide_eq_true ha1
                      have HTK := Lib.hid (show a < 0 ∨ G k + 1 < a from .inr ha1)
                      go_wp2_with fail
                      go_quiet (fail)
                      go_wp2_with fail
                      go_roundw
                      case rel => exact ⟨k + 1, by omega, by omega, by go_num, Lib.hid (((HRk.out.drewN _).set i (G k + 1)).congr (HSS.out HYES.out HTK.out)), Lib.hid ((below_drewN HBk.out _).setCell (p := ⟨w.heap.size, i, none⟩) (Nat.le_refl _) _)⟩
                      case measure => simp [intOf]; omega
                    · have qa1 : decide (G k + 1 < a) = false := decide_eq_false ha1
                      have HTK := Lib.hid (show ¬ (a < 0 ∨ G k + 1 < a) from by omega)
                      go_wp2_with fail
                      go_quiet (fail)
                      go_wp2_with fail
                      go_roundw
                      case rel => exact ⟨k + 1, by omega, by omega, by go_num, Lib.hid ((HRk.out.drewN _).congr (HSK.out HYES.out HTK.out)), Lib.hid (below_drewN HBk.out _)⟩
                      case measure => simp [intOf]; omega
              · have qi : ((i : Int) == 0) = false := by rw [beq_eq_false_iff_ne]; omega
                have HYES := Lib.hid (show okR n i G (p i) k from ⟨hpk, by omega, fun h => hi0 h.1⟩)
                by_cases ha0 : a < 0
                · have HTK := Lib.hid (show a < 0 ∨ G k + 1 < a from .inl ha0)
                  go_wp2_with fail
                  go_quiet (fail)
                  go_wp2_with fail
                  go_roundw
                  case rel => exact ⟨k + 1, by omega, by omega, by go_num, Lib.hid (((HRk.out.drewN _).set i (G k + 1)).congr (HSS.out HYES.out HTK.out)), Lib.hid ((below_drewN HBk.out _).setCell (p := ⟨w.heap.size, i, none⟩) (Nat.le_refl _) _)⟩
                  case measure => simp [intOf]; omega
                · have qa0 : decide (a < 0) = false := decide_eq_false ha0
                  by_cases ha1 : G k + 1 < a
                  · have qa1 : decide (G k + 1 < a) = true := decide_eq_true ha1
                    have HTK := Lib.hid (show a < 0 ∨ G k + 1 < a from .inr ha1)
                    go_wp2_with fail
                    go_quiet (fail)
                    go_wp2_with fail
                    go_roundw
                    case rel => exact ⟨k + 1, by omega, by omega, by go_num, Lib.hid (((HRk.out.drewN _).set i (G k + 1)).congr (HSS.out HYES.out HTK.out)), Lib.hid ((below_drewN HBk.out _).setCell (p := ⟨w.heap.size, i, none⟩) (Nat.le_refl _) _)⟩
                    case measure => simp [intOf]; omega
                  · have qa1 : decide (G k + 1 < a) = false := decide_eq_false ha1
                    have HTK := Lib.hid (show ¬ (a < 0 ∨ G k + 1 < a) from by omega)
                    go_wp2_with fail
                    go_quiet (fail)
                    go_wp2_with fail
                    go_roundw
                    case rel => exact ⟨k + 1, by omega, by omega, by go_num, Lib.hid ((HRk.out.drewN _).congr (HSK.out HYES.out HTK.out)), Lib.hid (below_drewN HBk.out _)⟩
                    case measure => simp [intOf]; omega
        · obtain rfl : k = n + 1 := by omega
          go_wp2_with fail
          go_roundw
          case rel => exact ⟨m + 1, by omega, by rw [show (i : Int) = (n : Int) - 1 - m by have := HM.out; omega]; go_num, Lib.hid (HRk.out.congr (fun j hj => by rw [HG.out, show n + 1 - (i + 1) = m + 1 by have := HM.out; omega]; rfl)), HBk⟩
          case measure => simp [intOf]
    · obtain rfl : m = n := by omega
      go_wp2_with fail
      go_ret
      exact ⟨rfl, HR.out, HB.out⟩
end Go.Proofs.YthfndmpigpphoaaGreat
