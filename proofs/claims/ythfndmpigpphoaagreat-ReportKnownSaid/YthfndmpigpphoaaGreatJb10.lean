/-
  Both tell the same texts joined; the reference's Known.
-/
import Derived.Test.YthfndmpigpphoaaGreatRows
import Derived.Test.YthfndmpigpphoaaGreatJb9
import Derived.Test.YthfndmpigpphoaaGreatJn4
namespace Go.Proofs.YthfndmpigpphoaaGreat
open Go.RowKit Go.Shelf

theorem few_law {n : Nat} {E : Nat → List Nat} {p : Nat → Nat → Bool} (hE : ∀ i, i < n → ∀ k ∈ E i, i < k ∧ k ≤ n) (hp : ∀ i k, p i k = decide (k ∈ E i)) : ∀ (m j : Nat), m ≤ n → n - m ≤ j → j ≤ n → fewG n p m j = asR n (fewF n E m) j
  | 0, j, _, hj, hn => by
    have : j = n := by omega
    subst this
    unfold fewG asR
    rw [if_pos rfl]
  | m + 1, j, hm, hj, hn => by
    have ih := few_law hE hp m
    unfold fewG
    by_cases hi : j = n - 1 - m
    · rw [if_pos hi]
      have hl : n - 1 - m < n := by omega
      have h0 : fewF n E m n = 0 := by
        have := fewF_keep (n := n) (E := E) 0 m n (by omega) (by omega)
        rw [Nat.zero_add] at this
        rw [this]; rfl
      rw [few_same (f := fewF n E m) (E := E (n - 1 - m)) h0 (fun k h1 h2 => ih k (by omega) (by omega) h2) (hE _ hl) (fun k => by rw [List.mem_range'_1]; omega) (fun k _ _ => by rw [hp]; simp)]
      subst hi
      unfold asR
      rw [if_neg (show ¬ n - 1 - m = n by omega)]
      have e : fewF n E (m + 1) (n - 1 - m) = fewK n (n - 1 - m) (fewF n E m) (E (n - 1 - m)) := by
        rw [fewF]; dsimp only; rw [if_pos rfl]
      rw [e]
    · rw [if_neg hi, ih j (by omega) (by omega) hn]
      have e : fewF n E (m + 1) j = fewF n E m j := by
        rw [fewF]; dsimp only; rw [if_neg hi]
      unfold asR
      rw [e]
theorem joined_same (A : List St) (least : Int) (s : ByteArray) : isJoined s (pieceB A least s.data.toList) = joinB A least s := by
  unfold isJoined joinB
  rcases Nat.eq_zero_or_pos s.size with hz | hz
  · rw [show decide (0 < s.size) = false from decide_eq_false (by omega), hz]
    rfl
  · rw [show decide (0 < s.size) = true from decide_eq_true hz, Bool.true_and]
    congr 1
    have hE : ∀ i, i < s.size → ∀ k ∈ endsOf A least s.data.toList i, i < k ∧ k ≤ s.size := fun i hi k hk => by
      have := endsOf_bd (L := s.data.toList) (by rw [len_toList]; omega) hk
      rwa [len_toList] at this
    rw [few_law (p := pieceB A least s.data.toList) hE (fun _ _ => rfl) s.size 0 (Nat.le_refl _) (by omega) (by omega)]
    unfold asR
    rw [if_neg (by omega)]
    by_cases h : fewF s.size (endsOf A least s.data.toList) s.size 0 = 0
    · rw [if_pos h, h]; rfl
    · rw [if_neg h, decide_eq_true (show _ ≠ 0 from h)]
      exact decide_eq_true (by omega)

set_option maxHeartbeats 2000000 in
set_option maxRecDepth 100000 in
theorem so_rSplit_long (b : Int) (t : ByteArray) (X X0 X1 X2 X3 : Option Addr) (l k l0 k0 l1 k1 l2 k2 l3 k3 : Nat) (s : ByteArray) (w : World) (hbig : 1024 < s.size) :
    Calls Tryz.prog 18 #[.agg #[.int .i64 b, .string t, .slice X l k, .slice X0 l0 k0, .slice X1 l1 k1, .slice X2 l2 k2, .slice X3 l3 k3], .string s] w fun e w' => ∃ P m c, e = .returned (.slice P m c) ∧ m = 0 ∧ Below w.heap.size w w' := by
  have B0 := Lib.hid ((Below.refl w.heap.size w).alloc (Nat.le_refl _) (.cells #[.int .i64 b, .string t, .slice X l k, .slice X0 l0 k0, .slice X1 l1 k1, .slice X2 l2 k2, .slice X3 l3 k3] 33))
  have q0 : ((s.size : Int) == 0) = false := by rw [beq_eq_false_iff_ne]; omega
  have q1 : (1024 : Int) < (s.size : Int) := by omega
  go_enter Tryz.func18, Tryz.ntmps18
  go_wp2_with fail
  go_ret
  exact ⟨_, _, _, rfl, rfl, B0.out⟩

theorem so_rJ (least : Int) (t : ByteArray) (rs : List Rp) (As : List (List St)) (A : List St) (X X0 X1 X2 X3 : Option Addr) (l k l0 k0 l1 k1 l2 k2 l3 k3 : Nat) (s : ByteArray) (w : World)
    (h : BkAt w (fun _ => True) (.slice X l k) (.slice X0 l0 k0) (.slice X1 l1 k1) (.slice X2 l2 k2) (.slice X3 l3 k3) rs As) (hA : As[1]? = some A) (hsh : shapeB A = true) :
    Calls Tryz.prog 18 #[.agg #[.int .i64 least, .string t, .slice X l k, .slice X0 l0 k0, .slice X1 l1 k1, .slice X2 l2 k2, .slice X3 l3 k3], .string s] w fun e w' => ∃ P m c, e = .returned (.slice P m c) ∧ decide (0 < m) = joinB A least s ∧ Below w.heap.size w w' := by
  by_cases hn : s.size ≤ 1024
  · obtain ⟨hl1, hE1⟩ := List.getElem?_eq_some_iff.1 hA
    have kk := fun W (hW : Below w.heap.size w W) => (h.keep hW).secs 1 hl1
    rw [hE1] at kk
    have k0' := kk w (Below.refl _ _)
    obtain ⟨hlow, hpos, _⟩ := shape_low hsh
    have form : ∃ g1 o1, X1 = some ⟨g1, o1, none⟩ ∧ l1 = A.length := by
      obtain ⟨Ad, cap, hv, -, hA0⟩ := k0'
      obtain ⟨g, o, hP, -⟩ := hA0.resolve_left (by omega)
      injection (show Value.slice X1 l1 k1 = .slice Ad A.length cap from hv) with e1 e2 e3
      exact ⟨g, o, e1.trans hP, e2⟩
    obtain ⟨g1, o1, rfl, rfl⟩ := form
    have hcells : ∀ W, Below w.heap.size w W → ∀ q (h : q < A.length), W.cell? ⟨g1, o1 + q * 2, none⟩ = some (.bool A[q].1) := fun W hW q hq => by
      obtain ⟨Ad, cap, hv, -, hA0⟩ := kk W hW
      obtain ⟨g, o, hP, -, -, hcs⟩ := hA0.resolve_left (by omega)
      injection (show Value.slice (some ⟨g1, o1, none⟩) A.length k1 = .slice Ad A.length cap from hv) with e1 e2 e3
      rw [hP] at e1
      injection e1 with e1
      injection e1 with e1 e4 e5
      subst e1 e4
      exact (hcs q hq).1
    refine (so_rSplit least t X X0 (some ⟨g1, o1, none⟩) X2 X3 l k l0 k0 A.length k1 l2 k2 l3 k3 s (pieceB A least s.data.toList) w (fun i j h => pieceB_lt h) (by unfold maxLen; omega) (fun W hW => so_table_ least t X X0 X2 X3 g1 o1 l k l0 k0 k1 l2 k2 l3 k3 s A W hn hlow
      (fun W' hW' => hcells W' (hW.trans (hW'.mono hW.size))) (fun W' hW' q c hq => so_rStep _ A q c W' (kk W' (hW.trans (hW'.mono hW.size))) hq))).mono ?_
    rintro e w' ⟨P, m, c, rfl, hm, hb⟩
    exact ⟨P, m, c, rfl, hm.trans (joined_same A least s), hb⟩
  · refine (so_rSplit_long least t X X0 X1 X2 X3 l k l0 k0 l1 k1 l2 k2 l3 k3 s w (by omega)).mono ?_
    rintro e w' ⟨P, m, c, rfl, rfl, hb⟩
    exact ⟨P, 0, c, rfl, by rw [joinB, decide_eq_false hn, Bool.false_and]; rfl, hb⟩

set_option maxHeartbeats 2000000 in
set_option maxRecDepth 100000 in
theorem so_rKnown (least : Int) (t : ByteArray) (rs : List Rp) (As : List (List St)) (X X0 X1 X2 X3 : Option Addr) (k n0 k0 n1 k1 n2 k2 n3 k3 l : Nat) (s : ByteArray) (w : World)
    (h : BkAt w (fun _ => True) (.slice X l k) (.slice X0 n0 k0) (.slice X1 n1 k1) (.slice X2 n2 k2) (.slice X3 n3 k3) rs As) (hl : As.length = 4) (hsh : ∀ A ∈ As, shapeB A = true) (hs : s.size ≤ 140737488355328) :
    Calls Tryz.prog 8 #[.agg #[.int .i64 least, .string t, .slice X l k, .slice X0 n0 k0, .slice X1 n1 k1, .slice X2 n2 k2, .slice X3 n3 k3], .string s] w fun e w' => e = .returned (.bool (knownB As least s)) ∧ Below w.heap.size w w' := by
  have g : ∀ i, i < 4 → As[i]? = some (As.getD i []) := fun i hi => by
    rw [List.getD_eq_getElem?_getD, List.getElem?_eq_getElem (by omega)]; rfl
  have B0 := Lib.hid ((Below.refl w.heap.size w).alloc (Nat.le_refl _) (.cells #[.int .i64 least, .string t, .slice X l k, .slice X0 n0 k0, .slice X1 n1 k1, .slice X2 n2 k2, .slice X3 n3 k3] 33))
  obtain ⟨w0, hw0⟩ : ∃ w0, w.alloc (.cells #[.int .i64 least, .string t, .slice X l k, .slice X0 n0 k0, .slice X1 n1 k1, .slice X2 n2 k2, .slice X3 n3 k3] 33) = w0 := ⟨_, rfl⟩
  have hnew := heap_alloc_new w (.cells #[.int .i64 least, .string t, .slice X l k, .slice X0 n0 k0, .slice X1 n1 k1, .slice X2 n2 k2, .slice X3 n3 k3] 33)
  rw [hw0] at B0 hnew
  have HN := Lib.hid hnew
  obtain ⟨e0, e1, e2, e3, e4, e5, e6⟩ := cells_seven hnew
  have HBk := Lib.hid h
  have HC := fun W (hW : Below w.heap.size w W) => so_rCheck least t rs As (As.getD 0 []) (As.getD 2 []) (.slice X l k) (.slice X0 n0 k0) (.slice X1 n1 k1) (.slice X2 n2 k2) (.slice X3 n3 k3) s W (HBk.out.keep hW) (g 0 (by omega)) (g 2 (by omega)) (hsh _ (List.mem_of_getElem? (g 0 (by omega)))) (hsh _ (List.mem_of_getElem? (g 2 (by omega)))) hs
  have HJ := fun W (hW : Below w.heap.size w W) => so_rJ least t rs As (As.getD 1 []) X X0 X1 X2 X3 l k n0 k0 n1 k1 n2 k2 n3 k3 s W (HBk.out.keep hW) (g 1 (by omega)) (hsh _ (List.mem_of_getElem? (g 1 (by omega))))
  obtain ⟨r, hr⟩ : ∃ r, chkB (accS (As.getD 0 [])) (accS (As.getD 2 [])) s = r := ⟨_, rfl⟩
  obtain ⟨B, hB⟩ : ∃ B, joinB (As.getD 1 []) least s = B := ⟨_, rfl⟩
  rw [hr] at HC
  rw [hB] at HJ
  have hk : knownB As least s = (r.isSome || B) := by unfold knownB; rw [hr, hB]
  rw [hk]
  have HC := Lib.hid HC
  have HJ := Lib.hid HJ
  have HW0 := Lib.hid hw0
  clear hk hr hB hnew hw0 g h hsh
  cases r with
  | none =>
    go_enter Tryz.func8, Tryz.ntmps8
    go_wp2_with fail
    rw [HW0.out]
    go_wp2_with fail
    refine (HC.out w0 B0.out).mono ?_
    rintro e w1 ⟨rfl, b1⟩
    have B1 := Lib.hid (B0.out.trans (b1.mono B0.out.size))
    obtain ⟨e0, e1, e2, e3, e4, e5, e6⟩ := cells_seven ((b1.block _ (block_lt HN.out)).trans HN.out)
    clear b1
    dsimp only [chkV]
    go_wp2_with fail
    refine (HJ.out w1 B1.out).mono ?_
    rintro e w2 ⟨P, m, c, rfl, rfl, b2⟩
    have B2 := Lib.hid (B1.out.trans (b2.mono B1.out.size))
    clear b2
    go_wp2_with fail
    go_ret
    exact ⟨by simp, B2.out⟩
  | some f =>
    go_enter Tryz.func8, Tryz.ntmps8
    go_wp2_with fail
    rw [HW0.out]
    go_wp2_with fail
    refine (HC.out w0 B0.out).mono ?_
    rintro e w1 ⟨rfl, b1⟩
    have B1 := Lib.hid (B0.out.trans (b1.mono B0.out.size))
    obtain ⟨e0, e1, e2, e3, e4, e5, e6⟩ := cells_seven ((b1.block _ (block_lt HN.out)).trans HN.out)
    clear b1
    dsimp only [chkV]
    go_wp2_with fail
    refine (HJ.out w1 B1.out).mono ?_
    rintro e w2 ⟨P, m, c, rfl, rfl, b2⟩
    have B2 := Lib.hid (B1.out.trans (b2.mono B1.out.size))
    clear b2
    go_wp2_with fail
    go_ret
    exact ⟨rfl, B2.out⟩
end Go.Proofs.YthfndmpigpphoaaGreat
