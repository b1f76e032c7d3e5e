/-
  Rows compared.
-/
import Derived.Test.YtbhfkhfnljddhaaDoorRows
import Derived.Test.YtbhfkhfnljddhaaDoorRows3
namespace Go.Proofs.YtbhfkhfnljddhaaDoor
open Go.RowKit

theorem rowCells_at (rs : List RowIn) (k : Nat) (h : k < rs.length) : (rowCells rs)[2 * k]? = some (.int .i64 rs[k].1) ∧ (rowCells rs)[2 * k + 1]? = some rs[k].2.1 := by
  induction rs generalizing k with
  | nil => simp at h
  | cons r rs ih =>
    have e : rowCells (r :: rs) = [.int .i64 r.1, r.2.1] ++ rowCells rs := by simp [rowCells]
    rw [e]
    cases k with
    | zero => simp
    | succ k =>
      have := ih k (by simpa using h)
      rw [List.getElem?_append_right (by simp; omega), List.getElem?_append_right (by simp; omega)]
      simpa [show 2 * (k + 1) - 2 = 2 * k by omega, show 2 * (k + 1) + 1 - 2 = 2 * k + 1 by omega] using this

theorem sameWords_yes (v1 v2 : Value) (ws : List ByteArray) (w : World) (h1 : Rd w 1 v1 ws.length (strV ws)) (h2 : Rd w 1 v2 ws.length (strV ws)) (hl : ws.length ≤ 4611686018427387904) :
    Calls Tryd.prog 16 #[v1, v2] w fun e w' => e = .returned (.bool true) ∧ ∃ n, w' = w.drewN n := by
  have h := sameWords_any v1 v2 ws ws w h1 h2 hl
  rw [decide_eq_true rfl] at h
  exact h

theorem sameWords_quiet (v1 v2 : Value) (ws : List ByteArray) (w : World) (m x : Nat) (h1 : Rd w 1 v1 ws.length (strV ws)) (h2 : Rd w 1 v2 ws.length (strV ws)) (hl : ws.length ≤ 4611686018427387904) :
    Calls Tryd.prog 16 #[v1, v2] (w.drewN (m + x)) fun e w' => e = .returned (.bool true) ∧ ∃ n, w' = w.drewN (m + n) :=
  (sameWords_yes v1 v2 ws _ (h1.drewN _) (h2.drewN _) hl).mono fun _ _ ⟨he, n, hn⟩ => ⟨he, x + n, by rw [hn, World.drewN_drewN, Nat.add_assoc]⟩

set_option maxRecDepth 100000 in
set_option maxHeartbeats 4000000 in
theorem sameRows_same (v1 v2 : Value) (B1 B2 : Nat) (rs1 rs2 : List RowIn) (w : World) (h1 : w.ownsRow B1 57 2 v1 rs1.length (rowCells rs1)) (h2 : w.ownsRow B2 58 2 v2 rs2.length (rowCells rs2))
    (r1 : rowsRead w rs1) (r2 : rowsRead w rs2) (he : rowAbs rs1 = rowAbs rs2) (hl : rs1.length ≤ 65536) (hw : ∀ r ∈ rs1, r.2.2.length ≤ 65537) :
    Calls Tryd.prog 31 #[v1, v2] w fun e w' => e = .returned (.bool true) ∧ Below w.heap.size w w' := by
  have hlen : rs1.length = rs2.length := by have := congrArg List.length he; simpa [rowAbs] using this
  by_cases h0 : rs1.length = 0
  · have e1 : rs1 = [] := List.eq_nil_of_length_eq_zero h0
    have e2 : rs2 = [] := List.eq_nil_of_length_eq_zero (by omega)
    subst e1 e2
    obtain ⟨A1, c1, rfl⟩ := own_slice h1
    obtain ⟨A2, c2, rfl⟩ := own_slice h2
    clear h1 h2 r1 r2 hw
    go_enter Tryd.func31, Tryd.ntmps31
    go_wp2_with fail
    go_loopw [13] (fun i wr => i = .int .i64 0 ∧ wr = w) (fun i _ => 1)
    case atStart => exact ⟨rfl, rfl⟩
    case round =>
      obtain ⟨rfl, rfl⟩ := hrel
      go_wp2_with fail
      go_ret
      exact ⟨rfl, Below.refl _ _⟩
  · obtain ⟨g1, c1, rfl, hc1⟩ := own_some h1 h0
    obtain ⟨g2, c2, rfl, hc2⟩ := own_some h2 (by omega)
    have HC1 : Hid (∀ k (h : k < rs1.length), w.cell? ⟨g1, k * 2, none⟩ = some (.int .i64 rs1[k].1) ∧ w.cell? ⟨g1, k * 2 + 1, none⟩ = some rs1[k].2.1) := Lib.hid fun k h => by
      obtain ⟨a, b⟩ := rowCells_at rs1 k h
      rw [Nat.mul_comm] at a b
      have a' := h1.cells (g := g1) rfl _ _ a
      have b' := h1.cells (g := g1) rfl _ _ b
      rw [row_addr] at a' b'
      exact ⟨a', b'⟩
    have HC2 : Hid (∀ k (h : k < rs2.length), w.cell? ⟨g2, k * 2, none⟩ = some (.int .i64 rs2[k].1) ∧ w.cell? ⟨g2, k * 2 + 1, none⟩ = some rs2[k].2.1) := Lib.hid fun k h => by
      obtain ⟨a, b⟩ := rowCells_at rs2 k h
      rw [Nat.mul_comm] at a b
      have a' := h2.cells (g := g2) rfl _ _ a
      have b' := h2.cells (g := g2) rfl _ _ b
      rw [row_addr] at a' b'
      exact ⟨a', b'⟩
    have HEq : Hid (∀ k (h : k < rs1.length) (h' : k < rs2.length), rs2[k].1 = rs1[k].1 ∧ rs2[k].2.2 = rs1[k].2.2) := Lib.hid fun k h h' => by
      have e1 : (rowAbs rs1)[k]'(by simpa [rowAbs] using h) = (rowAbs rs2)[k]'(by simpa [rowAbs] using h') := by simp only [he]
      simp only [rowAbs, List.getElem_map, Prod.mk.injEq] at e1
      exact ⟨e1.1.symm, e1.2.symm⟩
    have HR1 := Lib.hid r1
    have HR2 := Lib.hid r2
    have HW := Lib.hid hw
    clear h1 h2 r1 r2 hw he
    obtain ⟨n2, hn2⟩ : ∃ n2, n2 = rs2.length := ⟨_, rfl⟩
    have HN : Hid (n2 = rs1.length) := Lib.hid (by omega)
    have HN2 := Lib.hid hn2
    rw [show rs2.length = rs1.length by omega]
    have HLen := Lib.hid hlen
    have hc2' : rs1.length ≤ c2 := by omega
    clear hn2 hlen hc2
    go_enter Tryd.func31, Tryd.ntmps31
    go_wp2_with fail
    go_loopw [13] (fun i wr => ∃ k m : Nat, k ≤ rs1.length ∧ i = .int .i64 k ∧ wr = w.drewN m) (fun i _ => rs1.length - (intOf i).toNat)
    case atStart => exact ⟨0, 0, Nat.zero_le _, rfl, rfl⟩
    case round =>
      obtain ⟨k, m, hk, rfl, rfl⟩ := hrel
      by_cases hlt : k < rs1.length
      · have hlt2 : k < rs2.length := by have := HLen.out; omega
        obtain ⟨a1, b1⟩ := HC1.out k hlt
        obtain ⟨a2, b2⟩ := HC2.out k hlt2
        obtain ⟨e1, e2⟩ := HEq.out k hlt hlt2
        have R1 := HR1.out rs1[k] (List.getElem_mem _)
        have R2 := HR2.out rs2[k] (List.getElem_mem _)
        have hws := HW.out rs1[k] (List.getElem_mem _)
        rw [e1] at a2
        rw [e2] at R2
        obtain ⟨⟨n, u1, ws⟩, hr1⟩ : ∃ r, rs1[k] = r := ⟨_, rfl⟩
        rw [hr1] at a1 b1 a2 R1 R2 hws
        obtain ⟨u2, hu2⟩ : ∃ u2, rs2[k].2.1 = u2 := ⟨_, rfl⟩
        rw [hu2] at b2 R2
        have HR1' := Lib.hid R1.rd
        have HR2' := Lib.hid R2.rd
        obtain ⟨_, A1, cc1, hu1', _⟩ := R1
        obtain ⟨_, A2, cc2, hu2', _⟩ := R2
        dsimp only at a1 b1 a2 b2 hws hu1' hu2'
        clear hr1 hu2 e1 e2 hlt2
        subst hu1' hu2'
        go_wp2_with fail
        go_quiet (first | (go_at_call 16; exact sameWords_quiet _ _ ws _ _ _ HR1'.out HR2'.out (by omega)))
        go_wp2_with fail
        go_roundw
        case rel => exact ⟨k + 1, _, by omega, by go_num, rfl⟩
        case measure => simp [intOf] <;> omega
      · obtain rfl : k = rs1.length := by omega
        go_wp2_with fail
        go_ret
        exact ⟨rfl, below_drewN (Below.refl _ _) _⟩
end Go.Proofs.YtbhfkhfnljddhaaDoor
