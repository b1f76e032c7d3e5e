/-
  slices.Backward: the elements from the last to the first.
-/
import Derived.Test.YthfndmpigpphoaaGreatRows
import Derived.Test.YthfndmpigpphoaaGreatJb6b
import Derived.Test.YthfndmpigpphoaaGreatEach
namespace Go.Proofs.YthfndmpigpphoaaGreat
open Go.RowKit Go.Shelf
attribute [local go_sem] Oper.semAt_some

/-- All blocks of cells but those of E stand. -/
def KC (E : List Nat) (A B : World) : Prop := ∀ (b : Nat) (cur : Array Value) (t : TypeId) (fr : Nat × Nat), A.heap[b]? = some (.cells cur t fr) → b ∉ E → B.heap[b]? = some (.cells cur t fr)
theorem KC.refl (E : List Nat) (A : World) : KC E A A := fun _ _ _ _ h _ => h
theorem KC.trans {E : List Nat} {A B C : World} (h : KC E A B) (k : KC E B C) : KC E A C := fun b cur t fr ha hb => k b cur t fr (h b cur t fr ha hb) hb
theorem KC.cell {E : List Nat} {A B : World} (h : KC E A B) {b o : Nat} {v : Value} (hc : A.cell? ⟨b, o, none⟩ = some v) (hb : b ∉ E) : B.cell? ⟨b, o, none⟩ = some v := by
  cases ha : A.heap[b]? with
  | none => simp [World.cell?, ha] at hc
  | some x =>
    cases x with
    | cells cur t fr =>
      rw [Lib.cell_of_heap (h b cur t fr ha hb)]
      rwa [Lib.cell_of_heap ha] at hc
    | _ => simp [World.cell?, ha] at hc
theorem KC.put {E : List Nat} (W : World) (l : Nat) (o o' : Obj) (ho : W.heap[l]? = some o) (hc : o.isCells = false) : KC E W (W.putObj l o') := by
  intro b cur t fr ha hb
  have hne : b ≠ l := by
    rintro rfl
    rw [ho] at ha
    injection ha with ha
    rw [ha] at hc
    cases hc
  rcases Nat.lt_or_ge b W.heap.size with hk | hk
  · exact ((grownBy_putObj' W l o').block b hk (fun e => hne (by cases e; rfl))).trans ha
  · rw [Array.getElem?_eq_none hk] at ha; cases ha

/-- The places that Backward goes through. -/
def backF (n : Nat) : List (Fin n) := (List.finRange n).reverse
theorem backF_len (n : Nat) : (backF n).length = n := by simp [backF]
theorem backF_mem {n : Nat} (j : Fin n) : j ∈ backF n := by simp [backF]
abbrev encB (xs : List Nat) (x : Fin xs.length) : Array Value := #[.int .i64 (x.val : Int), .int .i64 ((xs[x.val] : Nat) : Int)]
theorem backF_at (n : Nat) (q : Nat) (h : q < n) : backF n = (backF n).take q ++ (⟨n - 1 - q, by omega⟩ : Fin n) :: (backF n).drop (q + 1) := by
  have hq : q < (backF n).length := by rw [backF_len]; exact h
  conv => lhs; rw [← List.take_append_drop q (backF n), List.drop_eq_getElem_cons hq]
  congr 2
  simp [backF]
theorem backF_take (n : Nat) (q : Nat) (h : q < n) : (backF n).take (q + 1) = (backF n).take q ++ [(⟨n - 1 - q, by omega⟩ : Fin n)] := by
  have hq : q < (backF n).length := by rw [backF_len]; exact h
  rw [List.take_add_one, List.getElem?_eq_getElem hq]
  have h2 := backF_at n q h
  have h3 : (backF n).drop q = (⟨n - 1 - q, by omega⟩ : Fin n) :: (backF n).drop (q + 1) := List.append_cancel_left ((List.take_append_drop q (backF n)).trans h2)
  rw [List.drop_eq_getElem_cons hq] at h3
  injection h3 with h3
  rw [h3]; rfl

set_option maxRecDepth 100000 in
set_option maxHeartbeats 2000000 in
theorem back_in (n : Nat) (hn : 1 ≤ n) (l Bn : Nat) (E : List Nat) (P : Option Addr) (c : Nat) (xs : List Nat) (hxl : xs.length ≤ 9223372036854775807) (J Jx : List (Fin xs.length) → World → Prop)
    (hY : ∀ pre x W, J pre W → pre.length < xs.length → YieldAt Fence.wide (n - 1) Tryz.prog l (encB xs x) W fun e W' =>
      (e = .returned (.bool true) ∧ J (pre ++ [x]) W' ∧ KC E W W') ∨ (e = .returned (.bool false) ∧ Jx (pre ++ [x]) W'))
    (W : World) (hBn : W.cell? ⟨Bn, 0, none⟩ = some (.slice P xs.length c)) (hBE : Bn ∉ E) (hc : ∀ j (h : j < xs.length), ∃ g, P = some ⟨g, 0, none⟩ ∧ g ∉ E ∧ W.cell? ⟨g, j, none⟩ = some (.int .i64 (xs[j] : Int))) (h0 : J [] W) :
    CallsIn Fence.wide n Tryz.prog 89 #[.func (.yield l) #[] #[], .pointer (some ⟨Bn, 0, none⟩)] W fun e W' => (∃ v, e = .returned v) ∧
      (J (backF xs.length) W' ∨ (∃ pre, pre <+: backF xs.length ∧ Jx pre W')) := by
  have HY := Lib.hid hY
  have H0 := Lib.hid h0
  have HC := Lib.hid hc
  have HBn := Lib.hid hBn
  clear hY h0 hc
  refine callsIn_of_wp Tryz.func89 rfl trivial ?_ rfl
  simp only [Tryz.ntmps89, List.size_toArray, List.length_cons, List.length_nil, Nat.reduceAdd, Nat.reduceSub, Array.replicate_succ, Array.replicate_zero, List.push_toArray, List.append_toArray, List.nil_append, List.cons_append]
  gi_wp2
  clear hBn
  gi_loopw [3] (fun iv wr => ∃ q : Nat, q ≤ xs.length ∧ iv = .int .i64 ((xs.length : Int) - 1 - (q : Int)) ∧ J ((backF xs.length).take q) wr ∧ KC E W wr) (fun iv _ => (intOf iv + 1).toNat)
  case atStart => exact ⟨0, Nat.zero_le _, by simp, by simpa using H0.out, KC.refl _ _⟩
  case round =>
    obtain ⟨q, hq, rfl, hj, hk⟩ := hrel
    have HJ := Lib.hid hj
    have HK := Lib.hid hk
    clear hj hk
    by_cases hlt : q < xs.length
    · obtain ⟨j, hj⟩ : ∃ j : Nat, xs.length - 1 - q = j := ⟨_, rfl⟩
      have hjI : (xs.length : Int) - 1 - (q : Int) = (j : Int) := by omega
      have hjl : j < xs.length := by omega
      have hAt := backF_at xs.length q hlt
      have hTk := backF_take xs.length q hlt
      have hfin : (⟨xs.length - 1 - q, by omega⟩ : Fin xs.length) = ⟨j, hjl⟩ := Fin.ext hj
      rw [hfin] at hAt hTk
      obtain ⟨g, rfl, hgE, hcj⟩ := HC.out j hjl
      have hcj := HK.out.cell hcj hgE
      have hcb := HK.out.cell HBn.out hBE
      have HAt := Lib.hid hAt
      have HTk := Lib.hid hTk
      have hjI2 : (j : Int) < (xs.length : Int) := by omega
      have hj0 : (0 : Int) ≤ (j : Int) := by omega
      have HI := Lib.hid hjI
      rw [hjI]
      clear hAt hTk hfin hjI hj
      gi_wp2
      obtain ⟨fn, tmps, assign, body, hy, hR⟩ := HY.out ((backF xs.length).take q) ⟨j, hjl⟩ wr HJ.out (by rw [List.length_take, backF_len]; omega)
      dsimp only [encB] at hy
      rw [hy]
      gi_wp2
      refine hR.mono ?_
      rintro e W3 (⟨rfl, hJ3, hk3⟩ | ⟨rfl, hJx3⟩)
      · have HJ3 := Lib.hid hJ3
        have HK3 := Lib.hid hk3
        clear hJ3 hk3
        gi_wp2
        go_roundw
        case rel =>
          refine ⟨q + 1, by omega, ?_, ?_, HK.out.trans HK3.out⟩
          · have := HI.out; congr 1; omega
          · rw [HTk.out]; exact HJ3.out
        case measure => show ((j : Int) - 1 + 1).toNat < ((j : Int) + 1).toNat; omega
      · have HJX := Lib.hid hJx3
        clear hJx3
        gi_wp2
        refine bodyPost_ret (results_none rfl _ _ _) rfl ?_
        refine ⟨⟨_, rfl⟩, .inr ⟨(backF xs.length).take q ++ [⟨j, hjl⟩], ?_, HJX.out⟩⟩
        exact ⟨(backF xs.length).drop (q + 1), by rw [List.append_assoc]; exact HAt.out.symm⟩
    · obtain rfl : q = xs.length := by omega
      have hneg : ¬ ((0 : Int) ≤ (xs.length : Int) - 1 - (xs.length : Int)) := by omega
      gi_wp2
      go_end0
      refine ⟨⟨_, rfl⟩, .inl ?_⟩
      have h := HJ.out
      rwa [List.take_of_length_le (by rw [backF_len]; omega)] at h

theorem Back_is (P : Option Addr) (m c : Nat) (w : World) :
    Calls Tryz.prog 64 #[.slice P m c] w fun e w' => e = .returned (.func (.func 89) #[] #[.pointer (some ⟨w.heap.size, 0, none⟩)]) ∧ w' = w.alloc (.cells #[.slice P m c] 72) := by
  go_enter Tryz.func64, Tryz.ntmps64
  go_wp2
  go_ret
  exact ⟨rfl, rfl⟩

theorem back_stops (n : Nat) (hn : 1 ≤ n) (Bn : Nat) (P : Option Addr) (c : Nat) (xs : List Nat) (hxl : xs.length ≤ 9223372036854775807) (w : World) (hBn : w.cell? ⟨Bn, 0, none⟩ = some (.slice P xs.length c))
    (hc : ∀ j (h : j < xs.length), ∃ g, P = some ⟨g, 0, none⟩ ∧ w.cell? ⟨g, j, none⟩ = some (.int .i64 (xs[j] : Int))) :
    SeqStopsK Fence.wide n Tryz.prog 89 #[.pointer (some ⟨Bn, 0, none⟩)] (encB xs) (KC []) (fun ys => ys = backF xs.length) (fun pre => pre <+: backF xs.length) xs.length w := fun l J Jx W hW _ _ hY h0 =>
  (back_in n hn l Bn [] P c xs hxl J Jx hY W ((hW.cell (World.block_lt_of_cell? w _ hBn)).trans hBn) (by simp) (fun j h => by
    obtain ⟨g, h1, h2⟩ := hc j h
    exact ⟨g, h1, by simp, (hW.cell (World.block_lt_of_cell? w _ h2)).trans h2⟩) h0).mono fun e w' ⟨h1, h2⟩ => ⟨h1, h2.imp (fun h => ⟨_, rfl, h⟩) id⟩
end Go.Proofs.YthfndmpigpphoaaGreat
