/-
  The iterator once more: a round is told that a line's length is bounded.
-/
import Derived.Test.YthfndmpigpphoaaGreatEach
namespace Go.Proofs.YthfndmpigpphoaaGreat
open Go.RowKit Go.Shelf

/-- A line as the round is handed it; of a text too long: the empty one (none comes). -/
def clamp (s : ByteArray) : ByteArray := if s.size ≤ 65536 then s else ⟨#[]⟩
theorem clamp_le (s : ByteArray) : (clamp s).size ≤ 65536 := by
  unfold clamp
  split
  · assumption
  · exact Nat.zero_le _
abbrev encC (x : Int × ByteArray) : Array Value := #[.int .i64 x.1, .string (clamp x.2)]
theorem encC_of (x : Int × ByteArray) (h : x.2.size ≤ 65536) : encC x = #[.int .i64 x.1, .string x.2] := by
  show #[Value.int .i64 x.1, .string (clamp x.2)] = _
  unfold clamp; rw [if_pos h]
theorem ended_le (l : List UInt8) : (ended l).length ≤ l.length := by
  unfold ended Lib.trimSuffix
  split
  · rw [List.length_take]; omega
  · exact Nat.le_refl _

set_option maxRecDepth 100000 in
set_option maxHeartbeats 2000000 in
theorem each1c_in (n : Nat) (hn : 1 ≤ n) (l Bn n₀ : Nat) (s : ByteArray) (hn0 : 0 < n₀) (m : Int) (J Jx : List (Int × ByteArray) → World → Prop)
    (hY : ∀ pre x W, J pre W → pre.length < (eachOf s.data.toList).length → YieldAt Fence.wide (n - 1) Tryz.prog l (encC x) W fun e W' =>
      (e = .returned (.bool true) ∧ J (pre ++ [x]) W' ∧ Below n₀ W W') ∨ (e = .returned (.bool false) ∧ Jx (pre ++ [x]) W'))
    (hJd : ∀ pre (W : World) k, J pre W → J pre (W.drewN k))
    (W : World) (hBn : W.cell? ⟨Bn, 0, none⟩ = some (.string s)) (hm : W.cell? ⟨0, 0, none⟩ = some (.int .i64 m)) (h0 : J [] W) :
    CallsIn Fence.wide n Tryz.prog 45 #[.func (.yield l) #[] #[], .pointer (some ⟨Bn, 0, none⟩)] W fun e W' => (∃ v, e = .returned v) ∧
      ((∃ ys, ys = eachOf s.data.toList ∧ J ys W') ∨ (∃ pre, pre <+: eachOf s.data.toList ∧ Jx pre W')) := by
  have hl := len_toList s
  by_cases hbig : 65536 < s.size
  · have HE : Hid (eachOf s.data.toList = []) := Lib.hid (by rw [eachOf, if_pos (by omega)])
    have H0 := Lib.hid h0
    clear hY hJd hl h0
    refine callsIn_of_wp Tryz.func45 rfl trivial ?_ rfl
    simp only [Tryz.ntmps45, List.size_toArray, List.length_cons, List.length_nil, Nat.reduceAdd, Nat.reduceSub, Array.replicate_succ, Array.replicate_zero, List.push_toArray, List.append_toArray, List.nil_append, List.cons_append]
    gi_wp2
    refine bodyPost_ret (results_none rfl _ _ _) rfl ?_
    exact ⟨⟨_, rfl⟩, .inl ⟨[], HE.out.symm, H0.out⟩⟩
  · have HE : Hid (eachOf s.data.toList = numbered 1 (linesFrom s.size (unmarked s.data.toList))) := Lib.hid (by rw [eachOf, if_neg (by omega), linesOf, hl])
    have HU : Hid ((unmarked s.data.toList).length ≤ s.size) := Lib.hid (by have := unmarked_le s.data.toList; omega)
    have HY := Lib.hid hY
    have HJD := Lib.hid hJd
    have H0 := Lib.hid h0
    clear hY hJd hl h0
    refine callsIn_of_wp Tryz.func45 rfl trivial ?_ rfl
    simp only [Tryz.ntmps45, List.size_toArray, List.length_cons, List.length_nil, Nat.reduceAdd, Nat.reduceSub, Array.replicate_succ, Array.replicate_zero, List.push_toArray, List.append_toArray, List.nil_append, List.cons_append]
    gi_wp2_with (refine ⟨trivial, ?_⟩; gi_at_call 46; refine (callsIn_wide.2 (Trim_mark _ _)).mono ?_; rintro e w1 ⟨rfl, rfl⟩)
    gi_loopw [3, 4] (fun r i wr => ∃ (pre : List (Int × ByteArray)) (rest : List (UInt8)) (k f : Nat), r = .string (mkS rest) ∧ i = .int .i64 (k + 1 : Nat) ∧ pre.length = k ∧ rest.length ≤ f ∧ f + k ≤ s.size ∧
      eachOf s.data.toList = pre ++ numbered (k + 1) (linesFrom f rest) ∧ J pre wr ∧ Below n₀ W wr) (fun r _ _ => strLen r)
    case atStart => exact ⟨[], unmarked s.data.toList, 0, s.size, rfl, rfl, rfl, HU.out, by omega, HE.out, H0.out, Below.refl _ _⟩
    case round =>
      obtain ⟨pre, rest, k, f, rfl, rfl, hpl, hrf, hfk, hall, hj, hbw⟩ := hrel
      have HAll := Lib.hid hall
      have HJ := Lib.hid hj
      have HBW := Lib.hid hbw
      have HPL := Lib.hid hpl
      clear hall hj hbw hpl
      cases hq : (mkS rest).toList.isEmpty
      · have HNE : Hid (rest ≠ []) := Lib.hid (by rw [mkS_empty] at hq; intro h; rw [h] at hq; cases hq)
        have HStep := Lib.hid (linesFrom_step f rest HNE.out hrf)
        have hcl := cut_lt rest HNE.out
        have hcf := cut_fst_le rest
        have hm2 := (HBW.out.cell (p := ⟨0, 0, none⟩) hn0).trans hm
        gi_wp2_with first
          | (refine ⟨trivial, ?_⟩; gi_at_call 47; refine (callsIn_wide.2 (Cut_nl rest m _ (by omega) hm2)).mono ?_; rintro e w1 ⟨rfl, nd, rfl⟩)
          | (refine ⟨trivial, ?_⟩; gi_at_call 48; refine (callsIn_wide.2 (Trim_cr _ _ (by omega))).mono ?_; rintro e w1 ⟨rfl, rfl⟩)
        obtain ⟨fn, tmps, assign, body, hy, hR⟩ := HY.out pre ((k : Int) + 1, mkS (ended (Lib.cut rest [10]).1)) (wr.drewN nd) (HJD.out _ _ nd HJ.out) (by rw [HAll.out, HStep.out]; simp [numbered])
        rw [encC_of _ (by show (mkS (ended (Lib.cut rest [10]).1)).size ≤ 65536; rw [mkS_size]; have := ended_le (Lib.cut rest [10]).1; omega)] at hy
        rw [hy]
        gi_wp2
        refine hR.mono ?_
        rintro e W3 (⟨rfl, hJ3, hk3⟩ | ⟨rfl, hJx3⟩)
        · have HJ3 := Lib.hid hJ3
          have HK3 := Lib.hid hk3
          clear hJ3 hk3
          gi_wp2
          go_roundw
          case rel =>
            refine ⟨pre ++ [((k : Int) + 1, mkS (ended (Lib.cut rest [10]).1))], (Lib.cut rest [10]).2.1, k + 1, f - 1, rfl, ?_, ?_, by omega, by omega, ?_, HJ3.out, ?_⟩
            · simp only [Int.natCast_add, Int.cast_ofNat_Int]
            · simp [HPL.out]
            · rw [HAll.out, HStep.out]; simp [numbered]
            · exact HBW.out.trans ((show Below n₀ wr (wr.drewN nd) from ⟨rfl, rfl, rfl, Nat.le_refl _, fun _ _ => rfl⟩).trans HK3.out)
          case measure => simp only [strLen, mkS_size]; exact hcl
        · have HJx3 := Lib.hid hJx3
          clear hJx3
          gi_wp2
          refine bodyPost_ret (results_none rfl _ _ _) rfl ?_
          refine ⟨⟨_, rfl⟩, .inr ⟨_, ?_, HJx3.out⟩⟩
          rw [HAll.out, HStep.out]; exact ⟨numbered (k + 1 + 1) (linesFrom (f - 1) (Lib.cut rest [10]).2.1), by simp [numbered]⟩
      · have HNE : Hid (rest = []) := Lib.hid (by rw [mkS_empty] at hq; exact List.isEmpty_iff.1 hq)
        gi_wp2
        go_end0
        refine ⟨⟨_, rfl⟩, .inl ⟨pre, ?_, HJ.out⟩⟩
        rw [HAll.out, HNE.out, linesFrom_nil]; simp [numbered]

theorem eachc_stops (n : Nat) (hn : 1 ≤ n) (Bn n₀ : Nat) (s : ByteArray) (hn0 : 0 < n₀) (m : Int) (w : World) (hBn : Bn < w.heap.size)
    (hc : w.cell? ⟨Bn, 0, none⟩ = some (.string s)) (hm : w.cell? ⟨0, 0, none⟩ = some (.int .i64 m)) :
    SeqStopsK Fence.wide n Tryz.prog 45 #[.pointer (some ⟨Bn, 0, none⟩)] encC (Below n₀) (fun ys => ys = eachOf s.data.toList) (fun pre => pre <+: eachOf s.data.toList) (eachOf s.data.toList).length w := fun l J Jx W hW hJ _ hY h0 =>
  each1c_in n hn l Bn n₀ s hn0 m J Jx hY (fun pre W k h => hJ pre W _ none h ⟨rfl, rfl, rfl, Nat.le_refl _, fun _ _ _ => rfl⟩ (fun _ e => by cases e)) W
    ((hW.cell (p := ⟨Bn, 0, none⟩) hBn).trans hc) ((hW.cell (p := ⟨0, 0, none⟩) (by show 0 < w.heap.size; omega)).trans hm) h0
end Go.Proofs.YthfndmpigpphoaaGreat
