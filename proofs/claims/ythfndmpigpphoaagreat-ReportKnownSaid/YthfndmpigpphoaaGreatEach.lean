/-
  Lines one at a time: the iterator that lines.Each hands back.
-/
import Derived.Test.YthfndmpigpphoaaGreatRows
import Derived.Test.YthfndmpigpphoaaGreatKA
import Derived.Test.YthfndmpigpphoaaGreatShelf
import Derived.RangeFuncNested
import Derived.RangeFuncBound
import Derived.RangeFuncCalls
import Derived.RangeFuncLeaves
import Derived.RangeFuncBox
import Derived.Shelf.Abstract
import Derived.Shelf.RegionOpen
import Derived.WalkKit
import Derived.OwnWalkIn
import Derived.TacticsInMore
import Derived.LoopNIn
import Derived.LoopIn
import Derived.Lib.IndexMore
namespace Go.Proofs.YthfndmpigpphoaaGreat
open Go.RowKit Go.Shelf

/-- A line without the carriage return at its end. -/
def ended (l : List UInt8) : List UInt8 := Lib.trimSuffix l [13]
/-- The lines of what is left of a text. -/
def linesFrom : Nat → List UInt8 → List (List UInt8)
  | 0, _ => []
  | n + 1, l => if l = [] then [] else ended (Lib.cut l [10]).1 :: linesFrom n (Lib.cut l [10]).2.1
/-- The text without the mark at its beginning. -/
def unmarked (l : List UInt8) : List UInt8 := Lib.trimPrefix l [239, 187, 191]
def linesOf (l : List UInt8) : List (List UInt8) := linesFrom l.length (unmarked l)
/-- A line with its number, as the loop is handed it. -/
def numbered (n : Nat) : List (List UInt8) → List (Int × ByteArray)
  | [] => []
  | l :: r => ((n : Int), mkS l) :: numbered (n + 1) r
abbrev encLine (x : Int × ByteArray) : Array Value := #[.int .i64 x.1, .string x.2]
theorem numbered_len (n : Nat) (r : List (List UInt8)) : (numbered n r).length = r.length := by
  induction r generalizing n with
  | nil => rfl
  | cons a r ih => simp [numbered, ih]
theorem cut_lt (l : List UInt8) (h : l ≠ []) : (Lib.cut l [10]).2.1.length < l.length := by
  have hl : 0 < l.length := List.length_pos_iff.2 h
  unfold Lib.cut
  split
  · simp; omega
  · simpa using hl
theorem linesFrom_nil (n : Nat) : linesFrom n [] = [] := by cases n <;> simp [linesFrom]
theorem linesFrom_len (n : Nat) : ∀ l, (linesFrom n l).length ≤ n := by
  induction n with
  | zero => intro l; simp [linesFrom]
  | succ n ih =>
    intro l
    simp only [linesFrom]
    split
    · simp
    · simp; exact ih _
theorem linesFrom_step (n : Nat) (l : List UInt8) (h : l ≠ []) (hn : l.length ≤ n) : linesFrom n l = ended (Lib.cut l [10]).1 :: linesFrom (n - 1) (Lib.cut l [10]).2.1 := by
  cases n with
  | zero => simp at hn; exact absurd hn h
  | succ n => simp [linesFrom, h]
theorem unmarked_le (l : List UInt8) : (unmarked l).length ≤ l.length := Lib.trimPrefix_le l _

/-- What lines.Each goes through. -/
def eachOf (l : List UInt8) : List (Int × ByteArray) := if 65536 < l.length then [] else numbered 1 (linesOf l)
theorem eachOf_len (l : List UInt8) : (eachOf l).length ≤ 65536 := by
  unfold eachOf
  split
  · simp
  · rw [numbered_len]
    have := linesFrom_len l.length (unmarked l)
    unfold linesOf; omega
def strLen : Value → Nat | .string s => s.size | _ => 0

theorem Cut_nl (l : List UInt8) (m : Int) (w : World) (hs : l.length ≤ 65536) (hm : w.cell? ⟨0, 0, none⟩ = some (.int .i64 m)) :
    Calls Tryz.prog 47 #[.string (mkS l), .string ⟨#[10]⟩] w fun e w' => e = .returned (.tuple #[.string (mkS (Lib.cut l [10]).1), .string (mkS (Lib.cut l [10]).2.1), .bool (Lib.cut l [10]).2.2]) ∧ ∃ n, w' = w.drewN n :=
  Tryz.strings_Cut (mkS l) ⟨#[10]⟩ m w (by rw [mkS_size]; omega) hm
theorem Trim_cr (l : List UInt8) (w : World) (hs : l.length ≤ 65536) :
    Calls Tryz.prog 48 #[.string (mkS l), .string ⟨#[13]⟩] w fun e w' => e = .returned (.string (mkS (ended l))) ∧ w = w' :=
  (Tryz.strings_TrimSuffix (mkS l) ⟨#[13]⟩ w (by rw [mkS_size]; omega)).mono fun _ _ h => ⟨h.1, h.2.symm⟩
theorem Trim_mark (s : ByteArray) (w : World) :
    Calls Tryz.prog 46 #[.string s, .string ⟨#[239, 187, 191]⟩] w fun e w' => e = .returned (.string (mkS (unmarked s.data.toList))) ∧ w = w' :=
  (Tryz.strings_TrimPrefix s ⟨#[239, 187, 191]⟩ w).mono fun _ _ h => ⟨h.1, h.2.symm⟩
theorem cut_fst_le (l : List UInt8) : (Lib.cut l [10]).1.length ≤ l.length := by
  unfold Lib.cut
  split
  · simp; omega
  · exact Nat.le_refl _
theorem mkS_empty (l : List UInt8) : (mkS l).toList.isEmpty = l.isEmpty := by rw [Lib.toList_data]; rfl

set_option maxRecDepth 100000 in
set_option maxHeartbeats 2000000 in
theorem each1_in (n : Nat) (hn : 1 ≤ n) (l Bn n₀ : Nat) (s : ByteArray) (hn0 : 0 < n₀) (m : Int) (J Jx : List (Int × ByteArray) → World → Prop)
    (hY : ∀ pre x W, J pre W → pre.length < (eachOf s.data.toList).length → YieldAt Fence.wide (n - 1) Tryz.prog l (encLine x) W fun e W' =>
      (e = .returned (.bool true) ∧ J (pre ++ [x]) W' ∧ Below n₀ W W') ∨ (e = .returned (.bool false) ∧ Jx (pre ++ [x]) W'))
    (hJd : ∀ pre (W : World) k, J pre W → J pre (W.drewN k))
    (W : World) (hBn : W.cell? ⟨Bn, 0, none⟩ = some (.string s)) (hm : W.cell? ⟨0, 0, none⟩ = some (.int .i64 m)) (h0 : J [] W) :
    CallsIn Fence.wide n Tryz.prog 45 #[.func (.yield l) #[] #[], .pointer (some ⟨Bn, 0, none⟩)] W fun e W' => (∃ v, e = .returned v) ∧
      ((∃ ys, ys = eachOf s.data.toList ∧ J ys W') ∨ (∃ pre, pre <+: eachOf s.data.toList ∧ Jx pre W')) := by
  have hl := len_toList s
  by_cases hbig : 65536 < s.size
  · have HE : Hid (eachOf s.data.toList = []) := Lib.hid (by rw [eachOf, if_pos (by omega)])
    have H0 := Lib.hid h0
    clear hY hJd hl h0
    refine callsIn_of_wp Tryz.func45 rfl trivial ?_ rfl
    simp only [Tryz.ntmps45, List.size_toArray, List.length_cons, List.length_nil, Nat.reduceAdd, Nat.reduceSub, Array.replicate_succ, Array.replicate_zero, List.push_toArray, List.append_toArray, List.nil_append, List.cons_append]
    gi_wp2
    refine bodyPost_ret (results_none rfl _ _ _) rfl ?_
    exact ⟨⟨_, rfl⟩, .inl ⟨[], HE.out.symm, H0.out⟩⟩
  · have HE : Hid (eachOf s.data.toList = numbered 1 (linesFrom s.size (unmarked s.data.toList))) := Lib.hid (by rw [eachOf, if_neg (by omega), linesOf, hl])
    have HU : Hid ((unmarked s.data.toList).length ≤ s.size) := Lib.hid (by have := unmarked_le s.data.toList; omega)
    have HY := Lib.hid hY
    have HJD := Lib.hid hJd
    have H0 := Lib.hid h0
    clear hY hJd hl h0
    refine callsIn_of_wp Tryz.func45 rfl trivial ?_ rfl
    simp only [Tryz.ntmps45, List.size_toArray, List.length_cons, List.length_nil, Nat.reduceAdd, Nat.reduceSub, Array.replicate_succ, Array.replicate_zero, List.push_toArray, List.append_toArray, List.nil_append, List.cons_append]
    gi_wp2_with (refine ⟨trivial, ?_⟩; gi_at_call 46; refine (callsIn_wide.2 (Trim_mark _ _)).mono ?_; rintro e w1 ⟨rfl, rfl⟩)
    gi_loopw [3, 4] (fun r i wr => ∃ (pre : List (Int × ByteArray)) (rest : List (UInt8)) (k f : Nat), r = .string (mkS rest) ∧ i = .int .i64 (k + 1 : Nat) ∧ pre.length = k ∧ rest.length ≤ f ∧ f + k ≤ s.size ∧
      eachOf s.data.toList = pre ++ numbered (k + 1) (linesFrom f rest) ∧ J pre wr ∧ Below n₀ W wr) (fun r _ _ => strLen r)
    case atStart => exact ⟨[], unmarked s.data.toList, 0, s.size, rfl, rfl, rfl, HU.out, by omega, HE.out, H0.out, Below.refl _ _⟩
    case round =>
      obtain ⟨pre, rest, k, f, rfl, rfl, hpl, hrf, hfk, hall, hj, hbw⟩ := hrel
      have HAll := Lib.hid hall
      have HJ := Lib.hid hj
      have HBW := Lib.hid hbw
      have HPL := Lib.hid hpl
      clear hall hj hbw hpl
      cases hq : (mkS rest).toList.isEmpty
      · have HNE : Hid (rest ≠ []) := Lib.hid (by rw [mkS_empty] at hq; intro h; rw [h] at hq; cases hq)
        have HStep := Lib.hid (linesFrom_step f rest HNE.out hrf)
        have hcl := cut_lt rest HNE.out
        have hcf := cut_fst_le rest
        have hm2 := (HBW.out.cell (p := ⟨0, 0, none⟩) hn0).trans hm
        gi_wp2_with first
          | (refine ⟨trivial, ?_⟩; gi_at_call 47; refine (callsIn_wide.2 (Cut_nl rest m _ (by omega) hm2)).mono ?_; rintro e w1 ⟨rfl, nd, rfl⟩)
          | (refine ⟨trivial, ?_⟩; gi_at_call 48; refine (callsIn_wide.2 (Trim_cr _ _ (by omega))).mono ?_; rintro e w1 ⟨rfl, rfl⟩)
        obtain ⟨fn, tmps, assign, body, hy, hR⟩ := HY.out pre ((k : Int) + 1, mkS (ended (Lib.cut rest [10]).1)) (wr.drewN nd) (HJD.out _ _ nd HJ.out) (by rw [HAll.out, HStep.out]; simp [numbered])
        dsimp only [encLine] at hy
        rw [hy]
        gi_wp2
        refine hR.mono ?_
        rintro e W3 (⟨rfl, hJ3, hk3⟩ | ⟨rfl, hJx3⟩)
        · have HJ3 := Lib.hid hJ3
          have HK3 := Lib.hid hk3
          clear hJ3 hk3
          gi_wp2
          go_roundw
          case rel =>
            refine ⟨pre ++ [((k : Int) + 1, mkS (ended (Lib.cut rest [10]).1))], (Lib.cut rest [10]).2.1, k + 1, f - 1, rfl, ?_, ?_, by omega, by omega, ?_, HJ3.out, ?_⟩
            · simp only [Int.natCast_add, Int.cast_ofNat_Int]
            · simp [HPL.out]
            · rw [HAll.out, HStep.out]; simp [numbered]
            · exact HBW.out.trans ((show Below n₀ wr (wr.drewN nd) from ⟨rfl, rfl, rfl, Nat.le_refl _, fun _ _ => rfl⟩).trans HK3.out)
          case measure => simp only [strLen, mkS_size]; exact hcl
        · have HJx3 := Lib.hid hJx3
          clear hJx3
          gi_wp2
          refine bodyPost_ret (results_none rfl _ _ _) rfl ?_
          refine ⟨⟨_, rfl⟩, .inr ⟨_, ?_, HJx3.out⟩⟩
          rw [HAll.out, HStep.out]; exact ⟨numbered (k + 1 + 1) (linesFrom (f - 1) (Lib.cut rest [10]).2.1), by simp [numbered]⟩
      · have HNE : Hid (rest = []) := Lib.hid (by rw [mkS_empty] at hq; exact List.isEmpty_iff.1 hq)
        gi_wp2
        go_end0
        refine ⟨⟨_, rfl⟩, .inl ⟨pre, ?_, HJ.out⟩⟩
        rw [HAll.out, HNE.out, linesFrom_nil]; simp [numbered]

theorem Each_in (n : Nat) (s : ByteArray) (w : World) :
    CallsIn Fence.wide n Tryz.prog 20 #[.string s] w fun e w' => e = .returned (.func (.func 45) #[] #[.pointer (some ⟨w.heap.size, 0, none⟩)]) ∧ w' = w.alloc (.cells #[.string s] 9) := by
  refine callsIn_of_wp Tryz.func20 rfl trivial ?_ rfl
  simp only [Tryz.ntmps20, List.size_toArray, List.length_cons, List.length_nil, Nat.reduceAdd, Nat.reduceSub, Array.replicate_succ, Array.replicate_zero, List.push_toArray, List.append_toArray, List.nil_append, List.cons_append]
  gi_wp2
  go_ret
  exact ⟨rfl, rfl⟩

theorem each_stops (n : Nat) (hn : 1 ≤ n) (Bn n₀ : Nat) (s : ByteArray) (hn0 : 0 < n₀) (m : Int) (w : World) (hBn : Bn < w.heap.size)
    (hc : w.cell? ⟨Bn, 0, none⟩ = some (.string s)) (hm : w.cell? ⟨0, 0, none⟩ = some (.int .i64 m)) :
    SeqStopsK Fence.wide n Tryz.prog 45 #[.pointer (some ⟨Bn, 0, none⟩)] encLine (Below n₀) (fun ys => ys = eachOf s.data.toList) (fun pre => pre <+: eachOf s.data.toList) (eachOf s.data.toList).length w := fun l J Jx W hW hJ _ hY h0 =>
  each1_in n hn l Bn n₀ s hn0 m J Jx hY (fun pre W k h => hJ pre W _ none h ⟨rfl, rfl, rfl, Nat.le_refl _, fun _ _ _ => rfl⟩ (fun _ e => by cases e)) W
    ((hW.cell (p := ⟨Bn, 0, none⟩) hBn).trans hc) ((hW.cell (p := ⟨0, 0, none⟩) (by show 0 < w.heap.size; omega)).trans hm) h0
end Go.Proofs.YthfndmpigpphoaaGreat
