/-
  The words of a text, all of them; a text whose words the document fixes.
-/
import Derived.Test.YthfndmpigpphoaaGreatRows
import Derived.Test.YthfndmpigpphoaaGreatTok5
namespace Go.Proofs.YthfndmpigpphoaaGreat
open Go.RowKit

theorem linesFrom_each : ∀ (n : Nat) (t : List UInt8), ∀ l ∈ linesFrom n t, l.length ≤ t.length
  | 0, t, l, hl => by simp [linesFrom] at hl
  | n + 1, t, l, hl => by
    simp only [linesFrom] at hl
    split at hl
    · cases hl
    · rename_i ht
      rcases List.mem_cons.1 hl with rfl | h
      · exact Nat.le_trans (ended_le _) (cut_fst_le t)
      · have h1 := linesFrom_each n _ l h
        have h2 := cut_lt t ht
        omega
theorem linesOf_each (t : List UInt8) : ∀ l ∈ linesOf t, l.length ≤ t.length := fun l hl => Nat.le_trans (linesFrom_each _ _ l hl) (unmarked_le t)
theorem preB_numbered : ∀ (n : Nat) (L : List (List UInt8)), (∀ l ∈ L, l.length ≤ 65536) → preB (numbered n L) = numB n L
  | _, [], _ => rfl
  | n, l :: L, h => by
    have ih := preB_numbered (n + 1) L (fun x hx => h x (by simp [hx]))
    have e : clamp (mkS l) = mkS l := by unfold clamp; rw [if_pos (by rw [mkS_size]; exact h l (by simp))]
    unfold preB at ih ⊢
    rw [numbered, List.map_cons, ih, numB]
    show ((n : Int), (clamp (mkS l)).data.toList) :: _ = _
    rw [e]; rfl
/-- The words of a text; none of one that is too long. -/
def tkS (s : ByteArray) : List Tok := toks colsOf s.data.toList (startOf s.data.toList) (preB (eachOf s.data.toList))
theorem tkS_small (s : ByteArray) (h : s.size ≤ 65536) : tkS s = textToks colsOf s.data.toList := by
  unfold tkS textToks
  rw [eachOf, if_neg (by rw [len_toList]; omega), preB_numbered _ _ (fun l hl => by have := linesOf_each _ l hl; rw [len_toList] at this; omega)]
theorem tkS_big (s : ByteArray) (h : 65536 < s.size) : tkS s = [] := by
  unfold tkS
  rw [eachOf, if_pos (by rw [len_toList]; exact h)]; rfl
theorem tkS_spaced (s : ByteArray) (h : s.size ≤ 65536) : TSpaced s.data.toList (startOf s.data.toList) (tkS s) := by
  rw [tkS_small s h]; exact textToks_spaced colsOf colsOf_ge s.data.toList
theorem tkS_len (s : ByteArray) : (tkS s).length ≤ 4294967296 := by
  have h1 := toksP_len s (eachOf s.data.toList)
  have h2 := eachOf_len s.data.toList
  have : (toksP s (eachOf s.data.toList)).length ≤ 65536 * 65536 := Nat.le_trans h1 (Nat.mul_le_mul h2 (Nat.le_refl _))
  show (toksP s (eachOf s.data.toList)).length ≤ _
  omega
theorem Tokens_is (s : ByteArray) (m : Int) (w : World) (h0 : 0 < w.heap.size) (hm : w.cell? ⟨0, 0, none⟩ = some (.int .i64 m)) :
    Calls Tryz.prog 9 #[.string s] w fun e W' => ∃ v, e = .returned (.tuple #[v, .int .i64 (codeS s)]) ∧ W'.ownsRow w.heap.size 44 4 v (tkS s).length (tokCells (tkS s)) ∧ Below w.heap.size w W' :=
  (Tokens_any s m w h0 hm).mono fun _ _ ⟨v, ts, he, ho, ht, hb⟩ => ⟨v, he, by rw [← show ts = tkS s from ht]; exact ho, hb⟩

abbrev wakeS : ByteArray := ⟨#[84, 104, 101, 32, 99, 97, 116, 10, 195, 169, 32, 115, 101, 122, 32, 100, 111, 110, 116, 44, 32, 100, 111, 110, 39, 116, 10]⟩
theorem tk_wakes : tkS wakeS = [⟨1, 1, 0, [84, 104, 101]⟩, ⟨1, 5, 4, [99, 97, 116]⟩, ⟨2, 1, 8, [195, 169]⟩, ⟨2, 3, 11, [115, 101, 122]⟩, ⟨2, 7, 15, [100, 111, 110, 116]⟩, ⟨2, 13, 21, [100, 111, 110, 39, 116]⟩] := by kernel_rfl

set_option maxRecDepth 100000 in
set_option maxHeartbeats 1000000 in
theorem wakes26_any (m : Int) (w : World) (h0 : 0 < w.heap.size) (hm : w.cell? ⟨0, 0, none⟩ = some (.int .i64 m)) :
    Calls Tryz.prog 4 #[] w fun e w' => e = .returned (.bool true) ∧ Below w.heap.size w w' := by
  have hT := Tokens_is wakeS m w h0 hm
  rw [tk_wakes, show codeS wakeS = 0 from rfl] at hT
  have HT := Lib.hid hT
  have he : ∀ w, (Go.binOp .eql 44 (.agg #[.int .i64 2, .int .i64 3, .int .i64 11, .string ⟨#[115, 101, 122]⟩]) (.agg #[.int .i64 2, .int .i64 3, .int .i64 11, .string ⟨#[115, 101, 122]⟩])).run Tryz.prog w = .ok (.bool true) w := fun _ => by kernel_rfl
  clear hT hm h0
  go_enter Tryz.func4, Tryz.ntmps4
  go_wp2_with fail
  refine HT.out.mono ?_
  rintro e w1 ⟨v, rfl, ho, hb⟩
  obtain ⟨g, cap, rfl, hcap⟩ := own_some ho (by decide)
  have HB := Lib.hid hb
  have cl := fun j u hj => (show w1.cell? ⟨g, j, none⟩ = some u by have := ho.cells (g := g) rfl j u hj; rw [row_addr] at this; exact this)
  have c12 := cl 12 (.int .i64 2) rfl
  have c13 := cl 13 (.int .i64 3) rfl
  have c14 := cl 14 (.int .i64 11) rfl
  have c15 := cl 15 (.string ⟨#[115, 101, 122]⟩) rfl
  have c23 := cl 23 (.string ⟨#[100, 111, 110, 39, 116]⟩) rfl
  clear cl ho hb
  simp only [List.length_cons, List.length_nil, Nat.reduceAdd] at hcap ⊢
  go_wp2_with fail
  go_ret
  exact ⟨rfl, HB.out⟩
end Go.Proofs.YthfndmpigpphoaaGreat
