/-
  The lister of walk.List in memory.
-/
import Derived.Test.YtdleoankkcemfaaRows
import Derived.Test.YtdleoankkcemfaaChk7
namespace Go.Proofs.Ytdleoankkcemfaa
open Go.RowKit

theorem own_other {w w' : World} {B B' e e' n n' size size' : Nat} {v v' : Value} {xs xs' : List Value} (h : w.ownsRow B e size v n xs) (k : w.ownsRow B' e' size' v' n' xs') (hne : e ≠ e') (hg : w.grownBy w' v'.ownBlock) : w'.ownsRow B e size v n xs :=
  (Kept.grown (E := v'.ownBlock.toList) hg (fun k hk => by rw [hk]; simp)).own h (fun g hg1 hm => by
    have h1 : v'.ownBlock = some g := by simpa using hm
    exact hne ((own_ty h hg1).1.uniq (own_ty k h1).1))
/-- The lister: its automaton av, the word l so far, the texts os so far; eight at most. -/
structure LS (w : World) (lb : Nat) (av : Value) (l : List UInt8) (os : List ByteArray) (wv ov : Value) : Prop where
  hd : w.heap[lb]? = some (.cells #[av, wv, ov, .int .i64 8] 142 (0, 0))
  word : w.ownsRow (lb + 1) 5 1 wv l.length (Lib.byteCells l)
  out : w.ownsRow (lb + 1) 9 1 ov os.length (strV os)
theorem LS.cells {w : World} {lb : Nat} {av wv ov : Value} {l : List UInt8} {os : List ByteArray} (h : LS w lb av l os wv ov) :
    w.cell? ⟨lb, 0, none⟩ = some av ∧ w.cell? ⟨lb, 1, none⟩ = some wv ∧ w.cell? ⟨lb, 2, none⟩ = some ov ∧ w.cell? ⟨lb, 3, none⟩ = some (.int .i64 8) ∧ w.frozen? ⟨lb, 1, none⟩ = false ∧ w.frozen? ⟨lb, 2, none⟩ = false := by
  refine ⟨?_, ?_, ?_, ?_, Lib.frozen_of_heap h.hd 1, Lib.frozen_of_heap h.hd 2⟩ <;> · rw [Lib.cell_of_heap h.hd]; rfl
theorem LS.keep {w w' : World} {lb : Nat} {av wv ov : Value} {l : List UInt8} {os : List ByteArray} (h : LS w lb av l os wv ov) (hb : Below w.heap.size w w') : LS w' lb av l os wv ov :=
  ⟨(hb.block lb (block_lt h.hd)).trans h.hd, own_below h.word hb, own_below h.out hb⟩
theorem LS.lt {w : World} {lb : Nat} {av wv ov : Value} {l : List UInt8} {os : List ByteArray} (h : LS w lb av l os wv ov) : lb < w.heap.size := block_lt h.hd
theorem own_setLb {w : World} {lb i e size n : Nat} {v u : Value} {xs : List Value} (h : w.ownsRow (lb + 1) e size v n xs) : (w.setCell ⟨lb, i, none⟩ u).ownsRow (lb + 1) e size v n xs :=
  ((Kept.refl [lb] w).set _ _ _ (.inl (by simp))).own h (fun g hg hm => by
    have h1 := (own_ty h hg).2
    have : g = lb := by simpa using hm
    omega)
theorem hd_grown {w w' : World} {lb e size n : Nat} {v : Value} {xs : List Value} {o : Obj} (hd : w.heap[lb]? = some o) (h : w.ownsRow (lb + 1) e size v n xs) (hg : w.grownBy w' v.ownBlock) : w'.heap[lb]? = some o :=
  (hg.block lb (block_lt hd) (fun hq => by have := (own_ty h hq.symm).2; omega)).trans hd
/-- A text more. -/
theorem LS.more {w w' : World} {lb : Nat} {av wv ov ov' : Value} {l : List UInt8} {os : List ByteArray} {s : ByteArray} {n : Nat} (h : LS w lb av l os wv ov) (ho : w'.ownsRow (lb + 1) 9 1 ov' n (strV (os ++ [s]))) (hg : w.grownBy w' ov.ownBlock) :
    LS (w'.setCell ⟨lb, 2, none⟩ ov') lb av l (os ++ [s]) wv ov' := by
  have hn := own_len ho
  subst hn
  refine ⟨Go.heap_setCell_same w' lb 2 _ _ _ (hd_grown h.hd h.out hg), own_setLb (own_other h.word h.out (by decide) hg), own_setLb ho⟩
/-- A letter more. -/
theorem LS.letter {w w' : World} {lb : Nat} {av wv ov wv' : Value} {l : List UInt8} {os : List ByteArray} {b : UInt8} {n : Nat} (h : LS w lb av l os wv ov) (ho : w'.ownsRow (lb + 1) 5 1 wv' n (Lib.byteCells (l ++ [b]))) (hg : w.grownBy w' wv.ownBlock) :
    LS (w'.setCell ⟨lb, 1, none⟩ wv') lb av (l ++ [b]) os wv' ov := by
  have hn : (l ++ [b]).length = n := by have := ho.1; simpa [Lib.byteCells] using this
  subst hn
  exact ⟨Go.heap_setCell_same w' lb 1 _ _ _ (hd_grown h.hd h.word hg), own_setLb ho, own_setLb (own_other h.out h.word (by decide) hg)⟩
/-- A letter less. -/
theorem LS.less {w : World} {lb : Nat} {av ov : Value} {l : List UInt8} {b : UInt8} {os : List ByteArray} {g n c : Nat} (h : LS w lb av (l ++ [b]) os (.slice (some ⟨g, 0, none⟩) n c) ov) :
    LS (w.setCell ⟨lb, 1, none⟩ (.slice (some ⟨g, 0, none⟩) l.length c)) lb av l os (.slice (some ⟨g, 0, none⟩) l.length c) ov := by
  refine ⟨Go.heap_setCell_same w lb 1 _ _ _ h.hd, own_setLb ?_, own_setLb h.out⟩
  have hw := h.word
  rcases hw.2 with ⟨hv, _⟩ | ⟨g', cap, cur, hv, hB, hg, hn, hm, hs, ht⟩
  · cases hv
  · cases hv
    rw [List.length_append, List.length_singleton] at hn
    refine ⟨by simp [Lib.byteCells], .inr ⟨g, c, cur, rfl, hB, hg, by omega, hm, hs, ?_⟩⟩
    have h2 := congrArg (List.take l.length) ht
    rw [List.take_take] at h2
    have e1 : min l.length ((l ++ [b]).length * 1) = l.length := by simp
    rw [e1] at h2
    rw [Nat.mul_one, h2]
    simp [Lib.byteCells]
end Go.Proofs.Ytdleoankkcemfaa
