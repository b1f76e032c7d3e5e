/-
  What gather does to the lister.
-/
import Derived.Test.YtdleoankkcemfaaRows
import Derived.Test.YtdleoankkcemfaaKep1
namespace Go.Proofs.Ytdleoankkcemfaa
open Go.RowKit

theorem EdsAt.low {w w' : World} {lb : Nat} {v : Value} {es : List Ed} (h : EdsAt w (fun k => k < lb) v es) (hb : Below lb w w') : EdsAt w' (fun k => k < lb) v es := by
  obtain ⟨A, cap, hv, hc, h0⟩ := h
  refine ⟨A, cap, hv, hc, ?_⟩
  rcases h0 with h0 | ⟨g, o, hA, hg, hp, hcs⟩
  · exact .inl h0
  · exact .inr ⟨g, o, hA, Nat.lt_of_lt_of_le hg hb.size, hp, fun k h => ⟨(hb.cell (p := ⟨g, _, none⟩) hp).trans (hcs k h).1, (hb.cell (p := ⟨g, _, none⟩) hp).trans (hcs k h).2⟩⟩
theorem AutAt.low {w w' : World} {lb : Nat} {v : Value} {A : List St} (h : AutAt w (fun k => k < lb) v A) (hb : Below lb w w') : AutAt w' (fun k => k < lb) v A := by
  obtain ⟨Ad, cap, hv, hc, h0⟩ := h
  refine ⟨Ad, cap, hv, hc, ?_⟩
  rcases h0 with h0 | ⟨g, o, hA, hg, hp, hcs⟩
  · exact .inl h0
  · refine .inr ⟨g, o, hA, Nat.lt_of_lt_of_le hg hb.size, hp, fun k h => ⟨(hb.cell (p := ⟨g, _, none⟩) hp).trans (hcs k h).1, ?_⟩⟩
    obtain ⟨ev, h1, h2⟩ := (hcs k h).2
    exact ⟨ev, (hb.cell (p := ⟨g, _, none⟩) hp).trans h1, h2.low hb⟩
theorem own_slice {w : World} {B e size n : Nat} {v : Value} {xs : List Value} (h : w.ownsRow B e size v n xs) : ∃ P c, v = .slice P n c := by
  rcases h.2 with ⟨rfl, h0⟩ | ⟨g, cap, cur, rfl, _⟩
  · exact ⟨none, 0, by rw [h0]⟩
  · exact ⟨_, cap, rfl⟩
theorem LS.drewN {w : World} {lb : Nat} {av wv ov : Value} {l : List UInt8} {os : List ByteArray} (h : LS w lb av l os wv ov) (n : Nat) : LS (w.drewN n) lb av l os wv ov := ⟨h.hd, h.word, h.out⟩
theorem LS.drew {w : World} {lb : Nat} {av wv ov : Value} {l : List UInt8} {os : List ByteArray} (h : LS w lb av l os wv ov) : LS w.drew lb av l os wv ov := ⟨h.hd, h.word, h.out⟩
theorem word_form {w : World} {lb : Nat} {av wv ov : Value} {l : List UInt8} {b : UInt8} {os : List ByteArray} (h : LS w lb av (l ++ [b]) os wv ov) : ∃ g c, wv = .slice (some ⟨g, 0, none⟩) (l.length + 1) c ∧ l.length + 1 ≤ c := by
  have hl : (l ++ [b]).length = l.length + 1 := by simp
  rcases h.word.2 with ⟨_, h0⟩ | ⟨g, cap, cur, hv, _, _, hn, _⟩
  · rw [hl] at h0; omega
  · rw [hl] at hv hn
    exact ⟨g, cap, hv, hn⟩
/-- Behind an append of a letter: the header is as before; with the word put in, all is well. -/
theorem pushed {w wb w9 : World} {lb eb gg cc m k : Nat} {av wv ov : Value} {l : List UInt8} {b : UInt8} {os : List ByteArray} {x y : Value} (h : LS wb lb av l os wv ov) (hB : Below lb w wb) (he : wb.heap[eb]? = some (.cells #[x, y] 144 (0, 0)))
    (hown : w9.ownsRow (lb + 1) 5 1 (.slice (some ⟨gg, 0, none⟩) m cc) k (Lib.byteCells l ++ [.int .u8 (b.toNat : Int)])) (hg : wb.grownBy w9 wv.ownBlock) :
    (w9.cell? ⟨lb, 1, none⟩ = some wv ∧ w9.frozen? ⟨lb, 1, none⟩ = false) ∧ ∀ u, (u = .slice (some ⟨gg, 0, none⟩) m cc → LS (w9.setCell ⟨lb, 1, none⟩ u) lb av (l ++ [b]) os u ov) ∧ (w9.setCell ⟨lb, 1, none⟩ u).cell? ⟨eb, 1, none⟩ = some y ∧ Below lb w (w9.setCell ⟨lb, 1, none⟩ u) := by
  have hd := hd_grown h.hd h.word hg
  have hgs := hg.size
  have hne : eb ≠ lb := fun e => by
    subst e
    have := h.hd
    rw [he] at this
    injection this with this
    injection this with _ e2
    exact absurd e2 (by decide)
  have he9 : w9.heap[eb]? = some (.cells #[x, y] 144 (0, 0)) := (hg.block eb (block_lt he) (fun hq => by
    have h1 := (own_ty h.word hq.symm).1
    have h2 : Ty wb 144 eb := ⟨_, he⟩
    exact absurd (h1.uniq h2) (by decide))).trans he
  refine ⟨⟨by rw [Lib.cell_of_heap hd]; rfl, Lib.frozen_of_heap hd 1⟩, fun u => ⟨fun hu => ?_, ?_, ?_⟩⟩
  · subst hu
    exact LS.letter h (by simpa [Lib.byteCells] using hown) hg
  · rw [Lib.cell_of_heap (show (w9.setCell ⟨lb, 1, none⟩ u).heap[eb]? = _ from (heap_setCell_other w9 ⟨lb, 1, none⟩ eb u hne).trans he9)]; rfl
  · exact (hB.grown hg (Nat.le_of_lt h.lt) (fun k hk => by have := (own_ty h.word hk).2; omega)).setCell (Nat.le_refl _) _
theorem along_snoc {A : List St} {l : List UInt8} {q : Nat} {b : UInt8} {t : Int} {fin : Bool} {es : List Ed} (h : alongGo A 0 l = some (q : Int)) (hx : A[q]? = some (fin, es)) (hs : stepE es b = some t) : alongGo A 0 (l ++ [b]) = some t := by
  rw [alongGo_append, h]
  show alongGo A q [b] = some t
  have e : (A.getD (q : Int).toNat (false, [])).2 = es := by rw [Int.toNat_natCast]; simp [List.getD, hx]
  rw [alongGo, e, hs]
  rfl
/-- Behind an append of a text: the header is as before; with the list put in, all is well. -/
theorem mored {w w1 w9 : World} {lb gg cc m k : Nat} {av wv ov : Value} {l : List UInt8} {os : List ByteArray} {s : ByteArray} (h : LS w1 lb av l os wv ov) (hB : Below lb w w1)
    (hown : w9.ownsRow (lb + 1) 9 1 (.slice (some ⟨gg, 0, none⟩) m cc) k (strV os ++ [.string s])) (hg : w1.grownBy w9 ov.ownBlock) :
    (w9.cell? ⟨lb, 2, none⟩ = some ov ∧ w9.frozen? ⟨lb, 2, none⟩ = false) ∧ ∀ u, (u = .slice (some ⟨gg, 0, none⟩) m cc → LS (w9.setCell ⟨lb, 2, none⟩ u) lb av l (os ++ [s]) wv u) ∧ Below lb w (w9.setCell ⟨lb, 2, none⟩ u) := by
  have hd := hd_grown h.hd h.out hg
  refine ⟨⟨by rw [Lib.cell_of_heap hd]; rfl, Lib.frozen_of_heap hd 2⟩, fun u => ⟨fun hu => ?_, ?_⟩⟩
  · subst hu
    exact LS.more h (by rw [strV_snoc] at hown; exact hown) hg
  · exact (hB.grown hg (Nat.le_of_lt h.lt) (fun k hk => by have := (own_ty h.out hk).2; omega)).setCell (Nat.le_refl _) _
theorem alloc_drew (w : World) (o : Obj) : (w.alloc o).drew = w.drew.alloc o := rfl
def Good (A : List St) (os : List ByteArray) : Prop := ∀ x ∈ os, accS A x = true ∧ x.size ≤ 1048577
theorem good_snoc {A : List St} {os : List ByteArray} {l : List UInt8} (h : Good A os) (ha : accS A ⟨l.toArray⟩ = true) (hl : l.length ≤ 1048577) : Good A (os ++ [⟨l.toArray⟩]) := fun x hx => by
  rcases List.mem_append.1 hx with hx | hx
  · exact h x hx
  · have : x = ⟨l.toArray⟩ := by simpa using hx
    subst this
    exact ⟨ha, by show l.toArray.size ≤ _; simpa using hl⟩
def PostG (A : List St) (lb : Nat) (av : Value) (w : World) (l : List UInt8) (e : Ending) (w' : World) : Prop :=
  ∃ r l' os' wv' ov', e = .returned (.bool r) ∧ Below lb w w' ∧ LS w' lb av l' os' wv' ov' ∧ (r = true → l' = l ∧ os'.length < 8) ∧ os'.length ≤ 8 ∧ Good A os'

end Go.Proofs.Ytdleoankkcemfaa
