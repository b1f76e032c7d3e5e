/-
  The letters of a text, each once, as they first come: the program's Letters.
-/
import Derived.Test.YtehbjfjhalpgaaaRows
import Derived.Test.YtehbjfjhalpgaaaBuilder
import Derived.Test.YtehbjfjhalpgaaaImg4
import Derived.Lib.AsciiSet
namespace Go.Proofs.Ytehbjfjhalpgaaa
open Go.RowKit

/-- Each letter once, as it first comes. -/
def onceGo (acc : List UInt8) : List UInt8 → List UInt8
  | [] => acc
  | c :: l => onceGo (if acc.contains c then acc else acc ++ [c]) l
def onceL (l : List UInt8) : List UInt8 := onceGo [] l
theorem onceGo_snoc (acc : List UInt8) (l : List UInt8) (c : UInt8) : onceGo acc (l ++ [c]) = if (onceGo acc l).contains c then onceGo acc l else onceGo acc l ++ [c] := by
  induction l generalizing acc with
  | nil => simp [onceGo]
  | cons a l ih => rw [List.cons_append, onceGo, ih, onceGo]
theorem onceGo_len (acc l : List UInt8) : (onceGo acc l).length ≤ acc.length + l.length := by
  induction l generalizing acc with
  | nil => simp [onceGo]
  | cons a l ih =>
    rw [onceGo]
    refine Nat.le_trans (ih _) ?_
    split <;> simp <;> omega
/-- What both Letters answer. -/
def lettersS (s : ByteArray) : ByteArray × Int := if s.size = 0 ∨ fitAll s = false then (⟨#[]⟩, 21) else (mkS (onceL s.data.toList), 0)

/-- The table of seen letters, in a block below the builder's. -/
def SeenAt (W : World) (g : Nat) (l : List UInt8) : Prop := W.heap[g]? = some (.cells (Lib.setCells l) 120 (0, 0))
theorem IsB.below {B b g i : Nat} {bs : List Value} {w : World} (h : IsB B b bs w) (hg : g < B) (u : Value) : IsB B b bs (w.setCell ⟨g, i, none⟩ u) := by
  have key : ∀ p, Lib.BuilderAt 59 5 B b p bs w → Lib.BuilderAt 59 5 B b p bs (w.setCell ⟨g, i, none⟩ u) := by
    rintro p ⟨hB, v, hb, hown, hne⟩
    refine ⟨hB, v, ?_, ownsRow_setCell_below hown (a := ⟨g, i, none⟩) hg u, hne⟩
    rw [Go.heap_setCell_other _ _ _ _ (by show b ≠ g; omega)]; exact hb
  rcases h with h | h
  · exact .inl (key _ h)
  · exact .inr (key _ h)
theorem SeenAt.put {W : World} {g : Nat} {l : List UInt8} (h : SeenAt W g l) (c : UInt8) : SeenAt (W.setCell ⟨g, c.toNat, none⟩ (.bool true)) g (l ++ [c]) := by
  unfold SeenAt
  rw [Lib.setCells_snoc]
  exact Go.heap_setCell_same W g c.toNat _ _ _ h

theorem zero256 (w : World) : (zeroValue 120).run Try.prog w = .ok (.agg (Lib.setCells [])) w := by kernel_rfl
/-- The state of the loop behind the first k letters. -/
structure LetAt (w W : World) (l : List UInt8) : Prop where
  below : Below w.heap.size w W
  seen : SeenAt W w.heap.size l
  out : IsB (w.heap.size + 1) (w.heap.size + 1) (Lib.byteCells l) W
theorem LetAt.start (w : World) : LetAt w ((w.alloc (.cells (Lib.setCells []) 120)).alloc (.cells #[.pointer none, .slice none 0 0] 59)) [] := by
  refine ⟨((Below.refl _ _).alloc (Nat.le_refl _) _).alloc (by simp) _, ?_, ?_⟩
  · unfold SeenAt
    rw [Lib.alloc_old _ _ _ (by simp)]
    show (w.heap.push (.cells (Lib.setCells []) 120))[w.heap.size]? = _
    rw [Array.getElem?_push_size]
  · have := fresh_isB (w.alloc (.cells (Lib.setCells []) 120))
    simpa [Lib.byteCells] using this
theorem LetAt.size {w W : World} {l : List UInt8} (h : LetAt w W l) : w.heap.size + 1 < W.heap.size := by
  rcases h.out with h | h
  · exact h.lt
  · exact h.lt
theorem LetAt.cell {w W : World} {l : List UInt8} (h : LetAt w W l) (c : UInt8) : W.cell? ⟨w.heap.size, c.toNat, none⟩ = some (.bool (l.contains c)) := by
  rw [Lib.cell_of_heap h.seen]; exact Lib.setCells_at l c
theorem LetAt.thaw {w W : World} {l : List UInt8} (h : LetAt w W l) (j : Nat) : W.frozen? ⟨w.heap.size, j, none⟩ = false := Lib.frozen_of_heap h.seen j
theorem LetAt.put {w W : World} {l : List UInt8} (h : LetAt w W l) (c : UInt8) : IsB (w.heap.size + 1) (w.heap.size + 1) (Lib.byteCells l) (W.setCell ⟨w.heap.size, c.toNat, none⟩ (.bool true)) := h.out.below (by omega) _
theorem LetAt.wrote {w W W' : World} {l : List UInt8} {c : UInt8} (h : LetAt w W l) (hb : Below (w.heap.size + 1) (W.setCell ⟨w.heap.size, c.toNat, none⟩ (.bool true)) W')
    (ho : BAt (w.heap.size + 1) (w.heap.size + 1) (Lib.byteCells l ++ [.int .u8 (c.toNat : Int)]) W') : LetAt w W' (l ++ [c]) := by
  refine ⟨(h.below.setCell (p := ⟨w.heap.size, c.toNat, none⟩) (Nat.le_refl _) _).trans (hb.mono (by omega)), ?_, ?_⟩
  · unfold SeenAt
    rw [hb.block _ (by omega)]
    exact h.seen.put c
  · rw [bytes_snoc] at ho; exact ho.is

set_option maxHeartbeats 4000000 in
set_option maxRecDepth 100000 in
theorem Letters_any (s : ByteArray) (w : World) (hs : s.size ≤ 140737488355328) :
    Calls Try.prog 45 #[.string s] w fun e w' => e = .returned (.tuple #[.string (lettersS s).1, .int .i64 (lettersS s).2]) ∧ Below w.heap.size w w' := by
  by_cases h0 : s.size = 0
  · have H : Hid (lettersS s = (⟨#[]⟩, 21)) := Lib.hid (by unfold lettersS; rw [if_pos (.inl h0)])
    have hse : s = ⟨#[]⟩ := by
      apply ByteArray.ext; exact Array.eq_empty_of_size_eq_zero h0
    subst hse
    go_enter Try.func45, Try.ntmps45
    have hz := zero256
    go_wp2_with fail
    go_ret2
    exact ⟨by rw [H.out]; rfl, (Below.refl _ _).alloc (Nat.le_refl _) _⟩
  · have hne := notEmpty s (by omega)
    go_enter Try.func45, Try.ntmps45
    have hz := zero256
    go_wp2_with fail
    go_loopw [6, 11] (fun _ i W => ∃ k : Nat, k ≤ s.size ∧ i = .int .i64 k ∧ Hid ((s.data.toList.take k).all fitB = true) ∧ LetAt w W (onceL (s.data.toList.take k))) (fun _ i _ => s.size - (intOf i).toNat)
    case atStart => exact ⟨0, Nat.zero_le _, rfl, Lib.hid rfl, LetAt.start w⟩
    case round =>
      obtain ⟨k, hk, rfl, HT, hl⟩ := hrel
      have HL := Lib.hid hl
      clear hl
      by_cases hlt : k < s.size
      · cases hf : fitB s[k]
        · have HN : Hid (lettersS s = (⟨#[]⟩, 21)) := Lib.hid (by unfold lettersS; rw [if_pos (.inr (all_no s k hlt hf))])
          go_wp2_with (first | (go_at_call 57; refine (fit_any _ _).mono ?_; rintro e w' ⟨rfl, rfl⟩))
          go_ret2
          exact ⟨by rw [HN.out]; rfl, HL.out.below⟩
        · have HN := Lib.hid (all_take s k hlt hf HT.out)
          have hb := s[k].toNat_lt
          have hb2 : (s[k].toNat : Int) < 256 := by omega
          have hcell := HL.out.cell s[k]
          have hthaw := HL.out.thaw s[k].toNat
          have HK : Hid (onceL (s.data.toList.take (k + 1)) = if (onceL (s.data.toList.take k)).contains s[k] then onceL (s.data.toList.take k) else onceL (s.data.toList.take k) ++ [s[k]]) := Lib.hid (by rw [take_snoc s k hlt]; exact onceGo_snoc _ _ _)
          have HLn : Hid ((onceL (s.data.toList.take k)).length ≤ k) := Lib.hid (by
            have h1 := onceGo_len [] (s.data.toList.take k)
            have h2 : (s.data.toList.take k).length ≤ k := List.length_take_le _ _
            rw [onceL]
            simp only [List.length_nil] at h1
            omega)
          cases hc : (onceL (s.data.toList.take k)).contains s[k]
          · rw [hc] at hcell HK
            go_wp2_with (first
              | (go_at_call 57; refine (fit_any _ _).mono ?_; rintro e w' ⟨rfl, rfl⟩)
              | (go_at_call 24; refine (writeByte_any _ _ _ _ _ (HL.out.put s[k]) (by have := HLn.out; simp [Lib.byteCells]; omega) (by have := HL.out.size; simp [World.setCell]; omega)).mono ?_; rintro e w' ⟨rfl, h1, h2⟩; have HO := Lib.hid (HL.out.wrote h2 h1); clear h1 h2))
            go_roundw
            case rel => exact ⟨k + 1, by omega, by go_num, HN, by rw [HK.out]; exact HO.out⟩
            case measure => simp [intOf]; omega
          · rw [hc] at hcell HK
            go_wp2_with (first
              | (go_at_call 57; refine (fit_any _ _).mono ?_; rintro e w' ⟨rfl, rfl⟩))
            go_roundw
            case rel => exact ⟨k + 1, by omega, by go_num, HN, by rw [HK.out]; exact HL.out⟩
            case measure => simp [intOf]; omega
      · obtain rfl : k = s.size := by omega
        have HN : Hid (lettersS s = (mkS (onceL (s.data.toList.take s.size)), 0)) := Lib.hid (by
          unfold lettersS; rw [if_neg (by rintro (h | h); · exact h0 h
                                          · rw [all_full s HT.out] at h; cases h), List.take_of_length_le (by simp)])
        go_wp2_with (first
          | (go_at_call 25; refine (builderString_any _ _ _ _ HL.out.out (by have := HL.out.size; omega)).mono ?_; rintro e w' ⟨rfl, h2⟩; have HO := Lib.hid (HL.out.below.trans (h2.mono (by omega))); clear h2))
        go_ret2
        exact ⟨by rw [HN.out]; rfl, HO.out⟩
end Go.Proofs.Ytehbjfjhalpgaaa
