/-
  strings.Builder's copyCheck and WriteByte at this translation: a builder that holds the bytes bs holds bs and one byte more behind the call.
  The letters of a text, each once, as they first come: the program's Letters.
  The letters of a text, each once: the reference's Letters.
  A text written into a builder.
  Records framed: the program's Frame.
  Records framed: the reference's Frame.
  A book's settings: the program's settings.
  A book's settings: the reference's Settings.
  Bytes behind bytes: the reference's put and number.
-/
import Derived.Test.YtehbjfjhalpgaaaRows
import Derived.Test.YtehbjfjhalpgaaaIA
import Derived.Test.YtehbjfjhalpgaaaShelf
import Derived.Lib.Strings
import Derived.Lib.Slices
import Derived.Lib.Walk
import Derived.Lib.Builder
import Derived.Lib.AppendStr
import Derived.Lib.UnsafeStr
import Derived.Laws.Externs
import Derived.Lib.AsciiSet
import Derived.BigQuiet
namespace Go.Proofs.Ytehbjfjhalpgaaa
section
open Go.RowKit

/-- A builder of this program. -/
def IsB (B b : Nat) (bs : List Value) (w : World) : Prop := Lib.IsBuilder 59 5 B b bs w
def BAt (B b : Nat) (bs : List Value) (w : World) : Prop := Lib.BuilderAt 59 5 B b (.pointer (some ⟨b, 0, none⟩)) bs w
theorem BAt.is {B b : Nat} {bs : List Value} {w : World} (h : BAt B b bs w) : IsB B b bs w := .inr h

theorem builder_info : (Try.prog.info? 59).map (fun i => (i.zero, i.size, i.bytes)) = some (some (.agg #[.pointer none, .slice none 0 0]), 2, 32) := by kernel_rfl
theorem builder_lies : liesAt Try.prog Try.prog.depth 59 (2 / Try.prog.cellsOf 59) 0 59 1 = true := by kernel_rfl

set_option maxHeartbeats 1000000 in
set_option maxRecDepth 100000 in
theorem copyCheck_used (b : Nat) (w : World) (h0 : w.cell? ⟨b, 0, none⟩ = some (.pointer (some ⟨b, 0, none⟩))) :
    Calls Try.prog 47 #[.pointer (some ⟨b, 0, none⟩)] w fun e w' => e = .returned (.tuple #[]) ∧ w' = w := by
  obtain ⟨i0, hi, hz0, hz1, hz2⟩ := info_parts builder_info
  go_enter Try.func47, Try.ntmps47
  go_wp2
  rw [Lib.run_neq_ptr_same w _ Try.underlying56 hi]
  go_wp2
  go_end0
  exact ⟨rfl, rfl⟩

set_option maxHeartbeats 1000000 in
set_option maxRecDepth 100000 in
theorem copyCheck_fresh (b : Nat) (w : World) (h0 : w.cell? ⟨b, 0, none⟩ = some (.pointer none)) (hsh : w.shape? b = some (59, 2)) (hfz : w.frozen? ⟨b, 0, none⟩ = false) :
    Calls Try.prog 47 #[.pointer (some ⟨b, 0, none⟩)] w fun e w' => e = .returned (.tuple #[]) ∧ w' = w.setCell ⟨b, 0, none⟩ (.pointer (some ⟨b, 0, none⟩)) := by
  obtain ⟨i0, hi, hz0, hz1, hz2⟩ := info_parts builder_info
  go_enter Try.func47, Try.ntmps47
  go_wp2
  rw [Lib.run_to_unsafe w ⟨b, 0, none⟩ Try.underlying56 Try.underlying122 hi (by rw [hz1]; decide) hsh (Nat.zero_lt_succ 1)]
  simp only [Result.andThen]
  rw [Oper.upon_value]
  go_wp2
  rw [run_callFunc_extern Try.func59 (by kernel_rfl) (by kernel_rfl) (by kernel_rfl) (e := Extern.AbiNoEscape.same) (by kernel_rfl)]
  rw [Lib.run_noEscape]
  simp only [Result.andThen]
  rw [Oper.upon_value]
  go_wp2
  rw [Lib.run_from_unsafe w ⟨b, 0, none⟩ Try.underlying122 Try.underlying56 hi hsh builder_lies]
  simp only [Result.andThen]
  rw [Oper.upon_value]
  go_wp2
  go_end0
  exact ⟨rfl, rfl⟩

theorem copyCheck_any (B b : Nat) (bs : List Value) (w : World) (h : IsB B b bs w) :
    Calls Try.prog 47 #[.pointer (some ⟨b, 0, none⟩)] w fun e w' => e = .returned (.tuple #[]) ∧ (BAt B b bs w' ∧ Below B w w') := by
  rcases h with h | h
  · refine (copyCheck_fresh b w h.cell0 h.shape h.frozen0).mono ?_
    rintro e w' ⟨rfl, rfl⟩
    exact ⟨rfl, h.used _, (Below.refl B w).setCell (p := ⟨b, 0, none⟩) h.1 _⟩
  · refine (copyCheck_used b w h.cell0).mono ?_
    rintro e w' ⟨rfl, rfl⟩
    exact ⟨rfl, h, Below.refl B _⟩

set_option maxHeartbeats 2000000 in
set_option maxRecDepth 100000 in
theorem writeByte_any (B b : Nat) (bs : List Value) (c : Int) (w : World) (h : IsB B b bs w) (hlen : bs.length + 1 ≤ 140737488355328) (hBw : B ≤ w.heap.size) :
    Calls Try.prog 24 #[.pointer (some ⟨b, 0, none⟩), .int .u8 c] w fun e w' => e = .returned .nilIface ∧ (BAt B b (bs ++ [.int .u8 c]) w' ∧ Below B w w') := by
  obtain ⟨i0, hi, hz0, hz1, hz2⟩ := info_parts byte_info
  go_enter Try.func24, Try.ntmps24
  go_wp2_with (go_at_call 47; refine (copyCheck_any B b bs _ h).mono ?_)
  rintro e w1 ⟨rfl, h1, hb1⟩
  obtain ⟨hB, v, hbk, hown, hne⟩ := h1
  have c0 : w1.cell? ⟨b, 0, none⟩ = some (.pointer (some ⟨b, 0, none⟩)) := by rw [Lib.cell_of_heap hbk]; rfl
  have c1 : w1.cell? ⟨b, 1, none⟩ = some v := by rw [Lib.cell_of_heap hbk]; rfl
  go_wp2_with (at_builtin; refine wpList_append_own _ rfl _ _ 57 rfl B 5 i0 (.int .u8 0) 1 1 Try.underlying57 hi hz0 hz1 hz2 rfl (by decide) _ _ _ rfl (hown.alloc _) ⟨w1.heap.size, 0, none⟩ 1 1 [.int .u8 c] rfl rfl ?c1 ?c2 ?c3 ?c4 ?c5 ?_)
  case c1 =>
    intro j u hj
    match j, hj with
    | 0, hj => simp at hj; subst hj; simp [Addr.add]
  case c2 => intro u hu; simp at hu; subst hu; rfl
  case c3 => unfold maxLen; omega
  case c4 => omega
  case c5 => have := hb1.size; simp; omega
  intro v' w2 hown' hgrow _
  have hlt : b < w1.heap.size := by
    rcases Nat.lt_or_ge b w1.heap.size with h' | h'
    · exact h'
    · simp [Array.getElem?_eq_none h'] at hbk
  have hb2 : w2.heap[b]? = some (.cells #[.pointer (some ⟨b, 0, none⟩), v] 59 (0, 0)) := by
    rw [hgrow.block b (by simp; omega) (fun e => hne e.symm), Lib.alloc_old w1 _ b hlt]
    exact hbk
  have d0 : w2.cell? ⟨b, 0, none⟩ = some (.pointer (some ⟨b, 0, none⟩)) := by rw [Lib.cell_of_heap hb2]; rfl
  have d1 : w2.cell? ⟨b, 1, none⟩ = some v := by rw [Lib.cell_of_heap hb2]; rfl
  have f1 : w2.frozen? ⟨b, 1, none⟩ = false := Lib.frozen_of_heap hb2 1
  obtain ⟨g, cap, rfl⟩ : ∃ g cap, v' = .slice (some ⟨g, 0, none⟩) (bs.length + 1) cap := by
    rcases hown'.2 with ⟨_, h0⟩ | ⟨g, cap, cur, hv, _⟩
    · omega
    · exact ⟨g, cap, hv⟩
  go_wp2
  go_ret
  refine ⟨rfl, ?_, ?_⟩
  · exact Lib.BuilderAt.put (T := 59) (e := 5) hB hb2 (bs' := bs ++ [.int .u8 c]) (by simpa using hown') (by decide)
  · exact ((hb1.alloc (by have := hb1.size; omega) _).grown hgrow (by have := hb1.size; simp; omega) (fun k hk => (hown.lt k hk).1)).setCell (p := ⟨b, 1, none⟩) hB _

theorem builderString_any (B b : Nat) (l : List UInt8) (w : World) (h : IsB B b (Lib.byteCells l) w) (hBw : B ≤ w.heap.size) :
    Calls Try.prog 25 #[.pointer (some ⟨b, 0, none⟩)] w fun e w' => e = .returned (.string ⟨l.toArray⟩) ∧ Below B w w' :=
  Try.Builder_String_any B b l w h hBw
theorem fresh_isB (w : World) : IsB w.heap.size w.heap.size [] (w.alloc (.cells #[.pointer none, .slice none 0 0] 59)) := Lib.fresh_isBuilder _ _ w
end

section
open Go.RowKit

/-- Each letter once, as it first comes. -/
def onceGo (acc : List UInt8) : List UInt8 → List UInt8
  | [] => acc
  | c :: l => onceGo (if acc.contains c then acc else acc ++ [c]) l
def onceL (l : List UInt8) : List UInt8 := onceGo [] l
theorem onceGo_snoc (acc : List UInt8) (l : List UInt8) (c : UInt8) : onceGo acc (l ++ [c]) = if (onceGo acc l).contains c then onceGo acc l else onceGo acc l ++ [c] := by
  induction l generalizing acc with
  | nil => simp [onceGo]
  | cons a l ih => rw [List.cons_append, onceGo, ih, onceGo]
theorem onceGo_len (acc l : List UInt8) : (onceGo acc l).length ≤ acc.length + l.length := by
  induction l generalizing acc with
  | nil => simp [onceGo]
  | cons a l ih =>
    rw [onceGo]
    refine Nat.le_trans (ih _) ?_
    split <;> simp <;> omega
/-- What both Letters answer. -/
def lettersS (s : ByteArray) : ByteArray × Int := if s.size = 0 ∨ fitAll s = false then (⟨#[]⟩, 21) else (mkS (onceL s.data.toList), 0)

/-- The table of seen letters, in a block below the builder's. -/
def SeenAt (W : World) (g : Nat) (l : List UInt8) : Prop := W.heap[g]? = some (.cells (Lib.setCells l) 120 (0, 0))
theorem IsB.below {B b g i : Nat} {bs : List Value} {w : World} (h : IsB B b bs w) (hg : g < B) (u : Value) : IsB B b bs (w.setCell ⟨g, i, none⟩ u) := by
  have key : ∀ p, Lib.BuilderAt 59 5 B b p bs w → Lib.BuilderAt 59 5 B b p bs (w.setCell ⟨g, i, none⟩ u) := by
    rintro p ⟨hB, v, hb, hown, hne⟩
    refine ⟨hB, v, ?_, ownsRow_setCell_below hown (a := ⟨g, i, none⟩) hg u, hne⟩
    rw [Go.heap_setCell_other _ _ _ _ (by show b ≠ g; omega)]; exact hb
  rcases h with h | h
  · exact .inl (key _ h)
  · exact .inr (key _ h)
theorem SeenAt.put {W : World} {g : Nat} {l : List UInt8} (h : SeenAt W g l) (c : UInt8) : SeenAt (W.setCell ⟨g, c.toNat, none⟩ (.bool true)) g (l ++ [c]) := by
  unfold SeenAt
  rw [Lib.setCells_snoc]
  exact Go.heap_setCell_same W g c.toNat _ _ _ h

theorem zero256 (w : World) : (zeroValue 120).run Try.prog w = .ok (.agg (Lib.setCells [])) w := by kernel_rfl
/-- The state of the loop behind the first k letters. -/
structure LetAt (w W : World) (l : List UInt8) : Prop where
  below : Below w.heap.size w W
  seen : SeenAt W w.heap.size l
  out : IsB (w.heap.size + 1) (w.heap.size + 1) (Lib.byteCells l) W
theorem LetAt.start (w : World) : LetAt w ((w.alloc (.cells (Lib.setCells []) 120)).alloc (.cells #[.pointer none, .slice none 0 0] 59)) [] := by
  refine ⟨((Below.refl _ _).alloc (Nat.le_refl _) _).alloc (by simp) _, ?_, ?_⟩
  · unfold SeenAt
    rw [Lib.alloc_old _ _ _ (by simp)]
    show (w.heap.push (.cells (Lib.setCells []) 120))[w.heap.size]? = _
    rw [Array.getElem?_push_size]
  · have := fresh_isB (w.alloc (.cells (Lib.setCells []) 120))
    simpa [Lib.byteCells] using this
theorem LetAt.size {w W : World} {l : List UInt8} (h : LetAt w W l) : w.heap.size + 1 < W.heap.size := by
  rcases h.out with h | h
  · exact h.lt
  · exact h.lt
theorem LetAt.cell {w W : World} {l : List UInt8} (h : LetAt w W l) (c : UInt8) : W.cell? ⟨w.heap.size, c.toNat, none⟩ = some (.bool (l.contains c)) := by
  rw [Lib.cell_of_heap h.seen]; exact Lib.setCells_at l c
theorem LetAt.thaw {w W : World} {l : List UInt8} (h : LetAt w W l) (j : Nat) : W.frozen? ⟨w.heap.size, j, none⟩ = false := Lib.frozen_of_heap h.seen j
theorem LetAt.put {w W : World} {l : List UInt8} (h : LetAt w W l) (c : UInt8) : IsB (w.heap.size + 1) (w.heap.size + 1) (Lib.byteCells l) (W.setCell ⟨w.heap.size, c.toNat, none⟩ (.bool true)) := h.out.below (by omega) _
theorem LetAt.wrote {w W W' : World} {l : List UInt8} {c : UInt8} (h : LetAt w W l) (hb : Below (w.heap.size + 1) (W.setCell ⟨w.heap.size, c.toNat, none⟩ (.bool true)) W')
    (ho : BAt (w.heap.size + 1) (w.heap.size + 1) (Lib.byteCells l ++ [.int .u8 (c.toNat : Int)]) W') : LetAt w W' (l ++ [c]) := by
  refine ⟨(h.below.setCell (p := ⟨w.heap.size, c.toNat, none⟩) (Nat.le_refl _) _).trans (hb.mono (by omega)), ?_, ?_⟩
  · unfold SeenAt
    rw [hb.block _ (by omega)]
    exact h.seen.put c
  · rw [bytes_snoc] at ho; exact ho.is

set_option maxHeartbeats 4000000 in
set_option maxRecDepth 100000 in
theorem Letters_any (s : ByteArray) (w : World) (hs : s.size ≤ 140737488355328) :
    Calls Try.prog 45 #[.string s] w fun e w' => e = .returned (.tuple #[.string (lettersS s).1, .int .i64 (lettersS s).2]) ∧ Below w.heap.size w w' := by
  by_cases h0 : s.size = 0
  · have H : Hid (lettersS s = (⟨#[]⟩, 21)) := Lib.hid (by unfold lettersS; rw [if_pos (.inl h0)])
    have hse : s = ⟨#[]⟩ := by
      apply ByteArray.ext; exact Array.eq_empty_of_size_eq_zero h0
    subst hse
    go_enter Try.func45, Try.ntmps45
    have hz := zero256
    go_wp2_with fail
    go_ret2
    exact ⟨by rw [H.out]; rfl, (Below.refl _ _).alloc (Nat.le_refl _) _⟩
  · have hne := notEmpty s (by omega)
    go_enter Try.func45, Try.ntmps45
    have hz := zero256
    go_wp2_with fail
    go_loopw [6, 11] (fun _ i W => ∃ k : Nat, k ≤ s.size ∧ i = .int .i64 k ∧ Hid ((s.data.toList.take k).all fitB = true) ∧ LetAt w W (onceL (s.data.toList.take k))) (fun _ i _ => s.size - (intOf i).toNat)
    case atStart => exact ⟨0, Nat.zero_le _, rfl, Lib.hid rfl, LetAt.start w⟩
    case round =>
      obtain ⟨k, hk, rfl, HT, hl⟩ := hrel
      have HL := Lib.hid hl
      clear hl
      by_cases hlt : k < s.size
      · cases hf : fitB s[k]
        · have HN : Hid (lettersS s = (⟨#[]⟩, 21)) := Lib.hid (by unfold lettersS; rw [if_pos (.inr (all_no s k hlt hf))])
          go_wp2_with (first | (go_at_call 57; refine (fit_any _ _).mono ?_; rintro e w' ⟨rfl, rfl⟩))
          go_ret2
          exact ⟨by rw [HN.out]; rfl, HL.out.below⟩
        · have HN := Lib.hid (all_take s k hlt hf HT.out)
          have hb := s[k].toNat_lt
          have hb2 : (s[k].toNat : Int) < 256 := by omega
          have hcell := HL.out.cell s[k]
          have hthaw := HL.out.thaw s[k].toNat
          have HK : Hid (onceL (s.data.toList.take (k + 1)) = if (onceL (s.data.toList.take k)).contains s[k] then onceL (s.data.toList.take k) else onceL (s.data.toList.take k) ++ [s[k]]) := Lib.hid (by rw [take_snoc s k hlt]; exact onceGo_snoc _ _ _)
          have HLn : Hid ((onceL (s.data.toList.take k)).length ≤ k) := Lib.hid (by
            have h1 := onceGo_len [] (s.data.toList.take k)
            have h2 : (s.data.toList.take k).length ≤ k := List.length_take_le _ _
            rw [onceL]
            simp only [List.length_nil] at h1
            omega)
          cases hc : (onceL (s.data.toList.take k)).contains s[k]
          · rw [hc] at hcell HK
            go_wp2_with (first
              | (go_at_call 57; refine (fit_any _ _).mono ?_; rintro e w' ⟨rfl, rfl⟩)
              | (go_at_call 24; refine (writeByte_any _ _ _ _ _ (HL.out.put s[k]) (by have := HLn.out; simp [Lib.byteCells]; omega) (by have := HL.out.size; simp [World.setCell]; omega)).mono ?_; rintro e w' ⟨rfl, h1, h2⟩; have HO := Lib.hid (HL.out.wrote h2 h1); clear h1 h2))
            go_roundw
            case rel => exact ⟨k + 1, by omega, by go_num, HN, by rw [HK.out]; exact HO.out⟩
            case measure => simp [intOf]; omega
          · rw [hc] at hcell HK
            go_wp2_with (first
              | (go_at_call 57; refine (fit_any _ _).mono ?_; rintro e w' ⟨rfl, rfl⟩))
            go_roundw
            case rel => exact ⟨k + 1, by omega, by go_num, HN, by rw [HK.out]; exact HL.out⟩
            case measure => simp [intOf]; omega
      · obtain rfl : k = s.size := by omega
        have HN : Hid (lettersS s = (mkS (onceL (s.data.toList.take s.size)), 0)) := Lib.hid (by
          unfold lettersS; rw [if_neg (by rintro (h | h); · exact h0 h
                                          · rw [all_full s HT.out] at h; cases h), List.take_of_length_le (by simp)])
        go_wp2_with (first
          | (go_at_call 25; refine (builderString_any _ _ _ _ HL.out.out (by have := HL.out.size; omega)).mono ?_; rintro e w' ⟨rfl, h2⟩; have HO := Lib.hid (HL.out.below.trans (h2.mono (by omega))); clear h2))
        go_ret2
        exact ⟨by rw [HN.out]; rfl, HO.out⟩
end

section
open Go.RowKit

theorem own_byteC {w : World} {B e n g cap : Nat} {l : List UInt8} (h : w.ownsRow B e 1 (.slice (some ⟨g, 0, none⟩) n cap) n (Lib.byteCells l)) (j : Nat) (hj : j < l.length) :
    w.cell? ⟨g, j, none⟩ = some (.int .u8 (l[j].toNat : Int)) := by
  have := h.cells (g := g) rfl j (.int .u8 (l[j].toNat : Int)) (by simp [Lib.byteCells, hj])
  rwa [row_addr] at this
theorem once_snoc (s : ByteArray) (k : Nat) (h : k < s.size) : onceL (s.data.toList.take (k + 1)) = if (onceL (s.data.toList.take k)).contains s[k] then onceL (s.data.toList.take k) else onceL (s.data.toList.take k) ++ [s[k]] := by
  rw [take_snoc s k h]; exact onceGo_snoc _ _ _
theorem once_le (s : ByteArray) (k : Nat) : (onceL (s.data.toList.take k)).length ≤ k := by
  have h1 := onceGo_len [] (s.data.toList.take k)
  have h2 : (s.data.toList.take k).length ≤ k := List.length_take_le _ _
  rw [onceL]
  simp only [List.length_nil] at h1
  omega
theorem take_not (l : List UInt8) (q : Nat) (hq : q < l.length) (c : UInt8) (h : c ∉ l.take q) (hne : l[q] ≠ c) : c ∉ l.take (q + 1) := by
  rw [List.take_succ_eq_append_getElem hq, List.mem_append, List.mem_singleton]
  rintro (h1 | h1)
  · exact h h1
  · exact hne h1.symm

set_option maxHeartbeats 4000000 in
set_option maxRecDepth 100000 in
theorem rLetters_any (s : ByteArray) (w : World) (hs : s.size ≤ 140737488355327) :
    Calls Try.prog 48 #[.string s] w fun e w' => e = .returned (.tuple #[.string (lettersS s).1, .int .i64 (lettersS s).2]) ∧ Below w.heap.size w w' := by
  obtain ⟨i0, hi, hz0, hz1, hz2⟩ := info_parts byte_info
  by_cases h0 : s.size = 0
  · have H : Hid (lettersS s = (⟨#[]⟩, 21)) := Lib.hid (by unfold lettersS; rw [if_pos (.inl h0)])
    have h00 : ((s.size : Int) == 0) = true := by rw [beq_iff_eq]; omega
    go_enter Try.func48, Try.ntmps48
    go_wp2_with (first | (go_at_call 49; refine (Bytes02_any _ _ (by omega)).mono ?_; rintro e w' ⟨rfl, rfl⟩))
    go_ret2
    exact ⟨by rw [H.out]; rfl, Below.refl _ _⟩
  · have h00 : ((s.size : Int) == 0) = false := by rw [beq_eq_false_iff_ne]; omega
    cases hf : fitAll s
    · have H : Hid (lettersS s = (⟨#[]⟩, 21)) := Lib.hid (by unfold lettersS; rw [if_pos (.inr hf)])
      go_enter Try.func48, Try.ntmps48
      go_wp2_with (first | (go_at_call 49; refine (Bytes02_any _ _ (by omega)).mono ?_; rintro e w' ⟨rfl, rfl⟩))
      go_ret2
      exact ⟨by rw [H.out]; rfl, Below.refl _ _⟩
    · have H : Hid (lettersS s = (mkS (onceL s.data.toList), 0)) := Lib.hid (by
        unfold lettersS; rw [if_neg (by rintro (h | h); · exact h0 h
                                        · rw [hf] at h; cases h)])
      go_enter Try.func48, Try.ntmps48
      go_wp2_with (first | (go_at_call 49; refine (Bytes02_any _ _ (by omega)).mono ?_; rintro e w' ⟨rfl, rfl⟩))
      go_loopw [5, 6, 7, 8] (fun v i _ _ W => ∃ k g n cap : Nat, k ≤ s.size ∧ i = .int .i64 k ∧ v = .slice (some ⟨g, 0, none⟩) n cap ∧ Hid (n = (onceL (s.data.toList.take k)).length) ∧ Own w W 5 1 (.slice (some ⟨g, 0, none⟩) n cap) n (Lib.byteCells (onceL (s.data.toList.take k)))) (fun _ i _ _ _ => s.size - (intOf i).toNat)
      case atStart => exact ⟨0, _, 0, 0, Nat.zero_le _, rfl, rfl, Lib.hid rfl, Own.empty w _ _⟩
      case round =>
        obtain ⟨k, g, n, cap, hk, rfl, rfl, HN, ho⟩ := hrel
        have HO := Lib.hid ho
        clear ho
        by_cases hlt : k < s.size
        · have HK := Lib.hid (once_snoc s k hlt)
          have hn := HN.out ▸ once_le s k
          obtain ⟨acc, hacc⟩ : ∃ acc, onceL (s.data.toList.take k) = acc := ⟨_, rfl⟩
          rw [hacc] at HK HO HN
          clear hacc
          go_wp2_with fail
          go_loopw [7, 8] (fun b j W' => ∃ m q : Nat, W' = wr.drewN m ∧ j = .int .i64 q ∧ q ≤ n ∧ ((b = .bool false ∧ Hid (s[k] ∉ acc.take q)) ∨ (b = .bool true ∧ Hid (s[k] ∈ acc)))) (fun _ j _ => n - (intOf j).toNat)
          case atStart => exact ⟨0, 0, rfl, rfl, Nat.zero_le _, .inl ⟨rfl, Lib.hid (by simp)⟩⟩
          case round =>
            obtain ⟨m, q, rfl, rfl, hq, ⟨rfl, HS⟩ | ⟨rfl, HS⟩⟩ := hrel
            · by_cases hqn : q < n
              · have hqa : q < acc.length := by have := HN.out; omega
                have hcell := own_byteC HO.out.own q hqa
                obtain ⟨c, hc⟩ : ∃ c, acc[q]'hqa = c := ⟨_, rfl⟩
                rw [hc] at hcell
                by_cases hcs : c = s[k]
                · have hq2 : ((c.toNat : Int) == (s[k].toNat : Int)) = true := by rw [hcs]; simp
                  have HS2 : Hid (s[k] ∈ acc) := Lib.hid (by rw [← hcs, ← hc]; exact List.getElem_mem _)
                  clear hcs hc
                  go_wp2_with fail
                  go_quiet (fail)
                  go_wp2_with fail
                  go_roundw
                  case rel => exact ⟨_, q + 1, rfl, by go_num, by omega, .inr ⟨rfl, HS2⟩⟩
                  case measure => simp [intOf]; omega
                · have hq2 : ((c.toNat : Int) == (s[k].toNat : Int)) = false := by
                    rw [beq_eq_false_iff_ne]; intro e; exact hcs (UInt8.toNat_inj.1 (by omega))
                  have HS2 : Hid (s[k] ∉ acc.take (q + 1)) := Lib.hid (take_not acc q hqa _ HS.out (by rw [hc]; exact hcs))
                  clear hcs hc
                  go_wp2_with fail
                  go_quiet (fail)
                  go_wp2_with fail
                  go_roundw
                  case rel => exact ⟨_, q + 1, rfl, by go_num, by omega, .inl ⟨rfl, HS2⟩⟩
                  case measure => simp [intOf]; omega
              · have HK2 : Hid (onceL (s.data.toList.take (k + 1)) = acc ++ [s[k]]) := Lib.hid (by
                  rw [HK.out, if_neg]
                  have h1 := HS.out
                  rw [List.take_of_length_le (by have := HN.out; omega)] at h1
                  simpa using h1)
                go_wp2_with (at_builtin; refine wpList_push1 rfl _ _ 57 rfl w.heap.size 5 i0 (.int .u8 0) 1 Try.underlying57 hi hz0 hz1 hz2 rfl _ _ _ rfl (HO.out.drewN m).own _ rfl rfl (by unfold maxLen; omega) (by omega) (HO.out.drewN m).size ?_; intro gg cap w5 hown hg5; have HO' := Lib.hid ((HO.out.drewN m).push hown hg5); clear hown hg5)
                go_roundw
                case rel => exact ⟨k + 1, gg, n + 1, cap, by omega, by go_num, rfl, Lib.hid (by rw [HK2.out, HN.out]; simp), by rw [HK2.out, ← bytes_snoc]; exact HO'.out⟩
                case measure => simp [intOf]; omega
            · have HK2 : Hid (onceL (s.data.toList.take (k + 1)) = acc) := Lib.hid (by rw [HK.out, if_pos (by simpa using HS.out)])
              by_cases hqn : q < n
              all_goals
                go_wp2_with fail
                go_roundw
                case rel => exact ⟨k + 1, g, n, cap, by omega, by go_num, rfl, Lib.hid (by rw [HK2.out, HN.out]), by rw [HK2.out]; exact HO.out.drewN m⟩
                case measure => simp [intOf]; omega
        · obtain rfl : k = s.size := by omega
          have HF : Hid (onceL (s.data.toList.take s.size) = onceL s.data.toList) := Lib.hid (by rw [List.take_of_length_le (by simp)])
          have hcv := run_string_of_own HO.out.own 57 9 Try.underlying57 Try.underlying5 Try.underlying9
          rw [HF.out] at hcv
          go_wp2_with fail
          go_ret2
          exact ⟨by rw [H.out]; rfl, HO.out.below⟩
end

section
open Go.RowKit

set_option maxHeartbeats 2000000 in
set_option maxRecDepth 100000 in
theorem writeString_any (B b : Nat) (bs : List Value) (s : ByteArray) (w : World) (h : IsB B b bs w) (hlen : bs.length + s.size ≤ 140737488355328) (hBw : B ≤ w.heap.size) :
    Calls Try.prog 20 #[.pointer (some ⟨b, 0, none⟩), .string s] w fun e w' => e = .returned (.tuple #[.int .i64 s.size, .nilIface]) ∧ (BAt B b (bs ++ Lib.byteCells s.data.toList) w' ∧ Below B w w') := by
  have hbc : Lib.strCells s = Lib.byteCells s.data.toList := by simp [Lib.strCells, Lib.byteCells]
  obtain ⟨i0, hi, hz0, hz1, hz2⟩ := info_parts byte_info
  go_enter Try.func20, Try.ntmps20
  go_wp2_with (go_at_call 47; refine (copyCheck_any B b bs _ h).mono ?_)
  rintro e w1 ⟨rfl, h1, hb1⟩
  obtain ⟨hB, v, hbk, hown, hne⟩ := h1
  have c0 : w1.cell? ⟨b, 0, none⟩ = some (.pointer (some ⟨b, 0, none⟩)) := by rw [Lib.cell_of_heap hbk]; rfl
  have c1 : w1.cell? ⟨b, 1, none⟩ = some v := by rw [Lib.cell_of_heap hbk]; rfl
  go_wp2_with (at_builtin; refine Lib.wpList_append_own_string _ rfl _ _ 57 9 rfl B 5 i0 Try.underlying57 Try.underlying9 hi hz0 hz1 hz2 _ _ _ rfl hown s rfl ?c3 ?c4 ?c5 ?_)
  case c3 => unfold maxLen; omega
  case c4 => omega
  case c5 => have := hb1.size; omega
  intro v' w2 hown' hgrow _
  have hlt : b < w1.heap.size := by
    rcases Nat.lt_or_ge b w1.heap.size with h' | h'
    · exact h'
    · simp [Array.getElem?_eq_none h'] at hbk
  have hb2 : w2.heap[b]? = some (.cells #[.pointer (some ⟨b, 0, none⟩), v] 59 (0, 0)) := by
    rw [hgrow.block b hlt (fun e => hne e.symm)]
    exact hbk
  have d0 : w2.cell? ⟨b, 0, none⟩ = some (.pointer (some ⟨b, 0, none⟩)) := by rw [Lib.cell_of_heap hb2]; rfl
  have d1 : w2.cell? ⟨b, 1, none⟩ = some v := by rw [Lib.cell_of_heap hb2]; rfl
  have f1 : w2.frozen? ⟨b, 1, none⟩ = false := Lib.frozen_of_heap hb2 1
  have hbl : Below B w w2 := hb1.grown hgrow (by have := hb1.size; omega) (fun k hk => (hown.lt k hk).1)
  have HF := Lib.hid (Lib.BuilderAt.put (T := 59) (e := 5) hB hb2 (bs' := bs ++ Lib.strCells s) (by rw [List.length_append, Lib.strCells_length]; exact hown') (by decide))
  have HBl := Lib.hid hbl
  rw [hbc] at HF
  have hform : v' = .slice none 0 0 ∨ ∃ g n cap, v' = .slice (some ⟨g, 0, none⟩) n cap := by
    rcases hown'.2 with ⟨hv, h0⟩ | ⟨g, cap, cur, hv, _⟩
    · first | exact .inl hv | (subst h0; exact .inl hv)
    · exact .inr ⟨g, _, cap, hv⟩
  clear hown' hbl hown hbk hb2 hgrow hbc
  rcases hform with rfl | ⟨g, n, cap, rfl⟩
  all_goals
    go_wp2
    go_ret2
    exact ⟨rfl, HF.out, HBl.out.setCell (p := ⟨b, 1, none⟩) hB _⟩
end

section
open Go.RowKit

/-- Each record behind its length. -/
def frameL (ss : List ByteArray) : List UInt8 := ss.flatMap fun s => uintB s.size ++ s.data.toList
theorem frameL_snoc (ss : List ByteArray) (k : Nat) (h : k < ss.length) : frameL (ss.take (k + 1)) = frameL (ss.take k) ++ uintB ss[k].size ++ ss[k].data.toList := by
  rw [List.take_succ_eq_append_getElem h, frameL, frameL, List.flatMap_append]
  simp
def fitsL (ss : List ByteArray) : Bool := ss.all fun s => decide (s.size ≤ 255)
/-- What both Frames answer. -/
def frameS (ss : List ByteArray) : ByteArray × Int := if fitsL ss then (mkS (frameL ss), 0) else (⟨#[]⟩, 62)
theorem frameS_no (ss : List ByteArray) (k : Nat) (h : k < ss.length) (hk : ¬ ss[k].size ≤ 255) : frameS ss = (⟨#[]⟩, 62) := by
  unfold frameS
  rw [if_neg]
  intro hf
  unfold fitsL at hf
  rw [List.all_eq_true] at hf
  exact hk (of_decide_eq_true (hf _ (List.getElem_mem h)))
theorem fits_take (ss : List ByteArray) (k : Nat) (h : k < ss.length) (hk : ss[k].size ≤ 255) (ht : fitsL (ss.take k) = true) : fitsL (ss.take (k + 1)) = true := by
  unfold fitsL at *
  rw [List.take_succ_eq_append_getElem h, List.all_append, ht]; simp [hk]
theorem frameL_len (ss : List ByteArray) (hf : fitsL ss = true) : (frameL ss).length ≤ 265 * ss.length := by
  induction ss with
  | nil => simp [frameL]
  | cons s ss ih =>
    unfold fitsL at hf
    rw [List.all_cons, Bool.and_eq_true, decide_eq_true_eq] at hf
    have h1 := ih hf.2
    have h2 := uintB_ten s.size (by omega)
    have h3 : s.data.toList.length = s.size := by simp
    unfold frameL at *
    rw [List.flatMap_cons, List.length_append, List.length_append, List.length_cons]
    omega
theorem bcells_app (l m : List UInt8) : Lib.byteCells l ++ Lib.byteCells m = Lib.byteCells (l ++ m) := by simp [Lib.byteCells]
theorem bcells_len (l : List UInt8) : (Lib.byteCells l).length = l.length := by simp [Lib.byteCells]
theorem IsB.size {B b : Nat} {bs : List Value} {w : World} (h : IsB B b bs w) : b < w.heap.size := by
  rcases h with h | h
  · exact h.lt
  · exact h.lt
theorem IsB.call {B b : Nat} {bs : List Value} {w w' : World} (h : IsB B b bs w) (hb : Below w.heap.size w w') : IsB B b bs w' := by
  have key : ∀ p, Lib.BuilderAt 59 5 B b p bs w → Lib.BuilderAt 59 5 B b p bs w' := by
    rintro p ⟨hB, v, hbk, hown, hne⟩
    have hlt : b < w.heap.size := by
      rcases Nat.lt_or_ge b w.heap.size with h' | h'
      · exact h'
      · simp [Array.getElem?_eq_none h'] at hbk
    exact ⟨hB, v, by rw [hb.block b hlt]; exact hbk, own_below hown hb, hne⟩
  rcases h with h | h
  · exact .inl (key _ h)
  · exact .inr (key _ h)

set_option maxHeartbeats 4000000 in
set_option maxRecDepth 100000 in
theorem Frame_any (ss : List ByteArray) (g o cap : Nat) (w : World) (hn : ss.length ≤ 1000) (hg : g < w.heap.size) (hc : ∀ k (h : k < ss.length), w.cell? ⟨g, o + k, none⟩ = some (.string ss[k])) :
    Calls Try.prog 23 #[.slice (some ⟨g, o, none⟩) ss.length cap] w fun e w' => e = .returned (.tuple #[.string (frameS ss).1, .int .i64 (frameS ss).2]) ∧ Below w.heap.size w w' := by
  have HC := Lib.hid hc
  clear hc
  go_enter Try.func23, Try.ntmps23
  go_wp2_with fail
  go_loopw [6, 9] (fun _ i W => ∃ k : Nat, k ≤ ss.length ∧ i = .int .i64 k ∧ Hid (fitsL (ss.take k) = true) ∧ Hid (Below w.heap.size w W) ∧ Hid (IsB w.heap.size w.heap.size (Lib.byteCells (frameL (ss.take k))) W)) (fun _ i _ => ss.length - (intOf i).toNat)
  case atStart => exact ⟨0, Nat.zero_le _, rfl, Lib.hid rfl, Lib.hid ((Below.refl _ _).alloc (Nat.le_refl _) _), Lib.hid (fresh_isB w)⟩
  case round =>
    obtain ⟨k, hk, rfl, HT, HB, HI⟩ := hrel
    by_cases hlt : k < ss.length
    · have hcell := (HB.out.cell (p := ⟨g, o + k, none⟩) hg).trans (HC.out k hlt)
      have HS := Lib.hid (frameL_snoc ss k hlt)
      by_cases h255 : ss[k].size ≤ 255
      · have HT2 := Lib.hid (fits_take ss k hlt h255 HT.out)
        have HL1 : Hid ((frameL (ss.take k)).length ≤ 265000) := Lib.hid (by
          have := frameL_len _ HT.out
          have h2 : (ss.take k).length ≤ k := List.length_take_le _ _
          omega)
        obtain ⟨x, hx⟩ : ∃ x, ss[k]'hlt = x := ⟨_, rfl⟩
        rw [hx] at hcell HS h255
        clear hx
        have hUint := fun w => Uint_any x.size (by omega) w
        obtain ⟨T, hT⟩ : ∃ T, mkS (uintB x.size) = T := ⟨_, rfl⟩
        have HU : Hid (T.size ≤ 10) := Lib.hid (by rw [← hT, mkS_size]; exact uintB_ten x.size (by omega))
        have HTd : Hid (uintB x.size = T.data.toList) := Lib.hid (by rw [← hT, mkS_data])
        rw [hT] at hUint
        rw [HTd.out] at HS
        have HUint := Lib.hid hUint
        clear hT hUint HTd
        go_wp2_with (first
          | (go_at_call 21; refine (HUint.out _).mono ?_; rintro e w1 ⟨rfl, hb1⟩; have HI1 := Lib.hid (HI.out.call hb1); have HB1 := Lib.hid (HB.out.trans (hb1.mono (by have := HI.out.size; omega))); clear hb1))
        refine (writeString_any _ _ _ T _ HI1.out (by rw [bcells_len]; have := HL1.out; have := HU.out; omega) (by have := HI1.out.size; omega)).mono ?_
        rintro e w2 ⟨rfl, ho, hb2⟩
        have HI2 := Lib.hid ho.is
        have HB2 := Lib.hid (HB1.out.trans hb2)
        clear ho hb2
        go_wp2_with fail
        refine (writeString_any _ _ _ x _ HI2.out (by rw [List.length_append, bcells_len, bcells_len, len_toList]; have := HL1.out; have := HU.out; omega) (by have := HI2.out.size; omega)).mono ?_
        rintro e w3 ⟨rfl, ho, hb3⟩
        have HI3 := Lib.hid ho.is
        have HB3 := Lib.hid (HB2.out.trans hb3)
        clear ho hb3
        go_wp2_with fail
        go_roundw
        case rel => exact ⟨k + 1, by omega, by go_num, HT2, HB3, Lib.hid (by rw [HS.out, ← bcells_app, ← bcells_app]; exact HI3.out)⟩
        case measure => simp [intOf]; omega
      · have HN := Lib.hid (frameS_no ss k hlt h255)
        go_wp2_with fail
        go_ret2
        exact ⟨by rw [HN.out]; rfl, HB.out⟩
    · obtain rfl : k = ss.length := by omega
      have HN : Hid (frameS ss = (mkS (frameL ss), 0)) := Lib.hid (by
        have := HT.out
        rw [List.take_length] at this
        unfold frameS; rw [if_pos this])
      go_wp2_with (first
        | (go_at_call 25; refine (builderString_any _ _ _ _ HI.out (by have := HI.out.size; omega)).mono ?_; rintro e w' ⟨rfl, h2⟩; have HO := Lib.hid (HB.out.trans h2); clear h2))
      go_ret2
      exact ⟨by rw [HN.out]; rfl, HO.out⟩
end

section
open Go.RowKit

theorem fits_full (ss : List ByteArray) (ht : fitsL (ss.take ss.length) = true) : fitsL ss = true := by rwa [List.take_length] at ht
theorem fits_at (ss : List ByteArray) (hf : fitsL ss = true) (k : Nat) (h : k < ss.length) : ss[k].size ≤ 255 := by
  unfold fitsL at hf
  rw [List.all_eq_true] at hf
  exact of_decide_eq_true (hf _ (List.getElem_mem h))
theorem take_app (F : List UInt8) (s : ByteArray) (q : Nat) (h : q < s.size) : F ++ s.data.toList.take (q + 1) = F ++ s.data.toList.take q ++ [s[q]] := by
  rw [take_snoc s q h, List.append_assoc]

set_option maxHeartbeats 4000000 in
set_option maxRecDepth 100000 in
theorem rFrame_any (ss : List ByteArray) (g o cap : Nat) (w : World) (hn : ss.length ≤ 1000) (hg : g < w.heap.size) (hc : ∀ k (h : k < ss.length), w.cell? ⟨g, o + k, none⟩ = some (.string ss[k])) :
    Calls Try.prog 30 #[.slice (some ⟨g, o, none⟩) ss.length cap] w fun e w' => e = .returned (.tuple #[.string (frameS ss).1, .int .i64 (frameS ss).2]) ∧ Below w.heap.size w w' := by
  obtain ⟨i0, hi, hz0, hz1, hz2⟩ := info_parts byte_info
  have HC := Lib.hid hc
  have HE := Lib.hid (Own.empty w 5 1)
  clear hc
  go_enter Try.func30, Try.ntmps30
  go_wp2_with fail
  go_loopw [5] (fun i W => ∃ k : Nat, k ≤ ss.length ∧ i = .int .i64 k ∧ Hid (fitsL (ss.take k) = true) ∧ W = w.alloc (.cells #[] 5)) (fun i _ => ss.length - (intOf i).toNat)
  case atStart => exact ⟨0, Nat.zero_le _, rfl, Lib.hid rfl, rfl⟩
  case round =>
    obtain ⟨k, hk, rfl, HT, rfl⟩ := hrel
    by_cases hlt : k < ss.length
    · have hcell := (HE.out.below.cell (p := ⟨g, o + k, none⟩) hg).trans (HC.out k hlt)
      by_cases h255 : ss[k].size ≤ 255
      · have HT2 := Lib.hid (fits_take ss k hlt h255 HT.out)
        obtain ⟨x, hx⟩ : ∃ x, ss[k]'hlt = x := ⟨_, rfl⟩
        rw [hx] at hcell h255
        clear hx
        go_wp2_with fail
        go_roundw
        case rel => exact ⟨k + 1, by omega, by go_num, HT2, trivial⟩
        case measure => simp [intOf]; omega
      · have HN := Lib.hid (frameS_no ss k hlt h255)
        obtain ⟨x, hx⟩ : ∃ x, ss[k]'hlt = x := ⟨_, rfl⟩
        rw [hx] at hcell h255
        clear hx
        go_wp2_with fail
        go_ret2
        exact ⟨by rw [HN.out]; rfl, HE.out.below⟩
    · obtain rfl : k = ss.length := by omega
      have HF := Lib.hid (fits_full ss HT.out)
      have HN : Hid (frameS ss = (mkS (frameL ss), 0)) := Lib.hid (by unfold frameS; rw [if_pos HF.out])
      go_wp2_with fail
      go_loopw [4, 6, 7, 8, 9] (fun v i _ _ _ W => ∃ k n : Nat, k ≤ ss.length ∧ i = .int .i64 k ∧ n ≤ 265 * k ∧ Hid (Own w W 5 1 v n (Lib.byteCells (frameL (ss.take k))))) (fun _ i _ _ _ _ => ss.length - (intOf i).toNat)
      case atStart => exact ⟨0, 0, Nat.zero_le _, rfl, Nat.le_refl _, HE⟩
      case round =>
        obtain ⟨k, n, hk, rfl, hn2, HO⟩ := hrel
        by_cases hlt : k < ss.length
        · have hcell := (HO.out.below.cell (p := ⟨g, o + k, none⟩) hg).trans (HC.out k hlt)
          have HCk := Lib.hid (HC.out k hlt)
          have HS := Lib.hid (frameL_snoc ss k hlt)
          have h255 := fits_at ss HF.out k hlt
          obtain ⟨x, hx⟩ : ∃ x, ss[k]'hlt = x := ⟨_, rfl⟩
          rw [hx] at hcell HS h255 HCk
          clear hx
          have hUint := fun w => rUint_any x.size w (by omega)
          obtain ⟨T, hT⟩ : ∃ T, mkS (uintB x.size) = T := ⟨_, rfl⟩
          have hT1 : T.size ≤ 10 := by rw [← hT, mkS_size]; exact uintB_ten x.size (by omega)
          have HTd : Hid (uintB x.size = T.data.toList) := Lib.hid (by rw [← hT, mkS_data])
          rw [hT] at hUint
          rw [HTd.out] at HS
          have HUint := Lib.hid hUint
          obtain ⟨F, hF⟩ : ∃ F, frameL (ss.take k) = F := ⟨_, rfl⟩
          rw [hF] at HS HO
          clear hT hUint HTd hF
          go_wp2_with (first | (go_at_call 51; refine (HUint.out _).mono ?_; rintro e w1 ⟨rfl, hb1⟩; have HO1 := Lib.hid (HO.out.call hb1); clear hb1))
          go_loopw [4, 8] (fun v j W => ∃ q m : Nat, q ≤ T.size ∧ j = .int .i64 q ∧ m ≤ n + q ∧ Hid (Own w W 5 1 v m (Lib.byteCells (F ++ T.data.toList.take q)))) (fun _ j _ => T.size - (intOf j).toNat)
          case atStart => exact ⟨0, n, Nat.zero_le _, rfl, by omega, Lib.hid (by rw [List.take_zero, List.append_nil]; exact HO1.out)⟩
          case round =>
            obtain ⟨q, m, hq, rfl, hm, HP⟩ := hrel
            by_cases hqt : q < T.size
            · have HA := Lib.hid (take_app F T q hqt)
              go_wp2_with (at_builtin; refine wpList_push1 rfl _ _ 57 rfl w.heap.size 5 i0 (.int .u8 0) 1 Try.underlying57 hi hz0 hz1 hz2 rfl _ _ _ rfl HP.out.own _ rfl rfl (by unfold maxLen; omega) (by omega) HP.out.size ?_; intro gg cc w5 hown hg5; have HO' := Lib.hid (HP.out.push hown hg5); clear hown hg5)
              go_roundw
              case rel => exact ⟨q + 1, m + 1, by omega, by go_num, by omega, Lib.hid (by rw [HA.out, ← bytes_snoc]; exact HO'.out)⟩
              case measure => simp [intOf]; omega
            · obtain rfl : q = T.size := by omega
              have HQ : Hid (F ++ T.data.toList.take T.size = F ++ T.data.toList) := Lib.hid (by rw [List.take_of_length_le (by simp)])
              rw [HQ.out] at HP
              obtain ⟨G, hG⟩ : ∃ G, F ++ T.data.toList = G := ⟨_, rfl⟩
              rw [hG] at HP HS
              clear hG HQ
              go_wp2_with fail
              go_loopw [4, 9] (fun v j W => ∃ q m2 : Nat, q ≤ x.size ∧ j = .int .i64 q ∧ m2 ≤ m + q ∧ Hid (Own w W 5 1 v m2 (Lib.byteCells (G ++ x.data.toList.take q)))) (fun _ j _ => x.size - (intOf j).toNat)
              case atStart => exact ⟨0, m, Nat.zero_le _, rfl, by omega, Lib.hid (by rw [List.take_zero, List.append_nil]; exact HP.out)⟩
              case round =>
                obtain ⟨q, m2, hq2, rfl, hm2, HP2⟩ := hrel
                have hcell2 := (HP2.out.below.cell (p := ⟨g, o + k, none⟩) hg).trans HCk.out
                by_cases hqt : q < x.size
                · have HA := Lib.hid (take_app G x q hqt)
                  go_wp2_with (at_builtin; refine wpList_push1 rfl _ _ 57 rfl w.heap.size 5 i0 (.int .u8 0) 1 Try.underlying57 hi hz0 hz1 hz2 rfl _ _ _ rfl HP2.out.own _ rfl rfl (by unfold maxLen; omega) (by omega) HP2.out.size ?_; intro gg cc w5 hown hg5; have HO' := Lib.hid (HP2.out.push hown hg5); clear hown hg5)
                  go_roundw
                  case rel => exact ⟨q + 1, m2 + 1, by omega, by go_num, by omega, Lib.hid (by rw [HA.out, ← bytes_snoc]; exact HO'.out)⟩
                  case measure => simp [intOf]; omega
                · obtain rfl : q = x.size := by omega
                  have HQ : Hid (G ++ x.data.toList.take x.size = G ++ x.data.toList) := Lib.hid (by rw [List.take_of_length_le (by simp)])
                  rw [HQ.out] at HP2
                  go_wp2_with fail
                  go_roundw
                  case rel => exact ⟨k + 1, m2, by omega, by go_num, by omega, Lib.hid (by rw [HS.out]; exact HP2.out)⟩
                  case measure => simp [intOf]; omega
        · obtain rfl : k = ss.length := by omega
          have HFl : Hid (frameL (ss.take ss.length) = frameL ss) := Lib.hid (by rw [List.take_length])
          have hcv := run_string_of_own HO.out.own 57 9 Try.underlying57 Try.underlying5 Try.underlying9
          rw [HFl.out] at hcv
          go_wp2_with fail
          go_ret2
          exact ⟨by rw [HN.out]; rfl, HO.out.below⟩
end

section
open Go.RowKit

def repOk (r : ByteArray × ByteArray) : Bool := decide (0 < r.1.size) && (fitAll r.1 && decide (r.1.size ≤ 32)) && (fitAll r.2 && decide (r.2.size ≤ 32))
def tryOk (t : ByteArray) : Bool := decide (t.size = 0) || (decide ((lettersS t).2 = 0) && decide ((lettersS t).1 = t))
/-- What both say of a book's settings. -/
def settingsB (n : Int) (t : ByteArray) (rs : List (ByteArray × ByteArray)) : Bool :=
  decide (1 ≤ n) && decide (n ≤ 64) && decide (rs.length ≤ 256) && tryOk t && rs.all repOk
/-- The reps' cells. -/
def RepsAt (w : World) (v : Value) (rs : List (ByteArray × ByteArray)) : Prop :=
  ∃ A cap, v = .slice A rs.length cap ∧ (rs.length = 0 ∨ ∃ g o, A = some ⟨g, o, none⟩ ∧ g < w.heap.size ∧ ∀ k (h : k < rs.length), w.cell? ⟨g, o + k * 2, none⟩ = some (.string rs[k].1) ∧ w.cell? ⟨g, o + k * 2 + 1, none⟩ = some (.string rs[k].2))
theorem settings_n (n : Int) (t : ByteArray) (rs : List (ByteArray × ByteArray)) (h : ¬ (1 ≤ n ∧ n ≤ 64 ∧ rs.length ≤ 256)) : settingsB n t rs = false := by
  unfold settingsB
  by_cases h1 : 1 ≤ n
  · by_cases h2 : n ≤ 64
    · rw [decide_eq_false (p := rs.length ≤ 256) (fun h3 => h ⟨h1, h2, h3⟩)]; simp
    · rw [decide_eq_false h2]; simp
  · rw [decide_eq_false h1]; simp
theorem settings_t (n : Int) (t : ByteArray) (rs : List (ByteArray × ByteArray)) (h : tryOk t = false) : settingsB n t rs = false := by
  unfold settingsB; rw [h]; simp
theorem settings_r (n : Int) (t : ByteArray) (rs : List (ByteArray × ByteArray)) (k : Nat) (hk : k < rs.length) (h : repOk rs[k] = false) : settingsB n t rs = false := by
  have : rs.all repOk = false := by rw [List.all_eq_false]; exact ⟨rs[k], List.getElem_mem _, by simp [h]⟩
  unfold settingsB; rw [this]; simp
theorem settings_ok (n : Int) (t : ByteArray) (rs : List (ByteArray × ByteArray)) (h1 : 1 ≤ n) (h2 : n ≤ 64) (h3 : rs.length ≤ 256) (ht : tryOk t = true) (hr : ∀ k (h : k < rs.length), repOk rs[k] = true) : settingsB n t rs = true := by
  have : rs.all repOk = true := by
    rw [List.all_eq_true]; intro r hr'
    obtain ⟨k, hk, rfl⟩ := List.mem_iff_getElem.1 hr'
    exact hr k hk
  unfold settingsB; rw [this, ht, decide_eq_true h1, decide_eq_true h2, decide_eq_true h3]; rfl

set_option maxHeartbeats 4000000 in
set_option maxRecDepth 100000 in
theorem settings_any (n : Int) (t : ByteArray) (rs : List (ByteArray × ByteArray)) (vr s0 s1 s2 s3 : Value) (w : World) (hr : RepsAt w vr rs) (ht : t.size ≤ 140737488355327) (hrs : ∀ k (h : k < rs.length), rs[k].1.size ≤ 140737488355328 ∧ rs[k].2.size ≤ 140737488355328) :
    Calls Try.prog 18 #[.agg #[.int .i64 n, .string t, vr, s0, s1, s2, s3]] w fun e w' => e = .returned (.bool (settingsB n t rs)) ∧ Below w.heap.size w w' := by
  obtain ⟨A, cap, rfl, hA⟩ := hr
  have HA := Lib.hid hA
  have HR := Lib.hid hrs
  clear hA hrs
  by_cases hb : 1 ≤ n ∧ n ≤ 64 ∧ rs.length ≤ 256
  · obtain ⟨hb1, hb2, hb3⟩ := hb
    obtain ⟨⟨ls, le⟩, hL⟩ : ∃ L, lettersS t = L := ⟨_, rfl⟩
    have hLt := fun w => Letters_any t w (by omega)
    rw [hL] at hLt
    have HLt := Lib.hid hLt
    have HBX : Hid (∀ w1, Below (w.alloc (.cells #[.int .i64 n, .string t, .slice A rs.length cap, s0, s1, s2, s3] 26)).heap.size (w.alloc (.cells #[.int .i64 n, .string t, .slice A rs.length cap, s0, s1, s2, s3] 26)) w1 → Below w.heap.size w w1 ∧ w1.cell? ⟨w.heap.size, 1, none⟩ = some (.string t) ∧ w1.cell? ⟨w.heap.size, 2, none⟩ = some (.slice A rs.length cap)) := Lib.hid (fun w1 h => by
      have hk : (w.alloc (.cells #[.int .i64 n, .string t, .slice A rs.length cap, s0, s1, s2, s3] 26)).heap[w.heap.size]? = some (.cells #[.int .i64 n, .string t, .slice A rs.length cap, s0, s1, s2, s3] 26) := by
        show (w.heap.push _)[w.heap.size]? = _
        rw [Array.getElem?_push_size]
      refine ⟨((Below.refl w.heap.size w).alloc (Nat.le_refl _) _).trans (h.mono (by simp)), ?_, ?_⟩
      · rw [h.cell (p := ⟨w.heap.size, 1, none⟩) (by simp), Lib.cell_of_heap hk]; rfl
      · rw [h.cell (p := ⟨w.heap.size, 2, none⟩) (by simp), Lib.cell_of_heap hk]; rfl)
    have HTr : Hid (tryOk t = (decide (t.size = 0) || (decide (le = 0) && decide (ls = t)))) := Lib.hid (by unfold tryOk; rw [hL])
    clear hLt hL
    have hcs : (Hid (t.size = 0) ∧ t.toList.isEmpty = true) ∨ (Hid (t.size ≠ 0) ∧ t.toList.isEmpty = false ∧ (le != 0) = true) ∨ (Hid (t.size ≠ 0) ∧ t.toList.isEmpty = false ∧ (le != 0) = false ∧ (ls.toList == t.toList) = false) ∨ (Hid (t.size ≠ 0) ∧ t.toList.isEmpty = false ∧ (le != 0) = false ∧ (ls.toList == t.toList) = true) := by
      by_cases h0 : t.size = 0
      · exact .inl ⟨Lib.hid h0, isEmpty1 t h0⟩
      · have h1 := notEmpty t (by omega)
        cases h2 : (le != 0)
        · cases h3 : (ls.toList == t.toList)
          · exact .inr (.inr (.inl ⟨Lib.hid h0, h1, rfl, rfl⟩))
          · exact .inr (.inr (.inr ⟨Lib.hid h0, h1, rfl, rfl⟩))
        · exact .inr (.inl ⟨Lib.hid h0, h1, rfl⟩)
    rcases hcs with ⟨h0, q1⟩ | ⟨h0, q1, q2⟩ | ⟨h0, q1, q2, q3⟩ | ⟨h0, q1, q2, q3⟩
    rotate_left
    · have HN : Hid (settingsB n t rs = false) := Lib.hid (settings_t _ _ _ (by rw [HTr.out, decide_eq_false h0.out, decide_eq_false (p := le = 0) (by simpa using q2)]; rfl))
      go_enter Try.func18, Try.ntmps18
      go_wp2_with (first | (go_at_call 45; refine (HLt.out _).mono ?_; rintro e w1 ⟨rfl, hb1⟩; obtain ⟨hbw, hx1, hx2⟩ := HBX.out _ hb1; have HBw := Lib.hid hbw; clear hb1 hbw))
      go_ret
      exact ⟨by rw [HN.out]; rfl, HBw.out⟩
    · have HN : Hid (settingsB n t rs = false) := Lib.hid (settings_t _ _ _ (by rw [HTr.out, decide_eq_false h0.out, decide_eq_false (p := ls = t) (by rintro rfl; simp at q3)]; simp))
      go_enter Try.func18, Try.ntmps18
      go_wp2_with (first | (go_at_call 45; refine (HLt.out _).mono ?_; rintro e w1 ⟨rfl, hb1⟩; obtain ⟨hbw, hx1, hx2⟩ := HBX.out _ hb1; have HBw := Lib.hid hbw; clear hb1 hbw))
      go_ret
      exact ⟨by rw [HN.out]; rfl, HBw.out⟩
    rotate_left
    all_goals
      have HT : Hid (tryOk t = true) := Lib.hid (by
        rw [HTr.out]
        first
          | (rw [decide_eq_true h0.out]; rfl)
          | (rw [decide_eq_true (p := le = 0) (by simpa using q2), decide_eq_true (p := ls = t) (of_decide_eq_true ((beq_str ls t).symm.trans q3))]; simp))
      go_enter Try.func18, Try.ntmps18
      go_wp2_with (first | (go_at_call 45; refine (HLt.out _).mono ?_; rintro e w1 ⟨rfl, hb1⟩; obtain ⟨hbw, hx1, hx2⟩ := HBX.out _ hb1; have HBw := Lib.hid hbw; clear hb1 hbw))
      clear hx1 hx2
      go_loopw [6, 43] (fun _ i W => ∃ k : Nat, k ≤ rs.length ∧ i = .int .i64 k ∧ Hid (Below w.heap.size w W) ∧ Hid (∀ j (h : j < rs.length), j < k → repOk rs[j] = true)) (fun _ i _ => rs.length - (intOf i).toNat)
      case atStart => exact ⟨0, Nat.zero_le _, rfl, HBw, Lib.hid (fun j h h2 => absurd h2 (Nat.not_lt_zero j))⟩
      case round =>
        obtain ⟨k, hk, rfl, HB, HP⟩ := hrel
        by_cases hlt : k < rs.length
        · obtain ⟨g, o, rfl, hg, hcs⟩ := HA.out.resolve_left (by omega)
          have c1 := (HB.out.cell (p := ⟨g, o + k * 2, none⟩) hg).trans (hcs k hlt).1
          have c2 := (HB.out.cell (p := ⟨g, o + k * 2 + 1, none⟩) hg).trans (hcs k hlt).2
          clear hcs
          obtain ⟨hz1, hz2⟩ := HR.out k hlt
          have HV : Hid (repOk rs[k] = false → settingsB n t rs = false) := Lib.hid (settings_r n t rs k hlt)
          have HP2 : Hid (repOk rs[k] = true → ∀ j (h : j < rs.length), j < k + 1 → repOk rs[j] = true) := Lib.hid (fun e j h hj => by
            by_cases ej : j = k
            · subst ej; exact e
            · exact HP.out j h (by omega))
          obtain ⟨⟨x, y⟩, hr⟩ : ∃ r, rs[k]'hlt = r := ⟨_, rfl⟩
          rw [hr] at c1 c2 HV HP2 hz1 hz2
          dsimp only at c1 c2 hz1 hz2
          clear hr HP
          have hpx : ∀ w, Calls Try.prog 46 #[.string x, .int .i64 32] w fun e w' => e = .returned (.bool (fitAll x && decide (x.size ≤ 32))) ∧ w = w' := fun w => plain_any x 32 w hz1
          have hpy : ∀ w, Calls Try.prog 46 #[.string y, .int .i64 32] w fun e w' => e = .returned (.bool (fitAll y && decide (y.size ≤ 32))) ∧ w = w' := fun w => plain_any y 32 w hz2
          have hrk : repOk (x, y) = (decide (0 < x.size) && (fitAll x && decide (x.size ≤ 32)) && (fitAll y && decide (y.size ≤ 32))) := rfl
          obtain ⟨p1, hp1⟩ : ∃ p, (fitAll x && decide (x.size ≤ 32)) = p := ⟨_, rfl⟩
          obtain ⟨p2, hp2⟩ : ∃ p, (fitAll y && decide (y.size ≤ 32)) = p := ⟨_, rfl⟩
          rw [hp1] at hpx hrk
          rw [hp2] at hpy hrk
          clear hp1 hp2 hz1 hz2
          have HX := Lib.hid hpx
          have HY := Lib.hid hpy
          have HRk := Lib.hid hrk
          clear hpx hpy hrk
          by_cases hx0 : x.size = 0
          · have he := isEmpty1 x hx0
            have HN := Lib.hid (HV.out (by rw [HRk.out, decide_eq_false (by omega)]; rfl))
            clear hx0
            go_wp2_with fail
            go_ret
            exact ⟨by rw [HN.out]; rfl, HB.out.alloc HB.out.size _⟩
          · have he := notEmpty x (by omega)
            have HR1 : Hid (repOk (x, y) = (p1 && p2)) := Lib.hid (by rw [HRk.out, decide_eq_true (by omega)]; rfl)
            clear hx0
            cases p1
            · have HN := Lib.hid (HV.out (by rw [HR1.out]; rfl))
              go_wp2_with fail
              refine (HX.out _).mono ?_
              rintro e w' ⟨rfl, rfl⟩
              go_wp2_with fail
              go_ret
              exact ⟨by rw [HN.out]; rfl, HB.out.alloc HB.out.size _⟩
            · cases p2
              · have HN := Lib.hid (HV.out (by rw [HR1.out]; rfl))
                go_wp2_with fail
                refine (HX.out _).mono ?_
                rintro e w' ⟨rfl, rfl⟩
                go_wp2_with fail
                refine (HY.out _).mono ?_
                rintro e w' ⟨rfl, rfl⟩
                go_wp2_with fail
                go_ret
                exact ⟨by rw [HN.out]; rfl, HB.out.alloc HB.out.size _⟩
              · have HN := Lib.hid (HP2.out (by rw [HR1.out]; rfl))
                go_wp2_with fail
                refine (HX.out _).mono ?_
                rintro e w' ⟨rfl, rfl⟩
                go_wp2_with fail
                refine (HY.out _).mono ?_
                rintro e w' ⟨rfl, rfl⟩
                go_wp2_with fail
                go_roundw
                case rel => exact ⟨k + 1, by omega, by go_num, Lib.hid (HB.out.alloc HB.out.size _), HN⟩
                case measure => simp [intOf]; omega
        · obtain rfl : k = rs.length := by omega
          have HN : Hid (settingsB n t rs = true) := Lib.hid (settings_ok _ _ _ hb1 hb2 hb3 HT.out (fun j h => HP.out j h h))
          go_wp2_with fail
          go_ret
          exact ⟨by rw [HN.out]; rfl, HB.out⟩
  · have HN := Lib.hid (settings_n n t rs hb)
    have hcs : n < 1 ∨ (¬ n < 1 ∧ 64 < n) ∨ (¬ n < 1 ∧ ¬ 64 < n ∧ (256 : Int) < (rs.length : Int)) := by omega
    clear hb
    rcases hcs with q1 | ⟨q1, q2⟩ | ⟨q1, q2, q3⟩
    all_goals
      go_enter Try.func18, Try.ntmps18
      go_wp2_with fail
      go_ret
      exact ⟨by rw [HN.out]; rfl, (Below.refl _ _).alloc (Nat.le_refl _) _⟩
end

section
open Go.RowKit

set_option maxHeartbeats 4000000 in
set_option maxRecDepth 100000 in
theorem rSettings_any (n : Int) (t : ByteArray) (rs : List (ByteArray × ByteArray)) (vr s0 s1 s2 s3 : Value) (w : World) (hr : RepsAt w vr rs) (ht : t.size ≤ 140737488355327) (hrs : ∀ k (h : k < rs.length), rs[k].1.size ≤ 140737488355328 ∧ rs[k].2.size ≤ 140737488355328) :
    Calls Try.prog 26 #[.agg #[.int .i64 n, .string t, vr, s0, s1, s2, s3]] w fun e w' => e = .returned (.bool (settingsB n t rs)) ∧ Below w.heap.size w w' := by
  obtain ⟨A, cap, rfl, hA⟩ := hr
  have HA := Lib.hid hA
  have HR := Lib.hid hrs
  clear hA hrs
  by_cases hb : 1 ≤ n ∧ n ≤ 64 ∧ rs.length ≤ 256
  · obtain ⟨hb1, hb2, hb3⟩ := hb
    obtain ⟨⟨ls, le⟩, hL⟩ : ∃ L, lettersS t = L := ⟨_, rfl⟩
    have hLt := fun w => rLetters_any t w (by omega)
    rw [hL] at hLt
    have HLt := Lib.hid hLt
    have HBX : Hid (∀ w1, Below (w.alloc (.cells #[.int .i64 n, .string t, .slice A rs.length cap, s0, s1, s2, s3] 37)).heap.size (w.alloc (.cells #[.int .i64 n, .string t, .slice A rs.length cap, s0, s1, s2, s3] 37)) w1 → Below w.heap.size w w1 ∧ w1.cell? ⟨w.heap.size, 1, none⟩ = some (.string t) ∧ w1.cell? ⟨w.heap.size, 2, none⟩ = some (.slice A rs.length cap)) := Lib.hid (fun w1 h => by
      have hk : (w.alloc (.cells #[.int .i64 n, .string t, .slice A rs.length cap, s0, s1, s2, s3] 37)).heap[w.heap.size]? = some (.cells #[.int .i64 n, .string t, .slice A rs.length cap, s0, s1, s2, s3] 37) := by
        show (w.heap.push _)[w.heap.size]? = _
        rw [Array.getElem?_push_size]
      refine ⟨((Below.refl w.heap.size w).alloc (Nat.le_refl _) _).trans (h.mono (by simp)), ?_, ?_⟩
      · rw [h.cell (p := ⟨w.heap.size, 1, none⟩) (by simp), Lib.cell_of_heap hk]; rfl
      · rw [h.cell (p := ⟨w.heap.size, 2, none⟩) (by simp), Lib.cell_of_heap hk]; rfl)
    have HTr : Hid (tryOk t = (decide (t.size = 0) || (decide (le = 0) && decide (ls = t)))) := Lib.hid (by unfold tryOk; rw [hL])
    clear hLt hL
    have hcs : (Hid (t.size = 0) ∧ ¬ (0 : Int) < (t.size : Int)) ∨ (Hid (t.size ≠ 0) ∧ (0 : Int) < (t.size : Int) ∧ (le != 0) = true) ∨ (Hid (t.size ≠ 0) ∧ (0 : Int) < (t.size : Int) ∧ (le != 0) = false ∧ (ls.toList == t.toList) = false) ∨ (Hid (t.size ≠ 0) ∧ (0 : Int) < (t.size : Int) ∧ (le != 0) = false ∧ (ls.toList == t.toList) = true) := by
      by_cases h0 : t.size = 0
      · exact .inl ⟨Lib.hid h0, by omega⟩
      · have h1 : (0 : Int) < (t.size : Int) := by omega
        cases h2 : (le != 0)
        · cases h3 : (ls.toList == t.toList)
          · exact .inr (.inr (.inl ⟨Lib.hid h0, h1, rfl, rfl⟩))
          · exact .inr (.inr (.inr ⟨Lib.hid h0, h1, rfl, rfl⟩))
        · exact .inr (.inl ⟨Lib.hid h0, h1, rfl⟩)
    rcases hcs with ⟨h0, q1⟩ | ⟨h0, q1, q2⟩ | ⟨h0, q1, q2, q3⟩ | ⟨h0, q1, q2, q3⟩
    rotate_left
    · have HN : Hid (settingsB n t rs = false) := Lib.hid (settings_t _ _ _ (by rw [HTr.out, decide_eq_false h0.out, decide_eq_false (p := le = 0) (by simpa using q2)]; rfl))
      go_enter Try.func26, Try.ntmps26
      go_wp2_with (first | (go_at_call 48; refine (HLt.out _).mono ?_; rintro e w1 ⟨rfl, hb1⟩; obtain ⟨hbw, hx1, hx2⟩ := HBX.out _ hb1; have HBw := Lib.hid hbw; have HBb := Lib.hid hb1; clear hb1 hbw))
      go_ret
      exact ⟨by rw [HN.out]; rfl, HBw.out⟩
    · have HN : Hid (settingsB n t rs = false) := Lib.hid (settings_t _ _ _ (by rw [HTr.out, decide_eq_false h0.out, decide_eq_false (p := ls = t) (by rintro rfl; simp at q3)]; simp))
      go_enter Try.func26, Try.ntmps26
      go_wp2_with (first | (go_at_call 48; refine (HLt.out _).mono ?_; rintro e w1 ⟨rfl, hb1⟩; obtain ⟨hbw, hx1, hx2⟩ := HBX.out _ hb1; have HBw := Lib.hid hbw; have HBb := Lib.hid hb1; clear hb1 hbw))
      go_ret
      exact ⟨by rw [HN.out]; rfl, HBw.out⟩
    rotate_left
    all_goals
      have HT : Hid (tryOk t = true) := Lib.hid (by
        rw [HTr.out]
        first
          | (rw [decide_eq_true h0.out]; rfl)
          | (rw [decide_eq_true (p := le = 0) (by simpa using q2), decide_eq_true (p := ls = t) (of_decide_eq_true ((beq_str ls t).symm.trans q3))]; simp))
      go_enter Try.func26, Try.ntmps26
      go_wp2_with (first | (go_at_call 48; refine (HLt.out _).mono ?_; rintro e w1 ⟨rfl, hb1⟩; obtain ⟨hbw, hx1, hx2⟩ := HBX.out _ hb1; have HBw := Lib.hid hbw; have HBb := Lib.hid hb1; clear hb1 hbw))
      clear hx1 hx2
      go_loopw [5, 6, 7, 8] (fun i _ _ _ W => ∃ k : Nat, k ≤ rs.length ∧ i = .int .i64 k ∧ Hid (Below (w.alloc (.cells #[.int .i64 n, .string t, .slice A rs.length cap, s0, s1, s2, s3] 37)).heap.size (w.alloc (.cells #[.int .i64 n, .string t, .slice A rs.length cap, s0, s1, s2, s3] 37)) W) ∧ Hid (∀ j (h : j < rs.length), j < k → repOk rs[j] = true)) (fun i _ _ _ _ => rs.length - (intOf i).toNat)
      case atStart => exact ⟨0, Nat.zero_le _, rfl, HBb, Lib.hid (fun j h h2 => absurd h2 (Nat.not_lt_zero j))⟩
      case round =>
        obtain ⟨k, hk, rfl, HBc, HP⟩ := hrel
        obtain ⟨hB, hx1, hx2⟩ := HBX.out _ HBc.out
        have HB := Lib.hid hB
        clear hB
        by_cases hlt : k < rs.length
        · obtain ⟨g, o, rfl, hg, hcs⟩ := HA.out.resolve_left (by omega)
          have c1 := (HB.out.cell (p := ⟨g, o + k * 2, none⟩) hg).trans (hcs k hlt).1
          have c2 := (HB.out.cell (p := ⟨g, o + k * 2 + 1, none⟩) hg).trans (hcs k hlt).2
          clear hcs
          obtain ⟨hz1, hz2⟩ := HR.out k hlt
          have HV : Hid (repOk rs[k] = false → settingsB n t rs = false) := Lib.hid (settings_r n t rs k hlt)
          have HP2 : Hid (repOk rs[k] = true → ∀ j (h : j < rs.length), j < k + 1 → repOk rs[j] = true) := Lib.hid (fun e j h hj => by
            by_cases ej : j = k
            · subst ej; exact e
            · exact HP.out j h (by omega))
          obtain ⟨⟨x, y⟩, hr⟩ : ∃ r, rs[k]'hlt = r := ⟨_, rfl⟩
          rw [hr] at c1 c2 HV HP2 hz1 hz2
          dsimp only at c1 c2 hz1 hz2
          clear hr HP
          have hpx := fun w => Bytes02_any x w hz1
          have hpy := fun w => Bytes02_any y w hz2
          have hrk : repOk (x, y) = (decide (0 < x.size) && (fitAll x && decide (x.size ≤ 32)) && (fitAll y && decide (y.size ≤ 32))) := rfl
          obtain ⟨p1, hp1⟩ : ∃ p, fitAll x = p := ⟨_, rfl⟩
          obtain ⟨p2, hp2⟩ : ∃ p, fitAll y = p := ⟨_, rfl⟩
          rw [hp1] at hpx hrk
          rw [hp2] at hpy hrk
          clear hp1 hp2 hz1 hz2
          have HX := Lib.hid hpx
          have HY := Lib.hid hpy
          have HRk := Lib.hid hrk
          clear hpx hpy hrk
          have hcs : (p1 = false ∧ Hid (repOk (x, y) = false)) ∨ (p1 = true ∧ p2 = false ∧ Hid (repOk (x, y) = false)) ∨ (p1 = true ∧ p2 = true ∧ ((x.size : Int) == 0) = true ∧ Hid (repOk (x, y) = false)) ∨ (p1 = true ∧ p2 = true ∧ ((x.size : Int) == 0) = false ∧ (32 : Int) < (x.size : Int) ∧ Hid (repOk (x, y) = false)) ∨ (p1 = true ∧ p2 = true ∧ ((x.size : Int) == 0) = false ∧ ¬ (32 : Int) < (x.size : Int) ∧ (32 : Int) < (y.size : Int) ∧ Hid (repOk (x, y) = false)) ∨ (p1 = true ∧ p2 = true ∧ ((x.size : Int) == 0) = false ∧ ¬ (32 : Int) < (x.size : Int) ∧ ¬ (32 : Int) < (y.size : Int) ∧ Hid (repOk (x, y) = true)) := by
            have e := HRk.out
            cases p1
            · exact .inl ⟨rfl, Lib.hid (by rw [e]; simp)⟩
            · cases p2
              · exact .inr (.inl ⟨rfl, rfl, Lib.hid (by rw [e]; simp)⟩)
              · by_cases e0 : x.size = 0
                · exact .inr (.inr (.inl ⟨rfl, rfl, by rw [beq_iff_eq]; omega, Lib.hid (by rw [e, decide_eq_false (by omega)]; rfl)⟩))
                · have e1 : ((x.size : Int) == 0) = false := by rw [beq_eq_false_iff_ne]; omega
                  by_cases e2 : x.size ≤ 32
                  · by_cases e3 : y.size ≤ 32
                    · exact .inr (.inr (.inr (.inr (.inr ⟨rfl, rfl, e1, by omega, by omega, Lib.hid (by rw [e, decide_eq_true (by omega), decide_eq_true e2, decide_eq_true e3]; rfl)⟩))))
                    · exact .inr (.inr (.inr (.inr (.inl ⟨rfl, rfl, e1, by omega, by omega, Lib.hid (by rw [e, decide_eq_false e3]; simp)⟩))))
                  · exact .inr (.inr (.inr (.inl ⟨rfl, rfl, e1, by omega, Lib.hid (by rw [e, decide_eq_false e2]; simp)⟩)))
          rcases hcs with ⟨rfl, HF⟩ | ⟨rfl, rfl, HF⟩ | ⟨rfl, rfl, z1, HF⟩ | ⟨rfl, rfl, z1, z2, HF⟩ | ⟨rfl, rfl, z1, z2, z3, HF⟩ | ⟨rfl, rfl, z1, z2, z3, HF⟩
          rotate_right
          · have HN := Lib.hid (HP2.out HF.out)
            go_wp2_with fail
            refine (HX.out _).mono ?_
            rintro e w' ⟨rfl, rfl⟩
            go_wp2_with fail
            refine (HY.out _).mono ?_
            rintro e w' ⟨rfl, rfl⟩
            go_wp2_with fail
            go_roundw
            case rel => exact ⟨k + 1, by omega, by go_num, Lib.hid (HBc.out.alloc HBc.out.size _), HN⟩
            case measure => simp [intOf]; omega
          all_goals
            have HN := Lib.hid (HV.out HF.out)
            go_wp2_with fail
            refine (HX.out _).mono ?_
            rintro e w' ⟨rfl, rfl⟩
            go_wp2_with fail
            refine (HY.out _).mono ?_
            rintro e w' ⟨rfl, rfl⟩
            go_wp2_with fail
            go_ret
            exact ⟨by rw [HN.out]; rfl, HB.out.alloc HB.out.size _⟩
        · obtain rfl : k = rs.length := by omega
          have HN : Hid (settingsB n t rs = true) := Lib.hid (settings_ok _ _ _ hb1 hb2 hb3 HT.out (fun j h => HP.out j h h))
          go_wp2_with fail
          go_ret
          exact ⟨by rw [HN.out]; rfl, HB.out⟩
  · have HN := Lib.hid (settings_n n t rs hb)
    have hcs : n < 1 ∨ (¬ n < 1 ∧ 64 < n) ∨ (¬ n < 1 ∧ ¬ 64 < n ∧ (256 : Int) < (rs.length : Int)) := by omega
    clear hb
    rcases hcs with q1 | ⟨q1, q2⟩ | ⟨q1, q2, q3⟩
    all_goals
      go_enter Try.func26, Try.ntmps26
      go_wp2_with fail
      go_ret
      exact ⟨by rw [HN.out]; rfl, (Below.refl _ _).alloc (Nat.le_refl _) _⟩
end

section
open Go.RowKit

set_option maxHeartbeats 4000000 in
set_option maxRecDepth 100000 in
theorem put_any (w0 w : World) (v : Value) (n : Nat) (l : List UInt8) (s : ByteArray) (ho : Own w0 w 5 1 v n (Lib.byteCells l)) (hn : n + s.size ≤ 140737488355328) :
    Calls Try.prog 28 #[v, .string s] w fun e w' => ∃ v', e = .returned v' ∧ Own w0 w' 5 1 v' (n + s.size) (Lib.byteCells (l ++ s.data.toList)) := by
  obtain ⟨i0, hi, hz0, hz1, hz2⟩ := info_parts byte_info
  have HO0 := Lib.hid ho
  clear ho
  go_enter Try.func28, Try.ntmps28
  go_wp2_with fail
  go_loopw [0, 5] (fun u i W => ∃ k : Nat, k ≤ s.size ∧ i = .int .i64 k ∧ Hid (Own w0 W 5 1 u (n + k) (Lib.byteCells (l ++ s.data.toList.take k)))) (fun _ i _ => s.size - (intOf i).toNat)
  case atStart => exact ⟨0, Nat.zero_le _, rfl, Lib.hid (by rw [List.take_zero, List.append_nil]; exact HO0.out)⟩
  case round =>
    obtain ⟨k, hk, rfl, HO⟩ := hrel
    by_cases hlt : k < s.size
    · have HA := Lib.hid (take_app l s k hlt)
      go_wp2_with (at_builtin; refine wpList_push1 rfl _ _ 57 rfl w0.heap.size 5 i0 (.int .u8 0) 1 Try.underlying57 hi hz0 hz1 hz2 rfl _ _ _ rfl HO.out.own _ rfl rfl (by unfold maxLen; omega) (by omega) HO.out.size ?_; intro gg cc w5 hown hg5; have HO' := Lib.hid (HO.out.push hown hg5); clear hown hg5)
      go_roundw
      case rel => exact ⟨k + 1, by omega, by go_num, Lib.hid (by rw [HA.out, ← bytes_snoc]; exact HO'.out)⟩
      case measure => simp [intOf]; omega
    · obtain rfl : k = s.size := by omega
      have HQ : Hid (l ++ s.data.toList.take s.size = l ++ s.data.toList) := Lib.hid (by rw [List.take_of_length_le (by simp)])
      go_wp2_with fail
      go_ret
      exact ⟨_, rfl, by rw [← HQ.out]; exact HO.out⟩
set_option maxHeartbeats 1000000 in
theorem number_any (w0 w : World) (v : Value) (n : Nat) (l : List UInt8) (x : Nat) (hx : x ≤ 9223372036854775807) (ho : Own w0 w 5 1 v n (Lib.byteCells l)) (hn : n + 10 ≤ 140737488355328) :
    Calls Try.prog 29 #[v, .int .i64 (x : Int)] w fun e w' => ∃ v', e = .returned v' ∧ Own w0 w' 5 1 v' (n + (uintB x).length) (Lib.byteCells (l ++ uintB x)) := by
  have HO := Lib.hid ho
  have hU := fun w => rUint_any x w (by omega)
  have hl := uintB_ten x (by omega)
  obtain ⟨T, hT⟩ : ∃ T, mkS (uintB x) = T := ⟨_, rfl⟩
  have HT : Hid (T.data.toList = uintB x) := Lib.hid (by rw [← hT, mkS_data])
  have HTs : Hid (T.size = (uintB x).length) := Lib.hid (by rw [← hT, mkS_size])
  have HL := Lib.hid hl
  rw [hT] at hU
  have HU := Lib.hid hU
  clear ho hT hU hl
  go_enter Try.func29, Try.ntmps29
  go_wp2_with fail
  refine (HU.out _).mono ?_
  rintro e w1 ⟨rfl, hb⟩
  have HO1 := Lib.hid (HO.out.call hb)
  clear hb
  go_wp2_with fail
  refine (put_any w0 _ v n l T HO1.out (by have := HTs.out; have := HL.out; omega)).mono ?_
  rintro e w2 ⟨v', rfl, ho2⟩
  have HO2 := Lib.hid ho2
  clear ho2
  go_wp2_with fail
  go_ret
  exact ⟨v', rfl, by rw [← HTs.out, ← HT.out]; exact HO2.out⟩
end
end Go.Proofs.Ytehbjfjhalpgaaa
