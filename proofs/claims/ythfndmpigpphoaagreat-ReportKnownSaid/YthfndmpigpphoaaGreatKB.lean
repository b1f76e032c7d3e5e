/-
  strings.Builder's copyCheck and WriteByte at this translation: a builder that holds the bytes bs holds bs and one byte more behind the call.
  The letters of a text, each once, as they first come: the program's Letters.
  The letters of a text, each once: the reference's Letters.
  A book's settings: the program's settings.
  A book's settings: the reference's Settings.
-/
import Derived.Test.YthfndmpigpphoaaGreatRows
import Derived.Test.YthfndmpigpphoaaGreatKA
import Derived.Test.YthfndmpigpphoaaGreatShelf
import Derived.Lib.Strings
import Derived.Lib.Slices
import Derived.Lib.Walk
import Derived.Lib.Builder
import Derived.Lib.AppendStr
import Derived.Lib.UnsafeStr
import Derived.Laws.Externs
import Derived.Lib.AsciiSet
import Derived.BigQuiet
namespace Go.Proofs.YthfndmpigpphoaaGreat
section
open Go.RowKit

/-- A builder of this program. -/
def IsB (B b : Nat) (bs : List Value) (w : World) : Prop := Lib.IsBuilder 149 5 B b bs w
def BAt (B b : Nat) (bs : List Value) (w : World) : Prop := Lib.BuilderAt 149 5 B b (.pointer (some ⟨b, 0, none⟩)) bs w
theorem BAt.is {B b : Nat} {bs : List Value} {w : World} (h : BAt B b bs w) : IsB B b bs w := .inr h

theorem builder_info : (Tryz.prog.info? 149).map (fun i => (i.zero, i.size, i.bytes)) = some (some (.agg #[.pointer none, .slice none 0 0]), 2, 32) := by kernel_rfl
theorem builder_lies : liesAt Tryz.prog Tryz.prog.depth 149 (2 / Tryz.prog.cellsOf 149) 0 149 1 = true := by kernel_rfl

set_option maxHeartbeats 1000000 in
set_option maxRecDepth 100000 in
theorem copyCheck_used (b : Nat) (w : World) (h0 : w.cell? ⟨b, 0, none⟩ = some (.pointer (some ⟨b, 0, none⟩))) :
    Calls Tryz.prog 95 #[.pointer (some ⟨b, 0, none⟩)] w fun e w' => e = .returned (.tuple #[]) ∧ w' = w := by
  obtain ⟨i0, hi, hz0, hz1, hz2⟩ := info_parts builder_info
  go_enter Tryz.func95, Tryz.ntmps95
  go_wp2
  rw [Lib.run_neq_ptr_same w _ Tryz.underlying147 hi]
  go_wp2
  go_end0
  exact ⟨rfl, rfl⟩

set_option maxHeartbeats 1000000 in
set_option maxRecDepth 100000 in
theorem copyCheck_fresh (b : Nat) (w : World) (h0 : w.cell? ⟨b, 0, none⟩ = some (.pointer none)) (hsh : w.shape? b = some (149, 2)) (hfz : w.frozen? ⟨b, 0, none⟩ = false) :
    Calls Tryz.prog 95 #[.pointer (some ⟨b, 0, none⟩)] w fun e w' => e = .returned (.tuple #[]) ∧ w' = w.setCell ⟨b, 0, none⟩ (.pointer (some ⟨b, 0, none⟩)) := by
  obtain ⟨i0, hi, hz0, hz1, hz2⟩ := info_parts builder_info
  go_enter Tryz.func95, Tryz.ntmps95
  go_wp2
  rw [Lib.run_to_unsafe w ⟨b, 0, none⟩ Tryz.underlying147 Tryz.underlying176 hi (by rw [hz1]; decide) hsh (Nat.zero_lt_succ 1)]
  simp only [Result.andThen]
  rw [Oper.upon_value]
  go_wp2
  rw [run_callFunc_extern Tryz.func105 (by kernel_rfl) (by kernel_rfl) (by kernel_rfl) (e := Extern.AbiNoEscape.same) (by kernel_rfl)]
  rw [Lib.run_noEscape]
  simp only [Result.andThen]
  rw [Oper.upon_value]
  go_wp2
  rw [Lib.run_from_unsafe w ⟨b, 0, none⟩ Tryz.underlying176 Tryz.underlying147 hi hsh builder_lies]
  simp only [Result.andThen]
  rw [Oper.upon_value]
  go_wp2
  go_end0
  exact ⟨rfl, rfl⟩

theorem copyCheck_any (B b : Nat) (bs : List Value) (w : World) (h : IsB B b bs w) :
    Calls Tryz.prog 95 #[.pointer (some ⟨b, 0, none⟩)] w fun e w' => e = .returned (.tuple #[]) ∧ (BAt B b bs w' ∧ Below B w w') := by
  rcases h with h | h
  · refine (copyCheck_fresh b w h.cell0 h.shape h.frozen0).mono ?_
    rintro e w' ⟨rfl, rfl⟩
    exact ⟨rfl, h.used _, (Below.refl B w).setCell (p := ⟨b, 0, none⟩) h.1 _⟩
  · refine (copyCheck_used b w h.cell0).mono ?_
    rintro e w' ⟨rfl, rfl⟩
    exact ⟨rfl, h, Below.refl B _⟩

set_option maxHeartbeats 2000000 in
set_option maxRecDepth 100000 in
theorem writeByte_any (B b : Nat) (bs : List Value) (c : Int) (w : World) (h : IsB B b bs w) (hlen : bs.length + 1 ≤ 140737488355328) (hBw : B ≤ w.heap.size) :
    Calls Tryz.prog 74 #[.pointer (some ⟨b, 0, none⟩), .int .u8 c] w fun e w' => e = .returned .nilIface ∧ (BAt B b (bs ++ [.int .u8 c]) w' ∧ Below B w w') := by
  obtain ⟨i0, hi, hz0, hz1, hz2⟩ := info_parts byte_info
  go_enter Tryz.func74, Tryz.ntmps74
  go_wp2_with (go_at_call 95; refine (copyCheck_any B b bs _ h).mono ?_)
  rintro e w1 ⟨rfl, h1, hb1⟩
  obtain ⟨hB, v, hbk, hown, hne⟩ := h1
  have c0 : w1.cell? ⟨b, 0, none⟩ = some (.pointer (some ⟨b, 0, none⟩)) := by rw [Lib.cell_of_heap hbk]; rfl
  have c1 : w1.cell? ⟨b, 1, none⟩ = some v := by rw [Lib.cell_of_heap hbk]; rfl
  go_wp2_with (at_builtin; refine wpList_append_own _ rfl _ _ 123 rfl B 5 i0 (.int .u8 0) 1 1 Tryz.underlying123 hi hz0 hz1 hz2 rfl (by decide) _ _ _ rfl (hown.alloc _) ⟨w1.heap.size, 0, none⟩ 1 1 [.int .u8 c] rfl rfl ?c1 ?c2 ?c3 ?c4 ?c5 ?_)
  case c1 =>
    intro j u hj
    match j, hj with
    | 0, hj => simp at hj; subst hj; simp [Addr.add]
  case c2 => intro u hu; simp at hu; subst hu; rfl
  case c3 => unfold maxLen; omega
  case c4 => omega
  case c5 => have := hb1.size; simp; omega
  intro v' w2 hown' hgrow _
  have hlt : b < w1.heap.size := by
    rcases Nat.lt_or_ge b w1.heap.size with h' | h'
    · exact h'
    · simp [Array.getElem?_eq_none h'] at hbk
  have hb2 : w2.heap[b]? = some (.cells #[.pointer (some ⟨b, 0, none⟩), v] 149 (0, 0)) := by
    rw [hgrow.block b (by simp; omega) (fun e => hne e.symm), Lib.alloc_old w1 _ b hlt]
    exact hbk
  have d0 : w2.cell? ⟨b, 0, none⟩ = some (.pointer (some ⟨b, 0, none⟩)) := by rw [Lib.cell_of_heap hb2]; rfl
  have d1 : w2.cell? ⟨b, 1, none⟩ = some v := by rw [Lib.cell_of_heap hb2]; rfl
  have f1 : w2.frozen? ⟨b, 1, none⟩ = false := Lib.frozen_of_heap hb2 1
  obtain ⟨g, cap, rfl⟩ : ∃ g cap, v' = .slice (some ⟨g, 0, none⟩) (bs.length + 1) cap := by
    rcases hown'.2 with ⟨_, h0⟩ | ⟨g, cap, cur, hv, _⟩
    · omega
    · exact ⟨g, cap, hv⟩
  go_wp2
  go_ret
  refine ⟨rfl, ?_, ?_⟩
  · exact Lib.BuilderAt.put (T := 149) (e := 5) hB hb2 (bs' := bs ++ [.int .u8 c]) (by simpa using hown') (by decide)
  · exact ((hb1.alloc (by have := hb1.size; omega) _).grown hgrow (by have := hb1.size; simp; omega) (fun k hk => (hown.lt k hk).1)).setCell (p := ⟨b, 1, none⟩) hB _

theorem builderString_any (B b : Nat) (l : List UInt8) (w : World) (h : IsB B b (Lib.byteCells l) w) (hBw : B ≤ w.heap.size) :
    Calls Tryz.prog 75 #[.pointer (some ⟨b, 0, none⟩)] w fun e w' => e = .returned (.string ⟨l.toArray⟩) ∧ Below B w w' :=
  Tryz.Builder_String_any B b l w h hBw
theorem fresh_isB (w : World) : IsB w.heap.size w.heap.size [] (w.alloc (.cells #[.pointer none, .slice none 0 0] 149)) := Lib.fresh_isBuilder _ _ w
end

section
open Go.RowKit

/-- Each letter once, as it first comes. -/
def onceGo (acc : List UInt8) : List UInt8 → List UInt8
  | [] => acc
  | c :: l => onceGo (if acc.contains c then acc else acc ++ [c]) l
def onceL (l : List UInt8) : List UInt8 := onceGo [] l
theorem onceGo_snoc (acc : List UInt8) (l : List UInt8) (c : UInt8) : onceGo acc (l ++ [c]) = if (onceGo acc l).contains c then onceGo acc l else onceGo acc l ++ [c] := by
  induction l generalizing acc with
  | nil => simp [onceGo]
  | cons a l ih => rw [List.cons_append, onceGo, ih, onceGo]
theorem onceGo_len (acc l : List UInt8) : (onceGo acc l).length ≤ acc.length + l.length := by
  induction l generalizing acc with
  | nil => simp [onceGo]
  | cons a l ih =>
    rw [onceGo]
    refine Nat.le_trans (ih _) ?_
    split <;> simp <;> omega
/-- What both Letters answer. -/
def lettersS (s : ByteArray) : ByteArray × Int := if s.size = 0 ∨ fitAll s = false then (⟨#[]⟩, 21) else (mkS (onceL s.data.toList), 0)

/-- The table of seen letters, in a block below the builder's. -/
def SeenAt (W : World) (g : Nat) (l : List UInt8) : Prop := W.heap[g]? = some (.cells (Lib.setCells l) 146 (0, 0))
theorem IsB.below {B b g i : Nat} {bs : List Value} {w : World} (h : IsB B b bs w) (hg : g < B) (u : Value) : IsB B b bs (w.setCell ⟨g, i, none⟩ u) := by
  have key : ∀ p, Lib.BuilderAt 149 5 B b p bs w → Lib.BuilderAt 149 5 B b p bs (w.setCell ⟨g, i, none⟩ u) := by
    rintro p ⟨hB, v, hb, hown, hne⟩
    refine ⟨hB, v, ?_, ownsRow_setCell_below hown (a := ⟨g, i, none⟩) hg u, hne⟩
    rw [Go.heap_setCell_other _ _ _ _ (by show b ≠ g; omega)]; exact hb
  rcases h with h | h
  · exact .inl (key _ h)
  · exact .inr (key _ h)
theorem SeenAt.put {W : World} {g : Nat} {l : List UInt8} (h : SeenAt W g l) (c : UInt8) : SeenAt (W.setCell ⟨g, c.toNat, none⟩ (.bool true)) g (l ++ [c]) := by
  unfold SeenAt
  rw [Lib.setCells_snoc]
  exact Go.heap_setCell_same W g c.toNat _ _ _ h

theorem zero256 (w : World) : (zeroValue 146).run Tryz.prog w = .ok (.agg (Lib.setCells [])) w := by kernel_rfl
/-- The state of the loop behind the first k letters. -/
structure LetAt (w W : World) (l : List UInt8) : Prop where
  below : Below w.heap.size w W
  seen : SeenAt W w.heap.size l
  out : IsB (w.heap.size + 1) (w.heap.size + 1) (Lib.byteCells l) W
theorem LetAt.start (w : World) : LetAt w ((w.alloc (.cells (Lib.setCells []) 146)).alloc (.cells #[.pointer none, .slice none 0 0] 149)) [] := by
  refine ⟨((Below.refl _ _).alloc (Nat.le_refl _) _).alloc (by simp) _, ?_, ?_⟩
  · unfold SeenAt
    rw [Lib.alloc_old _ _ _ (by simp)]
    show (w.heap.push (.cells (Lib.setCells []) 146))[w.heap.size]? = _
    rw [Array.getElem?_push_size]
  · have := fresh_isB (w.alloc (.cells (Lib.setCells []) 146))
    simpa [Lib.byteCells] using this
theorem LetAt.size {w W : World} {l : List UInt8} (h : LetAt w W l) : w.heap.size + 1 < W.heap.size := by
  rcases h.out with h | h
  · exact h.lt
  · exact h.lt
theorem LetAt.cell {w W : World} {l : List UInt8} (h : LetAt w W l) (c : UInt8) : W.cell? ⟨w.heap.size, c.toNat, none⟩ = some (.bool (l.contains c)) := by
  rw [Lib.cell_of_heap h.seen]; exact Lib.setCells_at l c
theorem LetAt.thaw {w W : World} {l : List UInt8} (h : LetAt w W l) (j : Nat) : W.frozen? ⟨w.heap.size, j, none⟩ = false := Lib.frozen_of_heap h.seen j
theorem LetAt.put {w W : World} {l : List UInt8} (h : LetAt w W l) (c : UInt8) : IsB (w.heap.size + 1) (w.heap.size + 1) (Lib.byteCells l) (W.setCell ⟨w.heap.size, c.toNat, none⟩ (.bool true)) := h.out.below (by omega) _
theorem LetAt.wrote {w W W' : World} {l : List UInt8} {c : UInt8} (h : LetAt w W l) (hb : Below (w.heap.size + 1) (W.setCell ⟨w.heap.size, c.toNat, none⟩ (.bool true)) W')
    (ho : BAt (w.heap.size + 1) (w.heap.size + 1) (Lib.byteCells l ++ [.int .u8 (c.toNat : Int)]) W') : LetAt w W' (l ++ [c]) := by
  refine ⟨(h.below.setCell (p := ⟨w.heap.size, c.toNat, none⟩) (Nat.le_refl _) _).trans (hb.mono (by omega)), ?_, ?_⟩
  · unfold SeenAt
    rw [hb.block _ (by omega)]
    exact h.seen.put c
  · rw [bytes_snoc] at ho; exact ho.is

set_option maxHeartbeats 4000000 in
set_option maxRecDepth 100000 in
theorem Letters_any (s : ByteArray) (w : World) (hs : s.size ≤ 140737488355328) :
    Calls Tryz.prog 53 #[.string s] w fun e w' => e = .returned (.tuple #[.string (lettersS s).1, .int .i64 (lettersS s).2]) ∧ Below w.heap.size w w' := by
  by_cases h0 : s.size = 0
  · have H : Hid (lettersS s = (⟨#[]⟩, 21)) := Lib.hid (by unfold lettersS; rw [if_pos (.inl h0)])
    have hse : s = ⟨#[]⟩ := by
      apply ByteArray.ext; exact Array.eq_empty_of_size_eq_zero h0
    subst hse
    go_enter Tryz.func53, Tryz.ntmps53
    have hz := zero256
    go_wp2_with fail
    go_ret2
    exact ⟨by rw [H.out]; rfl, (Below.refl _ _).alloc (Nat.le_refl _) _⟩
  · have hne := notEmpty s (by omega)
    go_enter Tryz.func53, Tryz.ntmps53
    have hz := zero256
    go_wp2_with fail
    go_loopw [6, 11] (fun _ i W => ∃ k : Nat, k ≤ s.size ∧ i = .int .i64 k ∧ Hid ((s.data.toList.take k).all fitB = true) ∧ LetAt w W (onceL (s.data.toList.take k))) (fun _ i _ => s.size - (intOf i).toNat)
    case atStart => exact ⟨0, Nat.zero_le _, rfl, Lib.hid rfl, LetAt.start w⟩
    case round =>
      obtain ⟨k, hk, rfl, HT, hl⟩ := hrel
      have HL := Lib.hid hl
      clear hl
      by_cases hlt : k < s.size
      · cases hf : fitB s[k]
        · have HN : Hid (lettersS s = (⟨#[]⟩, 21)) := Lib.hid (by unfold lettersS; rw [if_pos (.inr (all_no s k hlt hf))])
          go_wp2_with (first | (go_at_call 73; refine (fit_any _ _).mono ?_; rintro e w' ⟨rfl, rfl⟩))
          go_ret2
          exact ⟨by rw [HN.out]; rfl, HL.out.below⟩
        · have HN := Lib.hid (all_take s k hlt hf HT.out)
          have hb := s[k].toNat_lt
          have hb2 : (s[k].toNat : Int) < 256 := by omega
          have hcell := HL.out.cell s[k]
          have hthaw := HL.out.thaw s[k].toNat
          have HK : Hid (onceL (s.data.toList.take (k + 1)) = if (onceL (s.data.toList.take k)).contains s[k] then onceL (s.data.toList.take k) else onceL (s.data.toList.take k) ++ [s[k]]) := Lib.hid (by rw [take_snoc s k hlt]; exact onceGo_snoc _ _ _)
          have HLn : Hid ((onceL (s.data.toList.take k)).length ≤ k) := Lib.hid (by
            have h1 := onceGo_len [] (s.data.toList.take k)
            have h2 : (s.data.toList.take k).length ≤ k := List.length_take_le _ _
            rw [onceL]
            simp only [List.length_nil] at h1
            omega)
          cases hc : (onceL (s.data.toList.take k)).contains s[k]
          · rw [hc] at hcell HK
            go_wp2_with (first
              | (go_at_call 73; refine (fit_any _ _).mono ?_; rintro e w' ⟨rfl, rfl⟩)
              | (go_at_call 74; refine (writeByte_any _ _ _ _ _ (HL.out.put s[k]) (by have := HLn.out; simp [Lib.byteCells]; omega) (by have := HL.out.size; simp [World.setCell]; omega)).mono ?_; rintro e w' ⟨rfl, h1, h2⟩; have HO := Lib.hid (HL.out.wrote h2 h1); clear h1 h2))
            go_roundw
            case rel => exact ⟨k + 1, by omega, by go_num, HN, by rw [HK.out]; exact HO.out⟩
            case measure => simp [intOf]; omega
          · rw [hc] at hcell HK
            go_wp2_with (first
              | (go_at_call 73; refine (fit_any _ _).mono ?_; rintro e w' ⟨rfl, rfl⟩))
            go_roundw
            case rel => exact ⟨k + 1, by omega, by go_num, HN, by rw [HK.out]; exact HL.out⟩
            case measure => simp [intOf]; omega
      · obtain rfl : k = s.size := by omega
        have HN : Hid (lettersS s = (mkS (onceL (s.data.toList.take s.size)), 0)) := Lib.hid (by
          unfold lettersS; rw [if_neg (by rintro (h | h); · exact h0 h
                                          · rw [all_full s HT.out] at h; cases h), List.take_of_length_le (by simp)])
        go_wp2_with (first
          | (go_at_call 75; refine (builderString_any _ _ _ _ HL.out.out (by have := HL.out.size; omega)).mono ?_; rintro e w' ⟨rfl, h2⟩; have HO := Lib.hid (HL.out.below.trans (h2.mono (by omega))); clear h2))
        go_ret2
        exact ⟨by rw [HN.out]; rfl, HO.out⟩
end

section
open Go.RowKit

theorem own_byteC {w : World} {B e n g cap : Nat} {l : List UInt8} (h : w.ownsRow B e 1 (.slice (some ⟨g, 0, none⟩) n cap) n (Lib.byteCells l)) (j : Nat) (hj : j < l.length) :
    w.cell? ⟨g, j, none⟩ = some (.int .u8 (l[j].toNat : Int)) := by
  have := h.cells (g := g) rfl j (.int .u8 (l[j].toNat : Int)) (by simp [Lib.byteCells, hj])
  rwa [row_addr] at this
theorem once_snoc (s : ByteArray) (k : Nat) (h : k < s.size) : onceL (s.data.toList.take (k + 1)) = if (onceL (s.data.toList.take k)).contains s[k] then onceL (s.data.toList.take k) else onceL (s.data.toList.take k) ++ [s[k]] := by
  rw [take_snoc s k h]; exact onceGo_snoc _ _ _
theorem once_le (s : ByteArray) (k : Nat) : (onceL (s.data.toList.take k)).length ≤ k := by
  have h1 := onceGo_len [] (s.data.toList.take k)
  have h2 : (s.data.toList.take k).length ≤ k := List.length_take_le _ _
  rw [onceL]
  simp only [List.length_nil] at h1
  omega
theorem take_not (l : List UInt8) (q : Nat) (hq : q < l.length) (c : UInt8) (h : c ∉ l.take q) (hne : l[q] ≠ c) : c ∉ l.take (q + 1) := by
  rw [List.take_succ_eq_append_getElem hq, List.mem_append, List.mem_singleton]
  rintro (h1 | h1)
  · exact h h1
  · exact hne h1.symm

set_option maxHeartbeats 4000000 in
set_option maxRecDepth 100000 in
theorem rLetters_any (s : ByteArray) (w : World) (hs : s.size ≤ 140737488355327) :
    Calls Tryz.prog 33 #[.string s] w fun e w' => e = .returned (.tuple #[.string (lettersS s).1, .int .i64 (lettersS s).2]) ∧ Below w.heap.size w w' := by
  obtain ⟨i0, hi, hz0, hz1, hz2⟩ := info_parts byte_info
  by_cases h0 : s.size = 0
  · have H : Hid (lettersS s = (⟨#[]⟩, 21)) := Lib.hid (by unfold lettersS; rw [if_pos (.inl h0)])
    have h00 : ((s.size : Int) == 0) = true := by rw [beq_iff_eq]; omega
    go_enter Tryz.func33, Tryz.ntmps33
    go_wp2_with (first | (go_at_call 34; refine (Bytes02_any _ _ (by omega)).mono ?_; rintro e w' ⟨rfl, rfl⟩))
    go_ret2
    exact ⟨by rw [H.out]; rfl, Below.refl _ _⟩
  · have h00 : ((s.size : Int) == 0) = false := by rw [beq_eq_false_iff_ne]; omega
    cases hf : fitAll s
    · have H : Hid (lettersS s = (⟨#[]⟩, 21)) := Lib.hid (by unfold lettersS; rw [if_pos (.inr hf)])
      go_enter Tryz.func33, Tryz.ntmps33
      go_wp2_with (first | (go_at_call 34; refine (Bytes02_any _ _ (by omega)).mono ?_; rintro e w' ⟨rfl, rfl⟩))
      go_ret2
      exact ⟨by rw [H.out]; rfl, Below.refl _ _⟩
    · have H : Hid (lettersS s = (mkS (onceL s.data.toList), 0)) := Lib.hid (by
        unfold lettersS; rw [if_neg (by rintro (h | h); · exact h0 h
                                        · rw [hf] at h; cases h)])
      go_enter Tryz.func33, Tryz.ntmps33
      go_wp2_with (first | (go_at_call 34; refine (Bytes02_any _ _ (by omega)).mono ?_; rintro e w' ⟨rfl, rfl⟩))
      go_loopw [5, 6, 7, 8] (fun v i _ _ W => ∃ k g n cap : Nat, k ≤ s.size ∧ i = .int .i64 k ∧ v = .slice (some ⟨g, 0, none⟩) n cap ∧ Hid (n = (onceL (s.data.toList.take k)).length) ∧ Own w W 5 1 (.slice (some ⟨g, 0, none⟩) n cap) n (Lib.byteCells (onceL (s.data.toList.take k)))) (fun _ i _ _ _ => s.size - (intOf i).toNat)
      case atStart => exact ⟨0, _, 0, 0, Nat.zero_le _, rfl, rfl, Lib.hid rfl, Own.empty w _ _⟩
      case round =>
        obtain ⟨k, g, n, cap, hk, rfl, rfl, HN, ho⟩ := hrel
        have HO := Lib.hid ho
        clear ho
        by_cases hlt : k < s.size
        · have HK := Lib.hid (once_snoc s k hlt)
          have hn := HN.out ▸ once_le s k
          obtain ⟨acc, hacc⟩ : ∃ acc, onceL (s.data.toList.take k) = acc := ⟨_, rfl⟩
          rw [hacc] at HK HO HN
          clear hacc
          go_wp2_with fail
          go_loopw [7, 8] (fun b j W' => ∃ m q : Nat, W' = wr.drewN m ∧ j = .int .i64 q ∧ q ≤ n ∧ ((b = .bool false ∧ Hid (s[k] ∉ acc.take q)) ∨ (b = .bool true ∧ Hid (s[k] ∈ acc)))) (fun _ j _ => n - (intOf j).toNat)
          case atStart => exact ⟨0, 0, rfl, rfl, Nat.zero_le _, .inl ⟨rfl, Lib.hid (by simp)⟩⟩
          case round =>
            obtain ⟨m, q, rfl, rfl, hq, ⟨rfl, HS⟩ | ⟨rfl, HS⟩⟩ := hrel
            · by_cases hqn : q < n
              · have hqa : q < acc.length := by have := HN.out; omega
                have hcell := own_byteC HO.out.own q hqa
                obtain ⟨c, hc⟩ : ∃ c, acc[q]'hqa = c := ⟨_, rfl⟩
                rw [hc] at hcell
                by_cases hcs : c = s[k]
                · have hq2 : ((c.toNat : Int) == (s[k].toNat : Int)) = true := by rw [hcs]; simp
                  have HS2 : Hid (s[k] ∈ acc) := Lib.hid (by rw [← hcs, ← hc]; exact List.getElem_mem _)
                  clear hcs hc
                  go_wp2_with fail
                  go_quiet (fail)
                  go_wp2_with fail
                  go_roundw
                  case rel => exact ⟨_, q + 1, rfl, by go_num, by omega, .inr ⟨rfl, HS2⟩⟩
                  case measure => simp [intOf]; omega
                · have hq2 : ((c.toNat : Int) == (s[k].toNat : Int)) = false := by
                    rw [beq_eq_false_iff_ne]; intro e; exact hcs (UInt8.toNat_inj.1 (by omega))
                  have HS2 : Hid (s[k] ∉ acc.take (q + 1)) := Lib.hid (take_not acc q hqa _ HS.out (by rw [hc]; exact hcs))
                  clear hcs hc
                  go_wp2_with fail
                  go_quiet (fail)
                  go_wp2_with fail
                  go_roundw
                  case rel => exact ⟨_, q + 1, rfl, by go_num, by omega, .inl ⟨rfl, HS2⟩⟩
                  case measure => simp [intOf]; omega
              · have HK2 : Hid (onceL (s.data.toList.take (k + 1)) = acc ++ [s[k]]) := Lib.hid (by
                  rw [HK.out, if_neg]
                  have h1 := HS.out
                  rw [List.take_of_length_le (by have := HN.out; omega)] at h1
                  simpa using h1)
                go_wp2_with (at_builtin; refine wpList_push1 rfl _ _ 123 rfl w.heap.size 5 i0 (.int .u8 0) 1 Tryz.underlying123 hi hz0 hz1 hz2 rfl _ _ _ rfl (HO.out.drewN m).own _ rfl rfl (by unfold maxLen; omega) (by omega) (HO.out.drewN m).size ?_; intro gg cap w5 hown hg5; have HO' := Lib.hid ((HO.out.drewN m).push hown hg5); clear hown hg5)
                go_roundw
                case rel => exact ⟨k + 1, gg, n + 1, cap, by omega, by go_num, rfl, Lib.hid (by rw [HK2.out, HN.out]; simp), by rw [HK2.out, ← bytes_snoc]; exact HO'.out⟩
                case measure => simp [intOf]; omega
            · have HK2 : Hid (onceL (s.data.toList.take (k + 1)) = acc) := Lib.hid (by rw [HK.out, if_pos (by simpa using HS.out)])
              by_cases hqn : q < n
              all_goals
                go_wp2_with fail
                go_roundw
                case rel => exact ⟨k + 1, g, n, cap, by omega, by go_num, rfl, Lib.hid (by rw [HK2.out, HN.out]), by rw [HK2.out]; exact HO.out.drewN m⟩
                case measure => simp [intOf]; omega
        · obtain rfl : k = s.size := by omega
          have HF : Hid (onceL (s.data.toList.take s.size) = onceL s.data.toList) := Lib.hid (by rw [List.take_of_length_le (by simp)])
          have hcv := run_string_of_own HO.out.own 123 9 Tryz.underlying123 Tryz.underlying5 Tryz.underlying9
          rw [HF.out] at hcv
          go_wp2_with fail
          go_ret2
          exact ⟨by rw [H.out]; rfl, HO.out.below⟩
end

section
open Go.RowKit

def repOk (r : ByteArray × ByteArray) : Bool := decide (0 < r.1.size) && (fitAll r.1 && decide (r.1.size ≤ 32)) && (fitAll r.2 && decide (r.2.size ≤ 32))
def tryOk (t : ByteArray) : Bool := decide (t.size = 0) || (decide ((lettersS t).2 = 0) && decide ((lettersS t).1 = t))
/-- What both say of a book's settings. -/
def settingsB (n : Int) (t : ByteArray) (rs : List (ByteArray × ByteArray)) : Bool :=
  decide (1 ≤ n) && decide (n ≤ 64) && decide (rs.length ≤ 256) && tryOk t && rs.all repOk
/-- The reps' cells. -/
def RepsAt (w : World) (v : Value) (rs : List (ByteArray × ByteArray)) : Prop :=
  ∃ A cap, v = .slice A rs.length cap ∧ (rs.length = 0 ∨ ∃ g o, A = some ⟨g, o, none⟩ ∧ g < w.heap.size ∧ ∀ k (h : k < rs.length), w.cell? ⟨g, o + k * 2, none⟩ = some (.string rs[k].1) ∧ w.cell? ⟨g, o + k * 2 + 1, none⟩ = some (.string rs[k].2))
theorem settings_n (n : Int) (t : ByteArray) (rs : List (ByteArray × ByteArray)) (h : ¬ (1 ≤ n ∧ n ≤ 64 ∧ rs.length ≤ 256)) : settingsB n t rs = false := by
  unfold settingsB
  by_cases h1 : 1 ≤ n
  · by_cases h2 : n ≤ 64
    · rw [decide_eq_false (p := rs.length ≤ 256) (fun h3 => h ⟨h1, h2, h3⟩)]; simp
    · rw [decide_eq_false h2]; simp
  · rw [decide_eq_false h1]; simp
theorem settings_t (n : Int) (t : ByteArray) (rs : List (ByteArray × ByteArray)) (h : tryOk t = false) : settingsB n t rs = false := by
  unfold settingsB; rw [h]; simp
theorem settings_r (n : Int) (t : ByteArray) (rs : List (ByteArray × ByteArray)) (k : Nat) (hk : k < rs.length) (h : repOk rs[k] = false) : settingsB n t rs = false := by
  have : rs.all repOk = false := by rw [List.all_eq_false]; exact ⟨rs[k], List.getElem_mem _, by simp [h]⟩
  unfold settingsB; rw [this]; simp
theorem settings_ok (n : Int) (t : ByteArray) (rs : List (ByteArray × ByteArray)) (h1 : 1 ≤ n) (h2 : n ≤ 64) (h3 : rs.length ≤ 256) (ht : tryOk t = true) (hr : ∀ k (h : k < rs.length), repOk rs[k] = true) : settingsB n t rs = true := by
  have : rs.all repOk = true := by
    rw [List.all_eq_true]; intro r hr'
    obtain ⟨k, hk, rfl⟩ := List.mem_iff_getElem.1 hr'
    exact hr k hk
  unfold settingsB; rw [this, ht, decide_eq_true h1, decide_eq_true h2, decide_eq_true h3]; rfl

set_option maxHeartbeats 4000000 in
set_option maxRecDepth 100000 in
theorem settings_any (n : Int) (t : ByteArray) (rs : List (ByteArray × ByteArray)) (vr s0 s1 s2 s3 : Value) (w : World) (hr : RepsAt w vr rs) (ht : t.size ≤ 140737488355327) (hrs : ∀ k (h : k < rs.length), rs[k].1.size ≤ 140737488355328 ∧ rs[k].2.size ≤ 140737488355328) :
    Calls Tryz.prog 30 #[.agg #[.int .i64 n, .string t, vr, s0, s1, s2, s3]] w fun e w' => e = .returned (.bool (settingsB n t rs)) ∧ Below w.heap.size w w' := by
  obtain ⟨A, cap, rfl, hA⟩ := hr
  have HA := Lib.hid hA
  have HR := Lib.hid hrs
  clear hA hrs
  by_cases hb : 1 ≤ n ∧ n ≤ 64 ∧ rs.length ≤ 256
  · obtain ⟨hb1, hb2, hb3⟩ := hb
    obtain ⟨⟨ls, le⟩, hL⟩ : ∃ L, lettersS t = L := ⟨_, rfl⟩
    have hLt := fun w => Letters_any t w (by omega)
    rw [hL] at hLt
    have HLt := Lib.hid hLt
    have HBX : Hid (∀ w1, Below (w.alloc (.cells #[.int .i64 n, .string t, .slice A rs.length cap, s0, s1, s2, s3] 49)).heap.size (w.alloc (.cells #[.int .i64 n, .string t, .slice A rs.length cap, s0, s1, s2, s3] 49)) w1 → Below w.heap.size w w1 ∧ w1.cell? ⟨w.heap.size, 1, none⟩ = some (.string t) ∧ w1.cell? ⟨w.heap.size, 2, none⟩ = some (.slice A rs.length cap)) := Lib.hid (fun w1 h => by
      have hk : (w.alloc (.cells #[.int .i64 n, .string t, .slice A rs.length cap, s0, s1, s2, s3] 49)).heap[w.heap.size]? = some (.cells #[.int .i64 n, .string t, .slice A rs.length cap, s0, s1, s2, s3] 49) := by
        show (w.heap.push _)[w.heap.size]? = _
        rw [Array.getElem?_push_size]
      refine ⟨((Below.refl w.heap.size w).alloc (Nat.le_refl _) _).trans (h.mono (by simp)), ?_, ?_⟩
      · rw [h.cell (p := ⟨w.heap.size, 1, none⟩) (by simp), Lib.cell_of_heap hk]; rfl
      · rw [h.cell (p := ⟨w.heap.size, 2, none⟩) (by simp), Lib.cell_of_heap hk]; rfl)
    have HTr : Hid (tryOk t = (decide (t.size = 0) || (decide (le = 0) && decide (ls = t)))) := Lib.hid (by unfold tryOk; rw [hL])
    clear hLt hL
    have hcs : (Hid (t.size = 0) ∧ t.toList.isEmpty = true) ∨ (Hid (t.size ≠ 0) ∧ t.toList.isEmpty = false ∧ (le != 0) = true) ∨ (Hid (t.size ≠ 0) ∧ t.toList.isEmpty = false ∧ (le != 0) = false ∧ (ls.toList == t.toList) = false) ∨ (Hid (t.size ≠ 0) ∧ t.toList.isEmpty = false ∧ (le != 0) = false ∧ (ls.toList == t.toList) = true) := by
      by_cases h0 : t.size = 0
      · exact .inl ⟨Lib.hid h0, isEmpty1 t h0⟩
      · have h1 := notEmpty t (by omega)
        cases h2 : (le != 0)
        · cases h3 : (ls.toList == t.toList)
          · exact .inr (.inr (.inl ⟨Lib.hid h0, h1, rfl, rfl⟩))
          · exact .inr (.inr (.inr ⟨Lib.hid h0, h1, rfl, rfl⟩))
        · exact .inr (.inl ⟨Lib.hid h0, h1, rfl⟩)
    rcases hcs with ⟨h0, q1⟩ | ⟨h0, q1, q2⟩ | ⟨h0, q1, q2, q3⟩ | ⟨h0, q1, q2, q3⟩
    rotate_left
    · have HN : Hid (settingsB n t rs = false) := Lib.hid (settings_t _ _ _ (by rw [HTr.out, decide_eq_false h0.out, decide_eq_false (p := le = 0) (by simpa using q2)]; rfl))
      go_enter Tryz.func30, Tryz.ntmps30
      go_wp2_with (first | (go_at_call 53; refine (HLt.out _).mono ?_; rintro e w1 ⟨rfl, hb1⟩; obtain ⟨hbw, hx1, hx2⟩ := HBX.out _ hb1; have HBw := Lib.hid hbw; clear hb1 hbw))
      go_ret
      exact ⟨by rw [HN.out]; rfl, HBw.out⟩
    · have HN : Hid (settingsB n t rs = false) := Lib.hid (settings_t _ _ _ (by rw [HTr.out, decide_eq_false h0.out, decide_eq_false (p := ls = t) (by rintro rfl; simp at q3)]; simp))
      go_enter Tryz.func30, Tryz.ntmps30
      go_wp2_with (first | (go_at_call 53; refine (HLt.out _).mono ?_; rintro e w1 ⟨rfl, hb1⟩; obtain ⟨hbw, hx1, hx2⟩ := HBX.out _ hb1; have HBw := Lib.hid hbw; clear hb1 hbw))
      go_ret
      exact ⟨by rw [HN.out]; rfl, HBw.out⟩
    rotate_left
    all_goals
      have HT : Hid (tryOk t = true) := Lib.hid (by
        rw [HTr.out]
        first
          | (rw [decide_eq_true h0.out]; rfl)
          | (rw [decide_eq_true (p := le = 0) (by simpa using q2), decide_eq_true (p := ls = t) (of_decide_eq_true ((beq_str ls t).symm.trans q3))]; simp))
      go_enter Tryz.func30, Tryz.ntmps30
      go_wp2_with (first | (go_at_call 53; refine (HLt.out _).mono ?_; rintro e w1 ⟨rfl, hb1⟩; obtain ⟨hbw, hx1, hx2⟩ := HBX.out _ hb1; have HBw := Lib.hid hbw; clear hb1 hbw))
      clear hx1 hx2
      go_loopw [6, 43] (fun _ i W => ∃ k : Nat, k ≤ rs.length ∧ i = .int .i64 k ∧ Hid (Below w.heap.size w W) ∧ Hid (∀ j (h : j < rs.length), j < k → repOk rs[j] = true)) (fun _ i _ => rs.length - (intOf i).toNat)
      case atStart => exact ⟨0, Nat.zero_le _, rfl, HBw, Lib.hid (fun j h h2 => absurd h2 (Nat.not_lt_zero j))⟩
      case round =>
        obtain ⟨k, hk, rfl, HB, HP⟩ := hrel
        by_cases hlt : k < rs.length
        · obtain ⟨g, o, rfl, hg, hcs⟩ := HA.out.resolve_left (by omega)
          have c1 := (HB.out.cell (p := ⟨g, o + k * 2, none⟩) hg).trans (hcs k hlt).1
          have c2 := (HB.out.cell (p := ⟨g, o + k * 2 + 1, none⟩) hg).trans (hcs k hlt).2
          clear hcs
          obtain ⟨hz1, hz2⟩ := HR.out k hlt
          have HV : Hid (repOk rs[k] = false → settingsB n t rs = false) := Lib.hid (settings_r n t rs k hlt)
          have HP2 : Hid (repOk rs[k] = true → ∀ j (h : j < rs.length), j < k + 1 → repOk rs[j] = true) := Lib.hid (fun e j h hj => by
            by_cases ej : j = k
            · subst ej; exact e
            · exact HP.out j h (by omega))
          obtain ⟨⟨x, y⟩, hr⟩ : ∃ r, rs[k]'hlt = r := ⟨_, rfl⟩
          rw [hr] at c1 c2 HV HP2 hz1 hz2
          dsimp only at c1 c2 hz1 hz2
          clear hr HP
          have hpx : ∀ w, Calls Tryz.prog 54 #[.string x, .int .i64 32] w fun e w' => e = .returned (.bool (fitAll x && decide (x.size ≤ 32))) ∧ w = w' := fun w => plain_any x 32 w hz1
          have hpy : ∀ w, Calls Tryz.prog 54 #[.string y, .int .i64 32] w fun e w' => e = .returned (.bool (fitAll y && decide (y.size ≤ 32))) ∧ w = w' := fun w => plain_any y 32 w hz2
          have hrk : repOk (x, y) = (decide (0 < x.size) && (fitAll x && decide (x.size ≤ 32)) && (fitAll y && decide (y.size ≤ 32))) := rfl
          obtain ⟨p1, hp1⟩ : ∃ p, (fitAll x && decide (x.size ≤ 32)) = p := ⟨_, rfl⟩
          obtain ⟨p2, hp2⟩ : ∃ p, (fitAll y && decide (y.size ≤ 32)) = p := ⟨_, rfl⟩
          rw [hp1] at hpx hrk
          rw [hp2] at hpy hrk
          clear hp1 hp2 hz1 hz2
          have HX := Lib.hid hpx
          have HY := Lib.hid hpy
          have HRk := Lib.hid hrk
          clear hpx hpy hrk
          by_cases hx0 : x.size = 0
          · have he := isEmpty1 x hx0
            have HN := Lib.hid (HV.out (by rw [HRk.out, decide_eq_false (by omega)]; rfl))
            clear hx0
            go_wp2_with fail
            go_ret
            exact ⟨by rw [HN.out]; rfl, HB.out.alloc HB.out.size _⟩
          · have he := notEmpty x (by omega)
            have HR1 : Hid (repOk (x, y) = (p1 && p2)) := Lib.hid (by rw [HRk.out, decide_eq_true (by omega)]; rfl)
            clear hx0
            cases p1
            · have HN := Lib.hid (HV.out (by rw [HR1.out]; rfl))
              go_wp2_with fail
              refine (HX.out _).mono ?_
              rintro e w' ⟨rfl, rfl⟩
              go_wp2_with fail
              go_ret
              exact ⟨by rw [HN.out]; rfl, HB.out.alloc HB.out.size _⟩
            · cases p2
              · have HN := Lib.hid (HV.out (by rw [HR1.out]; rfl))
                go_wp2_with fail
                refine (HX.out _).mono ?_
                rintro e w' ⟨rfl, rfl⟩
                go_wp2_with fail
                refine (HY.out _).mono ?_
                rintro e w' ⟨rfl, rfl⟩
                go_wp2_with fail
                go_ret
                exact ⟨by rw [HN.out]; rfl, HB.out.alloc HB.out.size _⟩
              · have HN := Lib.hid (HP2.out (by rw [HR1.out]; rfl))
                go_wp2_with fail
                refine (HX.out _).mono ?_
                rintro e w' ⟨rfl, rfl⟩
                go_wp2_with fail
                refine (HY.out _).mono ?_
                rintro e w' ⟨rfl, rfl⟩
                go_wp2_with fail
                go_roundw
                case rel => exact ⟨k + 1, by omega, by go_num, Lib.hid (HB.out.alloc HB.out.size _), HN⟩
                case measure => simp [intOf]; omega
        · obtain rfl : k = rs.length := by omega
          have HN : Hid (settingsB n t rs = true) := Lib.hid (settings_ok _ _ _ hb1 hb2 hb3 HT.out (fun j h => HP.out j h h))
          go_wp2_with fail
          go_ret
          exact ⟨by rw [HN.out]; rfl, HB.out⟩
  · have HN := Lib.hid (settings_n n t rs hb)
    have hcs : n < 1 ∨ (¬ n < 1 ∧ 64 < n) ∨ (¬ n < 1 ∧ ¬ 64 < n ∧ (256 : Int) < (rs.length : Int)) := by omega
    clear hb
    rcases hcs with q1 | ⟨q1, q2⟩ | ⟨q1, q2, q3⟩
    all_goals
      go_enter Tryz.func30, Tryz.ntmps30
      go_wp2_with fail
      go_ret
      exact ⟨by rw [HN.out]; rfl, (Below.refl _ _).alloc (Nat.le_refl _) _⟩
end

section
open Go.RowKit

set_option maxHeartbeats 4000000 in
set_option maxRecDepth 100000 in
theorem rSettings_any (n : Int) (t : ByteArray) (rs : List (ByteArray × ByteArray)) (vr s0 s1 s2 s3 : Value) (w : World) (hr : RepsAt w vr rs) (ht : t.size ≤ 140737488355327) (hrs : ∀ k (h : k < rs.length), rs[k].1.size ≤ 140737488355328 ∧ rs[k].2.size ≤ 140737488355328) :
    Calls Tryz.prog 13 #[.agg #[.int .i64 n, .string t, vr, s0, s1, s2, s3]] w fun e w' => e = .returned (.bool (settingsB n t rs)) ∧ Below w.heap.size w w' := by
  obtain ⟨A, cap, rfl, hA⟩ := hr
  have HA := Lib.hid hA
  have HR := Lib.hid hrs
  clear hA hrs
  by_cases hb : 1 ≤ n ∧ n ≤ 64 ∧ rs.length ≤ 256
  · obtain ⟨hb1, hb2, hb3⟩ := hb
    obtain ⟨⟨ls, le⟩, hL⟩ : ∃ L, lettersS t = L := ⟨_, rfl⟩
    have hLt := fun w => rLetters_any t w (by omega)
    rw [hL] at hLt
    have HLt := Lib.hid hLt
    have HBX : Hid (∀ w1, Below (w.alloc (.cells #[.int .i64 n, .string t, .slice A rs.length cap, s0, s1, s2, s3] 33)).heap.size (w.alloc (.cells #[.int .i64 n, .string t, .slice A rs.length cap, s0, s1, s2, s3] 33)) w1 → Below w.heap.size w w1 ∧ w1.cell? ⟨w.heap.size, 1, none⟩ = some (.string t) ∧ w1.cell? ⟨w.heap.size, 2, none⟩ = some (.slice A rs.length cap)) := Lib.hid (fun w1 h => by
      have hk : (w.alloc (.cells #[.int .i64 n, .string t, .slice A rs.length cap, s0, s1, s2, s3] 33)).heap[w.heap.size]? = some (.cells #[.int .i64 n, .string t, .slice A rs.length cap, s0, s1, s2, s3] 33) := by
        show (w.heap.push _)[w.heap.size]? = _
        rw [Array.getElem?_push_size]
      refine ⟨((Below.refl w.heap.size w).alloc (Nat.le_refl _) _).trans (h.mono (by simp)), ?_, ?_⟩
      · rw [h.cell (p := ⟨w.heap.size, 1, none⟩) (by simp), Lib.cell_of_heap hk]; rfl
      · rw [h.cell (p := ⟨w.heap.size, 2, none⟩) (by simp), Lib.cell_of_heap hk]; rfl)
    have HTr : Hid (tryOk t = (decide (t.size = 0) || (decide (le = 0) && decide (ls = t)))) := Lib.hid (by unfold tryOk; rw [hL])
    clear hLt hL
    have hcs : (Hid (t.size = 0) ∧ ¬ (0 : Int) < (t.size : Int)) ∨ (Hid (t.size ≠ 0) ∧ (0 : Int) < (t.size : Int) ∧ (le != 0) = true) ∨ (Hid (t.size ≠ 0) ∧ (0 : Int) < (t.size : Int) ∧ (le != 0) = false ∧ (ls.toList == t.toList) = false) ∨ (Hid (t.size ≠ 0) ∧ (0 : Int) < (t.size : Int) ∧ (le != 0) = false ∧ (ls.toList == t.toList) = true) := by
      by_cases h0 : t.size = 0
      · exact .inl ⟨Lib.hid h0, by omega⟩
      · have h1 : (0 : Int) < (t.size : Int) := by omega
        cases h2 : (le != 0)
        · cases h3 : (ls.toList == t.toList)
          · exact .inr (.inr (.inl ⟨Lib.hid h0, h1, rfl, rfl⟩))
          · exact .inr (.inr (.inr ⟨Lib.hid h0, h1, rfl, rfl⟩))
        · exact .inr (.inl ⟨Lib.hid h0, h1, rfl⟩)
    rcases hcs with ⟨h0, q1⟩ | ⟨h0, q1, q2⟩ | ⟨h0, q1, q2, q3⟩ | ⟨h0, q1, q2, q3⟩
    rotate_left
    · have HN : Hid (settingsB n t rs = false) := Lib.hid (settings_t _ _ _ (by rw [HTr.out, decide_eq_false h0.out, decide_eq_false (p := le = 0) (by simpa using q2)]; rfl))
      go_enter Tryz.func13, Tryz.ntmps13
      go_wp2_with (first | (go_at_call 33; refine (HLt.out _).mono ?_; rintro e w1 ⟨rfl, hb1⟩; obtain ⟨hbw, hx1, hx2⟩ := HBX.out _ hb1; have HBw := Lib.hid hbw; have HBb := Lib.hid hb1; clear hb1 hbw))
      go_ret
      exact ⟨by rw [HN.out]; rfl, HBw.out⟩
    · have HN : Hid (settingsB n t rs = false) := Lib.hid (settings_t _ _ _ (by rw [HTr.out, decide_eq_false h0.out, decide_eq_false (p := ls = t) (by rintro rfl; simp at q3)]; simp))
      go_enter Tryz.func13, Tryz.ntmps13
      go_wp2_with (first | (go_at_call 33; refine (HLt.out _).mono ?_; rintro e w1 ⟨rfl, hb1⟩; obtain ⟨hbw, hx1, hx2⟩ := HBX.out _ hb1; have HBw := Lib.hid hbw; have HBb := Lib.hid hb1; clear hb1 hbw))
      go_ret
      exact ⟨by rw [HN.out]; rfl, HBw.out⟩
    rotate_left
    all_goals
      have HT : Hid (tryOk t = true) := Lib.hid (by
        rw [HTr.out]
        first
          | (rw [decide_eq_true h0.out]; rfl)
          | (rw [decide_eq_true (p := le = 0) (by simpa using q2), decide_eq_true (p := ls = t) (of_decide_eq_true ((beq_str ls t).symm.trans q3))]; simp))
      go_enter Tryz.func13, Tryz.ntmps13
      go_wp2_with (first | (go_at_call 33; refine (HLt.out _).mono ?_; rintro e w1 ⟨rfl, hb1⟩; obtain ⟨hbw, hx1, hx2⟩ := HBX.out _ hb1; have HBw := Lib.hid hbw; have HBb := Lib.hid hb1; clear hb1 hbw))
      clear hx1 hx2
      go_loopw [5, 6, 7, 8] (fun i _ _ _ W => ∃ k : Nat, k ≤ rs.length ∧ i = .int .i64 k ∧ Hid (Below (w.alloc (.cells #[.int .i64 n, .string t, .slice A rs.length cap, s0, s1, s2, s3] 33)).heap.size (w.alloc (.cells #[.int .i64 n, .string t, .slice A rs.length cap, s0, s1, s2, s3] 33)) W) ∧ Hid (∀ j (h : j < rs.length), j < k → repOk rs[j] = true)) (fun i _ _ _ _ => rs.length - (intOf i).toNat)
      case atStart => exact ⟨0, Nat.zero_le _, rfl, HBb, Lib.hid (fun j h h2 => absurd h2 (Nat.not_lt_zero j))⟩
      case round =>
        obtain ⟨k, hk, rfl, HBc, HP⟩ := hrel
        obtain ⟨hB, hx1, hx2⟩ := HBX.out _ HBc.out
        have HB := Lib.hid hB
        clear hB
        by_cases hlt : k < rs.length
        · obtain ⟨g, o, rfl, hg, hcs⟩ := HA.out.resolve_left (by omega)
          have c1 := (HB.out.cell (p := ⟨g, o + k * 2, none⟩) hg).trans (hcs k hlt).1
          have c2 := (HB.out.cell (p := ⟨g, o + k * 2 + 1, none⟩) hg).trans (hcs k hlt).2
          clear hcs
          obtain ⟨hz1, hz2⟩ := HR.out k hlt
          have HV : Hid (repOk rs[k] = false → settingsB n t rs = false) := Lib.hid (settings_r n t rs k hlt)
          have HP2 : Hid (repOk rs[k] = true → ∀ j (h : j < rs.length), j < k + 1 → repOk rs[j] = true) := Lib.hid (fun e j h hj => by
            by_cases ej : j = k
            · subst ej; exact e
            · exact HP.out j h (by omega))
          obtain ⟨⟨x, y⟩, hr⟩ : ∃ r, rs[k]'hlt = r := ⟨_, rfl⟩
          rw [hr] at c1 c2 HV HP2 hz1 hz2
          dsimp only at c1 c2 hz1 hz2
          clear hr HP
          have hpx := fun w => Bytes02_any x w hz1
          have hpy := fun w => Bytes02_any y w hz2
          have hrk : repOk (x, y) = (decide (0 < x.size) && (fitAll x && decide (x.size ≤ 32)) && (fitAll y && decide (y.size ≤ 32))) := rfl
          obtain ⟨p1, hp1⟩ : ∃ p, fitAll x = p := ⟨_, rfl⟩
          obtain ⟨p2, hp2⟩ : ∃ p, fitAll y = p := ⟨_, rfl⟩
          rw [hp1] at hpx hrk
          rw [hp2] at hpy hrk
          clear hp1 hp2 hz1 hz2
          have HX := Lib.hid hpx
          have HY := Lib.hid hpy
          have HRk := Lib.hid hrk
          clear hpx hpy hrk
          have hcs : (p1 = false ∧ Hid (repOk (x, y) = false)) ∨ (p1 = true ∧ p2 = false ∧ Hid (repOk (x, y) = false)) ∨ (p1 = true ∧ p2 = true ∧ ((x.size : Int) == 0) = true ∧ Hid (repOk (x, y) = false)) ∨ (p1 = true ∧ p2 = true ∧ ((x.size : Int) == 0) = false ∧ (32 : Int) < (x.size : Int) ∧ Hid (repOk (x, y) = false)) ∨ (p1 = true ∧ p2 = true ∧ ((x.size : Int) == 0) = false ∧ ¬ (32 : Int) < (x.size : Int) ∧ (32 : Int) < (y.size : Int) ∧ Hid (repOk (x, y) = false)) ∨ (p1 = true ∧ p2 = true ∧ ((x.size : Int) == 0) = false ∧ ¬ (32 : Int) < (x.size : Int) ∧ ¬ (32 : Int) < (y.size : Int) ∧ Hid (repOk (x, y) = true)) := by
            have e := HRk.out
            cases p1
            · exact .inl ⟨rfl, Lib.hid (by rw [e]; simp)⟩
            · cases p2
              · exact .inr (.inl ⟨rfl, rfl, Lib.hid (by rw [e]; simp)⟩)
              · by_cases e0 : x.size = 0
                · exact .inr (.inr (.inl ⟨rfl, rfl, by rw [beq_iff_eq]; omega, Lib.hid (by rw [e, decide_eq_false (by omega)]; rfl)⟩))
                · have e1 : ((x.size : Int) == 0) = false := by rw [beq_eq_false_iff_ne]; omega
                  by_cases e2 : x.size ≤ 32
                  · by_cases e3 : y.size ≤ 32
                    · exact .inr (.inr (.inr (.inr (.inr ⟨rfl, rfl, e1, by omega, by omega, Lib.hid (by rw [e, decide_eq_true (by omega), decide_eq_true e2, decide_eq_true e3]; rfl)⟩))))
                    · exact .inr (.inr (.inr (.inr (.inl ⟨rfl, rfl, e1, by omega, by omega, Lib.hid (by rw [e, decide_eq_false e3]; simp)⟩))))
                  · exact .inr (.inr (.inr (.inl ⟨rfl, rfl, e1, by omega, Lib.hid (by rw [e, decide_eq_false e2]; simp)⟩)))
          rcases hcs with ⟨rfl, HF⟩ | ⟨rfl, rfl, HF⟩ | ⟨rfl, rfl, z1, HF⟩ | ⟨rfl, rfl, z1, z2, HF⟩ | ⟨rfl, rfl, z1, z2, z3, HF⟩ | ⟨rfl, rfl, z1, z2, z3, HF⟩
          rotate_right
          · have HN := Lib.hid (HP2.out HF.out)
            go_wp2_with fail
            refine (HX.out _).mono ?_
            rintro e w' ⟨rfl, rfl⟩
            go_wp2_with fail
            refine (HY.out _).mono ?_
            rintro e w' ⟨rfl, rfl⟩
            go_wp2_with fail
            go_roundw
            case rel => exact ⟨k + 1, by omega, by go_num, Lib.hid (HBc.out.alloc HBc.out.size _), HN⟩
            case measure => simp [intOf]; omega
          all_goals
            have HN := Lib.hid (HV.out HF.out)
            go_wp2_with fail
            refine (HX.out _).mono ?_
            rintro e w' ⟨rfl, rfl⟩
            go_wp2_with fail
            refine (HY.out _).mono ?_
            rintro e w' ⟨rfl, rfl⟩
            go_wp2_with fail
            go_ret
            exact ⟨by rw [HN.out]; rfl, HB.out.alloc HB.out.size _⟩
        · obtain rfl : k = rs.length := by omega
          have HN : Hid (settingsB n t rs = true) := Lib.hid (settings_ok _ _ _ hb1 hb2 hb3 HT.out (fun j h => HP.out j h h))
          go_wp2_with fail
          go_ret
          exact ⟨by rw [HN.out]; rfl, HB.out⟩
  · have HN := Lib.hid (settings_n n t rs hb)
    have hcs : n < 1 ∨ (¬ n < 1 ∧ 64 < n) ∨ (¬ n < 1 ∧ ¬ 64 < n ∧ (256 : Int) < (rs.length : Int)) := by omega
    clear hb
    rcases hcs with q1 | ⟨q1, q2⟩ | ⟨q1, q2, q3⟩
    all_goals
      go_enter Tryz.func13, Tryz.ntmps13
      go_wp2_with fail
      go_ret
      exact ⟨by rw [HN.out]; rfl, (Below.refl _ _).alloc (Nat.le_refl _) _⟩
end
end Go.Proofs.YthfndmpigpphoaaGreat
