/-
  strings.IndexAny and strings.ContainsAny over a few ASCII characters, whatever the text: letters of 128 and more too.
-/
import Derived.Test.YtbhfkhfnljddhaaDoorRows
import Derived.Test.YtbhfkhfnljddhaaDoorShelf
import Derived.Test.YtbhfkhfnljddhaaDoorSA0
import Derived.Laws.Runes
import Derived.Laws.RangeAny
import Derived.Laws.RangeString
import Derived.Laws.Strings3
import Derived.Deep.LoopGhost
import Derived.Lib.OthersKept
import Derived.WalkMore
namespace Go.Proofs.YtbhfkhfnljddhaaDoor
open Go.RowKit Go.Shelf

theorem IndexByte_none (l : ByteArray) (c : UInt8) (w : World) (h : Lib.indexByte l.data.toList c = -1) :
    Calls Tryd.prog 84 #[.string l, .int .u8 c.toNat] w fun e w' => e = .returned (.int .i64 (-1)) ∧ w' = w :=
  (Tryd.strings_IndexByte _ _ w).mono fun e w' ⟨h1, h2⟩ => ⟨h1.trans (by rw [show ((c.toNat : Int)).toNat.toUInt8 = c by simp, h]), h2⟩
theorem IndexByte_quiet (l : ByteArray) (c : UInt8) (w : World) (m x : Nat) (h : Lib.indexByte l.data.toList c = -1) :
    Calls Tryd.prog 84 #[.string l, .int .u8 c.toNat] (w.drewN (m + x)) fun e w' => e = .returned (.int .i64 (-1)) ∧ ∃ n, w' = w.drewN (m + n) :=
  (IndexByte_none l c _ h).mono fun _ _ ⟨h1, h2⟩ => ⟨h1, x, h2⟩
theorem below_iter {w : World} {s : ByteArray} {p : Nat} : Below w.heap.size w (w.iter s p) := (Below.refl _ _).alloc (Nat.le_refl _) _

set_option maxHeartbeats 4000000 in
set_option maxRecDepth 100000 in
theorem IndexRune_err (l : ByteArray) (w : World) (hl : ∀ b ∈ l.data.toList, b.toNat < 128) :
    Calls Tryd.prog 72 #[.string l, .int .i32 65533] w fun e w' => e = .returned (.int .i64 (-1)) ∧ Below w.heap.size w w' := by
  have HL := Lib.hid hl
  clear hl
  go_enter Tryd.func72, Tryd.ntmps72
  go_wp2_with fail
  go_loopg [] l.size (fun g wx => ∃ i : Nat, i + g = l.size ∧ wx = w.iter l i)
  case atStart => exact ⟨0, by omega, rfl⟩
  case round =>
    obtain ⟨i, hig, rfl⟩ := hrel
    cases gk with
    | zero =>
      obtain rfl : i = l.size := by omega
      have hnx := run_next_end (P := Tryd.prog) w l l.size
      go_wp2_with fail
      go_ret
      exact ⟨rfl, below_iter⟩
    | succ g =>
      have hi : i < l.size := by omega
      have hx128 : (l[i]'hi).toNat < 128 := HL.out _ (Array.getElem_mem_toList _)
      have hnx := fun ty => run_next_ascii (P := Tryd.prog) w l i ty hi hx128
      have q : (((l[i]'hi).toNat : Int) == 65533) = false := by rw [beq_eq_false_iff_ne]; omega
      go_wp2_with fail
      go_roundg g
      case measure => omega
      case rel => exact ⟨i + 1, by omega, rfl⟩

set_option maxHeartbeats 4000000 in
set_option maxRecDepth 100000 in
theorem IndexRune_far (l : ByteArray) (r : Nat) (w : World) (hl : ∀ b ∈ l.data.toList, b.toNat < 128) (hls : l.size ≤ 8) (h1 : 128 ≤ r) (h2 : r ≤ 1114111) (hv : Utf8.valid (r : Nat) = true) (hne : r ≠ 65533) :
    Calls Tryd.prog 72 #[.string l, .int .i32 r] w fun e w' => e = .returned (.int .i64 (-1)) ∧ Below w.heap.size w w' := by
  obtain ⟨z2, z4, zl⟩ := encode_facts (r : Int) hv (by omega)
  have q0 : ((r : Int) == 65533) = false := by rw [beq_eq_false_iff_ne]; omega
  have q1 : decide ((r : Int) < 128) = false := decide_eq_false (by omega)
  obtain ⟨rs, hrs⟩ : ∃ rs, Utf8.encode (r : Int) = rs := ⟨_, rfl⟩
  rw [hrs] at z2 z4 zl
  have hzi : rs.size - 1 < rs.size := by omega
  have zl := zl hzi
  have hvr : Lib.validRune (r : Int) = true := by rw [← hv, validRune_eq]; rfl
  have HV := Lib.hid hv
  obtain ⟨m, hm⟩ : ∃ m, rs.size = m + 1 := ⟨rs.size - 1, by omega⟩
  have hmi : m < rs.size := by omega
  have zl' : 128 ≤ (rs[m]'hmi).toNat := by
    have e : rs.size - 1 = m := by omega
    simp only [e] at zl; exact zl
  have HIx : ∀ a e, Hid (Lib.indexByte (l.extract a e).data.toList (rs[m]'hmi) = -1) := fun a e => Lib.hid (ascii_index _ (fun b hb => hl b (mem_extract hb)) _ zl')
  have HL := Lib.hid hl
  have hm1 : (rs.size : Int) - 1 = (m : Int) := by omega
  clear hl zl hv hzi hm
  go_enter Tryd.func72, Tryd.ntmps72
  go_wp2_with (go_at_call 85; refine (Tryd.utf8_ValidRune _ _).mono ?_; rintro e w' ⟨rfl, hw⟩; rw [hw, hvr]; clear hw)
  go_step3
  go_wp2_with fail
  clear hm1
  go_loopw [9, 10] (fun i fl wr => i = .int .i64 m ∧ fl = .int .i64 0 ∧ wr = w) (fun _ _ _ => 1)
  case atStart => exact ⟨rfl, rfl, rfl⟩
  case round =>
    obtain ⟨rfl, rfl, rfl⟩ := hrel
    by_cases hlt : m < l.size
    · have hl1 := HL.out l[m] (Array.getElem_mem_toList _)
      have q : ((l[m].toNat : Int) != (rs[m].toNat : Int)) = true := by rw [bne_iff_ne]; omega
      have HI := Lib.hid (HIx (m + 1) l.size).out
      have hw1 : IntKind.i64.wrap ((m : Int) + 1) = ((m + 1 : Nat) : Int) := by rw [wrap_small _ (by omega) (by omega)]; omega
      have hi0 : (0 : Int) ≤ (m : Int) + 1 := by omega
      have hi1 : (m : Int) + 1 ≤ (l.size : Int) := by omega
      have hi2 : ((m : Int) + 1).toNat = m + 1 := by omega
      clear hl1
      go_wp2_with fail
      go_step3
      go_wp2_with fail
      go_quiet (fail)
      go_wp2_with fail
      go_quiet (first | (go_at_call 84; exact IndexByte_quiet _ _ _ _ _ HI.out))
      go_wp2_with fail
      rw [Exit.noGoto_ret]
      simp only [Exit.inBlock]
      change Exit.noGoto _ Exit.ret _ _
      rw [Exit.noGoto_ret]
      simp only [Exit.inBlock]
      simp only [Exit.then]
      rw [Exit.noGoto_ret]
      simp only [Exit.inBlock]
      go_ret
      exact ⟨rfl, below_drewN (Below.refl _ _) _⟩
    · go_wp2_with fail
      rw [Exit.noGoto_ret]
      simp only [Exit.inBlock]
      go_ret
      exact ⟨rfl, Below.refl _ _⟩
end Go.Proofs.YtbhfkhfnljddhaaDoor
