/-
  strings.IndexAny and strings.ContainsAny of blanks, tabs, line feeds and carriage returns, whatever the text.
-/
import Derived.Test.YtbhfkhfnljddhaaDoorRows
import Derived.Test.YtbhfkhfnljddhaaDoorSA1
namespace Go.Proofs.YtbhfkhfnljddhaaDoor
open Go.RowKit Go.Shelf

theorem blanks_ascii : ∀ b ∈ blanks, b.toNat < 128 := by decide
theorem blanks_at : ∀ (j : Nat) b, (⟨#[32, 9, 10, 13]⟩ : ByteArray).data.toList[j]? = some b → b.toNat < 128 := fun j b h => blanks_ascii b (List.mem_of_getElem? h)

theorem iter_lt {W : World} {k : Nat} {s : ByteArray} {i : Nat} (h : W.heap[k]? = some (.stringIter s i)) : k < W.heap.size := (Array.getElem?_eq_some_iff.1 h).1
theorem IndexRune_any (r : Nat) (w : World) (h1 : 128 ≤ r) (h2 : r ≤ 1114111) (hv : Utf8.valid (r : Nat) = true) :
    Calls Tryd.prog 72 #[.string ⟨#[32, 9, 10, 13]⟩, .int .i32 r] w fun e w' => e = .returned (.int .i64 (-1)) ∧ Below w.heap.size w w' := by
  by_cases h : r = 65533
  · subst h
    exact IndexRune_err _ w blanks_ascii
  · exact IndexRune_far _ r w blanks_ascii (by decide) h1 h2 hv h
theorem IndexRune_low (x : UInt8) (c : Int) (w : World) (hx : x.toNat < 128) (h : Lib.indexByte blanks x = c) :
    Calls Tryd.prog 72 #[.string ⟨#[32, 9, 10, 13]⟩, .int .i32 x.toNat] w fun e w' => e = .returned (.int .i64 c) ∧ w' = w :=
  (Tryd.strings_IndexRune_ascii _ _ w (by omega) (by omega)).mono fun e w' ⟨h1, h2⟩ => ⟨h1.trans (by rw [show ((x.toNat : Int)).toNat.toUInt8 = x by simp, ← h]; rfl), h2⟩

set_option maxHeartbeats 4000000 in
set_option maxRecDepth 100000 in
theorem IndexAny_short (s : ByteArray) (w : World) (h8 : s.size ≤ 8) :
    Calls Tryd.prog 61 #[.string s, .string ⟨#[32, 9, 10, 13]⟩] w fun e w' => e = .returned (.int .i64 (Lib.indexAny s.data.toList blanks)) ∧ Below w.heap.size w w' := by
  have h8z : decide ((8 : Int) < (s.size : Int)) = false := decide_eq_false (by omega)
  go_enter Tryd.func61, Tryd.ntmps61
  go_wp2_with (go_at_call 73; refine (Tryd.strings_shouldUseASCIISet _ _).mono ?_; rintro e w' ⟨rfl, hw⟩; rw [hw, h8z]; clear hw)
  go_loopw [9, 10] (fun _ _ wr => ∃ i : Nat, i ≤ s.size ∧ wr.heap[w.heap.size]? = some (.stringIter s i) ∧ Hid (Lib.NoAny s.data.toList blanks i) ∧ Hid (Below w.heap.size w wr)) (fun _ _ wr => s.size - wr.iterPos w.heap.size)
  case atStart => exact ⟨0, Nat.zero_le _, World.iter_heap w s 0, Lib.hid (Lib.NoAny.zero _ _), Lib.hid below_iter⟩
  case round =>
    obtain ⟨i, hi, hit, HN, HB⟩ := hrel
    have HIt := Lib.hid hit
    have hsz := iter_lt hit
    by_cases hlt : i < s.size
    · by_cases ha : (s[i]'hlt).toNat < 128
      · have hnx : ∀ ty, (Instr.next (.pointer (some ⟨w.heap.size, 0, none⟩)) true ty).run Tryd.prog wr = _ := fun ty => Lib.run_next_ascii_at wr w.heap.size s i ty hit hlt ha
        have HIt2 := Lib.hid (Lib.iterAt_heap wr w.heap.size s i (i + 1) hit)
        have HB2 := Lib.hid (Lib.below_iterAt HB.out (Nat.le_refl _) s (i + 1))
        obtain ⟨x, hx⟩ : ∃ x : UInt8, s[i]'hlt = x := ⟨_, rfl⟩
        have HX : Hid (s.data.toList[i]? = some x) := Lib.hid (by rw [← hx]; exact Lib.data_getElem? s i hlt)
        rw [hx] at hnx ha
        have HCon := Lib.hid (Lib.contains_iff_indexByte blanks x)
        obtain ⟨c, hc⟩ : ∃ c, Lib.indexByte blanks x = c := ⟨_, rfl⟩
        have HC := Lib.hid hc
        obtain ⟨wo, hwo⟩ : ∃ wo, wr.iterAt w.heap.size s (i + 1) = wo := ⟨_, rfl⟩
        simp only [hwo] at hnx HIt2 HB2
        clear hit hx hc hwo
        cases hin : blanks.contains x
        · have hlt0 : ¬ ((0 : Int) ≤ c) := of_decide_eq_false (by rw [← HC.out, ← HCon.out, hin])
          have HN2 := Lib.hid (HN.out.succ HX.out hin)
          clear hin
          go_wp2_with (go_at_call 72; refine (IndexRune_low x c _ ha HC.out).mono ?_; rintro e w' ⟨rfl, hw⟩; rw [hw]; clear hw)
          go_roundw
          case rel => exact ⟨i + 1, hlt, HIt2.out, HN2, HB2⟩
          case measure => simp only [World.iterPos, HIt2.out, HIt.out]; omega
        · have hge : (0 : Int) ≤ c := of_decide_eq_true (by rw [← HC.out, ← HCon.out, hin])
          have HF := Lib.hid (Lib.indexAny_hit HN.out HX.out hin)
          clear hin
          go_wp2_with (go_at_call 72; refine (IndexRune_low x c _ ha HC.out).mono ?_; rintro e w' ⟨rfl, hw⟩; rw [hw]; clear hw)
          go_ret
          exact ⟨by rw [HF.out]; rfl, HB2.out⟩
      · have hb : 128 ≤ (s.get! i).toNat := by rw [get_at s i hlt]; omega
        obtain ⟨d1, d2, d3, d4, d5, d6, _⟩ := dec_hi s i hlt hb
        have HN2 := Lib.hid (noAny_more s blanks blanks_ascii i hlt hb HN.out)
        have hnx : ∀ ty, (Instr.next (.pointer (some ⟨w.heap.size, 0, none⟩)) true ty).run Tryd.prog wr = _ := fun ty => Lib.run_next_any_at wr w.heap.size s i ty hit hlt
        generalize (Utf8.decode s i).1 = r at *
        generalize (Utf8.decode s i).2 = d at *
        have HIt2 := Lib.hid (Lib.iterAt_heap wr w.heap.size s i (i + d) hit)
        have HB2 := Lib.hid (Lib.below_iterAt HB.out (Nat.le_refl _) s (i + d))
        obtain ⟨wo, hwo⟩ : ∃ wo, wr.iterAt w.heap.size s (i + d) = wo := ⟨_, rfl⟩
        simp only [hwo] at hnx HIt2 HB2
        have HD3 := Lib.hid d3
        have hle := iter_lt HIt2.out
        clear hit hwo hb ha d3
        go_wp2_with (go_at_call 72; refine (IndexRune_any r _ d1 d2 HD3.out).mono ?_; rintro e w' ⟨rfl, hb1⟩; have HB3 := Lib.hid (HB2.out.trans (hb1.mono (by omega))); have HIt3 := Lib.hid ((hb1.block _ hle).trans HIt2.out); clear hb1)
        go_roundw
        case rel => exact ⟨i + d, d5, HIt3.out, HN2, HB3⟩
        case measure => simp only [World.iterPos, HIt3.out, HIt.out]; omega
    · obtain rfl : i = s.size := by omega
      have hnx : ∀ ty, (Instr.next (.pointer (some ⟨w.heap.size, 0, none⟩)) true ty).run Tryd.prog wr = _ := fun ty => Lib.run_next_end_at wr w.heap.size s s.size ty hit (by omega)
      have HF : Hid (Lib.indexAny s.data.toList blanks = -1) := Lib.hid (Lib.indexAny_none (by rw [← Lib.size_eq]; exact HN.out))
      clear hit
      go_wp2_with fail
      go_ret
      exact ⟨by rw [HF.out]; rfl, HB.out⟩

theorem set_info : (Tryd.prog.info? 101).map (fun i => (i.zero, i.size)) = some (some (.agg (Array.replicate 256 (.bool false))), 256) := by kernel_rfl
theorem IndexAny_any (s : ByteArray) (w : World) (hs : s.size ≤ 1048576) :
    Calls Tryd.prog 61 #[.string s, .string ⟨#[32, 9, 10, 13]⟩] w fun e w' => e = .returned (.int .i64 (Lib.indexAny s.data.toList blanks)) ∧ Below w.heap.size w w' := by
  by_cases h8 : s.size ≤ 8
  · exact IndexAny_short s w h8
  · refine (Tryd.strings_IndexAny_long (zero_of_info set_info).1 s ⟨#[32, 9, 10, 13]⟩ w (by decide) (by omega) (by omega) (by decide) blanks_at).mono fun e w' ⟨h1, h2⟩ => ⟨h1, ?_⟩
    rw [h2]
    exact ((Below.refl _ _).alloc (Nat.le_refl _) _).alloc (by simp) _

theorem indexAny_any (l : List UInt8) : decide (0 ≤ Lib.indexAny l blanks) = l.any blanks.contains := by
  induction l with
  | nil => rfl
  | cons b l ih =>
    unfold Lib.indexAny
    rw [List.any_cons]
    have hg := Lib.indexAny_ge blanks l
    cases hb : blanks.contains b
    · rw [Bool.false_or, ← ih, if_neg (by decide)]
      split
      · rename_i h
        have := beq_iff_eq.1 h
        rw [this]
      · rename_i h
        have : Lib.indexAny l blanks ≠ -1 := fun e => h (beq_iff_eq.2 e)
        rw [decide_eq_decide]
        omega
    · rw [if_pos rfl, Bool.true_or]; rfl

set_option maxHeartbeats 1000000 in
theorem ContainsAny_is (s : ByteArray) (c : Bool) (w : World) (hs : s.size ≤ 1048576) (h : s.data.toList.any blanks.contains = c) :
    Calls Tryd.prog 53 #[.string s, .string ⟨#[32, 9, 10, 13]⟩] w fun e w' => e = .returned (.bool c) ∧ Below w.heap.size w w' := by
  obtain ⟨x, hx⟩ : ∃ x, Lib.indexAny s.data.toList blanks = x := ⟨_, rfl⟩
  have hq : decide (0 ≤ x) = c := by rw [← hx, indexAny_any, h]
  have HI : Hid (∀ w, Calls Tryd.prog 61 #[.string s, .string ⟨#[32, 9, 10, 13]⟩] w fun e w' => e = .returned (.int .i64 x) ∧ Below w.heap.size w w') := Lib.hid fun w => by rw [← hx]; exact IndexAny_any s w hs
  clear hx h
  go_enter Tryd.func53, Tryd.ntmps53
  go_wp2_with (go_at_call 61; refine (HI.out _).mono ?_; rintro e w1 ⟨rfl, hb1⟩; have HB := Lib.hid hb1; clear hb1)
  go_ret
  exact ⟨rfl, HB.out⟩
end Go.Proofs.YtbhfkhfnljddhaaDoor
