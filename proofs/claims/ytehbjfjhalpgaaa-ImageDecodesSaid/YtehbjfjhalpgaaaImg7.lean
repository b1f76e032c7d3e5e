/-
  Records framed: the program's Frame.
-/
import Derived.Test.YtehbjfjhalpgaaaRows
import Derived.Test.YtehbjfjhalpgaaaBuilder2
import Derived.Test.YtehbjfjhalpgaaaImg6
namespace Go.Proofs.Ytehbjfjhalpgaaa
open Go.RowKit

/-- Each record behind its length. -/
def frameL (ss : List ByteArray) : List UInt8 := ss.flatMap fun s => uintB s.size ++ s.data.toList
theorem frameL_snoc (ss : List ByteArray) (k : Nat) (h : k < ss.length) : frameL (ss.take (k + 1)) = frameL (ss.take k) ++ uintB ss[k].size ++ ss[k].data.toList := by
  rw [List.take_succ_eq_append_getElem h, frameL, frameL, List.flatMap_append]
  simp
def fitsL (ss : List ByteArray) : Bool := ss.all fun s => decide (s.size ≤ 255)
/-- What both Frames answer. -/
def frameS (ss : List ByteArray) : ByteArray × Int := if fitsL ss then (mkS (frameL ss), 0) else (⟨#[]⟩, 62)
theorem frameS_no (ss : List ByteArray) (k : Nat) (h : k < ss.length) (hk : ¬ ss[k].size ≤ 255) : frameS ss = (⟨#[]⟩, 62) := by
  unfold frameS
  rw [if_neg]
  intro hf
  unfold fitsL at hf
  rw [List.all_eq_true] at hf
  exact hk (of_decide_eq_true (hf _ (List.getElem_mem h)))
theorem fits_take (ss : List ByteArray) (k : Nat) (h : k < ss.length) (hk : ss[k].size ≤ 255) (ht : fitsL (ss.take k) = true) : fitsL (ss.take (k + 1)) = true := by
  unfold fitsL at *
  rw [List.take_succ_eq_append_getElem h, List.all_append, ht]; simp [hk]
theorem frameL_len (ss : List ByteArray) (hf : fitsL ss = true) : (frameL ss).length ≤ 265 * ss.length := by
  induction ss with
  | nil => simp [frameL]
  | cons s ss ih =>
    unfold fitsL at hf
    rw [List.all_cons, Bool.and_eq_true, decide_eq_true_eq] at hf
    have h1 := ih hf.2
    have h2 := uintB_ten s.size (by omega)
    have h3 : s.data.toList.length = s.size := by simp
    unfold frameL at *
    rw [List.flatMap_cons, List.length_append, List.length_append, List.length_cons]
    omega
theorem bcells_app (l m : List UInt8) : Lib.byteCells l ++ Lib.byteCells m = Lib.byteCells (l ++ m) := by simp [Lib.byteCells]
theorem bcells_len (l : List UInt8) : (Lib.byteCells l).length = l.length := by simp [Lib.byteCells]
theorem IsB.size {B b : Nat} {bs : List Value} {w : World} (h : IsB B b bs w) : b < w.heap.size := by
  rcases h with h | h
  · exact h.lt
  · exact h.lt
theorem IsB.call {B b : Nat} {bs : List Value} {w w' : World} (h : IsB B b bs w) (hb : Below w.heap.size w w') : IsB B b bs w' := by
  have key : ∀ p, Lib.BuilderAt 59 5 B b p bs w → Lib.BuilderAt 59 5 B b p bs w' := by
    rintro p ⟨hB, v, hbk, hown, hne⟩
    have hlt : b < w.heap.size := by
      rcases Nat.lt_or_ge b w.heap.size with h' | h'
      · exact h'
      · simp [Array.getElem?_eq_none h'] at hbk
    exact ⟨hB, v, by rw [hb.block b hlt]; exact hbk, own_below hown hb, hne⟩
  rcases h with h | h
  · exact .inl (key _ h)
  · exact .inr (key _ h)

set_option maxHeartbeats 4000000 in
set_option maxRecDepth 100000 in
theorem Frame_any (ss : List ByteArray) (g o cap : Nat) (w : World) (hn : ss.length ≤ 1000) (hg : g < w.heap.size) (hc : ∀ k (h : k < ss.length), w.cell? ⟨g, o + k, none⟩ = some (.string ss[k])) :
    Calls Try.prog 23 #[.slice (some ⟨g, o, none⟩) ss.length cap] w fun e w' => e = .returned (.tuple #[.string (frameS ss).1, .int .i64 (frameS ss).2]) ∧ Below w.heap.size w w' := by
  have HC := Lib.hid hc
  clear hc
  go_enter Try.func23, Try.ntmps23
  go_wp2_with fail
  go_loopw [6, 9] (fun _ i W => ∃ k : Nat, k ≤ ss.length ∧ i = .int .i64 k ∧ Hid (fitsL (ss.take k) = true) ∧ Hid (Below w.heap.size w W) ∧ Hid (IsB w.heap.size w.heap.size (Lib.byteCells (frameL (ss.take k))) W)) (fun _ i _ => ss.length - (intOf i).toNat)
  case atStart => exact ⟨0, Nat.zero_le _, rfl, Lib.hid rfl, Lib.hid ((Below.refl _ _).alloc (Nat.le_refl _) _), Lib.hid (fresh_isB w)⟩
  case round =>
    obtain ⟨k, hk, rfl, HT, HB, HI⟩ := hrel
    by_cases hlt : k < ss.length
    · have hcell := (HB.out.cell (p := ⟨g, o + k, none⟩) hg).trans (HC.out k hlt)
      have HS := Lib.hid (frameL_snoc ss k hlt)
      by_cases h255 : ss[k].size ≤ 255
      · have HT2 := Lib.hid (fits_take ss k hlt h255 HT.out)
        have HL1 : Hid ((frameL (ss.take k)).length ≤ 265000) := Lib.hid (by
          have := frameL_len _ HT.out
          have h2 : (ss.take k).length ≤ k := List.length_take_le _ _
          omega)
        obtain ⟨x, hx⟩ : ∃ x, ss[k]'hlt = x := ⟨_, rfl⟩
        rw [hx] at hcell HS h255
        clear hx
        have hUint := fun w => Uint_any x.size (by omega) w
        obtain ⟨T, hT⟩ : ∃ T, mkS (uintB x.size) = T := ⟨_, rfl⟩
        have HU : Hid (T.size ≤ 10) := Lib.hid (by rw [← hT, mkS_size]; exact uintB_ten x.size (by omega))
        have HTd : Hid (uintB x.size = T.data.toList) := Lib.hid (by rw [← hT, mkS_data])
        rw [hT] at hUint
        rw [HTd.out] at HS
        have HUint := Lib.hid hUint
        clear hT hUint HTd
        go_wp2_with (first
          | (go_at_call 21; refine (HUint.out _).mono ?_; rintro e w1 ⟨rfl, hb1⟩; have HI1 := Lib.hid (HI.out.call hb1); have HB1 := Lib.hid (HB.out.trans (hb1.mono (by have := HI.out.size; omega))); clear hb1))
        refine (writeString_any _ _ _ T _ HI1.out (by rw [bcells_len]; have := HL1.out; have := HU.out; omega) (by have := HI1.out.size; omega)).mono ?_
        rintro e w2 ⟨rfl, ho, hb2⟩
        have HI2 := Lib.hid ho.is
        have HB2 := Lib.hid (HB1.out.trans hb2)
        clear ho hb2
        go_wp2_with fail
        refine (writeString_any _ _ _ x _ HI2.out (by rw [List.length_append, bcells_len, bcells_len, len_toList]; have := HL1.out; have := HU.out; omega) (by have := HI2.out.size; omega)).mono ?_
        rintro e w3 ⟨rfl, ho, hb3⟩
        have HI3 := Lib.hid ho.is
        have HB3 := Lib.hid (HB2.out.trans hb3)
        clear ho hb3
        go_wp2_with fail
        go_roundw
        case rel => exact ⟨k + 1, by omega, by go_num, HT2, HB3, Lib.hid (by rw [HS.out, ← bcells_app, ← bcells_app]; exact HI3.out)⟩
        case measure => simp [intOf]; omega
      · have HN := Lib.hid (frameS_no ss k hlt h255)
        go_wp2_with fail
        go_ret2
        exact ⟨by rw [HN.out]; rfl, HB.out⟩
    · obtain rfl : k = ss.length := by omega
      have HN : Hid (frameS ss = (mkS (frameL ss), 0)) := Lib.hid (by
        have := HT.out
        rw [List.take_length] at this
        unfold frameS; rw [if_pos this])
      go_wp2_with (first
        | (go_at_call 25; refine (builderString_any _ _ _ _ HI.out (by have := HI.out.size; omega)).mono ?_; rintro e w' ⟨rfl, h2⟩; have HO := Lib.hid (HB.out.trans h2); clear h2))
      go_ret2
      exact ⟨by rw [HN.out]; rfl, HO.out⟩
end Go.Proofs.Ytehbjfjhalpgaaa
