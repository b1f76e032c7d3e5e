/-
  Encode's closures: a number, a frame behind the bytes.
-/
import Derived.Test.YtehbjfjhalpgaaaRows
import Derived.Test.YtehbjfjhalpgaaaImg35
namespace Go.Proofs.Ytehbjfjhalpgaaa
open Go.RowKit

set_option maxHeartbeats 4000000 in
set_option maxRecDepth 100000 in
theorem encNum_any (B b x : Nat) (l : List UInt8) (w : World) (h : IsB B b (Lib.byteCells l) w) (hx : x ≤ 9223372036854775807) (hlen : l.length ≤ 70368744177664) (hBw : B ≤ w.heap.size) :
    Calls Try.prog 19 #[.int .i64 (x : Int), .pointer (some ⟨b, 0, none⟩)] w fun e w' => e = .returned (.tuple #[]) ∧ BAt B b (Lib.byteCells (l ++ uintB x)) w' ∧ Below B w w' := by
  have hU := Uint_any x (by omega) w
  have hl := uintB_ten x (by omega)
  have hw : IntKind.u64.wrap (x : Int) = (x : Int) := by rw [IntKind.wrap_u64]; omega
  obtain ⟨T, hT⟩ : ∃ T, mkS (uintB x) = T := ⟨_, rfl⟩
  have HT : Hid (T.data.toList = uintB x) := Lib.hid (by rw [← hT, mkS_data])
  have HTs : Hid (T.size = (uintB x).length) := Lib.hid (by rw [← hT, mkS_size])
  rw [hT] at hU
  have HU := Lib.hid hU
  have HL := Lib.hid hl
  have H := Lib.hid h
  clear hT hU hl h
  go_enter Try.func19, Try.ntmps19
  go_wp2_with fail
  refine HU.out.mono ?_
  rintro e w1 ⟨rfl, hb1⟩
  have H1 := Lib.hid (H.out.call hb1)
  have HB1 := Lib.hid (hb1.mono hBw)
  have hsz1 := hb1.size
  clear hb1
  go_wp2_with fail
  refine (writeString_any B b _ T w1 H1.out (by rw [bcells_len]; have := HTs.out; have := HL.out; omega) (by omega)).mono ?_
  rintro e w2 ⟨rfl, hat, hb2⟩
  have H2 := Lib.hid hat
  have HB2 := Lib.hid (HB1.out.trans hb2)
  clear hat hb2
  go_wp2_with fail
  go_end0
  exact ⟨rfl, by rw [← bcells_app, ← HT.out]; exact H2.out, HB2.out⟩
set_option maxHeartbeats 4000000 in
set_option maxRecDepth 100000 in
theorem encFrame_any (B b : Nat) (l : List UInt8) (ss : List ByteArray) (g o cap : Nat) (w : World) (h : IsB B b (Lib.byteCells l) w) (hn : ss.length ≤ 1000) (hg : g < w.heap.size) (hc : ∀ k (h : k < ss.length), w.cell? ⟨g, o + k, none⟩ = some (.string ss[k])) (hlen : l.length ≤ 70368744177664) (hsz : (frameS ss).1.size ≤ 1000000) (hBw : B ≤ w.heap.size) :
    Calls Try.prog 22 #[.slice (some ⟨g, o, none⟩) ss.length cap, .pointer (some ⟨b, 0, none⟩)] w fun e w' => e = .returned (.tuple #[]) ∧ BAt B b (Lib.byteCells (l ++ (frameS ss).1.data.toList)) w' ∧ Below B w w' := by
  have hF := Frame_any ss g o cap w hn hg hc
  obtain ⟨⟨T, c⟩, hT⟩ : ∃ T, frameS ss = T := ⟨_, rfl⟩
  rw [hT] at hF hsz ⊢
  dsimp only at hF hsz ⊢
  have HF := Lib.hid hF
  have H := Lib.hid h
  clear hF hT h hc
  go_enter Try.func22, Try.ntmps22
  go_wp2_with fail
  refine HF.out.mono ?_
  rintro e w1 ⟨rfl, hb1⟩
  have H1 := Lib.hid (H.out.call hb1)
  have HB1 := Lib.hid (hb1.mono hBw)
  have hsz1 := hb1.size
  clear hb1
  go_wp2_with fail
  refine (writeString_any B b _ T w1 H1.out (by rw [bcells_len]; omega) (by omega)).mono ?_
  rintro e w2 ⟨rfl, hat, hb2⟩
  have H2 := Lib.hid hat
  have HB2 := Lib.hid (HB1.out.trans hb2)
  clear hat hb2
  go_wp2_with fail
  go_end0
  exact ⟨rfl, by rw [← bcells_app]; exact H2.out, HB2.out⟩
end Go.Proofs.Ytehbjfjhalpgaaa
