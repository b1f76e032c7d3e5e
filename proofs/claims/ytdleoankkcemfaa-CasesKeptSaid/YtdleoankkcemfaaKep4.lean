/-
  List of a checker: at most eight words of the section.
-/
import Derived.Test.YtdleoankkcemfaaRows
import Derived.Test.YtdleoankkcemfaaKep3
namespace Go.Proofs.Ytdleoankkcemfaa
open Go.RowKit

theorem EdsAt.bound {w : World} {p : Nat → Prop} {v : Value} {es : List Ed} (h : EdsAt w p v es) : EdsAt w (fun k => k < w.heap.size) v es := by
  obtain ⟨A, cap, hv, hc, h0⟩ := h
  exact ⟨A, cap, hv, hc, h0.imp id fun ⟨g, o, hA, hg, _, hcs⟩ => ⟨g, o, hA, hg, hg, hcs⟩⟩
theorem AutAt.bound {w : World} {p : Nat → Prop} {v : Value} {A : List St} (h : AutAt w p v A) : AutAt w (fun k => k < w.heap.size) v A := by
  obtain ⟨Ad, cap, hv, hc, h0⟩ := h
  refine ⟨Ad, cap, hv, hc, h0.imp id fun ⟨g, o, hA, hg, _, hcs⟩ => ⟨g, o, hA, hg, hg, fun k h => ⟨(hcs k h).1, ?_⟩⟩⟩
  obtain ⟨ev, h1, h2⟩ := (hcs k h).2
  exact ⟨ev, h1, h2.bound⟩
theorem own_lower {w : World} {B B' e size n : Nat} {v : Value} {xs : List Value} (h : w.ownsRow B e size v n xs) (hB : B' ≤ B) : w.ownsRow B' e size v n xs :=
  ⟨h.1, h.2.imp id fun ⟨g, cap, cur, hv, hb, r⟩ => ⟨g, cap, cur, hv, Nat.le_trans hB hb, r⟩⟩
/-- A list of words of the automaton. -/
def RetW (A : List St) (B : Nat) (v : Value) (w : World) : Prop := ∃ os : List ByteArray, w.ownsRow B 9 1 v os.length (strV os) ∧ os.length ≤ 8 ∧ Good A os

set_option maxHeartbeats 1000000 in
set_option maxRecDepth 100000 in
theorem so_walkList (v : Value) (A : List St) (fr : ByteArray) (w : World) (h : AutAt w (fun _ => True) v A) (hsh : shapeB A = true) (hsl : Slim A) (hfr : fr.size ≤ maxLen) :
    Calls Try.prog 62 #[v, .string fr, .int .i64 8] w fun e w' => ∃ u n, e = .returned (.tuple #[u, n]) ∧ RetW A w.heap.size u w' ∧ Below w.heap.size w w' := by
  obtain ⟨hlow, hp0, hA1⟩ := shape_low hsh
  have HL := Lib.hid hlow
  have HA := Lib.hid h
  have HSl := Lib.hid hsl
  have HSh := Lib.hid hsh
  clear hlow hsl hsh
  obtain ⟨Ad, cap, rfl, hcap, hA0⟩ := h
  clear hA0
  have HSV := Lib.hid (show shapeV A = 0 by unfold shapeV; rw [HSh.out]; rfl)
  go_enter Try.func62, Try.ntmps62
  go_wp2_with fail
  refine (Shape_any A _ _ HA.out).mono ?_
  rw [HSV.out]
  rintro e w1 ⟨rfl, b1⟩
  have B1 := Lib.hid b1
  have HA1 := Lib.hid ((HA.out.keep b1).bound)
  have hz1 := b1.size
  clear b1
  have ba := below_alloc w1 (.cells #[.slice Ad A.length cap, .slice none 0 0, .slice none 0 0, .int .i64 8] 142)
  have hn := heap_alloc_new w1 (.cells #[.slice Ad A.length cap, .slice none 0 0, .slice none 0 0, .int .i64 8] 142)
  obtain ⟨w2, hw2⟩ : ∃ w2, w1.alloc (.cells #[.slice Ad A.length cap, .slice none 0 0, .slice none 0 0, .int .i64 8] 142) = w2 := ⟨_, rfl⟩
  rw [hw2] at ba hn
  have HLS := Lib.hid (show LS w2 w1.heap.size (.slice Ad A.length cap) [] [] (.slice none 0 0) (.slice none 0 0) from ⟨hn, World.ownsRow_nil _ _ _ _, World.ownsRow_nil _ _ _ _⟩)
  have HA2 := Lib.hid (HA1.out.low ba)
  have BA := Lib.hid ba
  have HW2 := Lib.hid hw2
  clear ba hn hw2
  go_wp2_with fail
  rw [show min (8 : Int) 4096 = 8 from rfl, HW2.out]
  refine (gather_any A w1.heap.size (.slice Ad A.length cap) HSl.out hA1 A.length 0 fr w2 [] [] _ _ HL.out HLS.out HA2.out rfl (fun x hx => by cases hx) (by decide) (by simp; omega) hfr).mono ?_
  rintro e w3 ⟨r, l', os', wv', ov', rfl, b3, hL3, -, ho3, hg3⟩
  have B3 := Lib.hid (B1.out.trans ((BA.out.trans b3).mono hz1))
  have HL3 := Lib.hid hL3
  have c2 := hL3.cells.2.2.1
  have HG3 := Lib.hid hg3
  clear b3 hL3 hg3
  go_wp2_with fail
  go_ret2
  exact ⟨_, _, rfl, ⟨os', own_lower HL3.out.out (by omega), ho3, HG3.out⟩, B3.out⟩

set_option maxHeartbeats 1000000 in
theorem so_walkList_nil (fr : ByteArray) (w : World) (h : AutAt w (fun _ => True) (.slice none 0 0) []) :
    Calls Try.prog 62 #[.slice none 0 0, .string fr, .int .i64 8] w fun e w' => ∃ n, e = .returned (.tuple #[.slice none 0 0, n]) ∧ Below w.heap.size w w' := by
  have HSV := Lib.hid (show shapeV [] = 190 from rfl)
  go_enter Try.func62, Try.ntmps62
  go_wp2_with fail
  refine (Shape_any [] _ _ h).mono ?_
  rw [HSV.out]
  rintro e w1 ⟨rfl, b1⟩
  have B1 := Lib.hid b1
  clear b1
  go_wp2_with fail
  go_ret2
  exact ⟨_, rfl, B1.out⟩

set_option maxHeartbeats 1000000 in
theorem so_List (c : Value) (As : List (List St)) (A : List St) (fr : ByteArray) (w : World) (h : CkAt w c As) (hA : As[0]? = some A) (hfr : fr.size ≤ maxLen) :
    Calls Try.prog 34 #[c, .int .i64 0, .string fr, .int .i64 8] w fun e w' => ∃ u, e = .returned u ∧ RetW A w.heap.size u w' ∧ Below w.heap.size w w' := by
  have HS := Lib.hid (so_section 0 (by omega) c As A w h hA)
  clear h hA
  go_enter Try.func34, Try.ntmps34
  go_wp2_with fail
  refine HS.out.mono ?_
  rintro e w1 ⟨v, rfl, hw1, h1, hsh, hsl⟩
  obtain rfl := hw1.symm
  clear hw1
  have HW := Lib.hid (so_walkList v A fr w h1 hsh hsl hfr)
  clear h1 hsh hsl
  go_wp2_with fail
  refine HW.out.mono ?_
  rintro e w2 ⟨u, n, rfl, hr, b2⟩
  have HR := Lib.hid hr
  have B2 := Lib.hid b2
  clear hr b2
  go_wp2_with fail
  go_ret
  exact ⟨u, rfl, HR.out, B2.out⟩
set_option maxHeartbeats 1000000 in
theorem so_List_nil (fr : ByteArray) (w : World) :
    Calls Try.prog 34 #[.pointer none, .int .i64 0, .string fr, .int .i64 8] w fun e w' => e = .returned (.slice none 0 0) ∧ Below w.heap.size w w' := by
  have HA := Lib.hid (show AutAt w (fun _ => True) (.slice none 0 0) [] from ⟨none, 0, rfl, by unfold maxLen; exact ⟨Nat.le_refl _, by omega⟩, .inl rfl⟩)
  go_enter Try.func34, Try.ntmps34
  go_wp2_with fail
  refine (so_section_nil 0 _).mono ?_
  rintro e w1 ⟨rfl, hw1⟩
  obtain rfl := hw1.symm
  clear hw1
  go_wp2_with fail
  refine (so_walkList_nil fr w HA.out).mono ?_
  rintro e w2 ⟨n, rfl, b2⟩
  have B2 := Lib.hid b2
  clear b2
  go_wp2_with fail
  go_ret
  exact ⟨rfl, B2.out⟩
end Go.Proofs.Ytdleoankkcemfaa
