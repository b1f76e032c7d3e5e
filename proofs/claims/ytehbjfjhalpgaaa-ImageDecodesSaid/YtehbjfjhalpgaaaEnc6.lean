/-
  The law's wakes: the bytes that the document fixes.
-/
import Derived.Test.YtehbjfjhalpgaaaRows
import Derived.Test.YtehbjfjhalpgaaaEnc3
namespace Go.Proofs.Ytehbjfjhalpgaaa
open Go.RowKit

abbrev oneA : List St := [(false, [])]
theorem wake_enc : encV 3 ⟨#[]⟩ [] [oneA, oneA, oneA, oneA] = (wakeS, 0) := by kernel_rfl
theorem ones_sec {W : World} {B : Nat} {s0 s1 s2 s3 : Value} (h0 : OneSt W B s0) (h1 : OneSt W B s1) (h2 : OneSt W B s2) (h3 : OneSt W B s3) : SecP W (fun _ => True) [s0, s1, s2, s3] [oneA, oneA, oneA, oneA] := by
  intro j hj
  rcases j with _ | _ | _ | _ | j
  · exact h0.aut.mono (fun _ _ => trivial)
  · exact h1.aut.mono (fun _ _ => trivial)
  · exact h2.aut.mono (fun _ _ => trivial)
  · exact h3.aut.mono (fun _ _ => trivial)
  · simp at hj; omega

set_option maxHeartbeats 4000000 in
set_option maxRecDepth 100000 in
theorem wakes_any (w : World) : Calls Try.prog 13 #[] w fun e w' => e = .returned (.bool true) ∧ Below w.heap.size w w' := by
  have HE : Hid (∀ (W : World) (s0 s1 s2 s3 : Value) (B : Nat), OneSt W B s0 → OneSt W B s1 → OneSt W B s2 → OneSt W B s3 → Calls Try.prog 10 #[.agg #[.int .i64 3, .string ⟨#[]⟩, .slice none 0 0, s0, s1, s2, s3]] W fun e w' => e = .returned (.tuple #[.string wakeS, .int .i64 0]) ∧ Below W.heap.size W w') := Lib.hid (fun W s0 s1 s2 s3 B h0 h1 h2 h3 => by
    refine (Encode_any 3 ⟨#[]⟩ [] [oneA, oneA, oneA, oneA] (.slice none 0 0) s0 s1 s2 s3 W ⟨none, 0, rfl, .inl rfl⟩ rfl (ones_sec h0 h1 h2 h3) (by decide) (fun k hk => by simp at hk)).mono ?_
    rintro e w' ⟨he, hb⟩
    rw [wake_enc] at he
    exact ⟨he, hb⟩)
  have HD : Hid (∀ W : World, Calls Try.prog 15 #[.string wakeS] W fun e w' => ∃ X k0 k1 X0 n0 c0 X1 n1 c1 X2 n2 c2 X3 c3, e = .returned (.tuple #[.agg #[.int .i64 3, .string ⟨#[]⟩, .slice X k0 k1, .slice X0 n0 c0, .slice X1 n1 c1, .slice X2 n2 c2, .slice X3 1 c3], .int .i64 0]) ∧ Below W.heap.size W w') := Lib.hid (fun W => by
    refine (Decode_any wakeS W (by decide)).mono ?_
    intro e w' h
    rw [wake_dec] at h
    obtain ⟨vr, v0, v1, v2, v3, he, hb, ⟨X, k, hvr, _⟩, _, hs⟩ := h
    obtain ⟨X0, c0, h0, _⟩ := hs 0 (by decide)
    obtain ⟨X1, c1, h1, _⟩ := hs 1 (by decide)
    obtain ⟨X2, c2, h2, _⟩ := hs 2 (by decide)
    obtain ⟨X3, c3, h3, _⟩ := hs 3 (by decide)
    simp only [List.getD_cons_zero, List.getD_cons_succ] at h0 h1 h2 h3
    subst hvr h0 h1 h2 h3
    exact ⟨_, _, _, _, _, _, _, _, _, _, _, _, _, _, he, hb⟩)
  have hws : wakeS.toList = [72, 66, 75, 49, 3, 0, 0, 1, 0, 1, 0, 1, 0, 1, 0] := by rw [Lib.toList_data]; rfl
  go_enter Try.func13, Try.ntmps13
  go_wp2_with fail
  refine (empty_any w).mono ?_
  rintro e w1 ⟨s0, s1, s2, s3, rfl, hb1, h0, h1, h2, h3⟩
  have HE1 := Lib.hid (HE.out w1 s0 s1 s2 s3 _ h0 h1 h2 h3)
  have HB1 := Lib.hid hb1
  clear hb1 h0 h1 h2 h3
  go_wp2_with fail
  refine HE1.out.mono ?_
  rintro e w2 ⟨rfl, hb2⟩
  have HB2 := Lib.hid (HB1.out.trans (hb2.mono HB1.out.size))
  clear hb2
  go_wp2_with fail
  refine (HD.out w2).mono ?_
  rintro e w3 ⟨X, k0, k1, X0, n0, c0, X1, n1, c1, X2, n2, c2, X3, c3, rfl, hb3⟩
  have HB3 := Lib.hid (HB2.out.trans (hb3.mono HB2.out.size))
  clear hb3
  go_wp2_with fail
  go_ret
  exact ⟨rfl, HB3.out.alloc HB3.out.size _⟩
end Go.Proofs.Ytehbjfjhalpgaaa
