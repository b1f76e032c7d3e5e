/-
  A section's bytes: the reference's section.
-/
import Derived.Test.YtehbjfjhalpgaaaRows
import Derived.Test.YtehbjfjhalpgaaaEnc2
namespace Go.Proofs.Ytehbjfjhalpgaaa
open Go.RowKit

/-- Bytes in memory that the call has made. -/
def OwnB (w0 W : World) (v : Value) (l : List UInt8) : Prop := Own w0 W 5 1 v l.length (Lib.byteCells l)
theorem OwnB.nil_ (w : World) : OwnB w w (.slice none 0 0) [] := Own.nil_ w _ _
theorem OwnB.size {w0 W : World} {v : Value} {l : List UInt8} (h : OwnB w0 W v l) : w0.heap.size ≤ W.heap.size := h.below.size
theorem OwnB.call {w0 W W' : World} {v : Value} {l : List UInt8} (h : OwnB w0 W v l) (hb : Below W.heap.size W W') : OwnB w0 W' v l := Own.call h hb
theorem put_b (w0 w : World) (v : Value) (l : List UInt8) (s : ByteArray) (ho : OwnB w0 w v l) (hn : l.length + s.size ≤ 140737488355328) :
    Calls Try.prog 28 #[v, .string s] w fun e w' => ∃ v', e = .returned v' ∧ OwnB w0 w' v' (l ++ s.data.toList) :=
  (put_any w0 w v l.length l s ho hn).mono fun e w' ⟨v', he, h⟩ => ⟨v', he, by unfold OwnB; rw [List.length_append, len_toList]; exact h⟩
theorem number_b (w0 w : World) (v : Value) (l : List UInt8) (x : Int) (h0 : 0 ≤ x) (hx : x ≤ 9223372036854775807) (ho : OwnB w0 w v l) (hn : l.length + 10 ≤ 140737488355328) :
    Calls Try.prog 29 #[v, .int .i64 x] w fun e w' => ∃ v', e = .returned v' ∧ OwnB w0 w' v' (l ++ uintB x.toNat) := by
  obtain ⟨n, rfl⟩ : ∃ n : Nat, x = n := ⟨x.toNat, by omega⟩
  exact (number_any w0 w v l.length l n (by omega) ho hn).mono fun e w' ⟨v', he, h⟩ => ⟨v', he, by unfold OwnB; rw [List.length_append]; exact h⟩
theorem encS_true (es : List Ed) : uintB (2 * (es.length : Int) + 1).toNat ++ es.flatMap encE = encS (true, es) := by
  unfold encS stN
  rw [show (2 * (es.length : Int) + 1).toNat = 2 * (true, es).2.length + (if (true, es).1 = true then 1 else 0) by simp; omega]
theorem encS_false (es : List Ed) : uintB (2 * (es.length : Int)).toNat ++ es.flatMap encE = encS (false, es) := by
  unfold encS stN
  rw [show (2 * (es.length : Int)).toNat = 2 * (false, es).2.length + (if (false, es).1 = true then 1 else 0) by simp; omega]

set_option maxHeartbeats 8000000 in
set_option maxRecDepth 100000 in
theorem rsection_any (w0 w : World) (v av : Value) (l : List UInt8) (A : List St) (ho : OwnB w0 w v l) (hA : AutAt w0 (fun _ => True) av A) (hs : shapeB A = true) (hn : l.length ≤ 70368744177664) :
    Calls Try.prog 31 #[v, av] w fun e w' => ∃ v', e = .returned v' ∧ OwnB w0 w' v' (l ++ encA A) := by
  obtain ⟨i0, hi, hz0, hz1, hz2⟩ := info_parts byte_info
  obtain ⟨hp1, hp2, hp3⟩ := shape_parts hs
  obtain ⟨AX, acap, rfl, hac, hA0⟩ := hA
  have HA0 := Lib.hid hA0
  have HG := Lib.hid hp3
  have HO0 := Lib.hid ho
  have hNi : (A.length : Int) ≤ 1048576 := by omega
  have hlt0 := (uintB_ten A.length (by omega))
  have HLen : Hid (∀ k, (l ++ uintB A.length ++ (A.take k).flatMap encS).length ≤ 70371707453450) := Lib.hid (fun k => by
    have := flat_take_len A encS 2826 1048576 k (fun x hx => encS_len (hp3 x hx) hp2) hp2
    rw [List.length_append, List.length_append]
    omega)
  clear hA0 hac hs ho hp3 hlt0
  go_enter Try.func31, Try.ntmps31
  go_wp2_with fail
  refine (number_b w0 _ v l A.length (by omega) (by omega) HO0.out (by omega)).mono ?_
  rintro e w1 ⟨v1, rfl, ho1⟩
  have HO1 := Lib.hid ho1
  clear ho1
  go_wp2_with fail
  go_loopw [0, 5, 6, 7] (fun u i _ _ W => ∃ k : Nat, k ≤ A.length ∧ i = .int .i64 k ∧ Hid (OwnB w0 W u (l ++ uintB A.length ++ (A.take k).flatMap encS))) (fun _ i _ _ _ => A.length - (intOf i).toNat)
  case atStart => exact ⟨0, Nat.zero_le _, rfl, Lib.hid (by have := HO1.out; simpa using this)⟩
  case round =>
    obtain ⟨k, hk, rfl, HO⟩ := hrel
    rename World => wo
    by_cases hlt : k < A.length
    · obtain ⟨g, o, hAX, hg, hp, hcs⟩ := HA0.out.resolve_left (by omega)
      subst hAX
      obtain ⟨a0, ev, a1, hEv⟩ := hcs k hlt
      have hGk := HG.out A[k] (List.getElem_mem hlt)
      have hSn := flat_snoc A encS k hlt
      obtain ⟨⟨fin, es⟩, hx⟩ : ∃ x, A[k] = x := ⟨_, rfl⟩
      rw [hx] at a0 hEv hGk hSn
      dsimp only at a0 hEv hGk
      have hEl := hGk.len
      obtain ⟨EX, ecap, rfl, hec, hE1⟩ := hEv
      have x0 := (HO.out.below.cell (p := ⟨g, o + k * 2, none⟩) hg).trans a0
      have x1 := (HO.out.below.cell (p := ⟨g, o + k * 2 + 1, none⟩) hg).trans a1
      have HE1 := Lib.hid hE1
      have HA1 := Lib.hid a1
      have HSn := Lib.hid hSn
      have HGk := Lib.hid hGk
      have HLk := Lib.hid (HLen.out k)
      have HLt : Hid (True → k + 1 ≤ A.length) := Lib.hid (fun _ => hlt)
      have hEi : (es.length : Int) ≤ 256 := by omega
      obtain ⟨L, hL⟩ : ∃ L, l ++ uintB A.length ++ (A.take k).flatMap encS = L := ⟨_, rfl⟩
      rw [hL] at HO HLk
      have HL := Lib.hid hL
      clear hx hcs hE1 hSn hGk a0 a1 hEl hec hL
      cases fin
      all_goals
        go_wp2_with fail
        refine (number_b w0 _ _ L _ (by omega) (by omega) HO.out (by have := HLk.out; omega)).mono ?_
        rintro e w2 ⟨v2, rfl, ho2⟩
        obtain ⟨L2, hL2, hQ2, hLe2⟩ : ∃ L2, OwnB w0 w2 v2 L2 ∧ L2 ++ es.flatMap encE = L ++ encS (_, es) ∧ L2.length ≤ L.length + 10 := by
          first
            | exact ⟨_, ho2, by rw [List.append_assoc, encS_true], by rw [List.length_append]; have := uintB_ten (2 * (es.length : Int) + 1).toNat (by omega); omega⟩
            | exact ⟨_, ho2, by rw [List.append_assoc, encS_false], by rw [List.length_append]; have := uintB_ten (2 * (es.length : Int)).toNat (by omega); omega⟩
        have HO2 := Lib.hid hL2
        have HQ2 := Lib.hid hQ2
        have HLe2 := Lib.hid hLe2
        clear ho2 x0 x1 hL2 hQ2 hLe2
        go_wp2_with fail
        go_loopw [0, 7] (fun u j W => ∃ m : Nat, m ≤ es.length ∧ j = .int .i64 m ∧ Hid (OwnB w0 W u (L2 ++ (es.take m).flatMap encE))) (fun _ j _ => es.length - (intOf j).toNat)
        case atStart => exact ⟨0, Nat.zero_le _, rfl, Lib.hid (by have := HO2.out; simpa using this)⟩
        case round =>
          obtain ⟨m, hm, rfl, HOm⟩ := hrel
          have x1 := (HOm.out.below.cell (p := ⟨g, o + k * 2 + 1, none⟩) hg).trans HA1.out
          by_cases hlm : m < es.length
          · obtain ⟨eg, eo, hEX, heg, hep, hec2⟩ := HE1.out.resolve_left (by omega)
            subst hEX
            obtain ⟨e0, e1⟩ := hec2 m hlm
            have hEsn := flat_snoc es encE m hlm
            have hGe := HGk.out.1 es[m] (List.getElem_mem hlm)
            obtain ⟨⟨eb, et⟩, hy⟩ : ∃ x, es[m] = x := ⟨_, rfl⟩
            rw [hy] at e0 e1 hEsn hGe
            dsimp only at e0 e1 hGe
            have y0 := (HOm.out.below.cell (p := ⟨eg, eo + m * 2, none⟩) heg).trans e0
            have y1 := fun W (hB : Below w0.heap.size w0 W) => (hB.cell (p := ⟨eg, eo + m * 2 + 1, none⟩) heg).trans e1
            have HY1 := Lib.hid y1
            have HEsn := Lib.hid hEsn
            have HLm : Hid (True → m + 1 ≤ es.length) := Lib.hid (fun _ => hlm)
            have hmi : (m : Int) < (es.length : Int) := by omega
            have HLg : Hid ((L2 ++ (es.take m).flatMap encE).length ≤ 70371707456276) := Lib.hid (by
              have h1 := flat_take_len es encE 11 256 m (encE_len HGk.out hp2) HGk.out.len
              have h2 := HLe2.out
              have h3 := HLk.out
              rw [List.length_append]
              omega)
            obtain ⟨M, hM⟩ : ∃ M, L2 ++ (es.take m).flatMap encE = M := ⟨_, rfl⟩
            rw [hM] at HOm HLg
            have HM := Lib.hid hM
            clear e0 e1 hEsn hy y1 hec2 hM
            go_wp2_with (at_builtin; refine wpList_push1 rfl _ _ 57 rfl w0.heap.size 5 i0 (.int .u8 0) 1 Try.underlying57 hi hz0 hz1 hz2 rfl _ _ _ rfl HOm.out.own _ rfl rfl (by have := HLg.out; unfold maxLen; omega) (by have := HLg.out; omega) HOm.out.size ?_; intro gg cc w5 hown hg5; have HO5 := Lib.hid (HOm.out.push hown hg5); clear hown hg5; have z1 := (HO5.out.below.cell (p := ⟨g, o + k * 2 + 1, none⟩) hg).trans HA1.out; have z2 := HY1.out _ HO5.out.below)
            have HB5 : Hid (OwnB w0 w5 (.slice (some ⟨gg, 0, none⟩) (M.length + 1) cc) (M ++ [eb])) := Lib.hid (by
              have := HO5.out
              unfold OwnB
              rw [← bytes_snoc, List.length_append, List.length_singleton]
              exact this)
            clear z1 z2
            refine (number_b w0 _ _ _ et hGe.1 (by have := hGe.2; omega) HB5.out (by have := HLg.out; rw [List.length_append, List.length_singleton]; omega)).mono ?_
            rintro e w6 ⟨v6, rfl, ho6⟩
            have HO6 := Lib.hid ho6
            clear ho6
            go_wp2_with fail
            go_roundw
            case rel => exact ⟨m + 1, HLm.out trivial, by go_num, Lib.hid (by rw [HEsn.out, ← List.append_assoc, HM.out]; have := HO6.out; rw [List.append_assoc, List.singleton_append] at this; exact this)⟩
            case measure => have := HLm.out trivial; simp [intOf]; omega
          · obtain rfl : m = es.length := by omega
            have HT2 : Hid (OwnB w0 wr u0 (L ++ encS (_, es))) := Lib.hid (by rw [← HQ2.out]; have := HOm.out; rwa [List.take_length] at this)
            go_wp2_with fail
            go_roundw
            case rel => exact ⟨k + 1, HLt.out trivial, by go_num, Lib.hid (by rw [HSn.out, ← List.append_assoc, HL.out]; exact HT2.out)⟩
            case measure => have := HLt.out trivial; simp [intOf]; omega
    · obtain rfl : k = A.length := by omega
      have HT : Hid (l ++ uintB A.length ++ (A.take A.length).flatMap encS = l ++ encA A) := Lib.hid (by rw [List.take_length, encA, List.append_assoc])
      go_wp2_with fail
      go_ret
      exact ⟨_, rfl, by rw [← HT.out]; exact HO.out⟩
end Go.Proofs.Ytehbjfjhalpgaaa
