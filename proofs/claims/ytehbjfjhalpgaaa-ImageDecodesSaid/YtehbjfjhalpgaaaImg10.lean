/-
  A book's settings: the reference's Settings.
-/
import Derived.Test.YtehbjfjhalpgaaaRows
import Derived.Test.YtehbjfjhalpgaaaImg9
namespace Go.Proofs.Ytehbjfjhalpgaaa
open Go.RowKit

set_option maxHeartbeats 4000000 in
set_option maxRecDepth 100000 in
theorem rSettings_any (n : Int) (t : ByteArray) (rs : List (ByteArray × ByteArray)) (vr s0 s1 s2 s3 : Value) (w : World) (hr : RepsAt w vr rs) (ht : t.size ≤ 140737488355327) (hrs : ∀ k (h : k < rs.length), rs[k].1.size ≤ 140737488355328 ∧ rs[k].2.size ≤ 140737488355328) :
    Calls Try.prog 26 #[.agg #[.int .i64 n, .string t, vr, s0, s1, s2, s3]] w fun e w' => e = .returned (.bool (settingsB n t rs)) ∧ Below w.heap.size w w' := by
  obtain ⟨A, cap, rfl, hA⟩ := hr
  have HA := Lib.hid hA
  have HR := Lib.hid hrs
  clear hA hrs
  by_cases hb : 1 ≤ n ∧ n ≤ 64 ∧ rs.length ≤ 256
  · obtain ⟨hb1, hb2, hb3⟩ := hb
    obtain ⟨⟨ls, le⟩, hL⟩ : ∃ L, lettersS t = L := ⟨_, rfl⟩
    have hLt := fun w => rLetters_any t w (by omega)
    rw [hL] at hLt
    have HLt := Lib.hid hLt
    have HBX : Hid (∀ w1, Below (w.alloc (.cells #[.int .i64 n, .string t, .slice A rs.length cap, s0, s1, s2, s3] 37)).heap.size (w.alloc (.cells #[.int .i64 n, .string t, .slice A rs.length cap, s0, s1, s2, s3] 37)) w1 → Below w.heap.size w w1 ∧ w1.cell? ⟨w.heap.size, 1, none⟩ = some (.string t) ∧ w1.cell? ⟨w.heap.size, 2, none⟩ = some (.slice A rs.length cap)) := Lib.hid (fun w1 h => by
      have hk : (w.alloc (.cells #[.int .i64 n, .string t, .slice A rs.length cap, s0, s1, s2, s3] 37)).heap[w.heap.size]? = some (.cells #[.int .i64 n, .string t, .slice A rs.length cap, s0, s1, s2, s3] 37) := by
        show (w.heap.push _)[w.heap.size]? = _
        rw [Array.getElem?_push_size]
      refine ⟨((Below.refl w.heap.size w).alloc (Nat.le_refl _) _).trans (h.mono (by simp)), ?_, ?_⟩
      · rw [h.cell (p := ⟨w.heap.size, 1, none⟩) (by simp), Lib.cell_of_heap hk]; rfl
      · rw [h.cell (p := ⟨w.heap.size, 2, none⟩) (by simp), Lib.cell_of_heap hk]; rfl)
    have HTr : Hid (tryOk t = (decide (t.size = 0) || (decide (le = 0) && decide (ls = t)))) := Lib.hid (by unfold tryOk; rw [hL])
    clear hLt hL
    have hcs : (Hid (t.size = 0) ∧ ¬ (0 : Int) < (t.size : Int)) ∨ (Hid (t.size ≠ 0) ∧ (0 : Int) < (t.size : Int) ∧ (le != 0) = true) ∨ (Hid (t.size ≠ 0) ∧ (0 : Int) < (t.size : Int) ∧ (le != 0) = false ∧ (ls.toList == t.toList) = false) ∨ (Hid (t.size ≠ 0) ∧ (0 : Int) < (t.size : Int) ∧ (le != 0) = false ∧ (ls.toList == t.toList) = true) := by
      by_cases h0 : t.size = 0
      · exact .inl ⟨Lib.hid h0, by omega⟩
      · have h1 : (0 : Int) < (t.size : Int) := by omega
        cases h2 : (le != 0)
        · cases h3 : (ls.toList == t.toList)
          · exact .inr (.inr (.inl ⟨Lib.hid h0, h1, rfl, rfl⟩))
          · exact .inr (.inr (.inr ⟨Lib.hid h0, h1, rfl, rfl⟩))
        · exact .inr (.inl ⟨Lib.hid h0, h1, rfl⟩)
    rcases hcs with ⟨h0, q1⟩ | ⟨h0, q1, q2⟩ | ⟨h0, q1, q2, q3⟩ | ⟨h0, q1, q2, q3⟩
    rotate_left
    · have HN : Hid (settingsB n t rs = false) := Lib.hid (settings_t _ _ _ (by rw [HTr.out, decide_eq_false h0.out, decide_eq_false (p := le = 0) (by simpa using q2)]; rfl))
      go_enter Try.func26, Try.ntmps26
      go_wp2_with (first | (go_at_call 48; refine (HLt.out _).mono ?_; rintro e w1 ⟨rfl, hb1⟩; obtain ⟨hbw, hx1, hx2⟩ := HBX.out _ hb1; have HBw := Lib.hid hbw; have HBb := Lib.hid hb1; clear hb1 hbw))
      go_ret
      exact ⟨by rw [HN.out]; rfl, HBw.out⟩
    · have HN : Hid (settingsB n t rs = false) := Lib.hid (settings_t _ _ _ (by rw [HTr.out, decide_eq_false h0.out, decide_eq_false (p := ls = t) (by rintro rfl; simp at q3)]; simp))
      go_enter Try.func26, Try.ntmps26
      go_wp2_with (first | (go_at_call 48; refine (HLt.out _).mono ?_; rintro e w1 ⟨rfl, hb1⟩; obtain ⟨hbw, hx1, hx2⟩ := HBX.out _ hb1; have HBw := Lib.hid hbw; have HBb := Lib.hid hb1; clear hb1 hbw))
      go_ret
      exact ⟨by rw [HN.out]; rfl, HBw.out⟩
    rotate_left
    all_goals
      have HT : Hid (tryOk t = true) := Lib.hid (by
        rw [HTr.out]
        first
          | (rw [decide_eq_true h0.out]; rfl)
          | (rw [decide_eq_true (p := le = 0) (by simpa using q2), decide_eq_true (p := ls = t) (of_decide_eq_true ((beq_str ls t).symm.trans q3))]; simp))
      go_enter Try.func26, Try.ntmps26
      go_wp2_with (first | (go_at_call 48; refine (HLt.out _).mono ?_; rintro e w1 ⟨rfl, hb1⟩; obtain ⟨hbw, hx1, hx2⟩ := HBX.out _ hb1; have HBw := Lib.hid hbw; have HBb := Lib.hid hb1; clear hb1 hbw))
      clear hx1 hx2
      go_loopw [5, 6, 7, 8] (fun i _ _ _ W => ∃ k : Nat, k ≤ rs.length ∧ i = .int .i64 k ∧ Hid (Below (w.alloc (.cells #[.int .i64 n, .string t, .slice A rs.length cap, s0, s1, s2, s3] 37)).heap.size (w.alloc (.cells #[.int .i64 n, .string t, .slice A rs.length cap, s0, s1, s2, s3] 37)) W) ∧ Hid (∀ j (h : j < rs.length), j < k → repOk rs[j] = true)) (fun i _ _ _ _ => rs.length - (intOf i).toNat)
      case atStart => exact ⟨0, Nat.zero_le _, rfl, HBb, Lib.hid (fun j h h2 => absurd h2 (Nat.not_lt_zero j))⟩
      case round =>
        obtain ⟨k, hk, rfl, HBc, HP⟩ := hrel
        obtain ⟨hB, hx1, hx2⟩ := HBX.out _ HBc.out
        have HB := Lib.hid hB
        clear hB
        by_cases hlt : k < rs.length
        · obtain ⟨g, o, rfl, hg, hcs⟩ := HA.out.resolve_left (by omega)
          have c1 := (HB.out.cell (p := ⟨g, o + k * 2, none⟩) hg).trans (hcs k hlt).1
          have c2 := (HB.out.cell (p := ⟨g, o + k * 2 + 1, none⟩) hg).trans (hcs k hlt).2
          clear hcs
          obtain ⟨hz1, hz2⟩ := HR.out k hlt
          have HV : Hid (repOk rs[k] = false → settingsB n t rs = false) := Lib.hid (settings_r n t rs k hlt)
          have HP2 : Hid (repOk rs[k] = true → ∀ j (h : j < rs.length), j < k + 1 → repOk rs[j] = true) := Lib.hid (fun e j h hj => by
            by_cases ej : j = k
            · subst ej; exact e
            · exact HP.out j h (by omega))
          obtain ⟨⟨x, y⟩, hr⟩ : ∃ r, rs[k]'hlt = r := ⟨_, rfl⟩
          rw [hr] at c1 c2 HV HP2 hz1 hz2
          dsimp only at c1 c2 hz1 hz2
          clear hr HP
          have hpx := fun w => Bytes02_any x w hz1
          have hpy := fun w => Bytes02_any y w hz2
          have hrk : repOk (x, y) = (decide (0 < x.size) && (fitAll x && decide (x.size ≤ 32)) && (fitAll y && decide (y.size ≤ 32))) := rfl
          obtain ⟨p1, hp1⟩ : ∃ p, fitAll x = p := ⟨_, rfl⟩
          obtain ⟨p2, hp2⟩ : ∃ p, fitAll y = p := ⟨_, rfl⟩
          rw [hp1] at hpx hrk
          rw [hp2] at hpy hrk
          clear hp1 hp2 hz1 hz2
          have HX := Lib.hid hpx
          have HY := Lib.hid hpy
          have HRk := Lib.hid hrk
          clear hpx hpy hrk
          have hcs : (p1 = false ∧ Hid (repOk (x, y) = false)) ∨ (p1 = true ∧ p2 = false ∧ Hid (repOk (x, y) = false)) ∨ (p1 = true ∧ p2 = true ∧ ((x.size : Int) == 0) = true ∧ Hid (repOk (x, y) = false)) ∨ (p1 = true ∧ p2 = true ∧ ((x.size : Int) == 0) = false ∧ (32 : Int) < (x.size : Int) ∧ Hid (repOk (x, y) = false)) ∨ (p1 = true ∧ p2 = true ∧ ((x.size : Int) == 0) = false ∧ ¬ (32 : Int) < (x.size : Int) ∧ (32 : Int) < (y.size : Int) ∧ Hid (repOk (x, y) = false)) ∨ (p1 = true ∧ p2 = true ∧ ((x.size : Int) == 0) = false ∧ ¬ (32 : Int) < (x.size : Int) ∧ ¬ (32 : Int) < (y.size : Int) ∧ Hid (repOk (x, y) = true)) := by
            have e := HRk.out
            cases p1
            · exact .inl ⟨rfl, Lib.hid (by rw [e]; simp)⟩
            · cases p2
              · exact .inr (.inl ⟨rfl, rfl, Lib.hid (by rw [e]; simp)⟩)
              · by_cases e0 : x.size = 0
                · exact .inr (.inr (.inl ⟨rfl, rfl, by rw [beq_iff_eq]; omega, Lib.hid (by rw [e, decide_eq_false (by omega)]; rfl)⟩))
                · have e1 : ((x.size : Int) == 0) = false := by rw [beq_eq_false_iff_ne]; omega
                  by_cases e2 : x.size ≤ 32
                  · by_cases e3 : y.size ≤ 32
                    · exact .inr (.inr (.inr (.inr (.inr ⟨rfl, rfl, e1, by omega, by omega, Lib.hid (by rw [e, decide_eq_true (by omega), decide_eq_true e2, decide_eq_true e3]; rfl)⟩))))
                    · exact .inr (.inr (.inr (.inr (.inl ⟨rfl, rfl, e1, by omega, by omega, Lib.hid (by rw [e, decide_eq_false e3]; simp)⟩))))
                  · exact .inr (.inr (.inr (.inl ⟨rfl, rfl, e1, by omega, Lib.hid (by rw [e, decide_eq_false e2]; simp)⟩)))
          rcases hcs with ⟨rfl, HF⟩ | ⟨rfl, rfl, HF⟩ | ⟨rfl, rfl, z1, HF⟩ | ⟨rfl, rfl, z1, z2, HF⟩ | ⟨rfl, rfl, z1, z2, z3, HF⟩ | ⟨rfl, rfl, z1, z2, z3, HF⟩
          rotate_right
          · have HN := Lib.hid (HP2.out HF.out)
            go_wp2_with fail
            refine (HX.out _).mono ?_
            rintro e w' ⟨rfl, rfl⟩
            go_wp2_with fail
            refine (HY.out _).mono ?_
            rintro e w' ⟨rfl, rfl⟩
            go_wp2_with fail
            go_roundw
            case rel => exact ⟨k + 1, by omega, by go_num, Lib.hid (HBc.out.alloc HBc.out.size _), HN⟩
            case measure => simp [intOf]; omega
          all_goals
            have HN := Lib.hid (HV.out HF.out)
            go_wp2_with fail
            refine (HX.out _).mono ?_
            rintro e w' ⟨rfl, rfl⟩
            go_wp2_with fail
            refine (HY.out _).mono ?_
            rintro e w' ⟨rfl, rfl⟩
            go_wp2_with fail
            go_ret
            exact ⟨by rw [HN.out]; rfl, HB.out.alloc HB.out.size _⟩
        · obtain rfl : k = rs.length := by omega
          have HN : Hid (settingsB n t rs = true) := Lib.hid (settings_ok _ _ _ hb1 hb2 hb3 HT.out (fun j h => HP.out j h h))
          go_wp2_with fail
          go_ret
          exact ⟨by rw [HN.out]; rfl, HB.out⟩
  · have HN := Lib.hid (settings_n n t rs hb)
    have hcs : n < 1 ∨ (¬ n < 1 ∧ 64 < n) ∨ (¬ n < 1 ∧ ¬ 64 < n ∧ (256 : Int) < (rs.length : Int)) := by omega
    clear hb
    rcases hcs with q1 | ⟨q1, q2⟩ | ⟨q1, q2, q3⟩
    all_goals
      go_enter Try.func26, Try.ntmps26
      go_wp2_with fail
      go_ret
      exact ⟨by rw [HN.out]; rfl, (Below.refl _ _).alloc (Nat.le_refl _) _⟩
end Go.Proofs.Ytehbjfjhalpgaaa
