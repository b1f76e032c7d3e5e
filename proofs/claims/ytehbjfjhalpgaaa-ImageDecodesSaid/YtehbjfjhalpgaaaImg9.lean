/-
  A book's settings: the program's settings.
-/
import Derived.Test.YtehbjfjhalpgaaaRows
import Derived.Test.YtehbjfjhalpgaaaImg8
namespace Go.Proofs.Ytehbjfjhalpgaaa
open Go.RowKit

def repOk (r : ByteArray × ByteArray) : Bool := decide (0 < r.1.size) && (fitAll r.1 && decide (r.1.size ≤ 32)) && (fitAll r.2 && decide (r.2.size ≤ 32))
def tryOk (t : ByteArray) : Bool := decide (t.size = 0) || (decide ((lettersS t).2 = 0) && decide ((lettersS t).1 = t))
/-- What both say of a book's settings. -/
def settingsB (n : Int) (t : ByteArray) (rs : List (ByteArray × ByteArray)) : Bool :=
  decide (1 ≤ n) && decide (n ≤ 64) && decide (rs.length ≤ 256) && tryOk t && rs.all repOk
/-- The reps' cells. -/
def RepsAt (w : World) (v : Value) (rs : List (ByteArray × ByteArray)) : Prop :=
  ∃ A cap, v = .slice A rs.length cap ∧ (rs.length = 0 ∨ ∃ g o, A = some ⟨g, o, none⟩ ∧ g < w.heap.size ∧ ∀ k (h : k < rs.length), w.cell? ⟨g, o + k * 2, none⟩ = some (.string rs[k].1) ∧ w.cell? ⟨g, o + k * 2 + 1, none⟩ = some (.string rs[k].2))
theorem settings_n (n : Int) (t : ByteArray) (rs : List (ByteArray × ByteArray)) (h : ¬ (1 ≤ n ∧ n ≤ 64 ∧ rs.length ≤ 256)) : settingsB n t rs = false := by
  unfold settingsB
  by_cases h1 : 1 ≤ n
  · by_cases h2 : n ≤ 64
    · rw [decide_eq_false (p := rs.length ≤ 256) (fun h3 => h ⟨h1, h2, h3⟩)]; simp
    · rw [decide_eq_false h2]; simp
  · rw [decide_eq_false h1]; simp
theorem settings_t (n : Int) (t : ByteArray) (rs : List (ByteArray × ByteArray)) (h : tryOk t = false) : settingsB n t rs = false := by
  unfold settingsB; rw [h]; simp
theorem settings_r (n : Int) (t : ByteArray) (rs : List (ByteArray × ByteArray)) (k : Nat) (hk : k < rs.length) (h : repOk rs[k] = false) : settingsB n t rs = false := by
  have : rs.all repOk = false := by rw [List.all_eq_false]; exact ⟨rs[k], List.getElem_mem _, by simp [h]⟩
  unfold settingsB; rw [this]; simp
theorem settings_ok (n : Int) (t : ByteArray) (rs : List (ByteArray × ByteArray)) (h1 : 1 ≤ n) (h2 : n ≤ 64) (h3 : rs.length ≤ 256) (ht : tryOk t = true) (hr : ∀ k (h : k < rs.length), repOk rs[k] = true) : settingsB n t rs = true := by
  have : rs.all repOk = true := by
    rw [List.all_eq_true]; intro r hr'
    obtain ⟨k, hk, rfl⟩ := List.mem_iff_getElem.1 hr'
    exact hr k hk
  unfold settingsB; rw [this, ht, decide_eq_true h1, decide_eq_true h2, decide_eq_true h3]; rfl

set_option maxHeartbeats 4000000 in
set_option maxRecDepth 100000 in
theorem settings_any (n : Int) (t : ByteArray) (rs : List (ByteArray × ByteArray)) (vr s0 s1 s2 s3 : Value) (w : World) (hr : RepsAt w vr rs) (ht : t.size ≤ 140737488355327) (hrs : ∀ k (h : k < rs.length), rs[k].1.size ≤ 140737488355328 ∧ rs[k].2.size ≤ 140737488355328) :
    Calls Try.prog 18 #[.agg #[.int .i64 n, .string t, vr, s0, s1, s2, s3]] w fun e w' => e = .returned (.bool (settingsB n t rs)) ∧ Below w.heap.size w w' := by
  obtain ⟨A, cap, rfl, hA⟩ := hr
  have HA := Lib.hid hA
  have HR := Lib.hid hrs
  clear hA hrs
  by_cases hb : 1 ≤ n ∧ n ≤ 64 ∧ rs.length ≤ 256
  · obtain ⟨hb1, hb2, hb3⟩ := hb
    obtain ⟨⟨ls, le⟩, hL⟩ : ∃ L, lettersS t = L := ⟨_, rfl⟩
    have hLt := fun w => Letters_any t w (by omega)
    rw [hL] at hLt
    have HLt := Lib.hid hLt
    have HBX : Hid (∀ w1, Below (w.alloc (.cells #[.int .i64 n, .string t, .slice A rs.length cap, s0, s1, s2, s3] 26)).heap.size (w.alloc (.cells #[.int .i64 n, .string t, .slice A rs.length cap, s0, s1, s2, s3] 26)) w1 → Below w.heap.size w w1 ∧ w1.cell? ⟨w.heap.size, 1, none⟩ = some (.string t) ∧ w1.cell? ⟨w.heap.size, 2, none⟩ = some (.slice A rs.length cap)) := Lib.hid (fun w1 h => by
      have hk : (w.alloc (.cells #[.int .i64 n, .string t, .slice A rs.length cap, s0, s1, s2, s3] 26)).heap[w.heap.size]? = some (.cells #[.int .i64 n, .string t, .slice A rs.length cap, s0, s1, s2, s3] 26) := by
        show (w.heap.push _)[w.heap.size]? = _
        rw [Array.getElem?_push_size]
      refine ⟨((Below.refl w.heap.size w).alloc (Nat.le_refl _) _).trans (h.mono (by simp)), ?_, ?_⟩
      · rw [h.cell (p := ⟨w.heap.size, 1, none⟩) (by simp), Lib.cell_of_heap hk]; rfl
      · rw [h.cell (p := ⟨w.heap.size, 2, none⟩) (by simp), Lib.cell_of_heap hk]; rfl)
    have HTr : Hid (tryOk t = (decide (t.size = 0) || (decide (le = 0) && decide (ls = t)))) := Lib.hid (by unfold tryOk; rw [hL])
    clear hLt hL
    have hcs : (Hid (t.size = 0) ∧ t.toList.isEmpty = true) ∨ (Hid (t.size ≠ 0) ∧ t.toList.isEmpty = false ∧ (le != 0) = true) ∨ (Hid (t.size ≠ 0) ∧ t.toList.isEmpty = false ∧ (le != 0) = false ∧ (ls.toList == t.toList) = false) ∨ (Hid (t.size ≠ 0) ∧ t.toList.isEmpty = false ∧ (le != 0) = false ∧ (ls.toList == t.toList) = true) := by
      by_cases h0 : t.size = 0
      · exact .inl ⟨Lib.hid h0, isEmpty1 t h0⟩
      · have h1 := notEmpty t (by omega)
        cases h2 : (le != 0)
        · cases h3 : (ls.toList == t.toList)
          · exact .inr (.inr (.inl ⟨Lib.hid h0, h1, rfl, rfl⟩))
          · exact .inr (.inr (.inr ⟨Lib.hid h0, h1, rfl, rfl⟩))
        · exact .inr (.inl ⟨Lib.hid h0, h1, rfl⟩)
    rcases hcs with ⟨h0, q1⟩ | ⟨h0, q1, q2⟩ | ⟨h0, q1, q2, q3⟩ | ⟨h0, q1, q2, q3⟩
    rotate_left
    · have HN : Hid (settingsB n t rs = false) := Lib.hid (settings_t _ _ _ (by rw [HTr.out, decide_eq_false h0.out, decide_eq_false (p := le = 0) (by simpa using q2)]; rfl))
      go_enter Try.func18, Try.ntmps18
      go_wp2_with (first | (go_at_call 45; refine (HLt.out _).mono ?_; rintro e w1 ⟨rfl, hb1⟩; obtain ⟨hbw, hx1, hx2⟩ := HBX.out _ hb1; have HBw := Lib.hid hbw; clear hb1 hbw))
      go_ret
      exact ⟨by rw [HN.out]; rfl, HBw.out⟩
    · have HN : Hid (settingsB n t rs = false) := Lib.hid (settings_t _ _ _ (by rw [HTr.out, decide_eq_false h0.out, decide_eq_false (p := ls = t) (by rintro rfl; simp at q3)]; simp))
      go_enter Try.func18, Try.ntmps18
      go_wp2_with (first | (go_at_call 45; refine (HLt.out _).mono ?_; rintro e w1 ⟨rfl, hb1⟩; obtain ⟨hbw, hx1, hx2⟩ := HBX.out _ hb1; have HBw := Lib.hid hbw; clear hb1 hbw))
      go_ret
      exact ⟨by rw [HN.out]; rfl, HBw.out⟩
    rotate_left
    all_goals
      have HT : Hid (tryOk t = true) := Lib.hid (by
        rw [HTr.out]
        first
          | (rw [decide_eq_true h0.out]; rfl)
          | (rw [decide_eq_true (p := le = 0) (by simpa using q2), decide_eq_true (p := ls = t) (of_decide_eq_true ((beq_str ls t).symm.trans q3))]; simp))
      go_enter Try.func18, Try.ntmps18
      go_wp2_with (first | (go_at_call 45; refine (HLt.out _).mono ?_; rintro e w1 ⟨rfl, hb1⟩; obtain ⟨hbw, hx1, hx2⟩ := HBX.out _ hb1; have HBw := Lib.hid hbw; clear hb1 hbw))
      clear hx1 hx2
      go_loopw [6, 43] (fun _ i W => ∃ k : Nat, k ≤ rs.length ∧ i = .int .i64 k ∧ Hid (Below w.heap.size w W) ∧ Hid (∀ j (h : j < rs.length), j < k → repOk rs[j] = true)) (fun _ i _ => rs.length - (intOf i).toNat)
      case atStart => exact ⟨0, Nat.zero_le _, rfl, HBw, Lib.hid (fun j h h2 => absurd h2 (Nat.not_lt_zero j))⟩
      case round =>
        obtain ⟨k, hk, rfl, HB, HP⟩ := hrel
        by_cases hlt : k < rs.length
        · obtain ⟨g, o, rfl, hg, hcs⟩ := HA.out.resolve_left (by omega)
          have c1 := (HB.out.cell (p := ⟨g, o + k * 2, none⟩) hg).trans (hcs k hlt).1
          have c2 := (HB.out.cell (p := ⟨g, o + k * 2 + 1, none⟩) hg).trans (hcs k hlt).2
          clear hcs
          obtain ⟨hz1, hz2⟩ := HR.out k hlt
          have HV : Hid (repOk rs[k] = false → settingsB n t rs = false) := Lib.hid (settings_r n t rs k hlt)
          have HP2 : Hid (repOk rs[k] = true → ∀ j (h : j < rs.length), j < k + 1 → repOk rs[j] = true) := Lib.hid (fun e j h hj => by
            by_cases ej : j = k
            · subst ej; exact e
            · exact HP.out j h (by omega))
          obtain ⟨⟨x, y⟩, hr⟩ : ∃ r, rs[k]'hlt = r := ⟨_, rfl⟩
          rw [hr] at c1 c2 HV HP2 hz1 hz2
          dsimp only at c1 c2 hz1 hz2
          clear hr HP
          have hpx : ∀ w, Calls Try.prog 46 #[.string x, .int .i64 32] w fun e w' => e = .returned (.bool (fitAll x && decide (x.size ≤ 32))) ∧ w = w' := fun w => plain_any x 32 w hz1
          have hpy : ∀ w, Calls Try.prog 46 #[.string y, .int .i64 32] w fun e w' => e = .returned (.bool (fitAll y && decide (y.size ≤ 32))) ∧ w = w' := fun w => plain_any y 32 w hz2
          have hrk : repOk (x, y) = (decide (0 < x.size) && (fitAll x && decide (x.size ≤ 32)) && (fitAll y && decide (y.size ≤ 32))) := rfl
          obtain ⟨p1, hp1⟩ : ∃ p, (fitAll x && decide (x.size ≤ 32)) = p := ⟨_, rfl⟩
          obtain ⟨p2, hp2⟩ : ∃ p, (fitAll y && decide (y.size ≤ 32)) = p := ⟨_, rfl⟩
          rw [hp1] at hpx hrk
          rw [hp2] at hpy hrk
          clear hp1 hp2 hz1 hz2
          have HX := Lib.hid hpx
          have HY := Lib.hid hpy
          have HRk := Lib.hid hrk
          clear hpx hpy hrk
          by_cases hx0 : x.size = 0
          · have he := isEmpty1 x hx0
            have HN := Lib.hid (HV.out (by rw [HRk.out, decide_eq_false (by omega)]; rfl))
            clear hx0
            go_wp2_with fail
            go_ret
            exact ⟨by rw [HN.out]; rfl, HB.out.alloc HB.out.size _⟩
          · have he := notEmpty x (by omega)
            have HR1 : Hid (repOk (x, y) = (p1 && p2)) := Lib.hid (by rw [HRk.out, decide_eq_true (by omega)]; rfl)
            clear hx0
            cases p1
            · have HN := Lib.hid (HV.out (by rw [HR1.out]; rfl))
              go_wp2_with fail
              refine (HX.out _).mono ?_
              rintro e w' ⟨rfl, rfl⟩
              go_wp2_with fail
              go_ret
              exact ⟨by rw [HN.out]; rfl, HB.out.alloc HB.out.size _⟩
            · cases p2
              · have HN := Lib.hid (HV.out (by rw [HR1.out]; rfl))
                go_wp2_with fail
                refine (HX.out _).mono ?_
                rintro e w' ⟨rfl, rfl⟩
                go_wp2_with fail
                refine (HY.out _).mono ?_
                rintro e w' ⟨rfl, rfl⟩
                go_wp2_with fail
                go_ret
                exact ⟨by rw [HN.out]; rfl, HB.out.alloc HB.out.size _⟩
              · have HN := Lib.hid (HP2.out (by rw [HR1.out]; rfl))
                go_wp2_with fail
                refine (HX.out _).mono ?_
                rintro e w' ⟨rfl, rfl⟩
                go_wp2_with fail
                refine (HY.out _).mono ?_
                rintro e w' ⟨rfl, rfl⟩
                go_wp2_with fail
                go_roundw
                case rel => exact ⟨k + 1, by omega, by go_num, Lib.hid (HB.out.alloc HB.out.size _), HN⟩
                case measure => simp [intOf]; omega
        · obtain rfl : k = rs.length := by omega
          have HN : Hid (settingsB n t rs = true) := Lib.hid (settings_ok _ _ _ hb1 hb2 hb3 HT.out (fun j h => HP.out j h h))
          go_wp2_with fail
          go_ret
          exact ⟨by rw [HN.out]; rfl, HB.out⟩
  · have HN := Lib.hid (settings_n n t rs hb)
    have hcs : n < 1 ∨ (¬ n < 1 ∧ 64 < n) ∨ (¬ n < 1 ∧ ¬ 64 < n ∧ (256 : Int) < (rs.length : Int)) := by omega
    clear hb
    rcases hcs with q1 | ⟨q1, q2⟩ | ⟨q1, q2, q3⟩
    all_goals
      go_enter Try.func18, Try.ntmps18
      go_wp2_with fail
      go_ret
      exact ⟨by rw [HN.out]; rfl, (Below.refl _ _).alloc (Nat.le_refl _) _⟩
end Go.Proofs.Ytehbjfjhalpgaaa
