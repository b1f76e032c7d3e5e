/-
  In of a checker; Check on both sides.
-/
import Derived.Test.YthfndmpigpphoaaGreatRows
import Derived.Test.YthfndmpigpphoaaGreatChk3
import Derived.Test.YthfndmpigpphoaaGreatChk4
import Derived.Test.YthfndmpigpphoaaGreatCasesP
namespace Go.Proofs.YthfndmpigpphoaaGreat
open Go.RowKit

set_option maxHeartbeats 1000000 in
theorem so_along_nil (k : Nat) (s : ByteArray) (w : World) :
    Calls Tryz.prog 62 #[.pointer none, .int .i64 k, .string s] w fun e w' => e = .returned (.tuple #[.pointer none, .int .i64 0]) ∧ Below w.heap.size w w' := by
  have HB0 := Lib.hid ((Below.refl w.heap.size w).alloc (Nat.le_refl _) (.cells #[.string s] 9))
  go_enter Tryz.func62, Tryz.ntmps62
  go_wp2_with (go_at_call 84; refine (so_section_nil k _).mono ?_; rintro e w1 ⟨rfl, hw1⟩; obtain rfl := hw1.symm; clear hw1)
  go_ret2
  exact ⟨rfl, HB0.out⟩
set_option maxHeartbeats 1000000 in
theorem so_In_nil (k : Nat) (s : ByteArray) (w : World) :
    Calls Tryz.prog 38 #[.pointer none, .int .i64 k, .string s] w fun e w' => e = .returned (.bool false) ∧ Below w.heap.size w w' := by
  go_enter Tryz.func38, Tryz.ntmps38
  go_wp2_with (go_at_call 62; refine (so_along_nil k s _).mono ?_; rintro e w1 ⟨rfl, hb1⟩; have HB := Lib.hid hb1; clear hb1)
  go_ret
  exact ⟨rfl, HB.out⟩
set_option maxHeartbeats 1000000 in
theorem so_In (k : Nat) (hk : k < 4) (c : Value) (As : List (List St)) (A : List St) (s : ByteArray) (w : World) (h : CkAt w c As) (hA : As[k]? = some A) (hs : s.size ≤ maxLen) :
    Calls Tryz.prog 38 #[c, .int .i64 k, .string s] w fun e w' => e = .returned (.bool (accS A s)) ∧ Below w.heap.size w w' := by
  have HA := Lib.hid (so_along k hk c As A s w h hA hs)
  clear h hA
  go_enter Tryz.func38, Tryz.ntmps38
  go_wp2_with fail
  refine HA.out.mono ?_
  rintro e w1 ⟨pv, n, rfl, hb1, hcase⟩
  have HB := Lib.hid hb1
  clear hb1
  rcases hcase with ⟨h0, rfl⟩ | ⟨q, g, off, h0, rfl, hc⟩
  · have HE := Lib.hid (show accS A s = false by unfold accS accB; rw [h0])
    clear h0
    go_wp2_with fail
    go_ret
    exact ⟨by rw [HE.out]; rfl, HB.out⟩
  · have HE := Lib.hid (show accS A s = finB A q by unfold accS accB; rw [h0])
    clear h0
    go_wp2_with fail
    go_ret
    exact ⟨by rw [HE.out]; rfl, HB.out⟩

theorem formsOf_size (s : ByteArray) : ∀ f ∈ formsOf s, f.size = s.size := by
  have h1 := lowS_size s
  have h2 := headS_size s
  have ha : ∀ (ss : List ByteArray) (f : ByteArray), (∀ x ∈ ss, x.size = s.size) → f.size = s.size → ∀ x ∈ addS ss f, x.size = s.size := by
    intro ss f hs hf x hx
    unfold addS at hx
    split at hx
    · exact hs x hx
    · rcases List.mem_append.1 hx with hx | hx
      · exact hs x hx
      · have : x = f := by simpa using hx
        rw [this]; exact hf
  have h0 : ∀ x ∈ [s], x.size = s.size := fun x hx => by
    have : x = s := by simpa using hx
    rw [this]
  unfold formsOf
  split
  · exact ha _ _ (ha _ _ h0 h2) h1
  · split
    · exact ha _ _ h0 h1
    · exact h0

set_option maxHeartbeats 2000000 in
set_option maxRecDepth 100000 in
theorem so_Check (P Q : ByteArray → Bool) (c : Value) (s : ByteArray) (w : World) (hs : s.size ≤ 140737488355328)
    (hP : ∀ (f : ByteArray) (W : World), f.size ≤ maxLen → Below w.heap.size w W → Calls Tryz.prog 38 #[c, .int .i64 0, .string f] W fun e w' => e = .returned (.bool (P f)) ∧ Below W.heap.size W w')
    (hQ : ∀ (f : ByteArray) (W : World), f.size ≤ maxLen → Below w.heap.size w W → Calls Tryz.prog 38 #[c, .int .i64 2, .string f] W fun e w' => e = .returned (.bool (Q f)) ∧ Below W.heap.size W w') :
    Calls Tryz.prog 15 #[c, .string s] w fun e w' => e = .returned (chkV (chkB P Q s)) ∧ Below w.heap.size w w' := by
  have HP := Lib.hid hP
  have HQ := Lib.hid hQ
  have HZ := Lib.hid (formsOf_size s)
  have hl := formsOf_len s
  have hfs : Hid (chkB P Q s = chkGo P Q true (formsOf s)) := Lib.hid rfl
  generalize hg : formsOf s = fs at *
  have HG := Lib.hid hg
  clear hP hQ hg
  go_enter Tryz.func15, Tryz.ntmps15
  go_wp2_with fail
  refine (Forms_any s _ hs).mono ?_
  rw [HG.out]
  rintro e w1 ⟨⟨g, cap, rfl, hown⟩, hb1⟩
  have HC := Lib.hid (fun j hj => own_strD hown j hj)
  have HB1 := Lib.hid hb1
  clear hown hb1
  go_wp2_with fail
  go_loopw [11] (fun i wr => ∃ k : Nat, k ≤ fs.length ∧ i = .int .i64 k ∧ Hid (Below w1.heap.size w1 wr) ∧ Hid (chkGo P Q (decide (k = 0)) (fs.drop k) = chkB P Q s)) (fun i _ => fs.length - (intOf i).toNat)
  case atStart => exact ⟨0, Nat.zero_le _, rfl, Below.refl _ _, Lib.hid (by rw [hfs.out]; rfl)⟩
  case round =>
    obtain ⟨k, hk, rfl, HB, HR⟩ := hrel
    have HBw := Lib.hid (HB1.out.trans (HB.out.mono HB1.out.size))
    by_cases hlt : k < fs.length
    · have c0 := HC.out k hlt
      have ck := (HB.out.cell (World.block_lt_of_cell? w1 _ c0)).trans c0
      have hd : fs.drop k = fs.getD k ByteArray.empty :: fs.drop (k + 1) := by
        rw [List.drop_eq_getElem_cons hlt]; simp [List.getD, hlt]
      have hsz : (fs.getD k ByteArray.empty).size = s.size := by
        have := HZ.out fs[k] (List.getElem_mem hlt)
        simpa [List.getD, hlt] using this
      have hr := HR.out
      rw [hd, chkGo] at hr
      obtain ⟨f, hf⟩ : ∃ f, fs.getD k ByteArray.empty = f := ⟨_, rfl⟩
      rw [hf] at ck hr hsz
      rw [Nat.zero_add] at ck
      have hm : f.size ≤ maxLen := by rw [hsz]; unfold maxLen; omega
      clear c0 hd hf hsz
      cases hp : P f
      · rw [hp] at hr
        have HR' := Lib.hid (show chkGo P Q false (fs.drop (k + 1)) = chkB P Q s by simpa using hr)
        have HPf := Lib.hid hp
        clear hr hp
        go_wp2_with fail
        refine (HP.out f _ hm HBw.out).mono ?_
        rw [HPf.out]
        rintro e w2 ⟨rfl, b2⟩
        have HB2 := Lib.hid (HB.out.trans (b2.mono HB.out.size))
        clear b2
        go_wp2_with fail
        go_roundw
        case rel => exact ⟨k + 1, by omega, by go_num, HB2, by simpa using HR'⟩
        case measure => simp [intOf]; omega
      · rw [hp] at hr
        have HPf := Lib.hid hp
        clear hp
        rcases Nat.eq_zero_or_pos k with h0 | h0
        · subst h0
          have HR' := Lib.hid (show some f = chkB P Q s by simpa using hr)
          clear hr
          go_wp2_with fail
          refine (HP.out f _ hm HBw.out).mono ?_
          rw [HPf.out]
          rintro e w2 ⟨rfl, b2⟩
          have HB2 := Lib.hid (HBw.out.trans (b2.mono HBw.out.size))
          clear b2
          go_wp2_with fail
          go_ret2
          exact ⟨by rw [← HR'.out]; rfl, HB2.out⟩
        · have q0 : ((k : Int) == 0) = false := by simp; omega
          have hd0 : decide (k = 0) = false := by simp; omega
          rw [hd0] at hr
          cases hq : Q f
          · rw [hq] at hr
            have HR' := Lib.hid (show some f = chkB P Q s by simpa using hr)
            have HQf := Lib.hid hq
            clear hr hq
            go_wp2_with fail
            refine (HP.out f _ hm HBw.out).mono ?_
            rw [HPf.out]
            rintro e w2 ⟨rfl, b2⟩
            have HB2 := Lib.hid (HBw.out.trans (b2.mono HBw.out.size))
            clear b2
            go_wp2_with fail
            refine (HQ.out f _ hm HB2.out).mono ?_
            rw [HQf.out]
            rintro e w3 ⟨rfl, b3⟩
            have HB3 := Lib.hid (HB2.out.trans (b3.mono HB2.out.size))
            clear b3
            go_wp2_with fail
            go_ret2
            exact ⟨by rw [← HR'.out]; rfl, HB3.out⟩
          · rw [hq] at hr
            have HR' := Lib.hid (show chkGo P Q false (fs.drop (k + 1)) = chkB P Q s by simpa using hr)
            have HQf := Lib.hid hq
            clear hr hq
            go_wp2_with fail
            refine (HP.out f _ hm HBw.out).mono ?_
            rw [HPf.out]
            rintro e w2 ⟨rfl, b2⟩
            have HB2 := Lib.hid (HB.out.trans (b2.mono HB.out.size))
            have HB2w := Lib.hid (HBw.out.trans (b2.mono HBw.out.size))
            clear b2
            go_wp2_with fail
            refine (HQ.out f _ hm HB2w.out).mono ?_
            rw [HQf.out]
            rintro e w3 ⟨rfl, b3⟩
            have HB3 := Lib.hid (HB2.out.trans (b3.mono HB2.out.size))
            clear b3
            go_wp2_with fail
            go_roundw
            case rel => exact ⟨k + 1, by omega, by go_num, HB3, by simpa using HR'⟩
            case measure => simp [intOf]; omega
    · have hke : k = fs.length := by omega
      have HR' := Lib.hid (show none = chkB P Q s by
        have := HR.out
        rw [hke, List.drop_length, chkGo] at this
        exact this)
      go_wp2_with fail
      go_ret2
      exact ⟨by rw [← HR'.out]; rfl, HBw.out⟩
end Go.Proofs.YthfndmpigpphoaaGreat
