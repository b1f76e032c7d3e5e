/-
  Parts of the proof: DT2.
-/
import Derived.BigQuiet
import Derived.WalkLawsBesides
import Derived.Test.YtfkblpjfknfgbaaGreatDoorRows
import Derived.Test.YtfkblpjfknfgbaaGreatDoorZ12
set_option linter.unusedVariables false
set_option linter.unusedSimpArgs false
namespace Go.Proofs.YtfkblpjfknfgbaaGreatDoor
open Go.RowKit Go.Maps
def tabF : Except (Int × Int × Int) (Fl × List En) → Int × Int × Int
  | .error p => p
  | .ok _ => (0, 0, 0)
def dicF : Except (Int × Int) (List En) → Int × Int × Int
  | .error p => (2, p.1, p.2)
  | .ok _ => (0, 0, 0)
theorem tabF_dic {a d : List UInt8} {F : Fl} (h : affR a = .ok F) : tabF (tabR a d) = dicF (dicR F d) := by
  cases hd : dicR F d with
  | error p => rw [tabR_dic h hd]; rfl
  | ok es => rw [tabR_ok h hd]; rfl
theorem dicF_file (r : Except (Int × Int) (List En)) : (dicF r).1 ≠ 1 := by
  cases r with
  | error p => exact (by decide : (2 : Int) ≠ 1)
  | ok _ => exact (by decide : (0 : Int) ≠ 1)
def fV (p : Int × Int × Int) : Value := .agg #[.int .i64 p.1, .int .i64 p.2.1, .int .i64 p.2.2]
theorem so_tabReadF (a d : ByteArray) (m0 : Int) (w : World) (h0 : 0 < w.heap.size) (hm : w.cell? ⟨0, 0, none⟩ = some (.int .i64 m0)) :
    Calls Tryz.prog 17 #[.string a, .string d] w fun e w' => ∃ p, e = .returned (.tuple #[.pointer p, fV (tabF (tabR a.data.toList d.data.toList))]) ∧ Below w.heap.size w w' :=
  (so_tabRead a d m0 w h0 hm).mono (by
    rintro e w' ⟨hb, h⟩
    cases hr : tabR a.data.toList d.data.toList with
    | error p => rw [hr] at h; exact ⟨none, h, hb⟩
    | ok p =>
      rw [hr] at h
      obtain ⟨tb, he, -⟩ := h
      exact ⟨_, he, hb⟩)
theorem so_dicReadF (fb : Nat) (F : Fl) (s : ByteArray) (m0 : Int) (w : World) (hf : FileAt w fb F) (hok : FlOk F) (h0 : 0 < w.heap.size) (hm : w.cell? ⟨0, 0, none⟩ = some (.int .i64 m0)) :
    Calls Tryz.prog 18 #[.pointer (some ⟨fb, 0, none⟩), .string s] w fun e w' => ∃ p, e = .returned (.tuple #[.pointer p, fV (dicF (dicR F s.data.toList))]) ∧ Below w.heap.size w w' :=
  (so_dicRead fb F s m0 w hf hok h0 hm).mono (by
    rintro e w' ⟨hb, h⟩
    cases hr : dicR F s.data.toList with
    | error p => rw [hr] at h; exact ⟨none, h, hb⟩
    | ok es =>
      rw [hr] at h
      obtain ⟨wb, he, -⟩ := h
      exact ⟨_, he, hb⟩)
set_option maxHeartbeats 4000000 in
set_option maxRecDepth 100000 in
theorem tablesFirst_walk (a d o : ByteArray) (m0 : Int) (w : World) (h0 : 0 < w.heap.size) (hm : w.cell? ⟨0, 0, none⟩ = some (.int .i64 m0)) :
    Calls Tryz.prog 4 #[.string a, .string d, .string o] w fun e w' => e = .returned (.bool true) ∧ Below w.heap.size w w' := by
  have HM : Hid (∀ W, Below w.heap.size w W → 0 < W.heap.size ∧ W.cell? ⟨0, 0, none⟩ = some (.int .i64 m0)) := Lib.hid (fun W hW => ⟨Nat.lt_of_lt_of_le h0 hW.size, (hW.cell (World.block_lt_of_cell? _ _ hm)).trans hm⟩)
  have HW := Lib.hid (so_twakes m0 w h0 hm)
  have HA : Hid (∀ W, Below w.heap.size w W → Calls Tryz.prog 16 #[.string a] W (ReadP a.data.toList W)) := Lib.hid (fun W hW => so_affRead a m0 W (HM.out W hW).1 (HM.out W hW).2)
  have HT : Hid (∀ x W, Below w.heap.size w W → Calls Tryz.prog 17 #[.string a, .string x] W fun e w' => ∃ p, e = .returned (.tuple #[.pointer p, fV (tabF (tabR a.data.toList x.data.toList))]) ∧ Below W.heap.size W w') := Lib.hid (fun x W hW => so_tabReadF a x m0 W (HM.out W hW).1 (HM.out W hW).2)
  unfold ReadP at HA
  clear h0 hm
  cases hr : affR a.data.toList with
  | error p =>
    obtain ⟨l, c⟩ := p
    rw [hr] at HA
    dsimp only at HA
    unfold fltV at HA
    have HT2 : Hid (∀ x W, Below w.heap.size w W → Calls Tryz.prog 17 #[.string a, .string x] W fun e w' => ∃ p, e = .returned (.tuple #[.pointer p, .agg #[.int .i64 1, .int .i64 l, .int .i64 c]]) ∧ Below W.heap.size W w') := Lib.hid (fun x W hW => by
      have := HT.out x W hW
      rw [tabR_aff hr] at this
      exact this)
    clear hr HT
    go_enter Tryz.func4, Tryz.ntmps4
    go_wp2_with fail
    refine HW.out.mono ?_
    rintro e w1 ⟨rfl, hb1⟩
    have HB1 := Lib.hid hb1
    clear hb1
    go_wp2_with fail
    refine (HA.out _ HB1.out).mono ?_
    rintro e w2 ⟨hb2, rfl⟩
    have HB2 := Lib.hid ((HB1.out.trans (hb2.mono HB1.out.size)).alloc (HB1.out.trans (hb2.mono HB1.out.size)).size (.cells #[.int .i64 1, .int .i64 l, .int .i64 c] 60))
    have HX2 := Lib.hid (heap_alloc_new w2 (.cells #[.int .i64 1, .int .i64 l, .int .i64 c] 60))
    clear hb2
    go_wp2_with fail
    refine (HT2.out d _ HB2.out).mono ?_
    rintro e w3 ⟨p3, rfl, hb3⟩
    have HB3 := Lib.hid ((HB2.out.trans (hb3.mono HB2.out.size)).alloc (HB2.out.trans (hb3.mono HB2.out.size)).size (.cells #[.int .i64 1, .int .i64 l, .int .i64 c] 60))
    have HX3 := Lib.hid ((((Below.refl _ w3).alloc (Nat.le_refl _) (.cells #[.int .i64 1, .int .i64 l, .int .i64 c] 60)).block _ (block_lt ((hb3.block _ (block_lt HX2.out)).trans HX2.out))).trans ((hb3.block _ (block_lt HX2.out)).trans HX2.out))
    have HY3 := Lib.hid (heap_alloc_new w3 (.cells #[.int .i64 1, .int .i64 l, .int .i64 c] 60))
    clear hb3
    go_wp2_with fail
    refine (HT2.out o _ HB3.out).mono ?_
    rintro e w4 ⟨p4, rfl, hb4⟩
    have HB4 := Lib.hid (HB3.out.trans (hb4.mono HB3.out.size))
    have hx4 := (hb4.block _ (block_lt HX3.out)).trans HX3.out
    have hy4 := (hb4.block _ (block_lt HY3.out)).trans HY3.out
    have d0 := Lib.cell_of_heap hx4 0
    have d1 := Lib.cell_of_heap hx4 1
    have d2 := Lib.cell_of_heap hx4 2
    have e0 := Lib.cell_of_heap hy4 0
    have e1 := Lib.cell_of_heap hy4 1
    have e2 := Lib.cell_of_heap hy4 2
    simp only [List.getElem?_toArray, List.getElem?_cons_zero, List.getElem?_cons_succ] at d0 d1 d2 e0 e1 e2
    have hl2 : w2.heap.size < w4.heap.size := block_lt hx4
    have hl3 : w3.heap.size < w4.heap.size := block_lt hy4
    clear hb4 hx4 hy4
    go_wp2_with fail
    go_ret
    exact ⟨by simp, HB4.out.alloc HB4.out.size _⟩
  | ok F =>
    rw [hr] at HA
    dsimp only at HA
    obtain ⟨⟨k1, l1, c1⟩, hf1⟩ : ∃ p, dicF (dicR F d.data.toList) = p := ⟨_, rfl⟩
    obtain ⟨⟨k2, l2, c2⟩, hf2⟩ : ∃ p, dicF (dicR F o.data.toList) = p := ⟨_, rfl⟩
    have hk1 : (k1 != 1) = true := by rw [bne_iff_ne]; have := dicF_file (dicR F d.data.toList); rw [hf1] at this; exact this
    have hk2 : (k2 != 1) = true := by rw [bne_iff_ne]; have := dicF_file (dicR F o.data.toList); rw [hf2] at this; exact this
    have HT1 : Hid (∀ W, Below w.heap.size w W → Calls Tryz.prog 17 #[.string a, .string d] W fun e w' => ∃ p, e = .returned (.tuple #[.pointer p, .agg #[.int .i64 k1, .int .i64 l1, .int .i64 c1]]) ∧ Below W.heap.size W w') := Lib.hid (fun W hW => by
      have := HT.out d W hW
      rw [tabF_dic hr, hf1] at this
      exact this)
    have HT2 : Hid (∀ W, Below w.heap.size w W → Calls Tryz.prog 17 #[.string a, .string o] W fun e w' => ∃ p, e = .returned (.tuple #[.pointer p, .agg #[.int .i64 k2, .int .i64 l2, .int .i64 c2]]) ∧ Below W.heap.size W w') := Lib.hid (fun W hW => by
      have := HT.out o W hW
      rw [tabF_dic hr, hf2] at this
      exact this)
    have HD : Hid (∀ fb W, FileAt W fb F → FlOk F → Below w.heap.size w W → Calls Tryz.prog 18 #[.pointer (some ⟨fb, 0, none⟩), .string d] W fun e w' => ∃ p, e = .returned (.tuple #[.pointer p, .agg #[.int .i64 k1, .int .i64 l1, .int .i64 c1]]) ∧ Below W.heap.size W w') := Lib.hid (fun fb W hf hok hW => by
      have := so_dicReadF fb F d m0 W hf hok (HM.out W hW).1 (HM.out W hW).2
      rw [hf1] at this
      exact this)
    clear hr HT hf1 hf2
    go_enter Tryz.func4, Tryz.ntmps4
    go_wp2_with fail
    refine HW.out.mono ?_
    rintro e w1 ⟨rfl, hb1⟩
    have HB1 := Lib.hid hb1
    clear hb1
    go_wp2_with fail
    refine (HA.out _ HB1.out).mono ?_
    rintro e w2 ⟨hb2, fb, rfl, hfa, hok, hfb⟩
    have HB2 := Lib.hid ((HB1.out.trans (hb2.mono HB1.out.size)).alloc (HB1.out.trans (hb2.mono HB1.out.size)).size (.cells #[.int .i64 0, .int .i64 0, .int .i64 0] 60))
    have HF2 := Lib.hid (hfa.keep ((Below.refl _ w2).alloc (Nat.le_refl _) (.cells #[.int .i64 0, .int .i64 0, .int .i64 0] 60)))
    have HOk := Lib.hid hok
    clear hb2 hfa hok hfb
    go_wp2_with fail
    refine (HT1.out _ HB2.out).mono ?_
    rintro e w3 ⟨p3, rfl, hb3⟩
    have HB3 := Lib.hid ((HB2.out.trans (hb3.mono HB2.out.size)).alloc (HB2.out.trans (hb3.mono HB2.out.size)).size (.cells #[.int .i64 k1, .int .i64 l1, .int .i64 c1] 60))
    have HF3 := Lib.hid ((HF2.out.keep hb3).keep ((Below.refl _ w3).alloc (Nat.le_refl _) (.cells #[.int .i64 k1, .int .i64 l1, .int .i64 c1] 60)))
    have HX3 := Lib.hid (heap_alloc_new w3 (.cells #[.int .i64 k1, .int .i64 l1, .int .i64 c1] 60))
    clear hb3
    go_wp2_with fail
    refine (HT2.out _ HB3.out).mono ?_
    rintro e w4 ⟨p4, rfl, hb4⟩
    have HB4 := Lib.hid ((HB3.out.trans (hb4.mono HB3.out.size)).alloc (HB3.out.trans (hb4.mono HB3.out.size)).size (.cells #[.int .i64 k2, .int .i64 l2, .int .i64 c2] 60))
    have HF4 := Lib.hid ((HF3.out.keep hb4).keep ((Below.refl _ w4).alloc (Nat.le_refl _) (.cells #[.int .i64 k2, .int .i64 l2, .int .i64 c2] 60)))
    have hx4 := (hb4.block _ (block_lt HX3.out)).trans HX3.out
    have HX4 := Lib.hid ((((Below.refl _ w4).alloc (Nat.le_refl _) (.cells #[.int .i64 k2, .int .i64 l2, .int .i64 c2] 60)).block _ (block_lt hx4)).trans hx4)
    have HY4 := Lib.hid (heap_alloc_new w4 (.cells #[.int .i64 k2, .int .i64 l2, .int .i64 c2] 60))
    clear hb4 hx4
    go_wp2_with fail
    refine (HD.out fb _ HF4.out HOk.out HB4.out).mono ?_
    rintro e w5 ⟨p5, rfl, hb5⟩
    have HB5 := Lib.hid (HB4.out.trans (hb5.mono HB4.out.size))
    have hx5 := (hb5.block _ (block_lt HX4.out)).trans HX4.out
    have hy5 := (hb5.block _ (block_lt HY4.out)).trans HY4.out
    have d0 := Lib.cell_of_heap hx5 0
    have d1 := Lib.cell_of_heap hx5 1
    have d2 := Lib.cell_of_heap hx5 2
    have e0 := Lib.cell_of_heap hy5 0
    have e1 := Lib.cell_of_heap hy5 1
    have e2 := Lib.cell_of_heap hy5 2
    simp only [List.getElem?_toArray, List.getElem?_cons_zero, List.getElem?_cons_succ] at d0 d1 d2 e0 e1 e2
    have hl3 : w3.heap.size < w5.heap.size := block_lt hx5
    have hl4 : w4.heap.size < w5.heap.size := block_lt hy5
    clear hb5 hx5 hy5
    go_wp2_with fail
    go_ret
    exact ⟨by simp, HB5.out.alloc HB5.out.size _⟩
theorem tablesFirst_sh (a d o : ByteArray) (W : World) (h : W.ShapedOpen Tryz.prog) :
    Calls Tryz.prog 4 #[.string a, .string d, .string o] W fun e w' => e = .returned (.bool true) ∧ Below W.heap.size W w' := by
  obtain ⟨m, hm⟩ := maxLen_of W h
  exact tablesFirst_walk a d o m W (Nat.lt_of_le_of_lt (Nat.zero_le _) (World.block_lt_of_cell? _ _ hm)) hm
end Go.Proofs.YtfkblpjfknfgbaaGreatDoor
