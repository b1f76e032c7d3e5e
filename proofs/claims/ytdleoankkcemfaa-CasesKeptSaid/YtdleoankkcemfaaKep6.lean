/-
  CasesKept walked.
-/
import Derived.Test.YtdleoankkcemfaaRows
import Derived.Test.YtdleoankkcemfaaKep5
namespace Go.Proofs.Ytdleoankkcemfaa
open Go.RowKit

def pick3b (a b c : ByteArray) : Nat → ByteArray | 0 => a | 1 => b | _ => c
theorem cells3 {w : World} {e : Nat} (a b c : ByteArray) : ∀ j, j < 3 → (w.alloc (.cells #[.string a, .string b, .string c] e)).cell? ⟨w.heap.size, j, none⟩ = some (.string (pick3b a b c j)) := fun j hj => by
  have : j = 0 ∨ j = 1 ∨ j = 2 := by omega
  rcases this with rfl | rfl | rfl <;> · rw [Lib.cell_of_heap (heap_alloc_new w _)]; rfl

set_option maxHeartbeats 1000000 in
theorem so_CkCheck (c : Value) (As : List (List St)) (A : List St) (s : ByteArray) (w : World) (h : CkAt w c As) (hA : As[0]? = some A) (hs : s.size ≤ maxLen) :
    Calls Try.prog 36 #[c, .string s] w fun e w' => e = .returned (.bool (accS A s)) ∧ Below w.heap.size w w' := by
  have HI := Lib.hid (so_In 0 (by omega) c As A s w h hA hs)
  clear h hA
  go_enter Try.func36, Try.ntmps36
  go_wp2_with fail
  refine HI.out.mono ?_
  rintro e w1 ⟨rfl, b1⟩
  have B1 := Lib.hid b1
  clear b1
  go_wp2_with fail
  go_ret
  exact ⟨rfl, B1.out⟩

set_option maxHeartbeats 4000000 in
set_option maxRecDepth 100000 in
theorem kept_walk (s fr : ByteArray) (W : World) (hs : s.size ≤ 140737488355327) (hfr : fr.size ≤ maxLen) :
    Calls Try.prog 11 #[.string s, .string fr] W fun e w' => e = .returned (.bool true) ∧ Below W.heap.size W w' := by
  have hLd := fun w => so_Load s w (by omega)
  cases hr : decR s with
  | error code =>
    rw [hr] at hLd
    have HLd := Lib.hid hLd
    clear hLd hr
    go_enter Try.func11, Try.ntmps11
    go_wp2_with fail
    refine (wakes22_any _).mono ?_
    rintro e w1 ⟨rfl, b1⟩
    have B1 := Lib.hid b1
    clear b1
    go_wp2_with fail
    refine (HLd.out _).mono ?_
    rintro e w2 ⟨c, err, rfl, b2, rfl⟩
    have B2 := Lib.hid (B1.out.trans (b2.mono B1.out.size))
    clear b2
    go_wp2_with fail
    refine (so_List_nil fr _).mono ?_
    rintro e w3 ⟨rfl, b3⟩
    have B3 := Lib.hid (B2.out.trans (b3.mono B2.out.size))
    clear b3
    go_wp2_with fail
    go_loopw [26] (fun i wr => i = .int .i64 0 ∧ wr = w3) (fun _ _ => 1)
    case atStart => exact ⟨rfl, rfl⟩
    case round =>
      obtain ⟨rfl, rfl⟩ := hrel
      go_wp2_with fail
      go_ret
      exact ⟨rfl, B3.out⟩
  | ok b =>
    rw [hr] at hLd
    obtain ⟨-, -, hbl, hbd⟩ := decR_bounds hr
    obtain ⟨A0, hA0⟩ : ∃ A, b.secs[0]? = some A := ⟨_, List.getElem?_eq_getElem (by omega)⟩
    obtain ⟨A2, hA2⟩ : ∃ A, b.secs[2]? = some A := ⟨_, List.getElem?_eq_getElem (by omega)⟩
    have HA0 := Lib.hid hA0
    have HA2 := Lib.hid hA2
    have HLd := Lib.hid hLd
    clear hLd hr hbl hbd hA0 hA2
    go_enter Try.func11, Try.ntmps11
    go_wp2_with fail
    refine (wakes22_any _).mono ?_
    rintro e w1 ⟨rfl, b1⟩
    have B1 := Lib.hid b1
    clear b1
    go_wp2_with fail
    refine (HLd.out _).mono ?_
    rintro e w2 ⟨c, err, rfl, b2, hck⟩
    have B2 := Lib.hid (B1.out.trans (b2.mono B1.out.size))
    have CK2 := Lib.hid (show CkAt w2 c b.secs from hck)
    obtain ⟨cb, hcb⟩ : ∃ cb, c = .pointer (some ⟨cb, 0, none⟩) := by
      obtain ⟨cb, _, _, _, _, _, _, _, _, hc, _⟩ := CK2.out
      exact ⟨cb, hc⟩
    subst hcb
    clear b2 hck
    go_wp2_with fail
    refine (so_List _ b.secs A0 fr _ CK2.out HA0.out hfr).mono ?_
    rintro e w3 ⟨u, rfl, ⟨os, hown, hos8, hgd⟩, b3⟩
    have B3 := Lib.hid (B2.out.trans (b3.mono B2.out.size))
    have CK3 := Lib.hid (CK2.out.keep b3)
    have HG := Lib.hid hgd
    have hrd := Rd.of_own hown
    obtain ⟨-, Au, capu, rfl, -, hcu⟩ := hrd
    have HX := Lib.hid (show ∀ k (h : k < os.length), ∃ g o, Au = some ⟨g, o, none⟩ ∧ w3.cell? ⟨g, o + k, none⟩ = some (.string os[k]) from fun k h => by
      obtain ⟨g, o, hA, hc⟩ := hcu.resolve_left (by omega)
      exact ⟨g, o, hA, hc k _ (strV_get os k h)⟩)
    clear b3 hgd hown hcu
    go_wp2_with fail
    go_loopw [26] (fun i wr => ∃ j : Nat, j ≤ os.length ∧ i = .int .i64 j ∧ Hid (Below w3.heap.size w3 wr)) (fun i _ => os.length - (intOf i).toNat)
    case atStart => exact ⟨0, Nat.zero_le _, rfl, Below.refl _ _⟩
    case round =>
      obtain ⟨j, hj, rfl, HB⟩ := hrel
      have HBW := Lib.hid (B3.out.trans (HB.out.mono B3.out.size))
      by_cases hlt : j < os.length
      · obtain ⟨g, o, rfl, hc⟩ := HX.out j hlt
        have ck := (HB.out.cell (World.block_lt_of_cell? w3 _ hc)).trans hc
        obtain ⟨hpx, hsz⟩ := HG.out os[j] (List.getElem_mem hlt)
        obtain ⟨x, hxx⟩ : ∃ x, os[j] = x := ⟨_, rfl⟩
        rw [hxx] at ck hsz hpx
        have HPX := Lib.hid hpx
        clear hc hxx hpx
        have hszL : x.size ≤ 140737488355328 := by omega
        have hszM : x.size ≤ maxLen := by unfold maxLen; omega
        obtain ⟨wo, rfl⟩ : ∃ wo : World, wo = wr := ⟨_, rfl⟩
        have HCk := Lib.hid (fun (t : ByteArray) (w : World) (hb : Below w3.heap.size w3 w) (ht : t.size ≤ 140737488355328) => so_Check (accS A0) (accS A2) (.pointer (some ⟨cb, 0, none⟩)) t w ht (fun f W' hf hb' => so_In 0 (by omega) _ _ A0 f W' ((CK3.out.keep hb).keep hb') HA0.out hf) (fun f W' hf hb' => so_In 2 (by omega) _ _ A2 f W' ((CK3.out.keep hb).keep hb') HA2.out hf))
        go_wp2_with fail
        refine (HCk.out x _ HB.out hszL).mono ?_
        rw [chkB_self HPX.out]
        rintro e w4 ⟨rfl, b4⟩
        have B4 := Lib.hid (HB.out.trans (b4.mono HB.out.size))
        clear b4
        dsimp only [chkV]
        go_wp2_with fail
        refine (Upper_s x _ hszL).mono ?_
        rintro e w5 ⟨rfl, b5⟩
        have B5 := Lib.hid (B4.out.trans (b5.mono B4.out.size))
        clear b5
        go_wp2_with fail
        refine (Headed_s x _ hszL).mono ?_
        rintro e w6 ⟨rfl, b6⟩
        have B6 := Lib.hid (B5.out.trans (b6.mono B5.out.size))
        clear b6
        go_wp2_with fail
        refine (Lower_s x _ hszL).mono ?_
        rintro e w7 ⟨rfl, b7⟩
        have B7 := Lib.hid (B6.out.trans (b7.mono B6.out.size))
        clear b7
        have HC3 := Lib.hid (cells3 (w := w7) (e := 9) (upS x) (headS x) (lowS x))
        have b8 := below_alloc w7 (.cells #[.string (upS x), .string (headS x), .string (lowS x)] 9)
        obtain ⟨w8, hw8⟩ : ∃ w8, w7.alloc (.cells #[.string (upS x), .string (headS x), .string (lowS x)] 9) = w8 := ⟨_, rfl⟩
        rw [hw8] at HC3 b8
        have B8 := Lib.hid (B7.out.trans (b8.mono B7.out.size))
        have HW8 := Lib.hid hw8
        clear hw8 b8
        have HT := Lib.hid (show ∀ m, m < 3 → (pick3b (upS x) (headS x) (lowS x) m = upS x ∨ pick3b (upS x) (headS x) (lowS x) m = headS x ∨ pick3b (upS x) (headS x) (lowS x) m = lowS x) from fun m hm => by
          have : m = 0 ∨ m = 1 ∨ m = 2 := by omega
          rcases this with rfl | rfl | rfl
          · exact .inl rfl
          · exact .inr (.inl rfl)
          · exact .inr (.inr rfl))
        go_wp2_with fail
        rw [HW8.out]
        go_loopw [51] (fun i wr => ∃ m : Nat, m ≤ 3 ∧ i = .int .i64 m ∧ Hid (Below w8.heap.size w8 wr)) (fun i _ => 3 - (intOf i).toNat)
        case atStart => exact ⟨0, by omega, rfl, Below.refl _ _⟩
        case round =>
          obtain ⟨m, hm, rfl, HBm⟩ := hrel
          have HB3 := Lib.hid (B8.out.trans (HBm.out.mono B8.out.size))
          by_cases hm3 : m < 3
          · have c3 := HC3.out m hm3
            have ct := (HBm.out.cell (World.block_lt_of_cell? w8 _ c3)).trans c3
            have ht3 := HT.out m hm3
            obtain ⟨t, htt⟩ : ∃ t, pick3b (upS x) (headS x) (lowS x) m = t := ⟨_, rfl⟩
            rw [htt] at ct ht3
            have htl : lowS t = lowS x := by
              rcases ht3 with rfl | rfl | rfl
              · exact lowS_up x
              · exact lowS_head x
              · exact lowS_low x
            have htz : t.size ≤ 140737488355328 := by
              have h1 := upS_size x
              have h2 := headS_size x
              have h3 := lowS_size x
              rcases ht3 with rfl | rfl | rfl <;> omega
            have HSm := Lib.hid (small_in x t · ht3)
            have HTL := Lib.hid htl
            clear c3 htt ht3 htl
            obtain ⟨r, hr⟩ : ∃ r, chkB (accS A0) (accS A2) t = r := ⟨_, rfl⟩
            have HR := Lib.hid hr
            have CK8 := Lib.hid (CK3.out.keep B8.out)
            have HCt := Lib.hid (HCk.out t wr HB3.out htz)
            clear hr
            cases r with
            | none =>
              go_wp2_with fail
              refine HCt.out.mono ?_
              rw [HR.out]
              rintro e wc ⟨rfl, bc⟩
              have Bc := Lib.hid (HBm.out.trans (bc.mono HBm.out.size))
              clear bc
              dsimp only [chkV]
              by_cases hk1 : kindOf x.data.toList = 1
              · have qk : (kindOf x.data.toList == 1) = true := by rw [beq_iff_eq]; exact hk1
                go_wp2_with fail
                refine (of_any x _ hszM).mono ?_
                rintro e wd ⟨rfl, hwd⟩
                obtain rfl := hwd
                go_wp2_with fail
                refine (so_In 2 (by omega) _ _ A2 x _ (CK8.out.keep Bc.out) HA2.out hszM).mono ?_
                rintro e wq ⟨rfl, bq⟩
                have Bq := Lib.hid (Bc.out.trans (bq.mono Bc.out.size))
                clear bq
                rw [show accS A2 x = true from by
                  cases hq : accS A2 x
                  · exact absurd HR.out (chkB_found HPX.out hq (HSm.out hk1))
                  · rfl]
                go_wp2_with fail
                go_roundw
                case rel => exact ⟨m + 1, by omega, by go_num, Bq⟩
                case measure => simp [intOf]; omega
              · have qk : (kindOf x.data.toList == 1) = false := by rw [beq_eq_false_iff_ne]; exact hk1
                go_wp2_with fail
                refine (of_any x _ hszM).mono ?_
                rintro e wd ⟨rfl, hwd⟩
                obtain rfl := hwd
                go_wp2_with fail
                go_roundw
                case rel => exact ⟨m + 1, by omega, by go_num, Bc⟩
                case measure => simp [intOf]; omega
            | some f =>
              obtain ⟨hfi, hPf, hQf⟩ := chkB_some HR.out
              have HLF := Lib.hid ((forms_low t f hfi).trans HTL.out)
              have hfz : f.size ≤ 140737488355328 := by rw [formsOf_size t f hfi]; exact htz
              have hfM : f.size ≤ maxLen := by unfold maxLen; omega
              clear hfi
              go_wp2_with fail
              refine HCt.out.mono ?_
              rw [HR.out]
              rintro e wc ⟨rfl, bc⟩
              have Bc := Lib.hid (HBm.out.trans (bc.mono HBm.out.size))
              clear bc
              dsimp only [chkV]
              by_cases hfx : f = x
              · have qf : (f.toList == x.toList) = true := by rw [hfx]; simp
                by_cases htx : t = x
                · have qt : (t.toList == x.toList) = true := by rw [htx]; simp
                  clear hfx htx hQf
                  by_cases hk1 : kindOf x.data.toList = 1
                  · have qk : (kindOf x.data.toList == 1) = true := by rw [beq_iff_eq]; exact hk1
                    go_wp2_with fail
                    refine (of_any x _ hszM).mono ?_
                    rintro e wd ⟨rfl, hwd⟩
                    obtain rfl := hwd
                    go_wp2_with fail
                    refine (so_In 2 (by omega) _ _ A2 x _ (CK8.out.keep Bc.out) HA2.out hszM).mono ?_
                    rintro e wq ⟨rfl, bq⟩
                    have Bq := Lib.hid (Bc.out.trans (bq.mono Bc.out.size))
                    clear bq
                    cases hq : accS A2 x
                    · go_wp2_with fail
                      refine (so_CkCheck _ b.secs A0 f _ (CK8.out.keep Bq.out) HA0.out hfM).mono ?_
                      rw [hPf]
                      rintro e wf ⟨rfl, bf⟩
                      have Bf := Lib.hid (Bq.out.trans (bf.mono Bq.out.size))
                      clear bf
                      go_wp2_with fail
                      refine (Lower_s f _ hfz).mono ?_
                      rintro e wg ⟨rfl, bg⟩
                      have Bg := Lib.hid (Bf.out.trans (bg.mono Bf.out.size))
                      clear bg
                      go_wp2_with fail
                      refine (Lower_s x _ hszL).mono ?_
                      rintro e wh ⟨rfl, bh⟩
                      have Bh := Lib.hid (Bg.out.trans (bh.mono Bg.out.size))
                      clear bh
                      rw [HLF.out]
                      go_wp2_with fail
                      go_roundw
                      case rel => exact ⟨m + 1, by omega, by go_num, Bh⟩
                      case measure => simp [intOf]; omega
                    · go_wp2_with fail
                      refine (so_CkCheck _ b.secs A0 f _ (CK8.out.keep Bq.out) HA0.out hfM).mono ?_
                      rw [hPf]
                      rintro e wf ⟨rfl, bf⟩
                      have Bf := Lib.hid (Bq.out.trans (bf.mono Bq.out.size))
                      clear bf
                      go_wp2_with fail
                      refine (Lower_s f _ hfz).mono ?_
                      rintro e wg ⟨rfl, bg⟩
                      have Bg := Lib.hid (Bf.out.trans (bg.mono Bf.out.size))
                      clear bg
                      go_wp2_with fail
                      refine (Lower_s x _ hszL).mono ?_
                      rintro e wh ⟨rfl, bh⟩
                      have Bh := Lib.hid (Bg.out.trans (bh.mono Bg.out.size))
                      clear bh
                      rw [HLF.out]
                      go_wp2_with fail
                      go_roundw
                      case rel => exact ⟨m + 1, by omega, by go_num, Bh⟩
                      case measure => simp [intOf]; omega
                  · have qk : (kindOf x.data.toList == 1) = false := by rw [beq_eq_false_iff_ne]; exact hk1
                    go_wp2_with fail
                    refine (of_any x _ hszM).mono ?_
                    rintro e wd ⟨rfl, hwd⟩
                    obtain rfl := hwd
                    go_wp2_with fail
                    refine (so_CkCheck _ b.secs A0 f _ (CK8.out.keep Bc.out) HA0.out hfM).mono ?_
                    rw [hPf]
                    rintro e wf ⟨rfl, bf⟩
                    have Bf := Lib.hid (Bc.out.trans (bf.mono Bc.out.size))
                    clear bf
                    go_wp2_with fail
                    refine (Lower_s f _ hfz).mono ?_
                    rintro e wg ⟨rfl, bg⟩
                    have Bg := Lib.hid (Bf.out.trans (bg.mono Bf.out.size))
                    clear bg
                    go_wp2_with fail
                    refine (Lower_s x _ hszL).mono ?_
                    rintro e wh ⟨rfl, bh⟩
                    have Bh := Lib.hid (Bg.out.trans (bh.mono Bg.out.size))
                    clear bh
                    rw [HLF.out]
                    go_wp2_with fail
                    go_roundw
                    case rel => exact ⟨m + 1, by omega, by go_num, Bh⟩
                    case measure => simp [intOf]; omega
                · have qt : (t.toList == x.toList) = false := by rw [beq_str]; exact decide_eq_false htx
                  have hq0 : accS A2 x = false := by rw [← hfx]; exact hQf (by rw [hfx]; exact Ne.symm htx)
                  clear hfx htx hQf
                  go_wp2_with fail
                  refine (so_In 2 (by omega) _ _ A2 x _ (CK8.out.keep Bc.out) HA2.out hszM).mono ?_
                  rw [hq0]
                  rintro e wk ⟨rfl, bk⟩
                  have Bk := Lib.hid (Bc.out.trans (bk.mono Bc.out.size))
                  clear bk hq0
                  by_cases hk1 : kindOf x.data.toList = 1
                  · have qk : (kindOf x.data.toList == 1) = true := by rw [beq_iff_eq]; exact hk1
                    go_wp2_with fail
                    refine (of_any x _ hszM).mono ?_
                    rintro e wd ⟨rfl, hwd⟩
                    obtain rfl := hwd
                    go_wp2_with fail
                    refine (so_In 2 (by omega) _ _ A2 x _ (CK8.out.keep Bk.out) HA2.out hszM).mono ?_
                    rintro e wq ⟨rfl, bq⟩
                    have Bq := Lib.hid (Bk.out.trans (bq.mono Bk.out.size))
                    clear bq
                    cases hq : accS A2 x
                    · go_wp2_with fail
                      refine (so_CkCheck _ b.secs A0 f _ (CK8.out.keep Bq.out) HA0.out hfM).mono ?_
                      rw [hPf]
                      rintro e wf ⟨rfl, bf⟩
                      have Bf := Lib.hid (Bq.out.trans (bf.mono Bq.out.size))
                      clear bf
                      go_wp2_with fail
                      refine (Lower_s f _ hfz).mono ?_
                      rintro e wg ⟨rfl, bg⟩
                      have Bg := Lib.hid (Bf.out.trans (bg.mono Bf.out.size))
                      clear bg
                      go_wp2_with fail
                      refine (Lower_s x _ hszL).mono ?_
                      rintro e wh ⟨rfl, bh⟩
                      have Bh := Lib.hid (Bg.out.trans (bh.mono Bg.out.size))
                      clear bh
                      rw [HLF.out]
                      go_wp2_with fail
                      go_roundw
                      case rel => exact ⟨m + 1, by omega, by go_num, Bh⟩
                      case measure => simp [intOf]; omega
                    · go_wp2_with fail
                      refine (so_CkCheck _ b.secs A0 f _ (CK8.out.keep Bq.out) HA0.out hfM).mono ?_
                      rw [hPf]
                      rintro e wf ⟨rfl, bf⟩
                      have Bf := Lib.hid (Bq.out.trans (bf.mono Bq.out.size))
                      clear bf
                      go_wp2_with fail
                      refine (Lower_s f _ hfz).mono ?_
                      rintro e wg ⟨rfl, bg⟩
                      have Bg := Lib.hid (Bf.out.trans (bg.mono Bf.out.size))
                      clear bg
                      go_wp2_with fail
                      refine (Lower_s x _ hszL).mono ?_
                      rintro e wh ⟨rfl, bh⟩
                      have Bh := Lib.hid (Bg.out.trans (bh.mono Bg.out.size))
                      clear bh
                      rw [HLF.out]
                      go_wp2_with fail
                      go_roundw
                      case rel => exact ⟨m + 1, by omega, by go_num, Bh⟩
                      case measure => simp [intOf]; omega
                  · have qk : (kindOf x.data.toList == 1) = false := by rw [beq_eq_false_iff_ne]; exact hk1
                    go_wp2_with fail
                    refine (of_any x _ hszM).mono ?_
                    rintro e wd ⟨rfl, hwd⟩
                    obtain rfl := hwd
                    go_wp2_with fail
                    refine (so_CkCheck _ b.secs A0 f _ (CK8.out.keep Bk.out) HA0.out hfM).mono ?_
                    rw [hPf]
                    rintro e wf ⟨rfl, bf⟩
                    have Bf := Lib.hid (Bk.out.trans (bf.mono Bk.out.size))
                    clear bf
                    go_wp2_with fail
                    refine (Lower_s f _ hfz).mono ?_
                    rintro e wg ⟨rfl, bg⟩
                    have Bg := Lib.hid (Bf.out.trans (bg.mono Bf.out.size))
                    clear bg
                    go_wp2_with fail
                    refine (Lower_s x _ hszL).mono ?_
                    rintro e wh ⟨rfl, bh⟩
                    have Bh := Lib.hid (Bg.out.trans (bh.mono Bg.out.size))
                    clear bh
                    rw [HLF.out]
                    go_wp2_with fail
                    go_roundw
                    case rel => exact ⟨m + 1, by omega, by go_num, Bh⟩
                    case measure => simp [intOf]; omega
              · have qf : (f.toList == x.toList) = false := by rw [beq_str]; exact decide_eq_false hfx
                clear hfx hQf
                by_cases hk1 : kindOf x.data.toList = 1
                · have qk : (kindOf x.data.toList == 1) = true := by rw [beq_iff_eq]; exact hk1
                  go_wp2_with fail
                  refine (of_any x _ hszM).mono ?_
                  rintro e wd ⟨rfl, hwd⟩
                  obtain rfl := hwd
                  go_wp2_with fail
                  refine (so_In 2 (by omega) _ _ A2 x _ (CK8.out.keep Bc.out) HA2.out hszM).mono ?_
                  rintro e wq ⟨rfl, bq⟩
                  have Bq := Lib.hid (Bc.out.trans (bq.mono Bc.out.size))
                  clear bq
                  cases hq : accS A2 x
                  · go_wp2_with fail
                    refine (so_CkCheck _ b.secs A0 f _ (CK8.out.keep Bq.out) HA0.out hfM).mono ?_
                    rw [hPf]
                    rintro e wf ⟨rfl, bf⟩
                    have Bf := Lib.hid (Bq.out.trans (bf.mono Bq.out.size))
                    clear bf
                    go_wp2_with fail
                    refine (Lower_s f _ hfz).mono ?_
                    rintro e wg ⟨rfl, bg⟩
                    have Bg := Lib.hid (Bf.out.trans (bg.mono Bf.out.size))
                    clear bg
                    go_wp2_with fail
                    refine (Lower_s x _ hszL).mono ?_
                    rintro e wh ⟨rfl, bh⟩
                    have Bh := Lib.hid (Bg.out.trans (bh.mono Bg.out.size))
                    clear bh
                    rw [HLF.out]
                    go_wp2_with fail
                    go_roundw
                    case rel => exact ⟨m + 1, by omega, by go_num, Bh⟩
                    case measure => simp [intOf]; omega
                  · go_wp2_with fail
                    refine (so_CkCheck _ b.secs A0 f _ (CK8.out.keep Bq.out) HA0.out hfM).mono ?_
                    rw [hPf]
                    rintro e wf ⟨rfl, bf⟩
                    have Bf := Lib.hid (Bq.out.trans (bf.mono Bq.out.size))
                    clear bf
                    go_wp2_with fail
                    refine (Lower_s f _ hfz).mono ?_
                    rintro e wg ⟨rfl, bg⟩
                    have Bg := Lib.hid (Bf.out.trans (bg.mono Bf.out.size))
                    clear bg
                    go_wp2_with fail
                    refine (Lower_s x _ hszL).mono ?_
                    rintro e wh ⟨rfl, bh⟩
                    have Bh := Lib.hid (Bg.out.trans (bh.mono Bg.out.size))
                    clear bh
                    rw [HLF.out]
                    go_wp2_with fail
                    go_roundw
                    case rel => exact ⟨m + 1, by omega, by go_num, Bh⟩
                    case measure => simp [intOf]; omega
                · have qk : (kindOf x.data.toList == 1) = false := by rw [beq_eq_false_iff_ne]; exact hk1
                  go_wp2_with fail
                  refine (of_any x _ hszM).mono ?_
                  rintro e wd ⟨rfl, hwd⟩
                  obtain rfl := hwd
                  go_wp2_with fail
                  refine (so_CkCheck _ b.secs A0 f _ (CK8.out.keep Bc.out) HA0.out hfM).mono ?_
                  rw [hPf]
                  rintro e wf ⟨rfl, bf⟩
                  have Bf := Lib.hid (Bc.out.trans (bf.mono Bc.out.size))
                  clear bf
                  go_wp2_with fail
                  refine (Lower_s f _ hfz).mono ?_
                  rintro e wg ⟨rfl, bg⟩
                  have Bg := Lib.hid (Bf.out.trans (bg.mono Bf.out.size))
                  clear bg
                  go_wp2_with fail
                  refine (Lower_s x _ hszL).mono ?_
                  rintro e wh ⟨rfl, bh⟩
                  have Bh := Lib.hid (Bg.out.trans (bh.mono Bg.out.size))
                  clear bh
                  rw [HLF.out]
                  go_wp2_with fail
                  go_roundw
                  case rel => exact ⟨m + 1, by omega, by go_num, Bh⟩
                  case measure => simp [intOf]; omega
          · obtain rfl : m = 3 := by omega
            go_wp2_with fail
            go_roundw
            case rel => exact ⟨j + 1, by omega, by go_num, HB3⟩
            case measure => simp [intOf]; omega
      · obtain rfl : j = os.length := by omega
        go_wp2_with fail
        go_ret
        exact ⟨rfl, HBW.out⟩
end Go.Proofs.Ytdleoankkcemfaa
