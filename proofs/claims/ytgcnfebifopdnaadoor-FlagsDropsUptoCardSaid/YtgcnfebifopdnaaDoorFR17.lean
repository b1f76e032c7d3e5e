/-
  FlagsDrops walked.
-/
import Derived.Test.YtgcnfebifopdnaaDoorRows
import Derived.Test.YtgcnfebifopdnaaDoorFR16
namespace Go.Proofs.YtgcnfebifopdnaaDoor
open Go.RowKit

set_option maxHeartbeats 4000000 in
set_option maxRecDepth 100000 in
theorem drops_walk (v g : Value) (zs : List Int) (gs : List (Value × List Int)) (W : World) (h : FS W v zs) (hg : GS W g gs) (hbd : ∀ x ∈ zs, 0 ≤ x ∧ x ≤ 65535) (hbd2 : ∀ g ∈ gs, ∀ x ∈ g.2, 0 ≤ x ∧ x ≤ 65535)
    (hbig : zs.length ≤ 4194304) (hbig2 : gs.length + (joinG gs).length ≤ 4194304) (hsh : W.ShapedOpen Tryd.prog) :
    Calls Tryd.prog 6 #[v, g] W fun e w' => e = .returned (.bool true) ∧ Below W.heap.size W w' := by
  obtain ⟨m, hm⟩ := maxLen_of W hsh
  obtain ⟨j0, hj, hy0, hy1, hy2⟩ := info_parts group_info
  clear hsh
  have hF := Lib.hid h
  obtain ⟨p, c, rfl, hs, hall⟩ := hg
  have hS := Lib.hid hs
  have hA := Lib.hid hall
  have D1 := Lib.hid hbd
  have D2 := Lib.hid hbd2
  clear h hs hall hbd hbd2
  have hcl := canon_le zs
  go_enter Tryd.func6, Tryd.ntmps6
  go_wp2_with (first
    | (go_at_call 18; refine (so_ints _ zs _ hF.out D1.out (by omega)).mono ?_; rintro e w1 ⟨a, rfl, h1, b1⟩; have A1 := Lib.hid h1; have B1 := Lib.hid b1; clear h1 b1)
    | (go_at_call 17; refine (so_rOfO _ zs _ A1.out (up_bd D1.out) (by omega)).mono ?_; rintro e w2 ⟨a2, rfl, h2, b2⟩; have O2 := Lib.hid (show OwnI W w2 a2 (canon zs) from ⟨B1.out.trans (b2.mono B1.out.size), own_base h2 B1.out.size⟩); clear h2 b2))
  go_loopw [5, 6, 8, 14] (fun q o _ i wr => ∃ (k : Nat) (tv : List (Value × List Int)), k ≤ gs.length ∧ i = .int .i64 k ∧ tv.length = k ∧ Hid (OwnI W wr q (foldOutsR zs ((gs.take k).map (·.2)))) ∧ Hid (GivenAt W wr o tv ((gs.take k).map (·.2)))) (fun _ _ _ i _ => gs.length - (intOf i).toNat)
  case atStart => exact ⟨0, [], Nat.zero_le _, rfl, rfl, O2.out, ⟨⟨O2.out.below, World.ownsRow_nil _ _ _ _⟩, by simp, rfl⟩⟩
  case round =>
    obtain ⟨k, tv, hk, rfl, htl, HQ, HG⟩ := hrel
    have hsz := HQ.out.below.size
    by_cases hlt : k < gs.length
    · obtain ⟨b, off, rfl, hc⟩ := hS.out.resolve_left (by omega)
      have c0 := hc k hlt
      have hm' : gs[k] ∈ gs := List.getElem_mem hlt
      have hcell : wr.cell? ⟨b, off + k, none⟩ = some gs[k].1 := (HQ.out.below.cell (World.block_lt_of_cell? W _ c0)).trans c0
      have HGr := Lib.hid ((hA.out _ hm').keep HQ.out.below)
      have HD := Lib.hid (D2.out _ hm')
      have HFb := Lib.hid (show ∀ x ∈ foldOutsR zs ((gs.take k).map (·.2)), 0 ≤ x ∧ x ≤ 65535 by rw [foldOutsR_eq]; exact foldOuts_bd D1.out _)
      have hjl : gs[k].2.length ≤ (joinG gs).length := Nat.le_trans (by rw [joinG_snoc gs k hlt, List.length_append]; exact Nat.le_add_left _ _) (joinG_le gs (k + 1))
      have hl : (foldOutsR zs ((gs.take k).map (·.2))).length ≤ zs.length := by rw [foldOutsR_eq]; exact foldOuts_len zs _
      have HSN := Lib.hid (show (gs.take (k + 1)).map (·.2) = (gs.take k).map (·.2) ++ [gs[k].2] by
        rw [List.take_add_one, List.map_append, List.getElem?_eq_getElem hlt]; rfl)
      clear hc c0 hm'
      generalize hgk : gs[k] = gk at *
      obtain ⟨gv, gt⟩ := gk
      clear hgk
      dsimp only at hcell hjl
      generalize hfo : foldOutsR zs ((gs.take k).map (·.2)) = cur at *
      have HFO := Lib.hid hfo
      clear hfo
      have hct : cur.length + gt.length ≤ 8388608 := by omega
      clear hjl hl
      obtain ⟨P, N, C, hgv⟩ : ∃ P N C, gv = .slice P N C := by obtain ⟨p', c', e', _⟩ := HGr.out; exact ⟨_, _, _, e'⟩
      subst hgv
      go_wp2_with (first
        | (go_at_call 18; refine (so_ints _ gt _ HGr.out HD.out (by omega)).mono ?_; rintro e w3 ⟨a3, rfl, h3, b3⟩; have A3 := Lib.hid h3; have Q3 := Lib.hid (HQ.out.call b3); have G3 := Lib.hid (HG.out.call b3); have R3 := Lib.hid (HGr.out.keep b3); clear h3 b3)
        | (go_at_call 23; refine (so_rWithoutO _ _ cur gt _ Q3.out.is_ A3.out (up_bd HFb.out) (by omega) (by omega)).mono ?_; rintro e w4 ⟨a4, rfl, h4, b4⟩; have Q4 := Lib.hid (show OwnI W w4 a4 (outs gt (canon cur)) from ⟨Q3.out.below.trans (b4.mono Q3.out.below.size), own_base h4 Q3.out.below.size⟩); have G4 := Lib.hid (G3.out.call b4); have R4 := Lib.hid (R3.out.keep b4); clear h4 b4)
        | (go_at_call 20; refine (so_twinO _ gt _ R4.out (by omega)).mono ?_; rintro e w5 ⟨a5, rfl, h5, b5⟩; have Q5 := Lib.hid (Q4.out.call b5); have T5 := Lib.hid (show OwnF W w5 (a5, gt) from ⟨Q4.out.below.trans (b5.mono Q4.out.below.size), own_base h5 Q4.out.below.size⟩); have G5 := Lib.hid (G4.out.call b5); clear h5 b5; obtain ⟨P5, N5, C5, ha5⟩ : ∃ P N C, a5 = .slice P N C := (by obtain ⟨p', c', e', _⟩ := T5.out.fs; exact ⟨_, _, _, e'⟩); subst ha5)
        | (at_builtin; refine wpList_push1 rfl _ _ 39 rfl W.heap.size 22 j0 (.slice none 0 0) 24 Tryd.underlying39 hj hy0 hy1 hy2 rfl _ tv.length _ rfl G5.out.own.own _ rfl rfl (by unfold maxLen; omega) (by omega) G5.out.own.size ?_; intro gg cap2 w6 hown hg6; have Q6 := Lib.hid (show OwnI W w6 a4 (outs gt (canon cur)) from Q5.out.beside G5.out.own (by decide) hg6); have G6 := Lib.hid (show GivenAt W w6 _ (tv ++ [(_, gt)]) _ from ⟨by simpa using G5.out.own.push hown hg6, fun x hx => (List.mem_append.1 hx).elim (fun hx => (G5.out.each x hx).beside G5.out.own (by decide) hg6) (fun hx => by obtain rfl : x = (_, gt) := (by simpa using hx); exact Own.beside T5.out G5.out.own (by decide) hg6), by rw [List.map_append, G5.out.same]⟩); clear hown hg6))
      go_roundw
      case rel =>
        subst htl; refine ⟨tv.length + 1, _, by omega, by go_num, ?_, Lib.hid (by rw [HSN.out, foldOutsR_snoc, HFO.out]; exact Q6.out), Lib.hid (by rw [HSN.out]; exact G6.out)⟩
        simp
      case measure => simp [intOf]; omega
    · have hke : k = gs.length := by omega
      subst hke
      rw [List.take_length] at HQ HG
      have HFb := Lib.hid (show ∀ x ∈ foldOutsR zs (gs.map (·.2)), 0 ≤ x ∧ x ≤ 65535 by rw [foldOutsR_eq]; exact foldOuts_bd D1.out _)
      have hwl : (foldOutsR zs (gs.map (·.2))).length ≤ zs.length := by rw [foldOutsR_eq]; exact foldOuts_len zs _
      have HJ := Lib.hid (joinG_same HG.out.same)
      have HTl := Lib.hid (show tv.length ≤ 4611686018427387904 by omega)
      have HTe := Lib.hid (show ∀ x ∈ tv, x.2.length * 2 ≤ 281474976710656 by
        intro x hx
        have h1 : x.2.length ≤ (joinG tv).length := by
          obtain ⟨k, hk, rfl⟩ := List.getElem_of_mem hx
          exact Nat.le_trans (by rw [joinG_snoc tv k hk, List.length_append]; exact Nat.le_add_left _ _) (joinG_le tv (k + 1))
        rw [HJ.out] at h1
        omega)
      obtain ⟨want, hwant⟩ : ∃ c, foldOutsR zs (gs.map (·.2)) = c := ⟨_, rfl⟩
      obtain ⟨cz, hcz⟩ : ∃ c, canon zs = c := ⟨_, rfl⟩
      have hid0 := foldOuts_idem zs (gs.map (·.2))
      rw [← foldOutsR_eq, hwant] at hid0
      rw [hwant] at HQ HFb hwl
      have HW := Lib.hid (show canon (foldOuts zs (tv.map (·.2))) = want by rw [HG.out.same, ← foldOutsR_eq, hwant]; exact hid0)
      have HCb := Lib.hid (canon_bd D1.out)
      have hczl := canon_le zs
      rw [hcz] at HCb hczl
      have HCZ := Lib.hid hcz
      have hwl2 : want.length ≤ 8388608 := by omega
      have hczl2 : cz.length ≤ 8388608 := by omega
      clear hwant hid0 HJ htl hcz hczl hwl hcl
      go_wp2_with (go_at_call 13; refine (so_wakes m _ ((HQ.out.below.cell (World.block_lt_of_cell? W _ hm)).trans hm)).mono ?_; rintro e w5 ⟨rfl, b5⟩; have Q5 := Lib.hid (HQ.out.call b5); have G5 := Lib.hid (HG.out.call b5); clear b5)
      go_wp2_with (go_at_call 20; refine (so_twin _ zs _ (hF.out.keep Q5.out.below) (by omega)).mono ?_; rintro e w6 ⟨x, rfl, h6, b6⟩; have X6 := Lib.hid h6.fs; have Q6 := Lib.hid (Q5.out.call b6); have G6 := Lib.hid (G5.out.call b6); clear h6 b6)
      go_wp2_with (go_at_call 21; refine (so_FoldNil x _ zs _ X6.out (by omega)).mono ?_; rw [HCZ.out]; rintro e w7 ⟨y, rfl, h7, b7⟩; have Y7 := Lib.hid h7.fs; have Q7 := Lib.hid (Q6.out.call b7); have G7 := Lib.hid (G6.out.call b7); clear h7 b7)
      go_wp2_with (go_at_call 18; refine (so_ints _ zs _ (hF.out.keep Q7.out.below) D1.out (by omega)).mono ?_; rintro e w8 ⟨a, rfl, h8, b8⟩; have A8 := Lib.hid h8; have Y8 := Lib.hid (Y7.out.keep b8); have Q8 := Lib.hid (Q7.out.call b8); have G8 := Lib.hid (G7.out.call b8); clear h8 b8)
      go_wp2_with (go_at_call 17; refine (so_rOf _ zs _ A8.out (up_bd D1.out) (by omega)).mono ?_; rw [HCZ.out]; rintro e w9 ⟨r, rfl, h9, b9⟩; have R9 := Lib.hid h9; have Y9 := Lib.hid (Y8.out.keep b9); have Q9 := Lib.hid (Q8.out.call b9); have G9 := Lib.hid (G8.out.call b9); clear h9 b9)
      go_wp2_with (go_at_call 14; refine (so_is_same y r cz _ Y9.out R9.out HCb.out (by omega)).mono ?_; rintro e wa ⟨rfl, ba⟩; have QA := Lib.hid (Q9.out.call ba); have GA := Lib.hid (G9.out.call ba); clear ba)
      go_wp2_with (go_at_call 20; refine (so_twin _ zs _ (hF.out.keep QA.out.below) (by omega)).mono ?_; rintro e wb ⟨xb, rfl, hb, bb⟩; have XB := Lib.hid hb.fs; have QB := Lib.hid (QA.out.call bb); have GB := Lib.hid (GA.out.call bb); clear hb bb)
      go_wp2_with (go_at_call 21; refine (so_FoldWithout xb _ zs tv _ XB.out GB.out.gs (by omega) HTl.out HTe.out).mono ?_; rw [HW.out]; rintro e wc ⟨yc, rfl, hc, bc⟩; have YC := Lib.hid hc.fs; have QC := Lib.hid (QB.out.call bc); clear hc bc)
      go_wp2_with (go_at_call 14; refine (so_is_same yc _ want _ YC.out QC.out.is_ HFb.out (by omega)).mono ?_; rintro e wd ⟨rfl, bd⟩; have QD := Lib.hid (QC.out.call bd); clear bd)
      go_ret
      exact ⟨rfl, QD.out.below⟩
end Go.Proofs.YtgcnfebifopdnaaDoor
