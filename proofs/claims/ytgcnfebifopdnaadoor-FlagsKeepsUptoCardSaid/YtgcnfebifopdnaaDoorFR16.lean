/-
  FlagsFolds and FlagsDrops walked.
-/
import Derived.Test.YtgcnfebifopdnaaDoorRows
import Derived.Test.YtgcnfebifopdnaaDoorFR14
import Derived.Test.YtgcnfebifopdnaaDoorGC
import Derived.Test.YtgcnfebifopdnaaDoorBase2
namespace Go.Proofs.YtgcnfebifopdnaaDoor
open Go.RowKit

/-- Another row, behind an append onto this one. -/
theorem Own.beside {w W W' : World} {e size n e' size' n' : Nat} {v v' : Value} {xs xs' : List Value} (h : Own w W e size v n xs) (k : Own w W e' size' v' n' xs') (hne : e ≠ e') (hg : W.grownBy W' v'.ownBlock) : Own w W' e size v n xs := by
  refine ⟨below_push k.below k.own hg (Nat.le_refl _) k.below.size, h.own.kept hg ?_⟩
  rcases h.own.2 with ⟨rfl, _⟩ | ⟨g, cap, cur, rfl, _, hh, _⟩
  · exact .inl rfl
  · refine .inr fun hc => ?_
    rcases k.own.2 with ⟨rfl, _⟩ | ⟨g', cap', cur', rfl, _, hh', _⟩
    · simp [Value.ownBlock] at hc
    · obtain rfl : g = g' := by simpa [Value.ownBlock] using hc
      rw [hh] at hh'; cases hh'; exact hne rfl

set_option maxHeartbeats 1000000 in
set_option maxRecDepth 100000 in
theorem so_twinO (v : Value) (zs : List Int) (w : World) (h : FS w v zs) (hbig : zs.length * 2 ≤ 140737488355328) :
    Calls Tryd.prog 20 #[v] w fun e w' => ∃ v', e = .returned v' ∧ w'.ownsRow w.heap.size 34 1 v' zs.length (zs.map (Value.int .u16)) ∧ Below w.heap.size w w' := by
  obtain ⟨p, c, rfl, hcap, hs⟩ := h
  obtain ⟨i0, hi, hz0, hz1, hz2⟩ := info_parts flag_info
  have hr := run_append_src (P := Tryd.prog) w w.heap.size 22 22 34 i0 (.int .u16 0) 1 2 Tryd.underlying22 hi hz0 hz1 hz2 rfl (by decide) (.slice none 0 0) 0 [] (World.ownsRow_nil _ _ _ _)
    p zs.length c (zs.map (Value.int .u16)) (by simp) (FS.news hs _ (Below.refl _ w)) (by intro u hu; obtain ⟨x, _, rfl⟩ := List.mem_map.1 hu; rfl) (by unfold maxLen; omega) (by omega) (Nat.le_refl _)
  obtain ⟨v', w1, hrun, hown, hg, -⟩ := hr
  have HR := Lib.hid hrun
  have HO := Lib.hid hown
  have HG := Lib.hid hg
  clear hrun hown hg hs
  go_enter Tryd.func20, Tryd.ntmps20
  go_wp2_with (at_builtin; refine Lib.wpList_append_run _ rfl _ _ _ _ rfl _ _ rfl rfl _ _ HR.out ?_)
  go_ret
  exact ⟨v', rfl, by simpa using HO.out, (Below.refl _ w).grown HG.out (Nat.le_refl _) (by intro k hk; simp [Value.ownBlock] at hk)⟩

theorem group_info : (Tryd.prog.info? 22).map (fun i => (i.zero, i.size, i.bytes)) = some (some (.slice none 0 0), 1, 24) := by kernel_rfl
/-- A row of flags of one's own, in whatever later world. -/
def OwnF (w W : World) (x : Value × List Int) : Prop := Own w W 34 1 x.1 x.2.length (x.2.map (Value.int .u16))
/-- A row of ints of one's own. -/
def OwnI (w W : World) (v : Value) (zs : List Int) : Prop := Own w W 3 1 v zs.length (zs.map (Value.int .i64))
theorem OwnF.fs {w W : World} {x : Value × List Int} (h : OwnF w W x) : FS W x.1 x.2 := (FN.of_own (e := 34) h.own).fs
theorem OwnI.is_ {w W : World} {v : Value} {zs : List Int} (h : OwnI w W v zs) : IS W v zs := IS.of_own (e := 3) h.own
theorem OwnI.call {w W W' : World} {v : Value} {zs : List Int} (h : OwnI w W v zs) (hb : Below W.heap.size W W') : OwnI w W' v zs := Own.call h hb
theorem OwnF.call {w W W' : World} {x : Value × List Int} (h : OwnF w W x) (hb : Below W.heap.size W W') : OwnF w W' x := Own.call h hb
/-- The groups copied so far. -/
structure GivenAt (w W : World) (o : Value) (tv : List (Value × List Int)) (tss : List (List Int)) : Prop where
  own : Own w W 22 1 o tv.length (tv.map (·.1))
  each : ∀ x ∈ tv, OwnF w W x
  same : tv.map (·.2) = tss
theorem GivenAt.call {w W W' : World} {o : Value} {tv : List (Value × List Int)} {tss : List (List Int)} (h : GivenAt w W o tv tss) (hb : Below W.heap.size W W') : GivenAt w W' o tv tss :=
  ⟨h.own.call hb, fun x hx => (h.each x hx).call hb, h.same⟩
theorem GivenAt.gs {w W : World} {o : Value} {tv : List (Value × List Int)} {tss : List (List Int)} (h : GivenAt w W o tv tss) : GS W o tv := by
  have hr := Rd.of_own h.own.own
  obtain ⟨_, A, cap, hv, _, hc⟩ := hr
  refine ⟨A, cap, hv, hc.imp id ?_, fun x hx => (h.each x hx).fs⟩
  rintro ⟨g, o', hA, hcell⟩
  exact ⟨g, o', hA, fun j hj => hcell j _ (by simp [hj])⟩

theorem joinG_same {a b : List (Value × List Int)} (h : a.map (·.2) = b.map (·.2)) : joinG a = joinG b := by
  unfold joinG; rw [List.flatMap_def, List.flatMap_def, h]
theorem foldWith_canon (zs : List Int) : ∀ (tss : List (List Int)) (a : List Int), (∃ l, a = canon l) → ∃ l, tss.foldl (fun s t => canon (s ++ t)) a = canon l
  | [], _, h => h
  | _ :: tss, _, _ => foldWith_canon zs tss _ ⟨_, rfl⟩
theorem foldWith_idem (zs : List Int) (tss : List (List Int)) : canon (foldWith zs tss) = foldWith zs tss := by
  obtain ⟨l, hl⟩ := foldWith_canon zs tss (canon zs) ⟨_, rfl⟩
  unfold foldWith
  rw [hl, canon_idem]
/-- What the reference's folds make: the same. -/
def foldOutsR (zs : List Int) (tss : List (List Int)) : List Int := tss.foldl (fun s t => outs t (canon s)) (canon zs)
theorem foldOutsR_snoc (zs : List Int) (tss : List (List Int)) (t : List Int) : foldOutsR zs (tss ++ [t]) = outs t (canon (foldOutsR zs tss)) := by
  unfold foldOutsR; rw [List.foldl_append]; rfl
theorem foldOuts_same : ∀ (tss : List (List Int)) (a : List Int), tss.foldl (fun s t => outs t (canon s)) (canon a) = tss.foldl (fun s t => canon (outs t s)) (canon a)
  | [], _ => rfl
  | t :: tss, a => by
    simp only [List.foldl_cons]
    have e1 : outs t (canon (canon a)) = canon (outs t a) := by rw [canon_idem, without_law]
    have e2 : canon (outs t (canon a)) = canon (outs t a) := by rw [without_law, canon_idem, without_law]
    rw [e1, e2]
    exact foldOuts_same tss (outs t a)
theorem foldOutsR_eq (zs : List Int) (tss : List (List Int)) : foldOutsR zs tss = foldOuts zs tss := foldOuts_same tss zs
theorem foldOuts_canon : ∀ (tss : List (List Int)) (a : List Int), (∃ l, a = canon l) → ∃ l, tss.foldl (fun s t => canon (outs t s)) a = canon l
  | [], _, h => h
  | _ :: tss, _, _ => foldOuts_canon tss _ ⟨_, rfl⟩
theorem foldOuts_idem (zs : List Int) (tss : List (List Int)) : canon (foldOuts zs tss) = foldOuts zs tss := by
  obtain ⟨l, hl⟩ := foldOuts_canon tss (canon zs) ⟨_, rfl⟩
  unfold foldOuts
  rw [hl, canon_idem]
theorem foldWith_len (zs : List Int) (gs : List (Value × List Int)) (k : Nat) (hk : k < gs.length) (h : (foldWith zs ((gs.take k).map (·.2))).length ≤ zs.length + (joinG (gs.take k)).length) :
    (foldWith zs ((gs.take (k + 1)).map (·.2))).length ≤ zs.length + (joinG (gs.take (k + 1))).length := by
  have hsn : (gs.take (k + 1)).map (·.2) = (gs.take k).map (·.2) ++ [gs[k].2] := by
    rw [List.take_add_one, List.map_append, List.getElem?_eq_getElem hk]; rfl
  rw [hsn, foldWith_snoc, joinG_snoc gs k hk]
  have := canon_le (foldWith zs ((gs.take k).map (·.2)) ++ gs[k].2)
  rw [List.length_append] at this ⊢
  omega
theorem foldWith_bd {zs : List Int} (h : ∀ x ∈ zs, 0 ≤ x ∧ x ≤ 65535) : ∀ (tss : List (List Int)), (∀ t ∈ tss, ∀ x ∈ t, 0 ≤ x ∧ x ≤ 65535) → ∀ x ∈ foldWith zs tss, 0 ≤ x ∧ x ≤ 65535 := by
  unfold foldWith
  have : ∀ (tss : List (List Int)) (a : List Int), (∀ x ∈ a, 0 ≤ x ∧ x ≤ 65535) → (∀ t ∈ tss, ∀ x ∈ t, 0 ≤ x ∧ x ≤ 65535) → ∀ x ∈ tss.foldl (fun s t => canon (s ++ t)) a, 0 ≤ x ∧ x ≤ 65535 := by
    intro tss
    induction tss with
    | nil => intro a ha _; exact ha
    | cons t tss ih =>
      intro a ha ht
      exact ih _ (fun x hx => by
        rcases List.mem_append.1 ((mem_canon _ _).1 hx) with h1 | h1
        · exact ha x h1
        · exact ht t (by simp) x h1) (fun t' ht' => ht t' (by simp [ht']))
  intro tss ht
  exact this tss _ (fun x hx => h x ((mem_canon _ _).1 hx)) ht
theorem foldOuts_bd {zs : List Int} (h : ∀ x ∈ zs, 0 ≤ x ∧ x ≤ 65535) : ∀ (tss : List (List Int)), ∀ x ∈ foldOuts zs tss, 0 ≤ x ∧ x ≤ 65535 := by
  unfold foldOuts
  have : ∀ (tss : List (List Int)) (a : List Int), (∀ x ∈ a, 0 ≤ x ∧ x ≤ 65535) → ∀ x ∈ tss.foldl (fun s t => canon (outs t s)) a, 0 ≤ x ∧ x ≤ 65535 := by
    intro tss
    induction tss with
    | nil => intro a ha; exact ha
    | cons t tss ih =>
      intro a ha
      exact ih _ (fun x hx => ha x ((mem_outs _ _ _).1 ((mem_canon _ _).1 hx)).1)
  intro tss
  exact this tss _ (fun x hx => h x ((mem_canon _ _).1 hx))
theorem foldOuts_len (zs : List Int) : ∀ (tss : List (List Int)), (foldOuts zs tss).length ≤ zs.length := by
  unfold foldOuts
  have : ∀ (tss : List (List Int)) (a : List Int), (tss.foldl (fun s t => canon (outs t s)) a).length ≤ a.length := by
    intro tss
    induction tss with
    | nil => intro a; exact Nat.le_refl _
    | cons t tss ih =>
      intro a
      exact Nat.le_trans (ih _) (Nat.le_trans (canon_le _) (outs_le _ _))
  intro tss
  exact Nat.le_trans (this tss _) (canon_le _)

set_option maxHeartbeats 4000000 in
set_option maxRecDepth 100000 in
theorem folds_walk (v g : Value) (zs : List Int) (gs : List (Value × List Int)) (W : World) (h : FS W v zs) (hg : GS W g gs) (hbd : ∀ x ∈ zs, 0 ≤ x ∧ x ≤ 65535) (hbd2 : ∀ g ∈ gs, ∀ x ∈ g.2, 0 ≤ x ∧ x ≤ 65535)
    (hbig : zs.length ≤ 4194304) (hbig2 : gs.length + (joinG gs).length ≤ 4194304) (hsh : W.ShapedOpen Tryd.prog) :
    Calls Tryd.prog 5 #[v, g] W fun e w' => e = .returned (.bool true) ∧ Below W.heap.size W w' := by
  obtain ⟨m, hm⟩ := maxLen_of W hsh
  obtain ⟨j0, hj, hy0, hy1, hy2⟩ := info_parts group_info
  clear hsh
  have hF := Lib.hid h
  obtain ⟨p, c, rfl, hs, hall⟩ := hg
  have hS := Lib.hid hs
  have hA := Lib.hid hall
  have D1 := Lib.hid hbd
  have D2 := Lib.hid hbd2
  clear h hs hall hbd hbd2
  have hcl := canon_le zs
  go_enter Tryd.func5, Tryd.ntmps5
  go_wp2_with (first
    | (go_at_call 18; refine (so_ints _ zs _ hF.out D1.out (by omega)).mono ?_; rintro e w1 ⟨a, rfl, h1, b1⟩; have A1 := Lib.hid h1; have B1 := Lib.hid b1; clear h1 b1)
    | (go_at_call 17; refine (so_rOfO _ zs _ A1.out (up_bd D1.out) (by omega)).mono ?_; rintro e w2 ⟨a2, rfl, h2, b2⟩; have O2 := Lib.hid (show OwnI W w2 a2 (canon zs) from ⟨B1.out.trans (b2.mono B1.out.size), own_base h2 B1.out.size⟩); clear h2 b2))
  go_loopw [5, 6, 8, 14] (fun q o _ i wr => ∃ (k : Nat) (tv : List (Value × List Int)), k ≤ gs.length ∧ i = .int .i64 k ∧ tv.length = k ∧ Hid (OwnI W wr q (foldWith zs ((gs.take k).map (·.2)))) ∧ Hid (GivenAt W wr o tv ((gs.take k).map (·.2))) ∧ Hid ((foldWith zs ((gs.take k).map (·.2))).length ≤ zs.length + (joinG (gs.take k)).length)) (fun _ _ _ i _ => gs.length - (intOf i).toNat)
  case atStart => exact ⟨0, [], Nat.zero_le _, rfl, rfl, O2.out, ⟨⟨O2.out.below, World.ownsRow_nil _ _ _ _⟩, by simp, rfl⟩, Nat.le_trans hcl (Nat.le_add_right _ _)⟩
  case round =>
    obtain ⟨k, tv, hk, rfl, htl, HQ, HG, HL⟩ := hrel
    have hsz := HQ.out.below.size
    by_cases hlt : k < gs.length
    · obtain ⟨b, off, rfl, hc⟩ := hS.out.resolve_left (by omega)
      have c0 := hc k hlt
      have hm' : gs[k] ∈ gs := List.getElem_mem hlt
      have hcell : wr.cell? ⟨b, off + k, none⟩ = some gs[k].1 := (HQ.out.below.cell (World.block_lt_of_cell? W _ c0)).trans c0
      have HGr := Lib.hid ((hA.out _ hm').keep HQ.out.below)
      have HD := Lib.hid (D2.out _ hm')
      have HFb := Lib.hid (foldWith_bd D1.out ((gs.take k).map (·.2)) (fun t ht x hx => by
        obtain ⟨g', hg', rfl⟩ := List.mem_map.1 ht
        exact D2.out g' (List.mem_of_mem_take hg') x hx))
      have HLn := Lib.hid (foldWith_len zs gs k hlt HL.out)
      have hjs : (joinG (gs.take (k + 1))).length = (joinG (gs.take k)).length + gs[k].2.length := by rw [joinG_snoc gs k hlt, List.length_append]
      have hjl := joinG_le gs (k + 1)
      have hl := HL.out
      have HSN := Lib.hid (show (gs.take (k + 1)).map (·.2) = (gs.take k).map (·.2) ++ [gs[k].2] by
        rw [List.take_add_one, List.map_append, List.getElem?_eq_getElem hlt]; rfl)
      clear hc c0 hm'
      generalize hgk : gs[k] = gk at *
      obtain ⟨gv, gt⟩ := gk
      clear hgk
      dsimp only at hcell hjs
      generalize hfo : foldWith zs ((gs.take k).map (·.2)) = cur at *
      have HFO := Lib.hid hfo
      clear hfo
      have hct : cur.length + gt.length ≤ 8388608 := by omega
      clear hjs hjl hl
      obtain ⟨P, N, C, hgv⟩ : ∃ P N C, gv = .slice P N C := by obtain ⟨p', c', e', _⟩ := HGr.out; exact ⟨_, _, _, e'⟩
      subst hgv
      go_wp2_with (first
        | (go_at_call 18; refine (so_ints _ gt _ HGr.out HD.out (by omega)).mono ?_; rintro e w3 ⟨a3, rfl, h3, b3⟩; have A3 := Lib.hid h3; have Q3 := Lib.hid (HQ.out.call b3); have G3 := Lib.hid (HG.out.call b3); have R3 := Lib.hid (HGr.out.keep b3); clear h3 b3)
        | (go_at_call 19; refine (so_rWithO _ _ cur gt _ Q3.out.is_ A3.out (up_bd HFb.out) (up_bd HD.out) (by omega)).mono ?_; rintro e w4 ⟨a4, rfl, h4, b4⟩; have Q4 := Lib.hid (show OwnI W w4 a4 (canon (cur ++ gt)) from ⟨Q3.out.below.trans (b4.mono Q3.out.below.size), own_base h4 Q3.out.below.size⟩); have G4 := Lib.hid (G3.out.call b4); have R4 := Lib.hid (R3.out.keep b4); clear h4 b4)
        | (go_at_call 20; refine (so_twinO _ gt _ R4.out (by omega)).mono ?_; rintro e w5 ⟨a5, rfl, h5, b5⟩; have Q5 := Lib.hid (Q4.out.call b5); have T5 := Lib.hid (show OwnF W w5 (a5, gt) from ⟨Q4.out.below.trans (b5.mono Q4.out.below.size), own_base h5 Q4.out.below.size⟩); have G5 := Lib.hid (G4.out.call b5); clear h5 b5; obtain ⟨P5, N5, C5, ha5⟩ : ∃ P N C, a5 = .slice P N C := (by obtain ⟨p', c', e', _⟩ := T5.out.fs; exact ⟨_, _, _, e'⟩); subst ha5)
        | (at_builtin; refine wpList_push1 rfl _ _ 39 rfl W.heap.size 22 j0 (.slice none 0 0) 24 Tryd.underlying39 hj hy0 hy1 hy2 rfl _ tv.length _ rfl G5.out.own.own _ rfl rfl (by unfold maxLen; omega) (by omega) G5.out.own.size ?_; intro gg cap2 w6 hown hg6; have Q6 := Lib.hid (show OwnI W w6 a4 (canon (cur ++ gt)) from Q5.out.beside G5.out.own (by decide) hg6); have G6 := Lib.hid (show GivenAt W w6 _ (tv ++ [(_, gt)]) _ from ⟨by simpa using G5.out.own.push hown hg6, fun x hx => (List.mem_append.1 hx).elim (fun hx => (G5.out.each x hx).beside G5.out.own (by decide) hg6) (fun hx => by obtain rfl : x = (_, gt) := (by simpa using hx); exact Own.beside T5.out G5.out.own (by decide) hg6), by rw [List.map_append, G5.out.same]⟩); clear hown hg6))
      go_roundw
      case rel =>
        subst htl; refine ⟨tv.length + 1, _, by omega, by go_num, ?_, Lib.hid (by rw [HSN.out, foldWith_snoc, HFO.out]; exact Q6.out), Lib.hid (by rw [HSN.out]; exact G6.out), HLn.out⟩
        simp
      case measure => simp [intOf]; omega
    · have hke : k = gs.length := by omega
      subst hke
      rw [List.take_length] at HQ HG HL
      have hl := HL.out
      have HFb := Lib.hid (foldWith_bd D1.out (gs.map (·.2)) (fun t ht x hx => by
        obtain ⟨g', hg', rfl⟩ := List.mem_map.1 ht
        exact D2.out g' hg' x hx))
      have HJ := Lib.hid (joinG_same HG.out.same)
      have HJl := Lib.hid (show (zs.length + (joinG tv).length) * 2 ≤ 140737488355328 by rw [HJ.out]; omega)
      have HTl := Lib.hid (show tv.length ≤ 4611686018427387904 by omega)
      obtain ⟨want, hwant⟩ : ∃ c, foldWith zs (gs.map (·.2)) = c := ⟨_, rfl⟩
      have hid0 := foldWith_idem zs (gs.map (·.2))
      rw [hwant] at HQ HFb hl hid0
      have HW := Lib.hid (show canon (foldWith zs (tv.map (·.2))) = want by rw [HG.out.same, hwant]; exact hid0)
      have hwl : want.length ≤ 8388608 := by omega
      clear hwant hid0 hl HL HJ htl
      go_wp2_with (go_at_call 13; refine (so_wakes m _ ((HQ.out.below.cell (World.block_lt_of_cell? W _ hm)).trans hm)).mono ?_; rintro e w5 ⟨rfl, b5⟩; have Q5 := Lib.hid (HQ.out.call b5); have G5 := Lib.hid (HG.out.call b5); clear b5)
      go_wp2_with (go_at_call 20; refine (so_twin _ zs _ (hF.out.keep Q5.out.below) (by omega)).mono ?_; rintro e w6 ⟨x, rfl, h6, b6⟩; have X6 := Lib.hid h6.fs; have Q6 := Lib.hid (Q5.out.call b6); have G6 := Lib.hid (G5.out.call b6); clear h6 b6)
      go_wp2_with (go_at_call 21; refine (so_FoldWith x _ zs tv _ X6.out G6.out.gs HJl.out HTl.out).mono ?_; rw [HW.out]; rintro e w7 ⟨y, rfl, h7, b7⟩; have Y7 := Lib.hid h7.fs; have Q7 := Lib.hid (Q6.out.call b7); clear h7 b7)
      go_wp2_with (go_at_call 14; refine (so_is_same y _ want _ Y7.out Q7.out.is_ HFb.out (by omega)).mono ?_; rintro e w8 ⟨rfl, b8⟩; have Q8 := Lib.hid (Q7.out.call b8); clear b8)
      go_ret
      exact ⟨rfl, Q8.out.below⟩
end Go.Proofs.YtgcnfebifopdnaaDoor
