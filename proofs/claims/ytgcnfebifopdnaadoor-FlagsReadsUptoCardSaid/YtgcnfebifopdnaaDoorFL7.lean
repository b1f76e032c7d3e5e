/-
  Without; Fold of Without over groups; All.
-/
import Derived.Test.YtgcnfebifopdnaaDoorRows
import Derived.Test.YtgcnfebifopdnaaDoorFL6
namespace Go.Proofs.YtgcnfebifopdnaaDoor
open Go.RowKit

theorem compact_le (zs : List Int) : (Lib.compact zs).length ≤ zs.length := by
  unfold Lib.compact Lib.compactUpTo
  rw [List.length_map]
  exact Nat.le_trans (List.length_filter_le _ _) (by simp)
theorem canon_le (zs : List Int) : (canon zs).length ≤ zs.length := by
  have := compact_le (zs.mergeSort fun x y => decide (x ≤ y))
  unfold canon
  simpa using this
theorem outs_le (ts zs : List Int) : (outs ts zs).length ≤ zs.length := List.length_filter_le _ _

set_option maxHeartbeats 1000000 in
theorem so_Without (v u : Value) (zs ts : List Int) (w : World) (h : FS w v zs) (hu : FS w u ts) (hbig : zs.length * 2 ≤ 281474976710656) (hbig2 : ts.length ≤ 4611686018427387904) :
    Calls Tryd.prog 24 #[v, u] w fun e w' => ∃ v', e = .returned v' ∧ FN w.heap.size w' v' (canon (outs ts zs)) ∧ Below w.heap.size w w' := by
  have hF := Lib.hid h
  have hU := Lib.hid hu
  have hol := outs_le ts zs
  clear h hu
  go_enter Tryd.func24, Tryd.ntmps24
  go_wp2_with (go_at_call 39; refine (so_CloneS _ zs _ hF.out hbig).mono ?_; rintro e w1 ⟨v1, rfl, h1, b1⟩)
  have H1 := Lib.hid h1
  have B1 := Lib.hid b1
  clear h1 b1
  go_wp2_with (go_at_call 42; refine (so_DeleteFunc w.heap.size _ _ zs ts _ H1.out (fun w' hb => hU.out.keep (B1.out.trans hb)) (by omega) hbig2).mono ?_; rintro e w2 ⟨v2, rfl, h2, b2⟩)
  have H2 := Lib.hid h2
  have B2 := Lib.hid (B1.out.trans b2)
  have hs2 := B2.out.size
  clear h2 b2
  go_wp2_with (go_at_call 25; refine (so_Of _ _ _ H2.out.fs (by omega)).mono ?_; rintro e w3 ⟨v3, rfl, h3, b3⟩)
  have H3 := Lib.hid (h3.mono hs2)
  have B3 := Lib.hid (B2.out.trans (b3.mono hs2))
  clear h3 b3
  go_wp2
  go_ret
  exact ⟨v3, rfl, H3.out, B3.out⟩

/-- Groups of flags. -/
def GS (w : World) (g : Value) (gs : List (Value × List Int)) : Prop :=
  ∃ (p : Option Addr) (c : Nat), g = .slice p gs.length c ∧ (gs.length = 0 ∨ ∃ b off, p = some ⟨b, off, none⟩ ∧ ∀ j (hj : j < gs.length), w.cell? ⟨b, off + j, none⟩ = some gs[j].1) ∧ ∀ x ∈ gs, FS w x.1 x.2

def foldOuts (zs : List Int) (tss : List (List Int)) : List Int := tss.foldl (fun s t => canon (outs t s)) (canon zs)
theorem foldOuts_snoc (zs : List Int) (tss : List (List Int)) (t : List Int) : foldOuts zs (tss ++ [t]) = canon (outs t (foldOuts zs tss)) := by
  unfold foldOuts; rw [List.foldl_append]; rfl

set_option maxHeartbeats 2000000 in
set_option maxRecDepth 100000 in
theorem so_FoldWithout (v g : Value) (zs : List Int) (gs : List (Value × List Int)) (w : World) (h : FS w v zs) (hg : GS w g gs) (hbig : zs.length * 2 ≤ 281474976710656) (hn : gs.length ≤ 4611686018427387904) (hb2 : ∀ x ∈ gs, x.2.length * 2 ≤ 281474976710656) :
    Calls Tryd.prog 21 #[.func (.func 24) #[] #[], v, g] w fun e w' => ∃ v', e = .returned v' ∧ FN w.heap.size w' v' (canon (foldOuts zs (gs.map (·.2)))) ∧ Below w.heap.size w w' := by
  have hF := Lib.hid h
  have hB2 := Lib.hid hb2
  obtain ⟨p, c, rfl, hs, hall⟩ := hg
  have hS := Lib.hid hs
  have hA := Lib.hid hall
  clear h hb2 hs hall
  have hcl := canon_le zs
  have hnf : ∀ (w : World), (Go.binOp .eql 45 (.func (.func 24) #[] #[]) .nilFunc).run Tryd.prog w = .ok (.bool false) w := fun _ => by kernel_rfl
  go_enter Tryd.func21, Tryd.ntmps21
  go_wp2_with (go_at_call 25; refine (so_Of _ zs _ hF.out hbig).mono ?_; rintro e w1 ⟨v1, rfl, h1, b1⟩)
  have H1 := Lib.hid h1
  have B1 := Lib.hid b1
  clear h1 b1
  go_wp2
  go_loopw [7, 9, 17] (fun s _ i wr => ∃ k : Nat, k ≤ gs.length ∧ i = .int .i64 k ∧ Hid (FS wr s (foldOuts zs ((gs.take k).map (·.2)))) ∧ Hid (Below w.heap.size w wr) ∧ (foldOuts zs ((gs.take k).map (·.2))).length ≤ zs.length) (fun _ _ i _ => gs.length - (intOf i).toNat)
  case atStart => exact ⟨0, Nat.zero_le _, rfl, H1.out.fs, B1.out, hcl⟩
  case round =>
    obtain ⟨k, hk, rfl, HV, HB, hl⟩ := hrel
    by_cases hlt : k < gs.length
    · obtain ⟨b, off, rfl, hc⟩ := hS.out.resolve_left (by omega)
      have c0 := hc k hlt
      have hm : gs[k] ∈ gs := List.getElem_mem hlt
      have hcell : wr.cell? ⟨b, off + k, none⟩ = some gs[k].1 := (HB.out.cell (World.block_lt_of_cell? w _ c0)).trans c0
      have HG := Lib.hid ((hA.out _ hm).keep HB.out)
      have hgl := hB2.out _ hm
      have hsn : (gs.take (k + 1)).map (·.2) = (gs.take k).map (·.2) ++ [gs[k].2] := by
        rw [List.take_add_one, List.map_append, List.getElem?_eq_getElem hlt]; rfl
      have HSN := Lib.hid hsn
      clear hc c0 hsn hm
      generalize hgk : gs[k] = gk at *
      obtain ⟨gv, gt⟩ := gk
      clear hgk
      dsimp only at hcell hgl
      generalize hfo : foldOuts zs ((gs.take k).map (·.2)) = cur at *
      have HFO := Lib.hid hfo
      clear hfo
      obtain ⟨P, N, C, hgv⟩ : ∃ P N C, gv = .slice P N C := by obtain ⟨p', c', e', _⟩ := HG.out; exact ⟨_, _, _, e'⟩
      subst hgv
      go_wp2_with (go_at_call 39; refine (so_CloneS _ cur _ HV.out (by omega)).mono ?_; rintro e w2 ⟨v2, rfl, h2, b2⟩)
      have H2 := Lib.hid h2.fs
      have B2 := Lib.hid b2
      clear h2 b2
      go_wp2_with (go_at_call 40; refine (so_CloneF _ gt _ (HG.out.keep B2.out) hgl).mono ?_; rintro e w3 ⟨v3, rfl, h3, b3⟩)
      have H3 := Lib.hid h3.fs
      have H2' := Lib.hid (H2.out.keep b3)
      have B3 := Lib.hid (B2.out.trans (b3.mono B2.out.size))
      clear h3 b3
      go_wp2_with (go_at_call 24; refine (so_Without _ _ cur gt _ H2'.out H3.out (by omega) (by omega)).mono ?_; rintro e w4 ⟨v4, rfl, h4, b4⟩)
      have H4 := Lib.hid h4.fs
      have B4 := Lib.hid (B3.out.trans (b4.mono B3.out.size))
      have hsz := HB.out.size
      clear h4 b4
      go_wp2
      go_roundw
      case rel =>
        refine ⟨k + 1, by omega, by go_num, ?_, HB.out.trans (B4.out.mono hsz), ?_⟩
        · show FS _ _ _
          rw [HSN.out, foldOuts_snoc, HFO.out]; exact H4.out
        · rw [HSN.out, foldOuts_snoc, HFO.out]
          exact Nat.le_trans (canon_le _) (Nat.le_trans (outs_le _ _) hl)
      case measure => simp [intOf]; omega
    · have hke : k = gs.length := by omega
      subst hke
      rw [List.take_length] at HV hl
      have hsz := HB.out.size
      go_wp2_with (go_at_call 25; refine (so_Of _ _ _ HV.out (by omega)).mono ?_; rintro e w2 ⟨v2, rfl, h2, b2⟩)
      have H2 := Lib.hid (h2.mono hsz)
      have B2 := Lib.hid (HB.out.trans (b2.mono hsz))
      clear h2 b2
      go_wp2
      go_ret
      exact ⟨v2, rfl, H2.out, B2.out⟩
end Go.Proofs.YtgcnfebifopdnaaDoor
