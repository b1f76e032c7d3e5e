/-
  slices.Grow of nil, slices.Concat; With.
-/
import Derived.Test.YtgcnfebifopdnaaRows
import Derived.Test.YtgcnfebifopdnaaFL7
import Derived.Lib.AppendZeros
import Derived.Test.YtgcnfebifopdnaaFLB
namespace Go.Proofs.Ytgcnfebifopdnaa
open Go.RowKit

/-- What Concat has put together so far. -/
def CatS (B total : Nat) (w : World) (s : Value) (cur : List Int) : Prop :=
  (total = 0 ∧ s = .slice none 0 0 ∧ cur = []) ∨ ∃ g cap, s = .slice (some ⟨g, 0, none⟩) cur.length cap ∧ total ≤ cap ∧ w.ownsRow B 26 1 s cur.length (cur.map (Value.int .u16))
theorem CatS.fn {B total : Nat} {w : World} {s : Value} {cur : List Int} (h : CatS B total w s cur) : FN B w s cur := by
  rcases h with ⟨_, rfl, rfl⟩ | ⟨g, cap, rfl, _, h⟩
  · exact FN.nil _ _ _ _
  · exact FN.of_own (e := 26) h
theorem CatS.step {B total : Nat} {w : World} {s : Value} {cur gt : List Int} (h : CatS B total w s cur) (hB : B ≤ w.heap.size) (P : Option Addr) (C : Nat) (ty : TypeId)
    (hsrc : gt.length = 0 ∨ ∃ b off, P = some ⟨b, off, none⟩ ∧ ∀ j, j < gt.length → w.cell? ⟨b, off + j, none⟩ = some (.int .u16 (gt.getD j 0))) (hfit : cur.length + gt.length ≤ total) :
    ∃ v' w', (Builtin.append_ #[23, 23] ty #[s, .slice P gt.length C]).run Try.prog w = .ok v' w' ∧ CatS B total w' v' (cur ++ gt) ∧ Below B w w' := by
  obtain ⟨i0, hi, hz0, hz1, hz2⟩ := info_parts flag_info
  rcases h with ⟨h0, rfl, rfl⟩ | ⟨g, cap, rfl, hc, h⟩
  · have hg : gt = [] := List.eq_nil_of_length_eq_zero (by simp at hfit; omega)
    subst hg
    exact ⟨_, w, run_append_zero w B 23 ty 26 i0 1 Try.underlying23 hi _ 0 [] (World.ownsRow_nil _ _ _ _) P C, .inl ⟨h0, rfl, rfl⟩, Below.refl _ _⟩
  · obtain ⟨w', hrun, hown, hg⟩ := run_append_src_fits (P := Try.prog) w B 23 ty 26 i0 1 Try.underlying23 hi hz1 g cur.length cap _ h P gt.length C (gt.map (Value.int .u16)) (by simp) (FS.news hsrc _ (Below.refl _ w)) (by intro u hu; obtain ⟨x, _, rfl⟩ := List.mem_map.1 hu; rfl) (by omega)
    refine ⟨_, w', hrun, .inr ⟨g, cap, by rw [List.length_append], hc, ?_⟩, (Below.refl _ w).grown hg hB (fun k hk => (h.lt k (by simpa [Value.ownBlock] using hk)).1)⟩
    rw [List.length_append, List.map_append]
    exact hown

set_option maxHeartbeats 2000000 in
set_option maxRecDepth 100000 in
theorem so_Grow (n : Nat) (w : World) (hbig : n * 2 ≤ 281474976710656) :
    Calls Try.prog 28 #[.slice none 0 0, .int .i64 n] w fun e w' => ∃ v', e = .returned v' ∧ CatS w.heap.size n w' v' [] ∧ Below w.heap.size w w' := by
  obtain ⟨i0, hi, hz0, hz1, hz2⟩ := info_parts flag_info
  rcases Nat.eq_zero_or_pos n with h0 | h0
  · subst h0
    go_enter Try.func28, Try.ntmps28
    go_wp2
    go_ret
    exact ⟨_, rfl, .inl ⟨rfl, rfl, rfl⟩, Below.refl _ _⟩
  · have hr := Lib.hid (Lib.run_append_nil_zeros (P := Try.prog) w 23 3 23 26 i0 (.int .u16 0) .i64 .i64 Try.underlying23 Try.underlying3 hi hz0 n h0 (by omega) (by omega) (by rw [hz2]; omega))
    have hcm := Lib.hid (grownCap_le_maxLen w n 0 26 (by unfold maxLen; omega))
    have hcg := grownCap_ge w n 0 26
    generalize hcap : grownCap w n 0 26 = cap at *
    clear hcap
    go_enter Try.func28, Try.ntmps28
    go_wp2_with (at_builtin; refine Lib.wpList_append_run _ rfl _ _ _ _ rfl _ _ rfl rfl _ _ hr.out ?_)
    go_ret
    refine ⟨_, rfl, ?_, ?_⟩
    · have := World.ownsRow_made (base := w.heap.size) (e := 26) (size := 1) w.drew (Builtin.zeroCells (Value.int .u16 0).cells n ++ Builtin.zeroCells (Value.int .u16 0).cells (cap - n)) cap (Nat.le_refl _) hcm.out (by rw [Array.size_append, size_zeroCells, size_zeroCells, show (Value.int IntKind.u16 0).cells.size = 1 from rfl]; omega)
      exact .inr ⟨w.heap.size, cap, rfl, hcg, this⟩
    · exact ((Below.refl w.heap.size w).drew).alloc (Nat.le_refl _) _

/-- All the groups' flags. -/
def joinG (gs : List (Value × List Int)) : List Int := gs.flatMap (·.2)
theorem joinG_snoc (gs : List (Value × List Int)) (k : Nat) (h : k < gs.length) : joinG (gs.take (k + 1)) = joinG (gs.take k) ++ gs[k].2 := by
  unfold joinG
  rw [List.take_add_one, List.flatMap_append, List.getElem?_eq_getElem h]
  simp
theorem joinG_le (gs : List (Value × List Int)) (k : Nat) : (joinG (gs.take k)).length ≤ (joinG gs).length := by
  conv => rhs; rw [← List.take_append_drop k gs]
  unfold joinG
  rw [List.flatMap_append, List.length_append]
  omega

set_option maxHeartbeats 4000000 in
set_option maxRecDepth 100000 in
theorem so_Concat (g : Value) (gs : List (Value × List Int)) (w : World) (hg : GS w g gs) (hn : gs.length ≤ 4611686018427387904) (hbig : (joinG gs).length * 2 ≤ 281474976710656) :
    Calls Try.prog 20 #[g] w fun e w' => ∃ v', e = .returned v' ∧ FN w.heap.size w' v' (joinG gs) ∧ Below w.heap.size w w' := by
  obtain ⟨p, c, rfl, hs, hall⟩ := hg
  have hS := Lib.hid hs
  have hA := Lib.hid hall
  clear hs hall
  go_enter Try.func20, Try.ntmps20
  go_wp2
  go_loop [3, 5, 11] (fun s _ i => ∃ k : Nat, k ≤ gs.length ∧ i = .int .i64 k ∧ s = .int .i64 ((joinG (gs.take k)).length : Nat)) (fun _ _ i => gs.length - (intOf i).toNat)
  case atStart => exact ⟨0, Nat.zero_le _, rfl, rfl⟩
  case round =>
    obtain ⟨k, hk, rfl, rfl⟩ := hrel
    by_cases hlt : k < gs.length
    · obtain ⟨b, off, rfl, hc⟩ := hS.out.resolve_left (by omega)
      have c0 := hc k hlt
      have hm : gs[k] ∈ gs := List.getElem_mem hlt
      have hG := hA.out _ hm
      have hj := joinG_snoc gs k hlt
      have hle := joinG_le gs (k + 1)
      have hle0 := joinG_le gs k
      have hjl : (joinG (gs.take (k + 1))).length = (joinG (gs.take k)).length + gs[k].2.length := by rw [hj, List.length_append]
      have HJ := Lib.hid hjl
      clear hc hm hj hjl
      generalize hgk : gs[k] = gk at *
      obtain ⟨gv, gt⟩ := gk
      clear hgk
      dsimp only at c0 hG
      obtain ⟨P, C, rfl, -⟩ := hG
      have HL := HJ.out
      dsimp only at HL
      generalize ha : (joinG (gs.take k)).length = a at *
      generalize hb : (joinG (gs.take (k + 1))).length = b1 at *
      have HLL := Lib.hid HL
      clear HL HJ
      have hab : a + gt.length ≤ 140737488355328 := by have := HLL.out; omega
      have hpos : ¬ ((a : Int) + (gt.length : Int) < 0) := by omega
      go_wp2
      go_roundw
      case rel => exact ⟨k + 1, by omega, by go_num, by rw [hb, HLL.out]; go_num⟩
      case measure => simp [intOf]; omega
    · have hke : k = gs.length := by omega
      subst hke
      rw [List.take_length]
      go_wp2_with (go_at_call 28; refine (so_Grow _ _ hbig).mono ?_; rintro e w1 ⟨v1, rfl, h1, b1⟩; have H1 := Lib.hid h1; have B1 := Lib.hid b1; clear h1 b1)
      go_loopw [6, 8, 27] (fun s _ i wr => ∃ k : Nat, k ≤ gs.length ∧ i = .int .i64 k ∧ Hid (CatS w.heap.size (joinG gs).length wr s (joinG (gs.take k))) ∧ Hid (Below w.heap.size w wr)) (fun _ _ i _ => gs.length - (intOf i).toNat)
      case atStart => exact ⟨0, Nat.zero_le _, rfl, H1.out, B1.out⟩
      case round =>
        obtain ⟨k, hk, rfl, HO, HB⟩ := hrel
        by_cases hlt : k < gs.length
        · obtain ⟨b, off, rfl, hc⟩ := hS.out.resolve_left (by omega)
          have c0 := hc k hlt
          have hcell : wr.cell? ⟨b, off + k, none⟩ = some gs[k].1 := (HB.out.cell (World.block_lt_of_cell? w _ c0)).trans c0
          have hm : gs[k] ∈ gs := List.getElem_mem hlt
          have hG := (hA.out _ hm).keep HB.out
          have HJ := Lib.hid (joinG_snoc gs k hlt)
          have hle := joinG_le gs (k + 1)
          clear hc hm c0
          generalize hgk : gs[k] = gk at *
          obtain ⟨gv, gt⟩ := gk
          clear hgk
          dsimp only at hcell hG
          obtain ⟨P, C, rfl, hcap, hsrc⟩ := hG
          have HSR := Lib.hid hsrc
          clear hsrc
          have hlen : (joinG (gs.take k)).length + gt.length ≤ (joinG gs).length := by
            have := HJ.out
            dsimp only at this
            rw [this, List.length_append] at hle
            exact hle
          have hsz := HB.out.size
          obtain ⟨v', w2, hrun, hcat, hb2⟩ := HO.out.step hsz P C 23 HSR.out hlen
          have HR := Lib.hid hrun
          have HW := Lib.hid hcat
          have HG := Lib.hid (HB.out.trans hb2)
          clear hrun hcat hb2
          go_wp2_with (at_builtin; refine Lib.wpList_append_run _ rfl _ _ _ _ rfl _ _ rfl rfl _ _ HR.out ?_)
          go_roundw
          case rel =>
            refine ⟨k + 1, by omega, by go_num, ?_, HG.out⟩
            show CatS _ _ _ _ _
            have := HJ.out
            dsimp only at this
            rw [this]
            exact HW.out
          case measure => simp [intOf]; omega
        · have hke : k = gs.length := by omega
          subst hke
          rw [List.take_length] at HO
          go_wp2
          go_ret
          exact ⟨_, rfl, HO.out.fn, HB.out⟩

set_option maxHeartbeats 1000000 in
set_option maxRecDepth 100000 in
theorem so_With (v u : Value) (zs ts : List Int) (w : World) (h : FS w v zs) (hu : FS w u ts) (hbig : (zs.length + ts.length) * 2 ≤ 281474976710656) :
    Calls Try.prog 11 #[v, u] w fun e w' => ∃ v', e = .returned v' ∧ FN w.heap.size w' v' (canon (zs ++ ts)) ∧ Below w.heap.size w w' := by
  have hF := Lib.hid h
  have hU := Lib.hid hu
  obtain ⟨p, c, rfl, hcap, -⟩ := h
  obtain ⟨p2, c2, rfl, hcap2, -⟩ := hu
  have hg := Lib.hid (show GS (w.alloc (.cells #[.slice p zs.length c, .slice p2 ts.length c2] 23)) (.slice (some ⟨w.heap.size, 0, none⟩) 2 2) [(.slice p zs.length c, zs), (.slice p2 ts.length c2, ts)] from
    ⟨_, 2, rfl, .inr ⟨w.heap.size, 0, rfl, fun j hj => by
      have : j = 0 ∨ j = 1 := by simp at hj; omega
      rcases this with rfl | rfl <;> simp⟩, fun x hx => by
      have : x = (.slice p zs.length c, zs) ∨ x = (.slice p2 ts.length c2, ts) := by simpa using hx
      rcases this with rfl | rfl
      · exact hF.out.keep ((Below.refl _ _).alloc (Nat.le_refl _) _)
      · exact hU.out.keep ((Below.refl _ _).alloc (Nat.le_refl _) _)⟩)
  have hj := Lib.hid (show joinG [((Value.slice p zs.length c), zs), ((Value.slice p2 ts.length c2), ts)] = zs ++ ts by simp [joinG])
  have hjl := Lib.hid (show (joinG [((Value.slice p zs.length c), zs), ((Value.slice p2 ts.length c2), ts)]).length * 2 ≤ 281474976710656 by rw [hj.out, List.length_append]; exact hbig)
  go_enter Try.func11, Try.ntmps11
  go_wp2_with (go_at_call 20; refine (so_Concat _ _ _ hg.out (by simp) hjl.out).mono ?_; rw [hj.out]; rintro e w1 ⟨v1, rfl, h1, b1⟩; have H1 := Lib.hid h1.fs; have B1 := Lib.hid (((Below.refl w.heap.size w).alloc (Nat.le_refl _) _).trans (b1.mono (by simp))); clear h1 b1)
  have hs1 := B1.out.size
  go_wp2_with (go_at_call 7; refine (so_Of _ _ _ H1.out (by rw [List.length_append]; exact hbig)).mono ?_; rintro e w2 ⟨v2, rfl, h2, b2⟩; have H2 := Lib.hid (h2.mono hs1); have B2 := Lib.hid (B1.out.trans (b2.mono hs1)); clear h2 b2)
  go_wp2
  go_ret
  exact ⟨v2, rfl, H2.out, B2.out⟩
end Go.Proofs.Ytgcnfebifopdnaa
