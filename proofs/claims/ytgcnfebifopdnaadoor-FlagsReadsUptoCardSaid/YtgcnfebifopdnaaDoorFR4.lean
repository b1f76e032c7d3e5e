/-
  The reference's Of, walked.
-/
import Derived.Test.YtgcnfebifopdnaaDoorRows
import Derived.Test.YtgcnfebifopdnaaDoorFR1
import Derived.Test.YtgcnfebifopdnaaDoorFR3
import Derived.Deep.LoopGhost
namespace Go.Proofs.YtgcnfebifopdnaaDoor
open Go.RowKit

theorem best_next (last : Int) (zs : List Int) (k : Nat) (h : k < zs.length) : best last (zs.take (k + 1)) = bestStep last (best last (zs.take k)) (zs.getD k 0) := by
  have e : zs.take (k + 1) = zs.take k ++ [zs[k]] := by rw [List.take_add_one, List.getElem?_eq_getElem h]; rfl
  rw [e, best_snoc]
  simp [List.getD, h]

set_option maxHeartbeats 4000000 in
set_option maxRecDepth 100000 in
theorem so_rOf (v : Value) (zs : List Int) (w : World) (h : IS w v zs) (h0 : ∀ x ∈ zs, 0 ≤ x ∧ x ≤ 4611686018427387904) (hbig : zs.length * 8 ≤ 140737488355328) :
    Calls Tryd.prog 17 #[v] w fun e w' => ∃ v', e = .returned v' ∧ IS w' v' (canon zs) ∧ Below w.heap.size w w' := by
  obtain ⟨i0, hi, hz0, hz1, hz2⟩ := info_parts int_info
  obtain ⟨p, c, rfl, hcap, hs⟩ := h
  have hS := Lib.hid hs
  have hD := Lib.hid h0
  have hcl := canon_le zs
  have HBC := Lib.hid (best_canon zs (fun x hx => (h0 x hx).1))
  clear hs h0
  generalize hN : (canon zs).length = N at *
  have HN := Lib.hid hN
  clear hN
  go_enter Tryd.func17, Tryd.ntmps17
  go_wp2
  go_loopg [3, 4, 5, 6] N (fun g s3 s4 _ _ wr => ∃ m : Nat, m ≤ N ∧ N - m ≤ g ∧ s4 = .int .i64 (lastOf zs m) ∧ Hid (wr.ownsRow w.heap.size 3 1 s3 m (((canon zs).take m).map (Value.int .i64))) ∧ Hid (Below w.heap.size w wr))
  case atStart => exact ⟨0, Nat.zero_le _, by omega, rfl, World.ownsRow_nil _ _ _ _, Below.refl _ _⟩
  case round =>
    obtain ⟨m, hm, hg, rfl, HO, HB⟩ := hrel
    have hsz := HB.out.size
    go_wp2
    go_loopw [5, 6] (fun nx i W => ∃ k : Nat, k ≤ zs.length ∧ i = .int .i64 k ∧ W = wr ∧ nx = .int .i64 (best (lastOf zs m) (zs.take k))) (fun _ i _ => zs.length - (intOf i).toNat)
    case atStart => exact ⟨0, Nat.zero_le _, rfl, rfl, rfl⟩
    case round =>
      obtain ⟨k, hk, rfl, hW, rfl⟩ := hrel
      subst hW
      by_cases hlt : k < zs.length
      · obtain ⟨b, off, rfl, hc⟩ := hS.out.resolve_left (by omega)
        have c0 := hc k hlt
        have hcell := (HB.out.cell (World.block_lt_of_cell? w _ c0)).trans c0
        have HNX := Lib.hid (best_next (lastOf zs m) zs k hlt)
        clear hc c0
        generalize zs.getD k 0 = x at *
        generalize best (lastOf zs m) (zs.take k) = nx at *
        generalize lastOf zs m = l at *
        by_cases h1 : l < x
        · by_cases h2 : nx < 0
          · go_wp2
            go_roundw
            case rel => exact ⟨k + 1, by omega, by go_num, (by trivial), by rw [HNX.out, bestStep, if_pos ⟨h1, .inl h2⟩]⟩
            case measure => simp [intOf]; omega
          · by_cases h3 : x < nx
            · go_wp2
              go_roundw
              case rel => exact ⟨k + 1, by omega, by go_num, (by trivial), by rw [HNX.out, bestStep, if_pos ⟨h1, .inr h3⟩]⟩
              case measure => simp [intOf]; omega
            · go_wp2
              go_roundw
              case rel => exact ⟨k + 1, by omega, by go_num, (by trivial), by rw [HNX.out, bestStep, if_neg (by omega)]⟩
              case measure => simp [intOf]; omega
        · go_wp2
          go_roundw
          case rel => exact ⟨k + 1, by omega, by go_num, (by trivial), by rw [HNX.out, bestStep, if_neg (by omega)]⟩
          case measure => simp [intOf]; omega
      · have hke : k = zs.length := by omega
        subst hke
        rw [List.take_length]
        have hb := HBC.out m hm
        by_cases hmN : m < N
        · have hlc : m < (canon zs).length := by rw [HN.out]; exact hmN
          rw [if_pos hmN] at hb
          have hcm : (canon zs).getD m 0 = (canon zs)[m] := by simp [List.getD, hlc]
          have hpos := (hD.out _ ((mem_canon _ _).1 (List.getElem_mem hlc))).1
          have hle := (hD.out _ ((mem_canon _ _).1 (List.getElem_mem hlc))).2
          rw [hcm] at hb
          have HM := Lib.hid (show ((canon zs).take (m + 1)).map (Value.int .i64) = ((canon zs).take m).map (Value.int .i64) ++ [Value.int .i64 (canon zs)[m]] by rw [List.take_add_one, List.getElem?_eq_getElem hlc, List.map_append]; rfl)
          have HL := Lib.hid (show lastOf zs (m + 1) = (canon zs)[m] by unfold lastOf; rw [if_neg (by omega), Nat.add_sub_cancel, hcm])
          rw [hb]
          clear hb hcm
          generalize (canon zs)[m] = y at *
          have hneg : ¬ y < 0 := by omega
          go_wp2_with (at_builtin; refine wpList_push1 rfl _ _ 27 rfl w.heap.size 3 i0 (.int .i64 0) 8 Tryd.underlying27 hi hz0 hz1 hz2 rfl _ m _ rfl HO.out _ rfl rfl ?c3 ?c4 hsz ?_)
          case c3 => unfold maxLen; omega
          case c4 => omega
          intro gg cap w2 hown hg2
          have HO2 := Lib.hid hown
          have HB2 := Lib.hid (below_push HB.out HO.out hg2 (Nat.le_refl _) hsz)
          clear hown hg2
          go_wp2
          go_roundg (N - (m + 1))
          case measure => omega
          case rel => exact ⟨m + 1, by omega, Nat.le_refl _, by rw [HL.out], (by show World.ownsRow _ _ _ _ _ _ _; rw [HM.out, List.map_take]; exact HO2.out), HB2.out⟩
        · have hmN' : m = N := by omega
          subst hmN'
          rw [if_neg hmN] at hb
          rw [hb]
          go_wp2
          go_ret
          exact ⟨_, rfl, IS.of_own (e := 3) (by have := HO.out; rw [← HN.out, List.take_length] at this; exact this), HB.out⟩
end Go.Proofs.YtgcnfebifopdnaaDoor
