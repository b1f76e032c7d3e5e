/-
  FlagsAnyAll walked.
-/
import Derived.Test.YtgcnfebifopdnaaRows
import Derived.Test.YtgcnfebifopdnaaFL8
import Derived.Test.YtgcnfebifopdnaaFL9
namespace Go.Proofs.Ytgcnfebifopdnaa
open Go.RowKit

/-- A slice that is written out. -/
theorem fs_built (w : World) (zs : List Int) (cur : Array Value) (n : Nat) (ty : TypeId) (hc : cur = (zs.map (Value.int .u16)).toArray) (hn : n = zs.length) : FS (w.alloc (.cells cur ty)) (.slice (some ⟨w.heap.size, 0, none⟩) n n) zs := by
  subst hc hn
  refine ⟨_, zs.length, rfl, Nat.le_refl _, .inr ⟨w.heap.size, 0, rfl, fun j hj => ?_⟩⟩
  simp [List.getD, hj]

set_option maxHeartbeats 4000000 in
set_option maxRecDepth 1000000 in
theorem anyAll_walk (v u : Value) (zs ts : List Int) (w : World) (h : FS w v zs) (hu : FS w u ts) (hbig : zs.length * 2 ≤ 140737488355328) (hbig2 : ts.length * 2 ≤ 140737488355328) :
    Calls Try.prog 3 #[v, u] w fun e w' => e = .returned (.bool true) ∧ Below w.heap.size w w' := by
  have hF := Lib.hid h
  have hU := Lib.hid hu
  obtain ⟨p, c, rfl, hcap, hs⟩ := hu
  have hS := Lib.hid hs
  clear h hs
  have n5 := Lib.hid (show (canon [5]).length ≤ 4 from Nat.le_trans (canon_le _) (by decide))
  have n56 := Lib.hid (show (canon [5, 6]).length ≤ 4 from Nat.le_trans (canon_le _) (by decide))
  have t5 := Lib.hid (show (canon [5]).contains 5 = true by rw [contains_iff, mem_canon]; decide)
  have t56 := Lib.hid (show ([6, 7] : List Int).any (fun z => (canon [5, 6]).contains z) = true by rw [List.any_eq_true]; exact ⟨6, by decide, by rw [contains_iff, mem_canon]; decide⟩)
  have f56 := Lib.hid (show ((canon (foldOuts (canon [6, 7]) [canon [5, 6]])).length == 0) = false by
    rw [all_law, List.all_eq_false]
    refine ⟨7, by decide, ?_⟩
    rw [contains_iff, mem_canon]; decide)
  have hal := Lib.hid (all_law zs ts)
  go_enter Try.func3, Try.ntmps3
  go_wp2_with (go_at_call 5; refine (so_twin _ zs _ hF.out hbig).mono ?_; rintro e w1 ⟨v1, rfl, h1, b1⟩)
  have H1 := Lib.hid h1.fs
  have B1 := Lib.hid b1
  have hs1 := b1.size
  clear h1 b1
  go_wp2
  go_loopw [6, 7, 9, 10, 15] (fun one all _ _ i wr => ∃ k : Nat, k ≤ ts.length ∧ i = .int .i64 k ∧ wr = w1 ∧ one = .bool ((ts.take k).any fun z => zs.contains z) ∧ all = .bool ((ts.take k).all fun z => zs.contains z)) (fun _ _ _ _ i _ => ts.length - (intOf i).toNat)
  case atStart => exact ⟨0, Nat.zero_le _, rfl, rfl, rfl, rfl⟩
  case round =>
    obtain ⟨k, hk, rfl, rfl, rfl, rfl⟩ := hrel
    by_cases hlt : k < ts.length
    · obtain ⟨b, off, rfl, hc⟩ := hS.out.resolve_left (by omega)
      have c0 := hc k hlt
      have hcell : wr.cell? ⟨b, off + k, none⟩ = some (.int .u16 (ts.getD k 0)) := (B1.out.cell (World.block_lt_of_cell? w _ c0)).trans c0
      clear hc c0
      have hany : (ts.take (k + 1)).any (fun z => zs.contains z) = ((ts.take k).any (fun z => zs.contains z) || zs.contains (ts.getD k 0)) := by
        rw [List.take_add_one, List.any_append]; simp [List.getD, hlt]
      have hall : (ts.take (k + 1)).all (fun z => zs.contains z) = ((ts.take k).all (fun z => zs.contains z) && zs.contains (ts.getD k 0)) := by
        rw [List.take_add_one, List.all_append]; simp [List.getD, hlt]
      have HANY := Lib.hid hany
      have HALL := Lib.hid hall
      clear hany hall
      generalize hz : ts.getD k 0 = z at *
      clear hz
      generalize hq : zs.contains z = q at *
      have HQ := Lib.hid hq
      clear hq
      generalize ha : ((ts.take k).any fun z => zs.contains z) = a at *
      generalize hb : ((ts.take k).all fun z => zs.contains z) = b' at *
      clear ha hb
      cases a <;> cases b' <;> cases q
      all_goals
        go_wp2_with (go_at_call 6; refine (so_Has _ zs z _ H1.out (by omega)).mono ?_; rw [HQ.out]; rintro e w' ⟨rfl, rfl⟩)
        go_roundw
        case rel => exact ⟨k + 1, by omega, by go_num, (by trivial), by rw [HANY.out]; rfl, by rw [HALL.out]; rfl⟩
        case measure => simp [intOf]; omega
    · have hke : k = ts.length := by omega
      subst hke
      rw [List.take_length]
      generalize hone : (ts.any fun z => zs.contains z) = one
      generalize hall : (ts.all fun z => zs.contains z) = all
      have HONE := Lib.hid hone
      have HALL := Lib.hid hall
      clear hone hall
      go_wp2_with (go_at_call 7; refine (so_Of _ [5] _ (fs_built _ _ _ _ _ rfl rfl) (by decide)).mono ?_; rintro e w2 ⟨v2, rfl, h2, b2⟩)
      have B2 := Lib.hid (((Below.refl wr.heap.size wr).alloc (Nat.le_refl _) _).trans (b2.mono (by simp)))
      have H2 := Lib.hid h2.fs
      clear h2 b2
      go_wp2_with (go_at_call 6; refine (so_Has _ _ 5 _ H2.out (by have := n5.out; omega)).mono ?_; rw [t5.out]; rintro e w' ⟨rfl, hw⟩; obtain rfl : w2 = w' := hw.symm)
      have hs2 := B2.out.size
      go_wp2_with (go_at_call 7; refine (so_Of _ [5, 6] _ (fs_built _ _ _ _ _ rfl rfl) (by decide)).mono ?_; rintro e w3 ⟨v3, rfl, h3, b3⟩)
      have B3 := Lib.hid ((B2.out.alloc hs2 _).trans (b3.mono (by simp; omega)))
      have H3 := Lib.hid h3.fs
      clear h3 b3
      have hs3 := B3.out.size
      have K3 := Lib.hid (H3.out.keep ((Below.refl _ _).alloc (Nat.le_refl _) (.cells #[.int .u16 6, .int .u16 7] 26)))
      go_wp2_with (go_at_call 8; refine (so_Any _ _ [6, 7] _ _ (fs_built _ _ _ _ _ rfl rfl) K3.out (by decide) (by have := n56.out; omega)).mono ?_; rw [t56.out]; rintro e w4 ⟨rfl, hw⟩; have B4 := Lib.hid (show Below wr.heap.size wr w4 by rw [hw]; exact B3.out.alloc hs3 _); clear hw)
      have hs4 := B4.out.size
      go_wp2_with (go_at_call 7; refine (so_Of _ [5, 6] _ (fs_built _ _ _ _ _ rfl rfl) (by decide)).mono ?_; rintro e w5 ⟨v5, rfl, h5, b5⟩)
      have B5 := Lib.hid ((B4.out.alloc hs4 _).trans (b5.mono (by simp; omega)))
      have H5 := Lib.hid h5.fs
      clear h5 b5
      have hs5 := B5.out.size
      have K5 := Lib.hid (H5.out.keep ((Below.refl _ _).alloc (Nat.le_refl _) (.cells #[.int .u16 6, .int .u16 7] 26)))
      go_wp2_with (go_at_call 9; refine (so_All _ _ _ [6, 7] _ K5.out (fs_built _ _ _ _ _ rfl rfl) (by have := n56.out; omega) (by decide)).mono ?_; rw [f56.out]; rintro e w6 ⟨rfl, b6⟩)
      have B6 := Lib.hid ((B5.out.alloc hs5 _).trans (b6.mono (by simp; omega)))
      clear b6
      have hs6 := B6.out.size
      go_wp2_with (go_at_call 5; refine (so_twin _ ts _ ((hU.out.keep B1.out).keep B6.out) hbig2).mono ?_; rintro e w7 ⟨v7, rfl, h7, b7⟩)
      have B7 := Lib.hid (B6.out.trans (b7.mono hs6))
      have H7 := Lib.hid h7.fs
      clear h7 b7
      have hs7 := B7.out.size
      go_wp2_with (go_at_call 8; refine (so_Any _ _ ts zs _ H7.out (H1.out.keep B7.out) (by omega) (by omega)).mono ?_; rw [HONE.out]; rintro e w8 ⟨rfl, hw⟩; obtain rfl : w7 = w8 := hw.symm)
      go_wp2_with (go_at_call 5; refine (so_twin _ ts _ ((hU.out.keep B1.out).keep B7.out) hbig2).mono ?_; rintro e w9 ⟨v9, rfl, h9, b9⟩)
      have B9 := Lib.hid (B7.out.trans (b9.mono hs7))
      have H9 := Lib.hid h9.fs
      clear h9 b9
      go_wp2_with (go_at_call 9; refine (so_All _ _ zs ts _ (H1.out.keep B9.out) H9.out (by omega) (by omega)).mono ?_; rw [hal.out, HALL.out]; rintro e wA ⟨rfl, bA⟩)
      have BA := Lib.hid (B1.out.trans ((B9.out.trans (bA.mono B9.out.size)).mono hs1))
      clear bA
      go_wp2
      go_ret
      exact ⟨by simp, BA.out⟩
end Go.Proofs.Ytgcnfebifopdnaa
