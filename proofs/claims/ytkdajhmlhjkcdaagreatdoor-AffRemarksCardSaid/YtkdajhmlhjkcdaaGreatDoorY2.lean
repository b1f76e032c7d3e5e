/-
  Parts of the proof: AL14.
-/
import Derived.BigQuiet
import Derived.WalkLawsBesides
import Derived.Test.YtkdajhmlhjkcdaaGreatDoorRows
import Derived.Test.YtkdajhmlhjkcdaaGreatDoorY1
set_option linter.unusedVariables false
set_option linter.unusedSimpArgs false
namespace Go.Proofs.YtkdajhmlhjkcdaaGreatDoor
open Go.RowKit Go.Maps
theorem strV_one (l : List ByteArray) : ∀ u ∈ strV l, u.oneCell' = true := by
  intro u hu
  simp only [strV, List.mem_map] at hu
  obtain ⟨x, _, rfl⟩ := hu
  rfl
theorem three_src (W : World) (g : Nat) (A : Array Value) (t : TypeId) (h : W.heap[g]? = some (.cells A t (0, 0))) : 3 = 0 ∨ ∃ ad, some (⟨g, 0, none⟩ : Addr) = some ad ∧ ∀ j u, A.toList[j]? = some u → W.cell? (ad.add j) = some u := by
  refine .inr ⟨_, rfl, fun j u hj => ?_⟩
  rw [Addr.add_lit, Nat.zero_add, Lib.cell_of_heap h]
  simpa using hj
def noteL (l : List UInt8) : List UInt8 := l.filter (fun c => c != 10)
theorem at_data (r : ByteArray) (j : Nat) (h : j < r.size) : r.data.toList[j]'(by simpa using h) = r[j] := by
  simp [ByteArray.getElem_eq_getElem_data]
theorem one_at (r : ByteArray) (j : Nat) (h : j < r.size) : (r.extract j (j + 1)).data.toList = [r[j]] := by
  have h' : j < r.data.toList.length := by simpa using h
  have e : (r.extract j (j + 1)).data.toList = (r.data.toList.drop j).take 1 := by simp
  rw [e, List.drop_eq_getElem_cons h', List.take_succ_cons, List.take_zero, at_data r j h]
theorem note_skip (r : ByteArray) (j : Nat) (h : j < r.size) (hc : r[j] = 10) : noteL (r.data.toList.take (j + 1)) = noteL (r.data.toList.take j) := by
  have h' : j < r.data.toList.length := by simpa using h
  rw [List.take_add_one, List.getElem?_eq_getElem h', at_data r j h, hc]
  simp [noteL]
theorem note_put (r : ByteArray) (j : Nat) (h : j < r.size) (hc : r[j] ≠ 10) : noteL (r.data.toList.take (j + 1)) = noteL (r.data.toList.take j) ++ [r[j]] := by
  have h' : j < r.data.toList.length := by simpa using h
  rw [List.take_add_one, List.getElem?_eq_getElem h', at_data r j h]
  simp [noteL, hc]
set_option maxHeartbeats 8000000 in
set_option maxRecDepth 100000 in
theorem affRemarks_walk (t r : ByteArray) (at_ : Int) (m0 : Int) (w : World) (h0 : 0 < w.heap.size) (hm : w.cell? ⟨0, 0, none⟩ = some (.int .i64 m0)) (hs : r.size ≤ 140737488351232) :
    Calls Tryz.prog 6 #[.string t, .int .i64 at_, .string r] w fun e w' => e = .returned (.bool true) ∧ Below w.heap.size w w' := by
  have HF : Hid (∀ x W, Below w.heap.size w W → Calls Tryz.prog 12 #[.string x] W (ReadP x.data.toList W)) := Lib.hid (fun x W hW => so_affRead x m0 W (Nat.lt_of_lt_of_le h0 hW.size) ((hW.cell (World.block_lt_of_cell? _ _ hm)).trans hm))
  have HW := Lib.hid (so_wakes m0 w h0 hm)
  have HSp : Hid (∀ W, Calls Tryz.prog 24 #[.string t] W fun e W' => ∃ v, e = .returned (.tuple #[v, .int .i64 (codeS t)]) ∧ Own W W' 9 1 v (splitS t).length (strV (splitS t))) := Lib.hid (fun W => Split01_any t W)
  clear h0 hm
  by_cases hbig : 65536 < t.size
  · unfold codeS at HSp
    rw [if_pos hbig] at HSp
    clear hbig
    go_enter Tryz.func6, Tryz.ntmps6
    go_wp2_with fail
    refine HW.out.mono ?_
    rintro e w1 ⟨rfl, hb1⟩
    have HB1 := Lib.hid hb1
    clear hb1
    go_wp2_with fail
    refine (HSp.out _).mono ?_
    rintro e w2 ⟨v2, rfl, ho2⟩
    have HB2 := Lib.hid (HB1.out.trans (ho2.below.mono HB1.out.size))
    clear ho2
    go_wp2_with fail
    go_ret
    exact ⟨by simp, HB2.out⟩
  have hcode : codeS t = 0 := by unfold codeS; rw [if_neg hbig]
  have hspl : splitS t = (linesOf t.data.toList).map mkS := by unfold splitS; rw [if_neg hbig]
  have hle : t.data.toList.length ≤ 65536 := by rw [len_toList]; omega
  rw [hcode, hspl, List.length_map] at HSp
  have hNo := linesOf_no t.data.toList
  have hcnt : (linesOf t.data.toList).length ≤ 65536 := by
    have := eachOf_len t.data.toList
    rw [eachOf, if_neg (by omega), numbered_len] at this
    exact this
  have hjl : (jn (linesOf t.data.toList)).length ≤ 4295098368 := by
    have h1 := jn_len 65536 (linesOf t.data.toList) (fun l hl => Nat.le_trans (linesFrom_each _ _ l hl) (Nat.le_trans (unmarked_le _) hle))
    have h2 : (linesOf t.data.toList).length * (65536 + 2) ≤ 65536 * (65536 + 2) := Nat.mul_le_mul_right _ hcnt
    omega
  obtain ⟨mk, hmk⟩ : ∃ b, Lib.hasPrefix t.data.toList mark3 = b := ⟨_, rfl⟩
  obtain ⟨L, hL⟩ : ∃ L, linesOf t.data.toList = L := ⟨_, rfl⟩
  rw [hL] at HSp hNo hcnt hjl
  have HNo := Lib.hid hNo
  obtain ⟨n, hn⟩ : ∃ n, L.length = n := ⟨_, rfl⟩
  have HN := Lib.hid hn
  rw [hn] at HSp hcnt
  have HMk2 : Hid (∀ W, Calls Tryz.prog 25 #[.string t] W fun e w' => e = .returned (.bool mk) ∧ W = w') := Lib.hid (fun W => Marked_is t W mk hmk)
  clear hbig hcode hspl hle hNo hL hn hmk
  cases mk
  rotate_left
  · go_enter Tryz.func6, Tryz.ntmps6
    go_wp2_with fail
    refine HW.out.mono ?_
    rintro e w1 ⟨rfl, hb1⟩
    have HB1 := Lib.hid hb1
    clear hb1
    go_wp2_with fail
    refine (HSp.out _).mono ?_
    rintro e w2 ⟨v2, rfl, ho2⟩
    have HB2 := Lib.hid (HB1.out.trans (ho2.below.mono HB1.out.size))
    clear ho2
    go_wp2_with (go_at_call 25; refine (HMk2.out _).mono ?_; rintro e9 w9 ⟨rfl, rfl⟩)
    go_ret
    exact ⟨by simp, HB2.out⟩
  go_enter Tryz.func6, Tryz.ntmps6
  go_wp2_with fail
  refine HW.out.mono ?_
  rintro e w1 ⟨rfl, hb1⟩
  have HB1 := Lib.hid hb1
  clear hb1
  go_wp2_with fail
  refine (HSp.out _).mono ?_
  rintro e w2 ⟨v2, rfl, ho2⟩
  obtain ⟨A2, cp2, rfl⟩ := own_slice ho2.own
  have HB2 := Lib.hid (HB1.out.trans (ho2.below.mono HB1.out.size))
  have HRd2 := Lib.hid (Rd.of_own ho2.own)
  have hcap : n ≤ cp2 := by
    obtain ⟨-, A', c', hv, hc', -⟩ := HRd2.out
    cases hv; exact hc'
  clear ho2
  go_wp2_with (go_at_call 25; refine (HMk2.out _).mono ?_; rintro e9 w9 ⟨rfl, rfl⟩)
  obtain ⟨k, hk, hkn⟩ : ∃ k : Nat, max 0 (min at_ (n : Int)) = (k : Int) ∧ k ≤ n := ⟨(max 0 (min at_ (n : Int))).toNat, by omega, by omega⟩
  rw [hk]
  clear hk HW HSp HMk2
  go_loop [9, 10] (fun x i => ∃ (j : Nat) (T : ByteArray), j ≤ r.size ∧ i = .int .i64 j ∧ x = .string T ∧ Hid (T.data.toList = 35 :: noteL (r.data.toList.take j)) ∧ T.size ≤ j + 1) (fun _ i => r.size - (intOf i).toNat)
  case atStart => exact ⟨0, _, Nat.zero_le _, rfl, rfl, Lib.hid rfl, by decide⟩
  case round =>
  obtain ⟨j, T, hj, rfl, rfl, HT, hTz⟩ := hrel
  by_cases hlt : j < r.size
  · have hz : T.size + (r.extract j (j + 1)).size ≤ 9223372036854775807 := by
      have : (r.extract j (j + 1)).size = 1 := by rw [← ByteArray.size_data, ← Array.length_toList, one_at r j hlt]; rfl
      omega
    by_cases hb : r[j] = 10
    · have hbb : ((r[j].toNat : Int) != 10) = false := by rw [hb]; rfl
      have HE := Lib.hid (note_skip r j hlt hb)
      clear hb
      go_wp2_with fail
      go_round
      case rel => exact ⟨j + 1, T, by omega, by go_num, rfl, Lib.hid (by rw [HT.out, HE.out]), by omega⟩
      case measure => simp [intOf]; omega
    have hbb : ((r[j].toNat : Int) != 10) = true := by
      rw [bne_iff_ne]
      intro h
      exact hb (by rw [← UInt8.toNat_inj]; exact_mod_cast h)
    have HE := Lib.hid (note_put r j hlt hb)
    have HO := Lib.hid (one_at r j hlt)
    clear hb
    go_wp2_with fail
    go_round
    case rel =>
      refine ⟨j + 1, _, by omega, by go_num, rfl, Lib.hid ?_, ?_⟩
      · rw [ByteArray.data_append, Array.toList_append, HT.out, HO.out, HE.out]; rfl
      have : (r.extract j (j + 1)).size = 1 := by rw [← ByteArray.size_data, ← Array.length_toList, HO.out]; rfl
      rw [ByteArray.size_append]; omega
    case measure => simp [intOf]; omega
  obtain rfl : j = r.size := by omega
  rw [List.take_of_length_le (by simp)] at HT
  have hz : (9223372036854775807 < T.size + 1) = False := by simp; omega
  have hkc : (k : Int) ≤ (cp2 : Int) := by omega
  have hkn2 : (k : Int) ≤ (n : Int) := by omega
  have hk0 : (0 : Int) ≤ (k : Int) := by omega
  obtain ⟨i0, hi, hz0, hz1, hz2⟩ := info_parts str_info
  have HAl : Hid (∀ X o, Below w2.heap.size w2 X → Below w2.heap.size w2 (X.alloc o)) := Lib.hid (fun X o h => h.alloc h.size o)
  have HDr : Hid (∀ X, Below w2.heap.size w2 X → Below w2.heap.size w2 X.drew) := Lib.hid (fun X h => h.trans ((drew_below (w := X)).mono h.size))
  have HLk : Hid ((L.take k).length = k) := Lib.hid (by rw [List.length_take, HN.out]; omega)
  have HLn : Hid ((strV ((L.take k).map mkS)).length = k * 1) := Lib.hid (by simp [strV]; rw [HN.out]; omega)
  have HSrc : Hid (∀ W, Below w2.heap.size w2 W → (k = 0 ∨ ∃ ad, A2 = some ad ∧ ∀ j u, (strV ((L.take k).map mkS))[j]? = some u → W.cell? (ad.add j) = some u)) := Lib.hid (fun W hW => by
    have h5 := (HRd2.out.keep hW).lines_take HN.out k hkn
    rw [HLk.out] at h5
    obtain ⟨-, A', c', hv, -, h⟩ := h5
    cases hv
    refine h.imp id ?_
    rintro ⟨g, o, rfl, h2⟩
    exact ⟨_, rfl, fun j u hj => by rw [Addr.add_lit]; exact h2 j u hj⟩)
  have HEq : Hid (strV ((L.take k).map mkS) ++ [.string ⟨#[]⟩, .string (T ++ ⟨#[120]⟩), .string ⟨#[32, 9]⟩] ++ strV ((L.drop k).map mkS) = strV ((more3 L k (noteL r.data.toList ++ [120])).map mkS)) := Lib.hid (by
    have e : T ++ (⟨#[120]⟩ : ByteArray) = mkS (35 :: (noteL r.data.toList ++ [120])) := by
      apply ByteArray.ext
      apply Array.ext'
      simp [mkS, HT.out]
    rw [e]
    simp [more3, strV, mkS])
  have HLe : Hid (k + 3 + (n - k) = (more3 L k (noteL r.data.toList ++ [120])).length) := Lib.hid (by rw [more_len L k (by rw [HN.out]; exact hkn), HN.out]; omega)
  have HLd : Hid ((strV ((L.drop k).map mkS)).length = (n - k) * 1) := Lib.hid (by simp [strV]; rw [HN.out])
  have HSrd : Hid (∀ W, Below w2.heap.size w2 W → (n - k = 0 ∨ ∃ ad, (if cp2 = k then A2 else A2.map (fun x => x.add k)) = some ad ∧ ∀ j u, (strV ((L.drop k).map mkS))[j]? = some u → W.cell? (ad.add j) = some u)) := Lib.hid (fun W hW => by
    by_cases hz : n - k = 0
    · exact .inl hz
    obtain ⟨-, A', c', hv, -, h⟩ := HRd2.out.keep hW
    cases hv
    obtain ⟨g, o, rfl, h2⟩ := h.resolve_left (by omega)
    refine .inr ⟨⟨g, o + k, none⟩, by rw [if_neg (by omega), Option.map_some, Addr.add_lit], fun j u hj => ?_⟩
    rw [Addr.add_lit, Nat.add_assoc]
    refine h2 (k + j) u ?_
    rw [← hj]
    simp [strV])
  go_upto_region 13 with fail
  go_cut [11] from 53 to 64 (fun x W => ∃ M : List (List UInt8), Hid (M = more3 L k (noteL r.data.toList ++ [120])) ∧ Hid (Rd W 1 x M.length (strV (M.map mkS))) ∧ Hid (Below w2.heap.size w2 W))
  case first =>
    refine wp_region_held_drew (S := fun _ => True) (by kernel_rfl) ?_ (fun hHeld => ?_)
    · trivial
    refine tkH 0 (some 53) ?_ ?_ hHeld ?_; rotate_left; focus (intro w hSw; (try dsimp only at hSw); go_simp; try with_reducible rfl); try simp only [put_norm]
    refine tkH 1 (some 54) ?_ ?_ hHeld ?_; rotate_left; focus (intro w hSw; (try dsimp only at hSw); go_simp; try with_reducible rfl); try simp only [put_norm]
    refine tkH 2 (some 55) ?_ ?_ hHeld ?_; rotate_left; focus (intro w hSw; (try dsimp only at hSw); go_simp; try with_reducible rfl); try simp only [put_norm]
    refine tkH 4 (some 57) ?_ ?_ hHeld ?_; rotate_left; focus (intro w hSw; (try dsimp only at hSw); go_simp; try with_reducible rfl); try simp only [put_norm]
    refine tkH 5 (some 58) ?_ ?_ hHeld ?_; rotate_left; focus (intro w hSw; (try dsimp only at hSw); go_simp; try with_reducible rfl); try simp only [put_norm]
    refine tkH 8 (some 61) ?_ ?_ hHeld ?_; rotate_left; focus (intro w hSw; (try dsimp only at hSw); go_simp; try with_reducible rfl); try simp only [put_norm]
    refine tkH 9 (some 62) ?_ ?_ hHeld ?_; rotate_left; focus (intro w hSw; (try dsimp only at hSw); go_simp; try with_reducible rfl); try simp only [put_norm]
    refine tkH 10 (some 63) ?_ ?_ hHeld ?_; rotate_left; focus (intro w hSw; (try dsimp only at hSw); go_simp; try with_reducible rfl); try simp only [put_norm]
    refine wpAnyH_ready (rs := [3, 6]) (by kernel_rfl) (by simp) ?_
    refine AllReadyH.cons rfl (fun K hK => ?_) ?_
    · refine step_append_src (by rfl) _ _ 65 (by rfl) w2.heap.size 9 i0 _ 1 16 Tryz.underlying65 hi hz0 hz1 hz2 rfl (by decide) (.slice none 0 0) 0 [] (by rfl) (World.ownsRow_nil _ _ _ _) A2 k cp2 (strV ((L.take k).map mkS)) (by rfl) HLn.out (HSrc.out _ (by first | exact drew_below | exact HDr.out _ (HAl.out _ _ (Below.refl _ _)))) (strV_one _) (by unfold maxLen; omega) (by omega) (by first | exact Nat.le_refl _ | exact ((Below.refl w2.heap.size w2).alloc (Nat.le_refl _) _).size) ?_
      intro v3 w3 hown hg hloc
      rw [Nat.zero_add, List.nil_append] at hown
      have HO3 := Lib.hid hown
      have HK3 := Lib.hid (Below.grown (Below.refl _ _) hg (Nat.le_refl _) (by intro g h; cases h))
      have HB3 : Hid (Below w2.heap.size w2 w3) := Lib.hid (by first | exact drew_below.trans HK3.out | exact (HDr.out _ (HAl.out _ _ (Below.refl _ _))).trans (HK3.out.mono (HAl.out _ _ (Below.refl _ _)).size))
      clear hown hg hloc
      refine hK.out _ _ trivial (fun hHeld => ?_)
      skip
      refine rdy1 6 (fun K hK => ?_)
      go_simp
      refine hK.out _ _ trivial (fun hHeld => ?_)
      skip
      clear hK K
      refine rdy1 7 (fun K hK => ?_)
      refine step_append_src (by rfl) _ _ 65 (by rfl) w2.heap.size 9 i0 _ 1 16 Tryz.underlying65 hi hz0 hz1 hz2 rfl (by decide) v3 k (strV ((L.take k).map mkS)) (by rfl) (by first | exact HO3.out | exact HO3.out.alloc _) _ 3 _ [.string ⟨#[]⟩, .string (T ++ ⟨#[120]⟩), .string ⟨#[32, 9]⟩] (by rfl) (by rfl) (by first | exact three_src _ _ _ _ (heap_alloc_new _ _) | exact three_src _ _ _ _ ((HK3.out.block _ (block_lt (heap_alloc_new _ _))).trans (heap_alloc_new _ _))) (by intro u hu; simp at hu; rcases hu with rfl | rfl | rfl <;> rfl) (by unfold maxLen; omega) (by omega) (by first | exact HB3.out.size | exact (HB3.out.alloc HB3.out.size _).size) ?_
      intro v7 w7 hown hg hloc
      have HB7 : Hid (Below w2.heap.size w2 w7) := Lib.hid (by first | exact below_push HB3.out HO3.out hg (Nat.le_refl _) HB3.out.size | exact below_push (HAl.out _ _ HB3.out) (HO3.out.alloc _) hg (Nat.le_refl _) (HAl.out _ _ HB3.out).size)
      have HO7 := Lib.hid hown
      clear hown hg hloc
      refine hK.out _ _ trivial (fun hHeld => ?_)
      skip
      clear hK K
      refine rdy1 11 (fun K hK => ?_)
      refine step_append_src (by rfl) _ _ 65 (by rfl) w2.heap.size 9 i0 _ 1 16 Tryz.underlying65 hi hz0 hz1 hz2 rfl (by decide) v7 (k + 3) _ (by rfl) HO7.out (if cp2 = k then A2 else A2.map (fun x => x.add k)) (n - k) (cp2 - k) (strV ((L.drop k).map mkS)) (by rfl) HLd.out (HSrd.out _ HB7.out) (strV_one _) (by unfold maxLen; omega) (by omega) HB7.out.size ?_
      intro v8 w8 hown hg hloc
      have HB8 : Hid (Below w2.heap.size w2 w8) := Lib.hid (below_push HB7.out HO7.out hg (Nat.le_refl _) HB7.out.size)
      have HO8 := Lib.hid (Rd.of_own hown)
      clear hown hg hloc
      refine hK.out _ _ trivial (fun hHeld => ?_)
      skip
      clear hK K
      refine tkH 12 (some 11) ?_ ?_ hHeld ?_; rotate_left; focus (intro w hSw; (try dsimp only at hSw); go_simp; try with_reducible rfl); try simp only [put_norm]
      refine wpAnyH_done (by kernel_rfl) ?_ _
      generalize (if cp2 = k then A2 else A2.map (fun x => x.add k)) = A9
      go_wp2_with fail
      go_meet
      exact ⟨_, Lib.hid rfl, Lib.hid (by have := HO8.out; rw [HEq.out, HLe.out] at this; exact this), HB8⟩
    refine AllReadyH.cons rfl (fun K hK => ?_) ?_
    · go_simp
      refine hK.out _ _ trivial (fun hHeld => ?_)
      skip
      refine rdy1 3 (fun K hK => ?_)
      refine step_append_src (by rfl) _ _ 65 (by rfl) w2.heap.size 9 i0 _ 1 16 Tryz.underlying65 hi hz0 hz1 hz2 rfl (by decide) (.slice none 0 0) 0 [] (by rfl) (World.ownsRow_nil _ _ _ _) A2 k cp2 (strV ((L.take k).map mkS)) (by rfl) HLn.out (HSrc.out _ (by first | exact drew_below | exact HDr.out _ (HAl.out _ _ (Below.refl _ _)))) (strV_one _) (by unfold maxLen; omega) (by omega) (by first | exact Nat.le_refl _ | exact ((Below.refl w2.heap.size w2).alloc (Nat.le_refl _) _).size) ?_
      intro v3 w3 hown hg hloc
      rw [Nat.zero_add, List.nil_append] at hown
      have HO3 := Lib.hid hown
      have HK3 := Lib.hid (Below.grown (Below.refl _ _) hg (Nat.le_refl _) (by intro g h; cases h))
      have HB3 : Hid (Below w2.heap.size w2 w3) := Lib.hid (by first | exact drew_below.trans HK3.out | exact (HDr.out _ (HAl.out _ _ (Below.refl _ _))).trans (HK3.out.mono (HAl.out _ _ (Below.refl _ _)).size))
      clear hown hg hloc
      refine hK.out _ _ trivial (fun hHeld => ?_)
      skip
      clear hK K
      refine rdy1 7 (fun K hK => ?_)
      refine step_append_src (by rfl) _ _ 65 (by rfl) w2.heap.size 9 i0 _ 1 16 Tryz.underlying65 hi hz0 hz1 hz2 rfl (by decide) v3 k (strV ((L.take k).map mkS)) (by rfl) (by first | exact HO3.out | exact HO3.out.alloc _) _ 3 _ [.string ⟨#[]⟩, .string (T ++ ⟨#[120]⟩), .string ⟨#[32, 9]⟩] (by rfl) (by rfl) (by first | exact three_src _ _ _ _ (heap_alloc_new _ _) | exact three_src _ _ _ _ ((HK3.out.block _ (block_lt (heap_alloc_new _ _))).trans (heap_alloc_new _ _))) (by intro u hu; simp at hu; rcases hu with rfl | rfl | rfl <;> rfl) (by unfold maxLen; omega) (by omega) (by first | exact HB3.out.size | exact (HB3.out.alloc HB3.out.size _).size) ?_
      intro v7 w7 hown hg hloc
      have HB7 : Hid (Below w2.heap.size w2 w7) := Lib.hid (by first | exact below_push HB3.out HO3.out hg (Nat.le_refl _) HB3.out.size | exact below_push (HAl.out _ _ HB3.out) (HO3.out.alloc _) hg (Nat.le_refl _) (HAl.out _ _ HB3.out).size)
      have HO7 := Lib.hid hown
      clear hown hg hloc
      refine hK.out _ _ trivial (fun hHeld => ?_)
      skip
      clear hK K
      refine rdy1 11 (fun K hK => ?_)
      refine step_append_src (by rfl) _ _ 65 (by rfl) w2.heap.size 9 i0 _ 1 16 Tryz.underlying65 hi hz0 hz1 hz2 rfl (by decide) v7 (k + 3) _ (by rfl) HO7.out (if cp2 = k then A2 else A2.map (fun x => x.add k)) (n - k) (cp2 - k) (strV ((L.drop k).map mkS)) (by rfl) HLd.out (HSrd.out _ HB7.out) (strV_one _) (by unfold maxLen; omega) (by omega) HB7.out.size ?_
      intro v8 w8 hown hg hloc
      have HB8 : Hid (Below w2.heap.size w2 w8) := Lib.hid (below_push HB7.out HO7.out hg (Nat.le_refl _) HB7.out.size)
      have HO8 := Lib.hid (Rd.of_own hown)
      clear hown hg hloc
      refine hK.out _ _ trivial (fun hHeld => ?_)
      skip
      clear hK K
      refine tkH 12 (some 11) ?_ ?_ hHeld ?_; rotate_left; focus (intro w hSw; (try dsimp only at hSw); go_simp; try with_reducible rfl); try simp only [put_norm]
      refine wpAnyH_done (by kernel_rfl) ?_ _
      generalize (if cp2 = k then A2 else A2.map (fun x => x.add k)) = A9
      go_wp2_with fail
      go_meet
      exact ⟨_, Lib.hid rfl, Lib.hid (by have := HO8.out; rw [HEq.out, HLe.out] at this; exact this), HB8⟩
    exact AllReadyH.nil
  case rest =>
  obtain ⟨M, HM, HRM, HBc⟩ := hcut
  clear HAl HDr HLk HLn HSrc HEq HLe HLd HSrd hi hz0 hz1 hz2 i0
  have HBw : Hid (Below w.heap.size w wc) := Lib.hid (HB2.out.trans (HBc.out.mono HB2.out.size))
  have hnl : (noteL r.data.toList ++ [120]).length ≤ r.size + 1 := by
    have := List.length_filter_le (fun c => c != (10 : UInt8)) r.data.toList
    rw [len_toList] at this
    rw [List.length_append]
    unfold noteL
    simp only [List.length_cons, List.length_nil]
    omega
  have hml : M.length = n + 3 := by rw [HM.out, more_len L k (by rw [HN.out]; exact hkn), HN.out]
  have hmj : (jn M).length = (jn L).length + (noteL r.data.toList ++ [120]).length + 9 := by rw [HM.out, jn_more_len]
  have HNm : Hid (∀ l ∈ M, (10 : UInt8) ∉ l) := Lib.hid (by rw [HM.out]; exact more_no HNo.out (by simp [noteL]))
  have HSa : Hid (SaidAs (sig3 k) (affL L) (affL M)) := Lib.hid (by rw [HM.out]; exact affL_more L k (by rw [HN.out]; exact hkn) _)
  have HMm : Hid (Lib.hasPrefix (jn L) mark3 = false → Lib.hasPrefix (jn M) mark3 = false) := Lib.hid (by rw [HM.out]; exact mark_more L k _)
  have HJ1 : Hid (Calls Tryz.prog 26 #[.slice A2 n cp2] wc fun e w' => e = .returned (.string (mkS (jn L))) ∧ wc = w') := Lib.hid (so_joined _ L wc (by rw [HN.out]; exact HRd2.out.keep HBc.out) (by rw [HN.out]; omega) (by omega))
  have HJ2 := Lib.hid (so_joined _ M wc HRM.out (by omega) (by omega))
  obtain ⟨S1, hS1⟩ : ∃ S, mkS (jn L) = S := ⟨_, rfl⟩
  obtain ⟨S2, hS2⟩ : ∃ S, mkS (jn M) = S := ⟨_, rfl⟩
  rw [hS1] at HJ1
  rw [hS2] at HJ2
  have HD1 : Hid (S1.data.toList = jn L) := Lib.hid (by rw [← hS1]; rfl)
  have HD2 : Hid (S2.data.toList = jn M) := Lib.hid (by rw [← hS2]; rfl)
  obtain ⟨b1, hb1⟩ : ∃ b, Lib.hasPrefix S1.data.toList mark3 = b := ⟨_, rfl⟩
  have HM1 : Hid (∀ W, Calls Tryz.prog 25 #[.string S1] W fun e w' => e = .returned (.bool b1) ∧ W = w') := Lib.hid (fun W => Marked_is S1 W b1 hb1)
  have HP1 := Lib.hid hb1
  have HLl := Lib.hid (fun l c => affL_line (L := L) (l := l) (c := c))
  have hz12 : S1.data.toList.length ≤ S2.data.toList.length := by rw [HD1.out, HD2.out, hmj]; omega
  rw [len_toList, len_toList] at hz12
  clear hS1 hS2 hb1 hml hmj hnl HM HT HRM hjl
  go_wp2_with fail
  refine HJ1.out.mono ?_
  rintro e9 w9 ⟨rfl, rfl⟩
  go_wp2_with fail
  refine HJ2.out.mono ?_
  rintro e9 w9 ⟨rfl, rfl⟩
  go_upto_region 15 with fail
  clear HJ1 HJ2
  by_cases hbig2 : 65536 < S2.size
  · have hd1 : decide ((65536 : Int) < (S2.size : Int)) = true := by rw [decide_eq_true_eq]; omega
    clear hbig2
    go_wp2_with fail
    go_ret
    exact ⟨rfl, HBw.out⟩
  have hd1 : decide ((65536 : Int) < (S2.size : Int)) = false := by rw [decide_eq_false_iff_not]; omega
  cases b1
  rotate_left
  · clear hbig2
    go_wp2_with (go_at_call 25; refine (HM1.out _).mono ?_; rintro e9 w9 ⟨rfl, rfl⟩)
    go_ret
    exact ⟨rfl, HBw.out⟩
  have hA1 : affR S1.data.toList = affL L := by
    rw [HD1.out]
    exact affR_jn0 HNo.out (by rw [← HD1.out, len_toList]; omega) (by rw [← HD1.out]; exact HP1.out)
  have hA2 : affR S2.data.toList = affL M := by
    rw [HD2.out]
    exact affR_jn0 HNm.out (by rw [← HD2.out, len_toList]; omega) (HMm.out (by rw [← HD1.out]; exact HP1.out))
  have HF1 : Hid (∀ W, Below w.heap.size w W → Calls Tryz.prog 12 #[.string S1] W (ReadP S1.data.toList W)) := Lib.hid (fun W hW => HF.out S1 W hW)
  have HF2 : Hid (∀ W, Below w.heap.size w W → Calls Tryz.prog 12 #[.string S2] W (ReadP S2.data.toList W)) := Lib.hid (fun W hW => HF.out S2 W hW)
  unfold ReadP at HF1 HF2
  rw [hA1] at HF1
  rw [hA2] at HF2
  have hsa := HSa.out
  have hll := HLl.out
  rw [HN.out] at hll
  clear hA1 hA2 hbig2 HSa HNo HNm HMm HD1 HD2 HP1 HF HLl HN HRd2
  cases hX : affL L with
  | error lc =>
    obtain ⟨l, c⟩ := lc
    rw [hX] at hsa HF1
    have hY : affL M = .error (sig3 k l, c) := hsa
    rw [hY] at HF2
    obtain ⟨hl0, hl1⟩ := hll l c hX
    dsimp only at HF1 HF2
    unfold fltV at HF1 HF2
    clear hX hY hsa hll
    by_cases hkl : (k : Int) < l
    · have hd2 : decide ((k : Int) < l) = true := decide_eq_true hkl
      have e3 : sig3 k l = l + 3 := by unfold sig3; rw [if_pos hkl]
      rw [e3] at HF2
      have hwl : IntKind.i64.wrap (l + 3) = l + 3 := by rw [IntKind.wrap_i64]; omega
      clear hkl e3
      go_wp2_with (go_at_call 25; refine (HM1.out _).mono ?_; rintro e9 w9 ⟨rfl, rfl⟩)
      refine (HF1.out _ HBw.out).mono ?_
      rintro e w8 ⟨hb8, rfl⟩
      have HB8 : Hid (Below w.heap.size w (w8.alloc (.cells #[.int .i64 1, .int .i64 l, .int .i64 c] 25))) := Lib.hid ((HBw.out.trans (hb8.mono HBw.out.size)).alloc (Nat.le_trans HBw.out.size hb8.size) _)
      have HX8 := Lib.hid (heap_alloc_new w8 (.cells #[.int .i64 1, .int .i64 l, .int .i64 c] 25))
      have HW8 : Hid (w.heap.size ≤ w8.heap.size) := Lib.hid (Nat.le_trans HBw.out.size hb8.size)
      clear hb8
      go_wp2_with fail
      refine (HF2.out _ HB8.out).mono ?_
      rintro e w9 ⟨hb9, rfl⟩
      have HB9 : Hid (Below w.heap.size w (w9.alloc (.cells #[.int .i64 1, .int .i64 (l + 3), .int .i64 c] 25))) := Lib.hid ((HB8.out.trans (hb9.mono HB8.out.size)).alloc (Nat.le_trans HB8.out.size hb9.size) _)
      have hsz : w8.heap.size < w9.heap.size := by
        have := hb9.size
        have h1 : (w8.alloc (.cells #[.int .i64 1, .int .i64 l, .int .i64 c] 25)).heap.size = w8.heap.size + 1 := by simp
        omega
      have hx8 := (((Below.refl _ w9).alloc (Nat.le_refl _) (.cells #[.int .i64 1, .int .i64 (l + 3), .int .i64 c] 25)).block _ hsz).trans ((hb9.block _ (block_lt HX8.out)).trans HX8.out)
      have hx9 := heap_alloc_new w9 (.cells #[.int .i64 1, .int .i64 (l + 3), .int .i64 c] 25)
      clear hb9
      go_upto_region 19 with fail
      obtain ⟨wX, hwX⟩ : ∃ W, w9.alloc (.cells #[.int .i64 1, .int .i64 (l + 3), .int .i64 c] 25) = W := ⟨_, rfl⟩
      rw [hwX] at hx8 hx9 HB9 ⊢
      clear hwX HX8 HB8
      have d0 := Lib.cell_of_heap hx8 0
      have d1 := Lib.cell_of_heap hx8 1
      have d2 := Lib.cell_of_heap hx8 2
      have e0 := Lib.cell_of_heap hx9 0
      have e1 := Lib.cell_of_heap hx9 1
      have e2 := Lib.cell_of_heap hx9 2
      have fr := Lib.frozen_of_heap hx8 1
      simp only [List.getElem?_toArray, List.getElem?_cons_zero, List.getElem?_cons_succ] at d0 d1 d2 e0 e1 e2
      have hne : w8.heap.size ≠ w9.heap.size := by omega
      have hne2 : w9.heap.size ≠ w8.heap.size := by omega
      clear hx8 hx9
      go_wp2_with fail
      go_ret
      exact ⟨rfl, HB9.out.setCell HW8.out _⟩
    have hd2 : decide ((k : Int) < l) = false := decide_eq_false hkl
    have e3 : sig3 k l = l := by unfold sig3; rw [if_neg hkl]
    rw [e3] at HF2
    clear hkl e3
    go_wp2_with (go_at_call 25; refine (HM1.out _).mono ?_; rintro e9 w9 ⟨rfl, rfl⟩)
    refine (HF1.out _ HBw.out).mono ?_
    rintro e w8 ⟨hb8, rfl⟩
    have HB8 : Hid (Below w.heap.size w (w8.alloc (.cells #[.int .i64 1, .int .i64 l, .int .i64 c] 25))) := Lib.hid ((HBw.out.trans (hb8.mono HBw.out.size)).alloc (Nat.le_trans HBw.out.size hb8.size) _)
    have HX8 := Lib.hid (heap_alloc_new w8 (.cells #[.int .i64 1, .int .i64 l, .int .i64 c] 25))
    have HW8 : Hid (w.heap.size ≤ w8.heap.size) := Lib.hid (Nat.le_trans HBw.out.size hb8.size)
    clear hb8
    go_wp2_with fail
    refine (HF2.out _ HB8.out).mono ?_
    rintro e w9 ⟨hb9, rfl⟩
    have HB9 : Hid (Below w.heap.size w (w9.alloc (.cells #[.int .i64 1, .int .i64 l, .int .i64 c] 25))) := Lib.hid ((HB8.out.trans (hb9.mono HB8.out.size)).alloc (Nat.le_trans HB8.out.size hb9.size) _)
    have hsz : w8.heap.size < w9.heap.size := by
      have := hb9.size
      have h1 : (w8.alloc (.cells #[.int .i64 1, .int .i64 l, .int .i64 c] 25)).heap.size = w8.heap.size + 1 := by simp
      omega
    have hx8 := (((Below.refl _ w9).alloc (Nat.le_refl _) (.cells #[.int .i64 1, .int .i64 l, .int .i64 c] 25)).block _ hsz).trans ((hb9.block _ (block_lt HX8.out)).trans HX8.out)
    have hx9 := heap_alloc_new w9 (.cells #[.int .i64 1, .int .i64 l, .int .i64 c] 25)
    clear hb9
    go_upto_region 19 with fail
    obtain ⟨wX, hwX⟩ : ∃ W, w9.alloc (.cells #[.int .i64 1, .int .i64 l, .int .i64 c] 25) = W := ⟨_, rfl⟩
    rw [hwX] at hx8 hx9 HB9 ⊢
    clear hwX HX8 HB8
    have d0 := Lib.cell_of_heap hx8 0
    have d1 := Lib.cell_of_heap hx8 1
    have d2 := Lib.cell_of_heap hx8 2
    have e0 := Lib.cell_of_heap hx9 0
    have e1 := Lib.cell_of_heap hx9 1
    have e2 := Lib.cell_of_heap hx9 2
    simp only [List.getElem?_toArray, List.getElem?_cons_zero, List.getElem?_cons_succ] at d0 d1 d2 e0 e1 e2
    have hne : w8.heap.size ≠ w9.heap.size := by omega
    have hne2 : w9.heap.size ≠ w8.heap.size := by omega
    clear hx8 hx9
    go_wp2_with fail
    go_ret
    exact ⟨rfl, HB9.out⟩
  | ok F =>
    rw [hX] at hsa HF1
    have hY : affL M = .ok (shF (sig3 k) F) := hsa
    rw [hY] at HF2
    dsimp only at HF1 HF2
    clear hX hY hsa hll
    have hd2 : decide ((k : Int) < 0) = false := by rw [decide_eq_false_iff_not]; omega
    go_wp2_with (go_at_call 25; refine (HM1.out _).mono ?_; rintro e9 w9 ⟨rfl, rfl⟩)
    refine (HF1.out _ HBw.out).mono ?_
    rintro e w8 ⟨hb8, fb, rfl, hf, hok, hfb⟩
    have HOk := Lib.hid hok
    have HB8 : Hid (Below w.heap.size w (w8.alloc (.cells #[.int .i64 0, .int .i64 0, .int .i64 0] 25))) := Lib.hid ((HBw.out.trans (hb8.mono HBw.out.size)).alloc (Nat.le_trans HBw.out.size hb8.size) _)
    have HX8 := Lib.hid (heap_alloc_new w8 (.cells #[.int .i64 0, .int .i64 0, .int .i64 0] 25))
    have HF8 := Lib.hid (hf.keep ((Below.refl _ _).alloc (Nat.le_refl _) (.cells #[.int .i64 0, .int .i64 0, .int .i64 0] 25)))
    clear hb8 hf hok hfb
    go_wp2_with fail
    refine (HF2.out _ HB8.out).mono ?_
    rintro e w9 ⟨hb9, gb, rfl, hg, hok2, hgb⟩
    have HOk2 := Lib.hid hok2
    have HB9 : Hid (Below w.heap.size w (w9.alloc (.cells #[.int .i64 0, .int .i64 0, .int .i64 0] 25))) := Lib.hid ((HB8.out.trans (hb9.mono HB8.out.size)).alloc (Nat.le_trans HB8.out.size hb9.size) _)
    have hsz : w8.heap.size < w9.heap.size := by
      have := hb9.size
      have h1 : (w8.alloc (.cells #[.int .i64 0, .int .i64 0, .int .i64 0] 25)).heap.size = w8.heap.size + 1 := by simp
      omega
    have hx8 := (((Below.refl _ w9).alloc (Nat.le_refl _) (.cells #[.int .i64 0, .int .i64 0, .int .i64 0] 25)).block _ hsz).trans ((hb9.block _ (block_lt HX8.out)).trans HX8.out)
    have hx9 := heap_alloc_new w9 (.cells #[.int .i64 0, .int .i64 0, .int .i64 0] 25)
    have HF9 := Lib.hid ((HF8.out.keep hb9).keep ((Below.refl _ _).alloc (Nat.le_refl _) (.cells #[.int .i64 0, .int .i64 0, .int .i64 0] 25)))
    have HG9 := Lib.hid (hg.keep ((Below.refl _ _).alloc (Nat.le_refl _) (.cells #[.int .i64 0, .int .i64 0, .int .i64 0] 25)))
    clear hb9 hg hok2 hgb
    go_upto_region 19 with fail
    obtain ⟨wX, hwX⟩ : ∃ W, w9.alloc (.cells #[.int .i64 0, .int .i64 0, .int .i64 0] 25) = W := ⟨_, rfl⟩
    rw [hwX] at hx8 hx9 HB9 HF9 HG9 ⊢
    clear hwX HX8 HB8 HF8
    have d0 := Lib.cell_of_heap hx8 0
    have d1 := Lib.cell_of_heap hx8 1
    have d2 := Lib.cell_of_heap hx8 2
    have e0 := Lib.cell_of_heap hx9 0
    have e1 := Lib.cell_of_heap hx9 1
    have e2 := Lib.cell_of_heap hx9 2
    simp only [List.getElem?_toArray, List.getElem?_cons_zero, List.getElem?_cons_succ] at d0 d1 d2 e0 e1 e2
    clear hx8 hx9
    go_upto_region 23 with fail
    clear d0 d1 d2 e0 e1 e2
    go_wp2_with fail
    refine (so_Affixes fb F wX HF9.out HOk.out).mono ?_
    rintro e w10 ⟨a, rfl, hn, hb10⟩
    have HB10 := Lib.hid (HB9.out.trans (hb10.mono HB9.out.size))
    have HG10 := Lib.hid (HG9.out.keep hb10)
    have HA10 := Lib.hid hn.rd
    clear hn hb10
    go_wp2_with fail
    refine (so_Affixes gb (shF (sig3 k) F) w10 HG10.out HOk2.out).mono ?_
    rintro e w11 ⟨b, rfl, hn, hb11⟩
    have HB11 := Lib.hid (HB10.out.trans (hb11.mono HB10.out.size))
    have HE := Lib.hid (so_equal F a b w11 (HA10.out.keep hb11) (hn.rd.unsh (sig3 k)) HOk.out)
    have HV : Hid (affV (shF (sig3 k) F) b = affV F b) := Lib.hid rfl
    clear hn hb11
    rw [HV.out]
    go_wp2_with fail
    refine HE.out.mono ?_
    rintro e w12 ⟨rfl, hb12⟩
    have HB12 := Lib.hid (HB11.out.trans (hb12.mono HB11.out.size))
    clear hb12
    go_wp2_with fail
    go_ret
    exact ⟨rfl, HB12.out⟩
theorem affRemarks_sh (t r : ByteArray) (at_ : Int) (W : World) (h : W.ShapedOpen Tryz.prog) (hs : r.size ≤ 140737488351232) :
    Calls Tryz.prog 6 #[.string t, .int .i64 at_, .string r] W fun e w' => e = .returned (.bool true) ∧ Below W.heap.size W w' := by
  obtain ⟨m, hm⟩ := maxLen_of W h
  exact affRemarks_walk t r at_ m W (Nat.lt_of_le_of_lt (Nat.zero_le _) (World.block_lt_of_cell? _ _ hm)) hm hs
end Go.Proofs.YtkdajhmlhjkcdaaGreatDoor
