/-
  The law's own helpers at the second seat: ints, is, same.
  The law's 'is'.
  Plain: the reference's search for the least number above the last one walks through the set in order.
  The reference's Of, walked.
  The law's 'same'; the reference's Has.
  The reference's With, Without, Equal.
  Fold of With over groups; Fold of nothing.
-/
import Derived.Test.YtgcnfebifopdnaaDoorRows
import Derived.Test.YtgcnfebifopdnaaDoorGA
import Derived.Test.YtgcnfebifopdnaaDoorGB
import Derived.Test.YtgcnfebifopdnaaDoorBase
import Derived.Deep.QuietTactic
import Derived.BigQuiet
import Derived.Deep.LoopGhost
namespace Go.Proofs.YtgcnfebifopdnaaDoor
section
open Go.RowKit

/-- In w the slice v reads as the ints zs. -/
def IS (w : World) (v : Value) (zs : List Int) : Prop :=
  ∃ (p : Option Addr) (c : Nat), v = .slice p zs.length c ∧ zs.length ≤ c ∧ (zs.length = 0 ∨ ∃ b off, p = some ⟨b, off, none⟩ ∧ ∀ j, j < zs.length → w.cell? ⟨b, off + j, none⟩ = some (.int .i64 (zs.getD j 0)))
theorem IS.keep {w w' : World} {v : Value} {zs : List Int} (h : IS w v zs) (hb : Below w.heap.size w w') : IS w' v zs := by
  obtain ⟨p, c, hv, hc, h⟩ := h
  refine ⟨p, c, hv, hc, h.imp id ?_⟩
  rintro ⟨b, off, hp, h2⟩
  refine ⟨b, off, hp, fun j hj => ?_⟩
  have h3 := h2 j hj
  exact (hb.cell (World.block_lt_of_cell? w _ h3)).trans h3
theorem IS.of_own {B e : Nat} {w : World} {v : Value} {zs : List Int} (h : w.ownsRow B e 1 v zs.length (zs.map (Value.int .i64))) : IS w v zs := by
  rcases h.2 with ⟨rfl, h0⟩ | ⟨g, cap, cur, rfl, hB, hg, hn, hm, hs, ht⟩
  · exact ⟨none, 0, by rw [h0], by omega, .inl h0⟩
  · refine ⟨_, cap, rfl, hn, .inr ⟨g, 0, rfl, fun j hj => ?_⟩⟩
    rw [Nat.mul_one] at ht
    have h1 : (cur.toList.take zs.length)[j]? = (zs.map (Value.int .i64))[j]? := by rw [ht]
    rw [List.getElem?_take_of_lt hj] at h1
    simp only [World.cell?, hg, Nat.zero_add]
    simp only [Option.isSome_none, Bool.false_eq_true, if_false]
    rw [← Array.getElem?_toList, h1]
    simp [hj, List.getD]
theorem int_info : (Tryd.prog.info? 3).map (fun i => (i.zero, i.size, i.bytes)) = some (some (.int .i64 0), 1, 8) := by kernel_rfl

set_option maxHeartbeats 2000000 in
set_option maxRecDepth 100000 in
theorem so_ints (v : Value) (zs : List Int) (w : World) (h : FS w v zs) (hbd : ∀ x ∈ zs, 0 ≤ x ∧ x ≤ 65535) (hbig : zs.length * 8 ≤ 140737488355328) :
    Calls Tryd.prog 18 #[v] w fun e w' => ∃ v', e = .returned v' ∧ IS w' v' zs ∧ Below w.heap.size w w' := by
  obtain ⟨i0, hi, hz0, hz1, hz2⟩ := info_parts int_info
  obtain ⟨p, c, rfl, hcap, hs⟩ := h
  have hS := Lib.hid hs
  have hD := Lib.hid hbd
  clear hs hbd
  go_enter Tryd.func18, Tryd.ntmps18
  go_wp2
  go_loopw [3, 5, 8] (fun s _ i wr => ∃ k : Nat, k ≤ zs.length ∧ i = .int .i64 k ∧ Hid (wr.ownsRow w.heap.size 3 1 s k ((zs.take k).map (Value.int .i64))) ∧ Hid (Below w.heap.size w wr)) (fun _ _ i _ => zs.length - (intOf i).toNat)
  case atStart => exact ⟨0, Nat.zero_le _, rfl, World.ownsRow_nil _ _ _ _, Below.refl _ _⟩
  case round =>
    obtain ⟨k, hk, rfl, HO, HB⟩ := hrel
    have hsz := HB.out.size
    by_cases hlt : k < zs.length
    · obtain ⟨b, off, rfl, hc⟩ := hS.out.resolve_left (by omega)
      have c0 := hc k hlt
      have hcell := (HB.out.cell (World.block_lt_of_cell? w _ c0)).trans c0
      have he : zs.getD k 0 = zs[k] := by simp [List.getD, hlt]
      rw [he] at hcell
      obtain ⟨z0, z1⟩ := hD.out zs[k] (List.getElem_mem hlt)
      have HM := Lib.hid (show (zs.take (k + 1)).map (Value.int .i64) = (zs.take k).map (Value.int .i64) ++ [Value.int .i64 zs[k]] by rw [List.take_add_one, List.getElem?_eq_getElem hlt, List.map_append]; rfl)
      clear hc c0 he
      generalize hz : zs[k] = z at *
      clear hz
      go_wp2_with (at_builtin; refine wpList_push1 rfl _ _ 27 rfl w.heap.size 3 i0 (.int .i64 0) 8 Tryd.underlying27 hi hz0 hz1 hz2 rfl _ k _ rfl HO.out _ rfl rfl ?c3 ?c4 hsz ?_)
      case c3 => unfold maxLen; omega
      case c4 => omega
      intro gg cap w2 hown hg
      have HO2 := Lib.hid hown
      have HB2 := Lib.hid (below_push HB.out HO.out hg (Nat.le_refl _) hsz)
      clear hown hg
      go_wp2
      go_roundw
      case rel => exact ⟨k + 1, by omega, by go_num, (by show World.ownsRow _ _ _ _ _ _ _; rw [HM.out, List.map_take]; exact HO2.out), HB2.out⟩
      case measure => simp [intOf]; omega
    · have hke : k = zs.length := by omega
      subst hke
      rw [List.take_length] at HO
      go_wp2
      go_ret
      exact ⟨_, rfl, IS.of_own (e := 3) HO.out, HB.out⟩
end

section
open Go.RowKit

set_option maxHeartbeats 2000000 in
set_option maxRecDepth 100000 in
theorem so_is (v u : Value) (xs ys : List Int) (w : World) (h : FS w v xs) (hu : IS w u ys) (hbd : ∀ x ∈ xs, 0 ≤ x ∧ x ≤ 65535) (hbig : xs.length ≤ 9223372036854775807) (hbig2 : ys.length ≤ 9223372036854775807) :
    Calls Tryd.prog 14 #[v, u] w fun e w' => e = .returned (.bool (decide (xs = ys))) ∧ ∃ n, w' = w.drewN n := by
  obtain ⟨p, c, rfl, hcap, hs⟩ := h
  obtain ⟨p2, c2, rfl, hcap2, hs2⟩ := hu
  have hA := Lib.hid hs
  have hB := Lib.hid hs2
  have hD := Lib.hid hbd
  clear hs hs2 hbd
  by_cases hn : xs.length = ys.length
  · have HN := Lib.hid hn
    rw [← hn]
    clear hn
    go_enter Tryd.func14, Tryd.ntmps14
    go_wp2_with fail
    go_loopw [5, 13] (fun _ i wr => ∃ k m : Nat, k ≤ xs.length ∧ i = .int .i64 k ∧ wr = w.drewN m ∧ Hid (xs.take k = ys.take k)) (fun _ i _ => xs.length - (intOf i).toNat)
    case atStart => exact ⟨0, 0, Nat.zero_le _, rfl, rfl, rfl⟩
    case round =>
      obtain ⟨k, m, hk, rfl, rfl, HR⟩ := hrel
      by_cases hlt : k < xs.length
      · have hlt2 : k < ys.length := by have := HN.out; omega
        obtain ⟨b, off, rfl, hc⟩ := hA.out.resolve_left (by omega)
        obtain ⟨b2, off2, rfl, hc2⟩ := hB.out.resolve_left (by omega)
        have c1 := hc k hlt
        have c2' := hc2 k hlt2
        clear hc hc2
        obtain ⟨z0, z1⟩ := hD.out (xs.getD k 0) (by simp [List.getD, hlt])
        generalize hx : xs.getD k 0 = x at c1 z0 z1
        generalize hy : ys.getD k 0 = y at c2'
        have HX := Lib.hid hx
        have HY := Lib.hid hy
        clear hx hy
        cases hq : (x == y)
        · have hfin := Lib.hid (show decide (xs = ys) = false by
            rw [decide_eq_false_iff_not]; rintro rfl
            rw [HX.out] at HY
            rw [HY.out] at hq; simp at hq)
          go_wp2_with fail
          go_quiet (fail)
          go_wp2_with fail
          go_ret
          exact ⟨by rw [hfin.out]; rfl, _, by rw [World.drewN_drewN]⟩
        · have he := Lib.hid (take_snoc_eq hlt hlt2 HR.out (by rw [HX.out, HY.out]; simpa using hq))
          go_wp2_with fail
          go_quiet (fail)
          go_wp2_with fail
          go_roundw
          case rel => exact ⟨k + 1, _, by omega, by go_num, rfl, he.out⟩
          case measure => simp [intOf]; omega
      · have hke : k = xs.length := by omega
        subst hke
        have hfin := Lib.hid (show decide (xs = ys) = true by
          have h1 := HR.out
          have h2 := HN.out
          rw [List.take_length, h2, List.take_length] at h1
          rw [h1]; simp)
        go_wp2_with fail
        go_ret
        exact ⟨by rw [hfin.out]; rfl, _, rfl⟩
  · have hfin := Lib.hid (show decide (xs = ys) = false by
      rw [decide_eq_false_iff_not]; rintro rfl; exact hn rfl)
    have hne : ((xs.length : Int) == (ys.length : Int)) = false := by
      rw [beq_eq_false_iff_ne]; omega
    go_enter Tryd.func14, Tryd.ntmps14
    go_wp2_with fail
    go_ret
    exact ⟨by rw [hfin.out]; rfl, 0, rfl⟩
end

section
/-- One step of the reference's search. -/
def bestStep (last nx x : Int) : Int := if x > last ∧ (nx < 0 ∨ x < nx) then x else nx
def best (last : Int) (l : List Int) : Int := l.foldl (bestStep last) (-1)
theorem best_snoc (last : Int) (l : List Int) (x : Int) : best last (l ++ [x]) = bestStep last (best last l) x := by
  unfold best; rw [List.foldl_append]; rfl
theorem best_spec (last : Int) (hl : -1 ≤ last) (l : List Int) (h0 : ∀ x ∈ l, 0 ≤ x) : ∀ k, k ≤ l.length →
    (best last (l.take k) = -1 ∧ ∀ x ∈ l.take k, x ≤ last) ∨ (best last (l.take k) ∈ l ∧ last < best last (l.take k) ∧ ∀ x ∈ l.take k, last < x → best last (l.take k) ≤ x)
  | 0, _ => .inl ⟨by simp [best], by simp⟩
  | k + 1, hk => by
    have ih := best_spec last hl l h0 k (by omega)
    have hx := h0 l[k] (List.getElem_mem (by omega))
    have hm : l[k] ∈ l := List.getElem_mem (by omega)
    have e : l.take (k + 1) = l.take k ++ [l[k]] := by rw [List.take_add_one, List.getElem?_eq_getElem (by omega)]; rfl
    rw [e, best_snoc]
    generalize l[k] = y at *
    generalize best last (l.take k) = b at *
    unfold bestStep
    rcases ih with ⟨rfl, ih⟩ | ⟨i1, i2, i3⟩
    · by_cases h : y > last
      · rw [if_pos ⟨h, .inl (by omega)⟩]
        refine .inr ⟨hm, h, fun x hx' hlx => ?_⟩
        rcases List.mem_append.1 hx' with h' | h'
        · have := ih x h'; omega
        · obtain rfl : x = y := by simpa using h'
          exact Int.le_refl _
      · rw [if_neg (by omega)]
        refine .inl ⟨rfl, fun x hx' => ?_⟩
        rcases List.mem_append.1 hx' with h' | h'
        · exact ih x h'
        · obtain rfl : x = y := by simpa using h'
          omega
    · by_cases h : y > last ∧ (b < 0 ∨ y < b)
      · rw [if_pos h]
        refine .inr ⟨hm, h.1, fun x hx' hlx => ?_⟩
        rcases List.mem_append.1 hx' with h' | h'
        · have := i3 x h' hlx; omega
        · obtain rfl : x = y := by simpa using h'
          exact Int.le_refl _
      · rw [if_neg h]
        refine .inr ⟨i1, i2, fun x hx' hlx => ?_⟩
        rcases List.mem_append.1 hx' with h' | h'
        · exact i3 x h' hlx
        · obtain rfl : x = y := by simpa using h'
          omega
theorem canon_lt (zs : List Int) {i j : Nat} (hi : i < (canon zs).length) (hj : j < (canon zs).length) (h : i < j) : (canon zs)[i] < (canon zs)[j] :=
  List.pairwise_iff_getElem.1 (canon_sorted zs) i j hi hj h
/-- The last one found, when m have been found. -/
def lastOf (zs : List Int) (m : Nat) : Int := if m = 0 then -1 else (canon zs).getD (m - 1) 0
theorem lastOf_lt (zs : List Int) (h0 : ∀ x ∈ zs, 0 ≤ x) (m j : Nat) (hj : j < (canon zs).length) : lastOf zs m < (canon zs)[j] ∨ j < m := by
  unfold lastOf
  have hp := h0 _ ((mem_canon _ _).1 (List.getElem_mem hj))
  by_cases hm : m = 0
  · rw [if_pos hm]; left; omega
  · rw [if_neg hm]
    by_cases hjm : j < m
    · exact .inr hjm
    · left
      have h1 : m - 1 < (canon zs).length := by omega
      have e : (canon zs).getD (m - 1) 0 = (canon zs)[m - 1] := by simp [List.getD, h1]
      rw [e]
      exact canon_lt zs h1 hj (by omega)
theorem best_canon (zs : List Int) (h0 : ∀ x ∈ zs, 0 ≤ x) (m : Nat) (hm : m ≤ (canon zs).length) : best (lastOf zs m) zs = if m < (canon zs).length then (canon zs).getD m 0 else -1 := by
  have hl : -1 ≤ lastOf zs m := by
    unfold lastOf
    split
    · omega
    · have h1 : m - 1 < (canon zs).length := by omega
      have e : (canon zs).getD (m - 1) 0 = (canon zs)[m - 1] := by simp [List.getD, h1]
      rw [e]
      have := h0 _ ((mem_canon _ _).1 (List.getElem_mem h1))
      omega
  have hge : ∀ j, j < m → ∀ hj : j < (canon zs).length, (canon zs)[j] ≤ lastOf zs m := by
    intro j hjm hj
    unfold lastOf
    rw [if_neg (by omega)]
    have h1 : m - 1 < (canon zs).length := by omega
    have e : (canon zs).getD (m - 1) 0 = (canon zs)[m - 1] := by simp [List.getD, h1]
    rw [e]
    by_cases hjj : j = m - 1
    · subst hjj; exact Int.le_refl _
    · exact Int.le_of_lt (canon_lt zs hj h1 (by omega))
  have hs := best_spec (lastOf zs m) hl zs h0 zs.length (Nat.le_refl _)
  rw [List.take_length] at hs
  by_cases hmm : m < (canon zs).length
  · rw [if_pos hmm]
    have e : (canon zs).getD m 0 = (canon zs)[m] := by simp [List.getD, hmm]
    rw [e]
    have hin := (mem_canon _ _).1 (List.getElem_mem hmm)
    have hgt := (lastOf_lt zs h0 m m hmm).resolve_right (by omega)
    rcases hs with ⟨_, h2⟩ | ⟨h1, h2, h3⟩
    · have := h2 _ hin; omega
    · have hle := h3 _ hin hgt
      obtain ⟨j, hj, hjb⟩ := List.getElem_of_mem ((mem_canon zs _).2 h1)
      rcases Nat.lt_trichotomy j m with h | h | h
      · have := hge j h hj; omega
      · subst h; exact hjb.symm
      · have := canon_lt zs hmm hj h; omega
  · rw [if_neg hmm]
    rcases hs with ⟨h1, _⟩ | ⟨h1, h2, _⟩
    · exact h1
    · obtain ⟨j, hj, hjb⟩ := List.getElem_of_mem ((mem_canon zs _).2 h1)
      have := hge j (by omega) hj
      omega
end

section
open Go.RowKit

theorem best_next (last : Int) (zs : List Int) (k : Nat) (h : k < zs.length) : best last (zs.take (k + 1)) = bestStep last (best last (zs.take k)) (zs.getD k 0) := by
  have e : zs.take (k + 1) = zs.take k ++ [zs[k]] := by rw [List.take_add_one, List.getElem?_eq_getElem h]; rfl
  rw [e, best_snoc]
  simp [List.getD, h]

set_option maxHeartbeats 4000000 in
set_option maxRecDepth 100000 in
theorem so_rOfO (v : Value) (zs : List Int) (w : World) (h : IS w v zs) (h0 : ∀ x ∈ zs, 0 ≤ x ∧ x ≤ 4611686018427387904) (hbig : zs.length * 8 ≤ 140737488355328) :
    Calls Tryd.prog 17 #[v] w fun e w' => ∃ v', e = .returned v' ∧ w'.ownsRow w.heap.size 3 1 v' (canon zs).length ((canon zs).map (Value.int .i64)) ∧ Below w.heap.size w w' := by
  obtain ⟨i0, hi, hz0, hz1, hz2⟩ := info_parts int_info
  obtain ⟨p, c, rfl, hcap, hs⟩ := h
  have hS := Lib.hid hs
  have hD := Lib.hid h0
  have hcl := canon_le zs
  have HBC := Lib.hid (best_canon zs (fun x hx => (h0 x hx).1))
  clear hs h0
  generalize hN : (canon zs).length = N at *
  have HN := Lib.hid hN
  clear hN
  go_enter Tryd.func17, Tryd.ntmps17
  go_wp2
  go_loopg [3, 4, 5, 6] N (fun g s3 s4 _ _ wr => ∃ m : Nat, m ≤ N ∧ N - m ≤ g ∧ s4 = .int .i64 (lastOf zs m) ∧ Hid (wr.ownsRow w.heap.size 3 1 s3 m (((canon zs).take m).map (Value.int .i64))) ∧ Hid (Below w.heap.size w wr))
  case atStart => exact ⟨0, Nat.zero_le _, by omega, rfl, World.ownsRow_nil _ _ _ _, Below.refl _ _⟩
  case round =>
    obtain ⟨m, hm, hg, rfl, HO, HB⟩ := hrel
    have hsz := HB.out.size
    go_wp2
    go_loopw [5, 6] (fun nx i W => ∃ k : Nat, k ≤ zs.length ∧ i = .int .i64 k ∧ W = wr ∧ nx = .int .i64 (best (lastOf zs m) (zs.take k))) (fun _ i _ => zs.length - (intOf i).toNat)
    case atStart => exact ⟨0, Nat.zero_le _, rfl, rfl, rfl⟩
    case round =>
      obtain ⟨k, hk, rfl, hW, rfl⟩ := hrel
      subst hW
      by_cases hlt : k < zs.length
      · obtain ⟨b, off, rfl, hc⟩ := hS.out.resolve_left (by omega)
        have c0 := hc k hlt
        have hcell := (HB.out.cell (World.block_lt_of_cell? w _ c0)).trans c0
        have HNX := Lib.hid (best_next (lastOf zs m) zs k hlt)
        clear hc c0
        generalize zs.getD k 0 = x at *
        generalize best (lastOf zs m) (zs.take k) = nx at *
        generalize lastOf zs m = l at *
        by_cases h1 : l < x
        · by_cases h2 : nx < 0
          · go_wp2
            go_roundw
            case rel => exact ⟨k + 1, by omega, by go_num, (by trivial), by rw [HNX.out, bestStep, if_pos ⟨h1, .inl h2⟩]⟩
            case measure => simp [intOf]; omega
          · by_cases h3 : x < nx
            · go_wp2
              go_roundw
              case rel => exact ⟨k + 1, by omega, by go_num, (by trivial), by rw [HNX.out, bestStep, if_pos ⟨h1, .inr h3⟩]⟩
              case measure => simp [intOf]; omega
            · go_wp2
              go_roundw
              case rel => exact ⟨k + 1, by omega, by go_num, (by trivial), by rw [HNX.out, bestStep, if_neg (by omega)]⟩
              case measure => simp [intOf]; omega
        · go_wp2
          go_roundw
          case rel => exact ⟨k + 1, by omega, by go_num, (by trivial), by rw [HNX.out, bestStep, if_neg (by omega)]⟩
          case measure => simp [intOf]; omega
      · have hke : k = zs.length := by omega
        subst hke
        rw [List.take_length]
        have hb := HBC.out m hm
        by_cases hmN : m < N
        · have hlc : m < (canon zs).length := by rw [HN.out]; exact hmN
          rw [if_pos hmN] at hb
          have hcm : (canon zs).getD m 0 = (canon zs)[m] := by simp [List.getD, hlc]
          have hpos := (hD.out _ ((mem_canon _ _).1 (List.getElem_mem hlc))).1
          have hle := (hD.out _ ((mem_canon _ _).1 (List.getElem_mem hlc))).2
          rw [hcm] at hb
          have HM := Lib.hid (show ((canon zs).take (m + 1)).map (Value.int .i64) = ((canon zs).take m).map (Value.int .i64) ++ [Value.int .i64 (canon zs)[m]] by rw [List.take_add_one, List.getElem?_eq_getElem hlc, List.map_append]; rfl)
          have HL := Lib.hid (show lastOf zs (m + 1) = (canon zs)[m] by unfold lastOf; rw [if_neg (by omega), Nat.add_sub_cancel, hcm])
          rw [hb]
          clear hb hcm
          generalize (canon zs)[m] = y at *
          have hneg : ¬ y < 0 := by omega
          go_wp2_with (at_builtin; refine wpList_push1 rfl _ _ 27 rfl w.heap.size 3 i0 (.int .i64 0) 8 Tryd.underlying27 hi hz0 hz1 hz2 rfl _ m _ rfl HO.out _ rfl rfl ?c3 ?c4 hsz ?_)
          case c3 => unfold maxLen; omega
          case c4 => omega
          intro gg cap w2 hown hg2
          have HO2 := Lib.hid hown
          have HB2 := Lib.hid (below_push HB.out HO.out hg2 (Nat.le_refl _) hsz)
          clear hown hg2
          go_wp2
          go_roundg (N - (m + 1))
          case measure => omega
          case rel => exact ⟨m + 1, by omega, Nat.le_refl _, by rw [HL.out], (by show World.ownsRow _ _ _ _ _ _ _; rw [HM.out, List.map_take]; exact HO2.out), HB2.out⟩
        · have hmN' : m = N := by omega
          subst hmN'
          rw [if_neg hmN] at hb
          rw [hb]
          go_wp2
          go_ret
          exact ⟨_, rfl, (by have := HO.out; rw [← HN.out, List.take_length] at this; rw [HN.out] at this; exact this), HB.out⟩
theorem so_rOf (v : Value) (zs : List Int) (w : World) (h : IS w v zs) (h0 : ∀ x ∈ zs, 0 ≤ x ∧ x ≤ 4611686018427387904) (hbig : zs.length * 8 ≤ 140737488355328) :
    Calls Tryd.prog 17 #[v] w fun e w' => ∃ v', e = .returned v' ∧ IS w' v' (canon zs) ∧ Below w.heap.size w w' :=
  (so_rOfO v zs w h h0 hbig).mono fun _ _ ⟨v', he, ho, hb⟩ => ⟨v', he, IS.of_own (e := 3) ho, hb⟩
end

section
open Go.RowKit

set_option maxHeartbeats 2000000 in
set_option maxRecDepth 100000 in
theorem so_same (v u : Value) (xs ys : List Int) (w : World) (h : FS w v xs) (hu : FS w u ys) (hbig : xs.length ≤ 9223372036854775807) (hbig2 : ys.length ≤ 9223372036854775807) :
    Calls Tryd.prog 26 #[v, u] w fun e w' => e = .returned (.bool (decide (xs = ys))) ∧ ∃ n, w' = w.drewN n := by
  obtain ⟨p, c, rfl, hcap, hs⟩ := h
  obtain ⟨p2, c2, rfl, hcap2, hs2⟩ := hu
  have hA := Lib.hid hs
  have hB := Lib.hid hs2
  clear hs hs2
  by_cases hn : xs.length = ys.length
  · have HN := Lib.hid hn
    rw [← hn]
    clear hn
    go_enter Tryd.func26, Tryd.ntmps26
    go_wp2_with fail
    go_loopw [5, 13] (fun _ i wr => ∃ k m : Nat, k ≤ xs.length ∧ i = .int .i64 k ∧ wr = w.drewN m ∧ Hid (xs.take k = ys.take k)) (fun _ i _ => xs.length - (intOf i).toNat)
    case atStart => exact ⟨0, 0, Nat.zero_le _, rfl, rfl, rfl⟩
    case round =>
      obtain ⟨k, m, hk, rfl, rfl, HR⟩ := hrel
      by_cases hlt : k < xs.length
      · have hlt2 : k < ys.length := by have := HN.out; omega
        obtain ⟨b, off, rfl, hc⟩ := hA.out.resolve_left (by omega)
        obtain ⟨b2, off2, rfl, hc2⟩ := hB.out.resolve_left (by omega)
        have c1 := hc k hlt
        have c2' := hc2 k hlt2
        clear hc hc2
        generalize hx : xs.getD k 0 = x at c1
        generalize hy : ys.getD k 0 = y at c2'
        have HX := Lib.hid hx
        have HY := Lib.hid hy
        clear hx hy
        cases hq : (x == y)
        · have hfin := Lib.hid (show decide (xs = ys) = false by
            rw [decide_eq_false_iff_not]; rintro rfl
            rw [HX.out] at HY
            rw [HY.out] at hq; simp at hq)
          go_wp2_with fail
          go_quiet (fail)
          go_wp2_with fail
          go_ret
          exact ⟨by rw [hfin.out]; rfl, _, by rw [World.drewN_drewN]⟩
        · have he := Lib.hid (take_snoc_eq hlt hlt2 HR.out (by rw [HX.out, HY.out]; simpa using hq))
          go_wp2_with fail
          go_quiet (fail)
          go_wp2_with fail
          go_roundw
          case rel => exact ⟨k + 1, _, by omega, by go_num, rfl, he.out⟩
          case measure => simp [intOf]; omega
      · have hke : k = xs.length := by omega
        subst hke
        have hfin := Lib.hid (show decide (xs = ys) = true by
          have h1 := HR.out
          have h2 := HN.out
          rw [List.take_length, h2, List.take_length] at h1
          rw [h1]; simp)
        go_wp2_with fail
        go_ret
        exact ⟨by rw [hfin.out]; rfl, _, rfl⟩
  · have hfin := Lib.hid (show decide (xs = ys) = false by
      rw [decide_eq_false_iff_not]; rintro rfl; exact hn rfl)
    have hne : ((xs.length : Int) == (ys.length : Int)) = false := by
      rw [beq_eq_false_iff_ne]; omega
    go_enter Tryd.func26, Tryd.ntmps26
    go_wp2_with fail
    go_ret
    exact ⟨by rw [hfin.out]; rfl, 0, rfl⟩


set_option maxHeartbeats 1000000 in
theorem so_rHas (v : Value) (zs : List Int) (x : Int) (w : World) (h : IS w v zs) (hbig : zs.length ≤ 4611686018427387904) :
    Calls Tryd.prog 28 #[v, .int .i64 x] w fun e w' => e = .returned (.bool (zs.contains x)) ∧ w' = w := by
  obtain ⟨p, c, rfl, hcap, hs⟩ := h
  have hS := Lib.hid hs
  clear hs
  generalize hr : zs.contains x = r
  have HRR := Lib.hid hr
  clear hr
  go_enter Tryd.func28, Tryd.ntmps28
  go_wp2
  go_loop [5] (fun i => ∃ k : Nat, k ≤ zs.length ∧ i = .int .i64 k ∧ Hid (∀ j, j < k → zs.getD j 0 ≠ x)) (fun i => zs.length - (intOf i).toNat)
  case atStart => exact ⟨0, Nat.zero_le _, rfl, fun j hj => absurd hj (Nat.not_lt_zero _)⟩
  case round =>
    obtain ⟨k, hk, rfl, HN⟩ := hrel
    by_cases hlt : k < zs.length
    · obtain ⟨b, off, rfl, hc⟩ := hS.out.resolve_left (by omega)
      have hcell := hc k hlt
      generalize hz : zs.getD k 0 = z at hcell
      have HZ := Lib.hid hz
      clear hc hz
      cases hq : (z == x)
      · go_wp2
        go_roundw
        case rel =>
          refine ⟨k + 1, by omega, by go_num, fun j hj => ?_⟩
          by_cases e : j = k
          · subst e; rw [HZ.out]; intro e; rw [e] at hq; simp at hq
          · exact HN.out j (by omega)
        case measure => simp [intOf]; omega
      · have hfin := Lib.hid (show zs.contains x = true by
          have e : zs.getD k 0 = zs[k] := by simp [List.getD, hlt]
          have h1 := HZ.out
          rw [e] at h1
          rw [contains_iff, ← beq_iff_eq.1 hq, ← h1]; exact List.getElem_mem hlt)
        go_wp2
        go_ret
        exact ⟨by rw [← HRR.out, hfin.out]; rfl, rfl⟩
    · have hke : k = zs.length := by omega
      subst hke
      have hfin := Lib.hid (show zs.contains x = false by
        cases hq : zs.contains x
        · rfl
        · obtain ⟨j, hj, hjx⟩ := List.getElem_of_mem ((contains_iff _ _).1 hq)
          exact absurd (by simp [List.getD, hj, hjx]) (HN.out j hj))
      go_wp2
      go_ret
      exact ⟨by rw [← HRR.out, hfin.out]; rfl, rfl⟩
end

section
open Go.RowKit

theorem take_snoc_map (zs : List Int) (k : Nat) (h : k < zs.length) (pre : List Int) : (pre ++ zs.take (k + 1)).map (Value.int .i64) = (pre ++ zs.take k).map (Value.int .i64) ++ [Value.int .i64 (zs.getD k 0)] := by
  have e : zs.take (k + 1) = zs.take k ++ [zs.getD k 0] := by
    rw [List.take_add_one, List.getElem?_eq_getElem h]
    simp [List.getD, h]
  rw [e, ← List.append_assoc, List.map_append]
  rfl

theorem own_base {w : World} {B B' e size n : Nat} {v : Value} {xs : List Value} (h : w.ownsRow B e size v n xs) (hB : B' ≤ B) : w.ownsRow B' e size v n xs :=
  ⟨h.1, by
    rcases h.2 with hn | ⟨g, cap, cur, hv, hg, r⟩
    · exact .inl hn
    · exact .inr ⟨g, cap, cur, hv, Nat.le_trans hB hg, r⟩⟩

set_option maxHeartbeats 4000000 in
set_option maxRecDepth 100000 in
theorem so_rWithO (v u : Value) (zs ts : List Int) (w : World) (h : IS w v zs) (hu : IS w u ts) (h0 : ∀ x ∈ zs, 0 ≤ x ∧ x ≤ 4611686018427387904) (h1 : ∀ x ∈ ts, 0 ≤ x ∧ x ≤ 4611686018427387904) (hbig : (zs.length + ts.length) * 8 ≤ 140737488355328) :
    Calls Tryd.prog 19 #[v, u] w fun e w' => ∃ v', e = .returned v' ∧ w'.ownsRow w.heap.size 3 1 v' (canon (zs ++ ts)).length ((canon (zs ++ ts)).map (Value.int .i64)) ∧ Below w.heap.size w w' := by
  obtain ⟨i0, hi, hz0, hz1, hz2⟩ := info_parts int_info
  obtain ⟨p, c, rfl, hcap, hs⟩ := h
  obtain ⟨p2, c2, rfl, hcap2, hs2⟩ := hu
  have hS := Lib.hid hs
  have hT := Lib.hid hs2
  have hD : Hid (∀ x ∈ zs ++ ts, 0 ≤ x ∧ x ≤ 4611686018427387904) := Lib.hid (by
    intro x hx
    rcases List.mem_append.1 hx with hx | hx
    · exact h0 x hx
    · exact h1 x hx)
  have hLn := Lib.hid (show (zs ++ ts).length * 8 ≤ 140737488355328 by rw [List.length_append]; exact hbig)
  clear hs hs2 h0 h1
  go_enter Tryd.func19, Tryd.ntmps19
  go_wp2
  go_loopw [5, 6] (fun s i wr => ∃ k : Nat, k ≤ zs.length ∧ i = .int .i64 k ∧ Hid (wr.ownsRow w.heap.size 3 1 s k (([] ++ zs.take k).map (Value.int .i64))) ∧ Hid (Below w.heap.size w wr)) (fun _ i _ => zs.length - (intOf i).toNat)
  case atStart => exact ⟨0, Nat.zero_le _, rfl, World.ownsRow_nil _ _ _ _, Below.refl _ _⟩
  case round =>
    obtain ⟨k, hk, rfl, HO, HB⟩ := hrel
    have hsz := HB.out.size
    by_cases hlt : k < zs.length
    · obtain ⟨b, off, rfl, hc⟩ := hS.out.resolve_left (by omega)
      have c0 := hc k hlt
      have hcell := (HB.out.cell (World.block_lt_of_cell? w _ c0)).trans c0
      have HM := Lib.hid (take_snoc_map zs k hlt [])
      clear hc c0
      generalize hz : zs.getD k 0 = z at *
      clear hz
      go_wp2_with (at_builtin; refine wpList_push1 rfl _ _ 27 rfl w.heap.size 3 i0 (.int .i64 0) 8 Tryd.underlying27 hi hz0 hz1 hz2 rfl _ k _ rfl HO.out _ rfl rfl ?c3 ?c4 hsz ?_)
      case c3 => unfold maxLen; omega
      case c4 => omega
      intro gg cap w2 hown hg
      have HO2 := Lib.hid hown
      have HB2 := Lib.hid (below_push HB.out HO.out hg (Nat.le_refl _) hsz)
      clear hown hg
      go_wp2
      go_roundw
      case rel => exact ⟨k + 1, by omega, by go_num, (by show World.ownsRow _ _ _ _ _ _ _; rw [HM.out]; simpa using HO2.out), HB2.out⟩
      case measure => simp [intOf]; omega
    · have hke : k = zs.length := by omega
      subst hke
      rw [List.nil_append, List.take_length] at HO
      go_wp2
      go_loopw [5, 7] (fun s i W => ∃ k : Nat, k ≤ ts.length ∧ i = .int .i64 k ∧ Hid (W.ownsRow w.heap.size 3 1 s (zs.length + k) ((zs ++ ts.take k).map (Value.int .i64))) ∧ Hid (Below w.heap.size w W)) (fun _ i _ => ts.length - (intOf i).toNat)
      case atStart => exact ⟨0, Nat.zero_le _, rfl, (by show World.ownsRow _ _ _ _ _ _ _; simpa using HO.out), HB.out⟩
      case round =>
        clear HO HB hsz
        obtain ⟨k, hk, rfl, HO, HB⟩ := hrel
        have hsz := HB.out.size
        by_cases hlt : k < ts.length
        · obtain ⟨b, off, rfl, hc⟩ := hT.out.resolve_left (by omega)
          have c0 := hc k hlt
          have hcell := (HB.out.cell (World.block_lt_of_cell? w _ c0)).trans c0
          have HM := Lib.hid (take_snoc_map ts k hlt zs)
          clear hc c0
          generalize hz : ts.getD k 0 = z at *
          clear hz
          go_wp2_with (at_builtin; refine wpList_push1 rfl _ _ 27 rfl w.heap.size 3 i0 (.int .i64 0) 8 Tryd.underlying27 hi hz0 hz1 hz2 rfl _ _ _ rfl HO.out _ rfl rfl ?c3 ?c4 hsz ?_)
          case c3 => unfold maxLen; omega
          case c4 => omega
          intro gg cap w2 hown hg
          have HO2 := Lib.hid hown
          have HB2 := Lib.hid (below_push HB.out HO.out hg (Nat.le_refl _) hsz)
          clear hown hg
          go_wp2
          go_roundw
          case rel => exact ⟨k + 1, by omega, by go_num, (by show World.ownsRow _ _ _ _ _ _ _; rw [HM.out, ← Nat.add_assoc]; simpa using HO2.out), HB2.out⟩
          case measure => simp [intOf]; omega
        · have hke : k = ts.length := by omega
          subst hke
          rw [List.take_length] at HO
          have HI := Lib.hid (IS.of_own (e := 3) (zs := zs ++ ts) (by rw [List.length_append]; exact HO.out))
          go_wp2_with (go_at_call 17; refine (so_rOfO _ _ _ HI.out hD.out hLn.out).mono ?_; rintro e w2 ⟨v2, rfl, h2, b2⟩; have H2 := Lib.hid (own_base h2 hsz); have B2 := Lib.hid (HB.out.trans (b2.mono hsz)); clear h2 b2)
          go_ret
          exact ⟨v2, rfl, H2.out, B2.out⟩

theorem so_rWith (v u : Value) (zs ts : List Int) (w : World) (h : IS w v zs) (hu : IS w u ts) (h0 : ∀ x ∈ zs, 0 ≤ x ∧ x ≤ 4611686018427387904) (h1 : ∀ x ∈ ts, 0 ≤ x ∧ x ≤ 4611686018427387904) (hbig : (zs.length + ts.length) * 8 ≤ 140737488355328) :
    Calls Tryd.prog 19 #[v, u] w fun e w' => ∃ v', e = .returned v' ∧ IS w' v' (canon (zs ++ ts)) ∧ Below w.heap.size w w' :=
  (so_rWithO v u zs ts w h hu h0 h1 hbig).mono fun _ _ ⟨v', he, ho, hb⟩ => ⟨v', he, IS.of_own (e := 3) ho, hb⟩

theorem outs_snoc' (ts zs : List Int) (m : Nat) (hm : m < zs.length) : outs ts (zs.take (m + 1)) = outs ts (zs.take m) ++ if ts.contains (zs.getD m 0) then [] else [zs.getD m 0] := outs_snoc ts zs m hm

set_option maxHeartbeats 4000000 in
set_option maxRecDepth 100000 in
theorem so_rWithoutO (v u : Value) (zs ts : List Int) (w : World) (h : IS w v zs) (hu : IS w u ts) (h0 : ∀ x ∈ zs, 0 ≤ x ∧ x ≤ 4611686018427387904) (hbig : zs.length * 8 ≤ 140737488355328) (hbig2 : ts.length ≤ 4611686018427387904) :
    Calls Tryd.prog 23 #[v, u] w fun e w' => ∃ v', e = .returned v' ∧ w'.ownsRow w.heap.size 3 1 v' (outs ts (canon zs)).length ((outs ts (canon zs)).map (Value.int .i64)) ∧ Below w.heap.size w w' := by
  obtain ⟨i0, hi, hz0, hz1, hz2⟩ := info_parts int_info
  have hS := Lib.hid h
  have hT := Lib.hid hu
  have hD := Lib.hid h0
  have hcl := canon_le zs
  clear h0 h hu
  generalize hcn : canon zs = cs at *
  have HCN := Lib.hid hcn
  clear hcn
  go_enter Tryd.func23, Tryd.ntmps23
  go_wp2_with (go_at_call 17; refine (so_rOf _ zs _ hS.out hD.out hbig).mono ?_; rw [HCN.out]; rintro e w1 ⟨v1, rfl, ⟨p, c, rfl, hcap, hs⟩, b1⟩; have H1 := Lib.hid hs; have B1 := Lib.hid b1; clear hs b1)
  have hs1 := B1.out.size
  go_loopw [5, 7, 8] (fun s i _ wr => ∃ k m : Nat, k ≤ cs.length ∧ m ≤ k ∧ i = .int .i64 k ∧ (outs ts (cs.take k)).length = m ∧ Hid (wr.ownsRow w1.heap.size 3 1 s m ((outs ts (cs.take k)).map (Value.int .i64))) ∧ Hid (Below w1.heap.size w1 wr)) (fun _ i _ _ => cs.length - (intOf i).toNat)
  case atStart => exact ⟨0, 0, Nat.zero_le _, Nat.le_refl _, rfl, by simp [outs], (by show World.ownsRow _ _ _ _ _ _ _; simpa [outs] using World.ownsRow_nil _ _ _ _), Below.refl _ _⟩
  case round =>
    obtain ⟨k, m, hk, hmk, rfl, hml, HO, HB⟩ := hrel
    have hsz := HB.out.size
    have HML := Lib.hid hml
    clear hml
    by_cases hlt : k < cs.length
    · obtain ⟨b, off, rfl, hc⟩ := H1.out.resolve_left (by omega)
      have c0 := hc k hlt
      have hcell := (HB.out.cell (World.block_lt_of_cell? w1 _ c0)).trans c0
      have HM := Lib.hid (outs_snoc' ts cs k hlt)
      have HT2 := Lib.hid (hT.out.keep (B1.out.trans (HB.out.mono hs1)))
      clear hc c0
      generalize hz : cs.getD k 0 = z at *
      clear hz
      cases hq : ts.contains z
      · have HQ := Lib.hid hq
        clear hq
        have HN : Hid (outs ts (cs.take (k + 1)) = outs ts (cs.take k) ++ [z]) := Lib.hid (by rw [HM.out, HQ.out]; rfl)
        go_wp2_with (first
          | (go_at_call 28; refine (so_rHas _ ts z _ HT2.out hbig2).mono ?_; rw [HQ.out]; rintro e w2 ⟨rfl, rfl⟩)
          | (at_builtin; refine wpList_push1 rfl _ _ 27 rfl w1.heap.size 3 i0 (.int .i64 0) 8 Tryd.underlying27 hi hz0 hz1 hz2 rfl _ _ _ rfl HO.out _ rfl rfl (by unfold maxLen; omega) (by omega) hsz ?_; intro gg cap w2 hown hg; have HO2 := Lib.hid hown; have HB2 := Lib.hid (below_push HB.out HO.out hg (Nat.le_refl _) hsz); clear hown hg))
        go_roundw
        case rel => exact ⟨k + 1, m + 1, by omega, by omega, by go_num, by rw [HN.out, List.length_append, HML.out]; rfl, (by show World.ownsRow _ _ _ _ _ _ _; rw [HN.out, List.map_append]; exact HO2.out), HB2.out⟩
        case measure => simp [intOf]; omega
      · have HQ := Lib.hid hq
        clear hq
        have HN : Hid (outs ts (cs.take (k + 1)) = outs ts (cs.take k)) := Lib.hid (by rw [HM.out, HQ.out]; simp)
        go_wp2_with (go_at_call 28; refine (so_rHas _ ts z _ HT2.out hbig2).mono ?_; rw [HQ.out]; rintro e w2 ⟨rfl, rfl⟩)
        go_roundw
        case rel => exact ⟨k + 1, m, by omega, by omega, by go_num, by rw [HN.out, HML.out], (by show World.ownsRow _ _ _ _ _ _ _; rw [HN.out]; exact HO.out), HB.out⟩
        case measure => simp [intOf]; omega
    · have hke : k = cs.length := by omega
      subst hke
      rw [List.take_length] at HO HML
      have HI := Lib.hid (own_base (by rw [HML.out]; exact HO.out : wr.ownsRow w1.heap.size 3 1 _ (outs ts cs).length ((outs ts cs).map (Value.int .i64))) hs1)
      go_wp2
      go_ret
      exact ⟨_, rfl, HI.out, B1.out.trans (HB.out.mono hs1)⟩

theorem so_rWithout (v u : Value) (zs ts : List Int) (w : World) (h : IS w v zs) (hu : IS w u ts) (h0 : ∀ x ∈ zs, 0 ≤ x ∧ x ≤ 4611686018427387904) (hbig : zs.length * 8 ≤ 140737488355328) (hbig2 : ts.length ≤ 4611686018427387904) :
    Calls Tryd.prog 23 #[v, u] w fun e w' => ∃ v', e = .returned v' ∧ IS w' v' (outs ts (canon zs)) ∧ Below w.heap.size w w' :=
  (so_rWithoutO v u zs ts w h hu h0 hbig hbig2).mono fun _ _ ⟨v', he, ho, hb⟩ => ⟨v', he, IS.of_own (e := 3) ho, hb⟩

theorem without_law (ts zs : List Int) : canon (outs ts zs) = outs ts (canon zs) := by
  refine sorted_ext _ _ (canon_sorted _) ((canon_sorted zs).filter _) (fun x => ?_)
  rw [mem_canon, mem_outs, mem_outs, mem_canon]

set_option maxHeartbeats 4000000 in
set_option maxRecDepth 100000 in
theorem so_rEqual (v u : Value) (zs ts : List Int) (w : World) (h : IS w v zs) (hu : IS w u ts) (h0 : ∀ x ∈ zs, 0 ≤ x ∧ x ≤ 4611686018427387904) (h1 : ∀ x ∈ ts, 0 ≤ x ∧ x ≤ 4611686018427387904) (hbig : zs.length * 8 ≤ 140737488355328) (hbig2 : ts.length * 8 ≤ 140737488355328) :
    Calls Tryd.prog 31 #[v, u] w fun e w' => e = .returned (.bool (decide (canon zs = canon ts))) ∧ Below w.heap.size w w' := by
  have hS := Lib.hid h
  have hT := Lib.hid hu
  have hD := Lib.hid h0
  have hE := Lib.hid h1
  have hcl := canon_le zs
  have hcl2 := canon_le ts
  clear h0 h1 h hu
  generalize hcn : canon zs = xs at *
  have HCN := Lib.hid hcn
  clear hcn
  generalize hcn2 : canon ts = ys at *
  have HCN2 := Lib.hid hcn2
  clear hcn2
  by_cases hn : xs.length = ys.length
  · have HN := Lib.hid hn
    clear hn
    go_enter Tryd.func31, Tryd.ntmps31
    go_wp2_with (first
      | (go_at_call_of 17 v; refine (so_rOf _ zs _ hS.out hD.out hbig).mono ?_; rw [HCN.out]; rintro e w1 ⟨v1, rfl, h1, b1⟩; obtain ⟨p, c, rfl, hcap, hs⟩ := h1; have H1 := Lib.hid (show IS w1 (.slice p xs.length c) xs from ⟨p, c, rfl, hcap, hs⟩); have B1 := Lib.hid b1; clear hs b1)
      | (go_at_call_of 17 u; refine (so_rOf _ ts _ (hT.out.keep B1.out) hE.out hbig2).mono ?_; rw [HCN2.out]; rintro e w2 ⟨v2, rfl, ⟨p2, c2, hv2, hcap2, hs2⟩, b2⟩; rw [← HN.out] at hv2; subst hv2; have K1 := Lib.hid (H1.out.keep b2); have hB := Lib.hid hs2; have B2 := Lib.hid (B1.out.trans (b2.mono B1.out.size)); clear b2 hs2))
    obtain ⟨p', c', hv', -, hs⟩ := K1.out
    obtain ⟨rfl, -, rfl⟩ := Value.slice.inj hv'
    have hA := Lib.hid hs
    clear hs hv' K1 H1
    go_loopw [7] (fun i wr => ∃ k m : Nat, k ≤ xs.length ∧ i = .int .i64 k ∧ wr = w2.drewN m ∧ Hid (xs.take k = ys.take k)) (fun i _ => xs.length - (intOf i).toNat)
    case atStart => exact ⟨0, 0, Nat.zero_le _, rfl, rfl, rfl⟩
    case round =>
      obtain ⟨k, m, hk, rfl, rfl, HR⟩ := hrel
      by_cases hlt : k < xs.length
      · have hlt2 : k < ys.length := by have := HN.out; omega
        obtain ⟨b, off, rfl, hc⟩ := hA.out.resolve_left (by omega)
        obtain ⟨b2, off2, rfl, hc2⟩ := hB.out.resolve_left (by omega)
        have c1 := hc k hlt
        have c2' := hc2 k hlt2
        clear hc hc2
        generalize hx : xs.getD k 0 = x at c1
        generalize hy : ys.getD k 0 = y at c2'
        have HX := Lib.hid hx
        have HY := Lib.hid hy
        clear hx hy
        cases hq : (x == y)
        · have hfin := Lib.hid (show decide (xs = ys) = false by
            rw [decide_eq_false_iff_not]; rintro rfl
            rw [HX.out] at HY
            rw [HY.out] at hq; simp at hq)
          go_wp2_with fail
          go_quiet (fail)
          go_wp2_with fail
          go_ret
          exact ⟨by rw [hfin.out]; rfl, by rw [World.drewN_drewN]; exact below_draws B2.out _⟩
        · have he := Lib.hid (take_snoc_eq hlt hlt2 HR.out (by rw [HX.out, HY.out]; simpa using hq))
          go_wp2_with fail
          go_quiet (fail)
          go_wp2_with fail
          go_roundw
          case rel => exact ⟨k + 1, _, by omega, by go_num, rfl, he.out⟩
          case measure => simp [intOf]; omega
      · have hke : k = xs.length := by omega
        subst hke
        have hfin := Lib.hid (show decide (xs = ys) = true by
          have h1 := HR.out
          have h2 := HN.out
          rw [List.take_length, h2, List.take_length] at h1
          rw [h1]; simp)
        go_wp2_with fail
        go_ret
        exact ⟨by rw [hfin.out]; rfl, below_draws B2.out _⟩
  · have hfin := Lib.hid (show decide (xs = ys) = false by
      rw [decide_eq_false_iff_not]; rintro rfl; exact hn rfl)
    have hne : ((xs.length : Int) == (ys.length : Int)) = false := by
      rw [beq_eq_false_iff_ne]; omega
    go_enter Tryd.func31, Tryd.ntmps31
    go_wp2_with (first
      | (go_at_call_of 17 v; refine (so_rOf _ zs _ hS.out hD.out hbig).mono ?_; rw [HCN.out]; rintro e w1 ⟨v1, rfl, ⟨p, c, rfl, -, -⟩, b1⟩; have B1 := Lib.hid b1; clear b1)
      | (go_at_call_of 17 u; refine (so_rOf _ ts _ (hT.out.keep B1.out) hE.out hbig2).mono ?_; rw [HCN2.out]; rintro e w2 ⟨v2, rfl, ⟨p2, c2, rfl, -, -⟩, b2⟩; have B2 := Lib.hid (B1.out.trans (b2.mono B1.out.size)); clear b2))
    go_ret
    exact ⟨by rw [hfin.out]; rfl, B2.out⟩
end

section
open Go.RowKit

def foldWith (zs : List Int) (tss : List (List Int)) : List Int := tss.foldl (fun s t => canon (s ++ t)) (canon zs)
theorem foldWith_snoc (zs : List Int) (tss : List (List Int)) (t : List Int) : foldWith zs (tss ++ [t]) = canon (foldWith zs tss ++ t) := by
  unfold foldWith; rw [List.foldl_append]; rfl

set_option maxHeartbeats 2000000 in
set_option maxRecDepth 100000 in
theorem so_FoldWith (v g : Value) (zs : List Int) (gs : List (Value × List Int)) (w : World) (h : FS w v zs) (hg : GS w g gs) (hbig : (zs.length + (joinG gs).length) * 2 ≤ 140737488355328) (hn : gs.length ≤ 4611686018427387904) :
    Calls Tryd.prog 21 #[.func (.func 22) #[] #[], v, g] w fun e w' => ∃ v', e = .returned v' ∧ FN w.heap.size w' v' (canon (foldWith zs (gs.map (·.2)))) ∧ Below w.heap.size w w' := by
  have hF := Lib.hid h
  obtain ⟨p, c, rfl, hs, hall⟩ := hg
  have hS := Lib.hid hs
  have hA := Lib.hid hall
  clear h hs hall
  have hcl := canon_le zs
  have hnf : ∀ (w : World), (Go.binOp .eql 45 (.func (.func 22) #[] #[]) .nilFunc).run Tryd.prog w = .ok (.bool false) w := fun _ => by kernel_rfl
  go_enter Tryd.func21, Tryd.ntmps21
  go_wp2_with (go_at_call 25; refine (so_Of _ zs _ hF.out (by omega)).mono ?_; rintro e w1 ⟨v1, rfl, h1, b1⟩)
  have H1 := Lib.hid h1
  have B1 := Lib.hid b1
  clear h1 b1
  go_wp2
  go_loopw [7, 9, 17] (fun s _ i wr => ∃ k : Nat, k ≤ gs.length ∧ i = .int .i64 k ∧ Hid (FS wr s (foldWith zs ((gs.take k).map (·.2)))) ∧ Hid (Below w.heap.size w wr) ∧ (foldWith zs ((gs.take k).map (·.2))).length ≤ zs.length + (joinG (gs.take k)).length) (fun _ _ i _ => gs.length - (intOf i).toNat)
  case atStart => exact ⟨0, Nat.zero_le _, rfl, H1.out.fs, B1.out, Nat.le_trans hcl (Nat.le_add_right _ _)⟩
  case round =>
    obtain ⟨k, hk, rfl, HV, HB, hl⟩ := hrel
    by_cases hlt : k < gs.length
    · obtain ⟨b, off, rfl, hc⟩ := hS.out.resolve_left (by omega)
      have c0 := hc k hlt
      have hm : gs[k] ∈ gs := List.getElem_mem hlt
      have hcell : wr.cell? ⟨b, off + k, none⟩ = some gs[k].1 := (HB.out.cell (World.block_lt_of_cell? w _ c0)).trans c0
      have HG := Lib.hid ((hA.out _ hm).keep HB.out)
      have hjs : (joinG (gs.take (k + 1))).length = (joinG (gs.take k)).length + gs[k].2.length := by rw [joinG_snoc gs k hlt, List.length_append]
      have hjl := joinG_le gs (k + 1)
      have hsn : (gs.take (k + 1)).map (·.2) = (gs.take k).map (·.2) ++ [gs[k].2] := by
        rw [List.take_add_one, List.map_append, List.getElem?_eq_getElem hlt]; rfl
      have HSN := Lib.hid hsn
      clear hc c0 hsn hm
      generalize hgk : gs[k] = gk at *
      obtain ⟨gv, gt⟩ := gk
      clear hgk
      dsimp only at hcell hjs
      generalize hfo : foldWith zs ((gs.take k).map (·.2)) = cur at *
      have HFO := Lib.hid hfo
      clear hfo
      have hct : cur.length + gt.length ≤ zs.length + (joinG gs).length := by omega
      have hct2 : cur.length + gt.length ≤ zs.length + (joinG (gs.take (k + 1))).length := by omega
      clear hjs hjl hl
      have HCT2 := Lib.hid hct2
      clear hct2
      obtain ⟨P, N, C, hgv⟩ : ∃ P N C, gv = .slice P N C := by obtain ⟨p', c', e', _⟩ := HG.out; exact ⟨_, _, _, e'⟩
      subst hgv
      go_wp2_with (go_at_call 39; refine (so_CloneS _ cur _ HV.out (by omega)).mono ?_; rintro e w2 ⟨v2, rfl, h2, b2⟩)
      have H2 := Lib.hid h2.fs
      have B2 := Lib.hid b2
      clear h2 b2
      go_wp2_with (go_at_call 40; refine (so_CloneF _ gt _ (HG.out.keep B2.out) (by omega)).mono ?_; rintro e w3 ⟨v3, rfl, h3, b3⟩)
      have H3 := Lib.hid h3.fs
      have H2' := Lib.hid (H2.out.keep b3)
      have B3 := Lib.hid (B2.out.trans (b3.mono B2.out.size))
      clear h3 b3
      go_wp2_with (go_at_call 22; refine (so_With _ _ cur gt _ H2'.out H3.out (by omega)).mono ?_; rintro e w4 ⟨v4, rfl, h4, b4⟩)
      have H4 := Lib.hid h4.fs
      have B4 := Lib.hid (B3.out.trans (b4.mono B3.out.size))
      have hsz := HB.out.size
      clear h4 b4
      go_wp2
      go_roundw
      case rel =>
        refine ⟨k + 1, by omega, by go_num, ?_, HB.out.trans (B4.out.mono hsz), ?_⟩
        · show FS _ _ _
          rw [HSN.out, foldWith_snoc, HFO.out]; exact H4.out
        · rw [HSN.out, foldWith_snoc, HFO.out]
          exact Nat.le_trans (canon_le _) (by rw [List.length_append]; exact HCT2.out)
      case measure => simp [intOf]; omega
    · have hke : k = gs.length := by omega
      subst hke
      rw [List.take_length] at HV hl
      have hsz := HB.out.size
      go_wp2_with (go_at_call 25; refine (so_Of _ _ _ HV.out (by omega)).mono ?_; rintro e w2 ⟨v2, rfl, h2, b2⟩)
      have H2 := Lib.hid (h2.mono hsz)
      have B2 := Lib.hid (HB.out.trans (b2.mono hsz))
      clear h2 b2
      go_wp2
      go_ret
      exact ⟨v2, rfl, H2.out, B2.out⟩

set_option maxHeartbeats 1000000 in
set_option maxRecDepth 100000 in
theorem so_FoldNil (v g : Value) (zs : List Int) (w : World) (h : FS w v zs) (hbig : zs.length * 2 ≤ 281474976710656) :
    Calls Tryd.prog 21 #[.nilFunc, v, g] w fun e w' => ∃ v', e = .returned v' ∧ FN w.heap.size w' v' (canon zs) ∧ Below w.heap.size w w' := by
  have hF := Lib.hid h
  clear h
  have hnf : ∀ (w : World), (Go.binOp .eql 45 .nilFunc .nilFunc).run Tryd.prog w = .ok (.bool true) w := fun _ => by kernel_rfl
  go_enter Tryd.func21, Tryd.ntmps21
  go_wp2_with (go_at_call 25; refine (so_Of _ zs _ hF.out hbig).mono ?_; rintro e w1 ⟨v1, rfl, h1, b1⟩)
  have H1 := Lib.hid h1
  have B1 := Lib.hid b1
  clear h1 b1
  go_wp2
  go_ret
  exact ⟨v1, rfl, H1.out, B1.out⟩
end
end Go.Proofs.YtgcnfebifopdnaaDoor
