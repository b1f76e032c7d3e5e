/-
  Parts of the proof: SWalkD1, SWalkD2, SWalk11, SWalkC, SWalkC4, SWalk13a, SWalkB12, SWalkB2, SWalkB3, SWalk13.
-/
import Derived.Test.YtfkblpjfknfgbaaGreatDoorRows
import Derived.Test.YtfkblpjfknfgbaaGreatDoorZ1
import Derived.Sort.LotD3
import Derived.Deep.RegionWith
import Derived.WalkKit
import Derived.RowKit
import Derived.Sort.LotD4
import Derived.Sort.Grow
import Derived.Sort.AtCall
import Derived.BigGuard
import Derived.BigCall
import Derived.CellFam
import Derived.Sort.LotC
import Derived.RegionTactic
import Derived.Deep.Draws
import Derived.Deep.QuietTactic
import Derived.BigQuiet
import Derived.Deep.LoopGhost
import Derived.Sort.LotB
import Derived.Deep.Cut
set_option linter.unusedVariables false
set_option linter.unusedSimpArgs false
namespace Go.Proofs.YtfkblpjfknfgbaaGreatDoor
open Go.Sort Go.RowKit
abbrev one (s : Nat) : Array Int := #[(s : Int)]
theorem one_cell {w : World} {sb so s : Nat} (h : Holds (Value.int .i64) w sb so (one s)) : w.cell? ⟨sb, so, none⟩ = some (.int .i64 s) ∧ w.frozen? ⟨sb, so, none⟩ = false := by simpa using h 0 (by simp)
theorem one_set {w : World} {sb so s : Nat} (h : Holds (Value.int .i64) w sb so (one s)) (t : Nat) : w.setCell ⟨sb, so, none⟩ (.int .i64 t) = putRow (Value.int .i64) w sb so (one t) := by
  have := putRow_set (Value.int .i64) w sb so (one s) 0 (t : Int) (by simp)
  rw [putRow_self _ _ _ _ _ h] at this
  simpa using this
theorem holds_aside {w : World} {blk off sb so n t : Nat} {d : Array Int} (h : Holds (Value.int .u16) w blk off d) (hne : sb ≠ blk) : Holds (Value.int .u16) (putRow (Value.int .i64) (Sort.ahead w n) sb so (one t)) blk off d := fun j hj =>
  ⟨by rw [cell?_putRow_other _ _ _ _ _ _ (Or.inl (Ne.symm hne))]; exact (h j hj).1, by rw [frozen?_putRow]; exact (h j hj).2⟩
theorem one_one (w : World) (n m sb so s t : Nat) : putRow (Value.int .i64) (Sort.ahead (putRow (Value.int .i64) (Sort.ahead w n) sb so (one s)) m) sb so (one t) = putRow (Value.int .i64) (Sort.ahead w (n + m)) sb so (one t) :=
  putRow_ahead_putRow _ _ _ _ _ _ _ _ rfl
set_option maxHeartbeats 1000000 in
theorem so_order2_int (d : Array Int) (len : Nat) (hlen : d.size = len) (blk off cap a b sb so s : Nat) (w : World) (hH : Holds (Value.int .u16) w blk off d) (ha : a < d.size) (hb : b < d.size)
    (hS : Holds (Value.int .i64) w sb so (one s)) (hs : s < 2 ^ 62) :
    Calls Tryz.prog 228 #[.slice (some ⟨blk, off, none⟩) len cap, .int .i64 a, .int .i64 b, .pointer (some ⟨sb, so, none⟩)] w fun e w' =>
      e = .returned (.tuple #[.int .i64 (order2 ltInt d a b s).1, .int .i64 (order2 ltInt d a b s).2.1]) ∧ ∃ n, w' = putRow (Value.int .i64) (Sort.ahead w n) sb so (one (order2 ltInt d a b s).2.2) := by
  subst hlen
  replace hs : s < 4611686018427387904 := by omega
  have ca := (hH a ha).1
  have cb := (hH b hb).1
  obtain ⟨cs, fs⟩ := one_cell hS
  have ea : d[a]! = d[a] := getElem!_pos d a ha
  have eb : d[b]! = d[b] := getElem!_pos d b hb
  go_enter Tryz.func228, Tryz.ntmps228
  go_wp2
  go_region_with (go_at_call 173; refine (so_cmp_Less_int _ _ _).mono ?_; rintro e w' ⟨rfl, rfl⟩)
  all_goals (try go_wp2)
  all_goals first
    | (have hlt : ltInt d[b] d[a] = true := by assumption
       have e2 : order2 ltInt d a b s = (b, a, s + 1) := by simp [order2, ea, eb, hlt]
       go_ret2
       rw [e2]
       refine ⟨rfl, 1, ?_⟩
       rw [putRow_ahead, ← one_set hS (s + 1)]
       simp [drew_eq_ahead])
    | (have hlt : ltInt d[b] d[a] = false := by assumption
       have e2 : order2 ltInt d a b s = (a, b, s) := by simp [order2, ea, eb, hlt]
       go_ret2
       rw [e2]
       refine ⟨rfl, 1, ?_⟩
       rw [putRow_ahead, putRow_self _ _ _ _ _ hS]
       rfl)
theorem order2_lt (d : Array Int) {a b n : Nat} (s : Nat) (ha : a < n) (hb : b < n) : (order2 ltInt d a b s).1 < n ∧ (order2 ltInt d a b s).2.1 < n := by
  have := order2_mem ltInt d a b s
  omega
theorem order2_swaps (d : Array Int) (a b s : Nat) : (order2 ltInt d a b s).2.2 ≤ s + 1 := by
  unfold order2
  split <;> simp
theorem holds_one {w : World} {sb so s n t : Nat} (h : Holds (Value.int .i64) w sb so (one s)) : Holds (Value.int .i64) (putRow (Value.int .i64) (Sort.ahead w n) sb so (one t)) sb so (one t) :=
  holds_putRow _ _ _ _ (one s) (one t) (holds_ahead _ _ _ _ _ _ h) rfl
set_option maxHeartbeats 1000000 in
set_option maxRecDepth 100000 in
theorem so_median_int (d : Array Int) (len : Nat) (hlen : d.size = len) (blk off cap a b c sb so s : Nat) (w : World) (hH : Holds (Value.int .u16) w blk off d) (ha : a < d.size) (hb : b < d.size) (hc : c < d.size) (hne : sb ≠ blk)
    (hS : Holds (Value.int .i64) w sb so (one s)) (hs : s + 3 < 2 ^ 62) :
    Calls Tryz.prog 201 #[.slice (some ⟨blk, off, none⟩) len cap, .int .i64 a, .int .i64 b, .int .i64 c, .pointer (some ⟨sb, so, none⟩)] w fun e w' =>
      e = .returned (.int .i64 (median ltInt d a b c s).1) ∧ ∃ n, w' = putRow (Value.int .i64) (Sort.ahead w n) sb so (one (median ltInt d a b c s).2) := by
  subst hlen
  have l1 := order2_lt d s ha hb
  have s1 := order2_swaps d a b s
  have l2 := order2_lt d (order2 ltInt d a b s).2.2 l1.2 hc
  have s2 := order2_swaps d (order2 ltInt d a b s).2.1 c (order2 ltInt d a b s).2.2
  go_enter Tryz.func201, Tryz.ntmps201
  go_wp2_with (go_at_call_of 228 (Value.int .i64 (b : Int)); refine (so_order2_int d _ rfl blk off cap a b sb so s w hH ha hb hS (by omega)).mono ?_; rintro e w' ⟨rfl, n1, rfl⟩)
  go_wp2_with (go_at_call_of 228 (Value.int .i64 (c : Int)); refine (so_order2_int d _ rfl blk off cap (order2 ltInt d a b s).2.1 c sb so (order2 ltInt d a b s).2.2 _ (holds_aside hH hne) l1.2 hc (holds_one hS) (by omega)).mono ?_; rintro e w' ⟨rfl, n2, rfl⟩)
  go_wp2_with (go_at_call_of 228 (Value.int .i64 ((order2 ltInt d a b s).1 : Int)); refine (so_order2_int d _ rfl blk off cap (order2 ltInt d a b s).1 (order2 ltInt d (order2 ltInt d a b s).2.1 c (order2 ltInt d a b s).2.2).1 sb so (order2 ltInt d (order2 ltInt d a b s).2.1 c (order2 ltInt d a b s).2.2).2.2 _
    (holds_aside (holds_aside hH hne) hne) l1.1 l2.1 (holds_one (holds_one hS)) (by omega)).mono ?_; rintro e w' ⟨rfl, n3, rfl⟩)
  go_ret
  refine ⟨rfl, n1 + (n2 + n3), ?_⟩
  rw [one_one, one_one]
  rfl
end Go.Proofs.YtfkblpjfknfgbaaGreatDoor
namespace Go.Proofs.YtfkblpjfknfgbaaGreatDoor
open Go.Sort Go.RowKit
set_option maxHeartbeats 1000000 in
set_option maxRecDepth 100000 in
theorem so_medianAdjacent_int (d : Array Int) (len : Nat) (hlen : d.size = len) (blk off cap a sb so s : Nat) (w : World) (hH : Holds (Value.int .u16) w blk off d) (ha0 : 1 ≤ a) (ha : a + 1 < d.size) (hsz : d.size < 2 ^ 62) (hne : sb ≠ blk)
    (hS : Holds (Value.int .i64) w sb so (one s)) (hs : s + 3 < 2 ^ 62) :
    Calls Tryz.prog 200 #[.slice (some ⟨blk, off, none⟩) len cap, .int .i64 a, .pointer (some ⟨sb, so, none⟩)] w fun e w' =>
      e = .returned (.int .i64 (medianAdjacent ltInt d a s).1) ∧ ∃ n, w' = putRow (Value.int .i64) (Sort.ahead w n) sb so (one (medianAdjacent ltInt d a s).2) := by
  subst hlen
  replace hsz : d.size < 4611686018427387904 := by omega
  go_enter Tryz.func200, Tryz.ntmps200
  go_wp2_with (go_at_call 201; rw [show ((a : Int) - 1) = ((a - 1 : Nat) : Int) by omega, show ((a : Int) + 1) = ((a + 1 : Nat) : Int) by omega]; refine (so_median_int d _ rfl blk off cap (a - 1) a (a + 1) sb so s w hH (by omega) (by omega) ha hne hS hs).mono ?_; rintro e w' ⟨rfl, n1, rfl⟩)
  go_ret
  exact ⟨rfl, n1, rfl⟩
end Go.Proofs.YtfkblpjfknfgbaaGreatDoor
namespace Go.Proofs.YtfkblpjfknfgbaaGreatDoor
open Go.Sort Go.RowKit
theorem of_beq_int {x y : Int} (h : (x == y) = true) : x = y := by simpa using h
theorem of_bne_int {x y : Int} (h : (x == y) = false) : x ≠ y := by simpa using h
theorem counter_grow (w : World) (N S : Nat) : ∃ os, putRow (Value.int .i64) (Sort.ahead (w.alloc (.cells #[.int .i64 0] 3)) N) w.heap.size 0 (one S) = grow (Sort.ahead w N) os := by
  rw [alloc_eq_grow, ahead_grow]
  obtain ⟨os, _, h⟩ := putRow_grow_new (Value.int .i64) (Sort.ahead w N) #[.cells #[.int .i64 0] 3] w.heap.size 0 (one S) (Nat.le_refl _)
  exact ⟨os, h⟩
theorem pivot_world_int (blk off cap : Nat) (d : Array Int) (w : World) (hH : Holds (Value.int .u16) w blk off d) (hblk : blk < w.heap.size) (hsz : d.size < 4611686018427387904) :
    ∃ Wc : Nat → Nat → World,
      w.alloc (.cells #[.int .i64 0] 3) = Wc 0 0 ∧
      (∀ N S : Nat, (Wc N S).cell? ⟨w.heap.size, 0, none⟩ = some (.int .i64 (S : Int))) ∧
      (∀ N S : Nat, ∃ os, Wc N S = grow (Sort.ahead w N) os) ∧
      (∀ x s N : Nat, 1 ≤ x → x + 1 < d.size → s + 3 < 4611686018427387904 → Calls Tryz.prog 200 #[.slice (some ⟨blk, off, none⟩) d.size cap, .int .i64 (x : Int), .pointer (some ⟨w.heap.size, 0, none⟩)] (Wc N s) fun e w' =>
        e = .returned (.int .i64 ((medianAdjacent ltInt d x s).1 : Int)) ∧ ∃ N', w' = Wc N' (medianAdjacent ltInt d x s).2) ∧
      (∀ x y z s N : Nat, x < d.size → y < d.size → z < d.size → s + 3 < 4611686018427387904 → Calls Tryz.prog 201 #[.slice (some ⟨blk, off, none⟩) d.size cap, .int .i64 (x : Int), .int .i64 (y : Int), .int .i64 (z : Int), .pointer (some ⟨w.heap.size, 0, none⟩)] (Wc N s) fun e w' =>
        e = .returned (.int .i64 ((median ltInt d x y z s).1 : Int)) ∧ ∃ N', w' = Wc N' (median ltInt d x y z s).2) := by
  have hne : w.heap.size ≠ blk := by omega
  have hH0 : Holds (Value.int .u16) (w.alloc (.cells #[.int .i64 0] 3)) blk off d := by rw [alloc_eq_grow]; exact holds_grow _ _ _ _ _ _ hblk hH
  have hS0 : Holds (Value.int .i64) (w.alloc (.cells #[.int .i64 0] 3)) w.heap.size 0 (one 0) := fun j hj => by
    obtain rfl : j = 0 := by simpa using hj
    simp
  refine ⟨fun N S => putRow (Value.int .i64) (Sort.ahead (w.alloc (.cells #[.int .i64 0] 3)) N) w.heap.size 0 (one S), (putRow_self _ _ _ _ _ hS0).symm, fun N S => (one_cell (holds_one (n := N) (t := S) hS0)).1, fun N S => counter_grow w N S, ?_, ?_⟩
  · intro x s N h1 h2 hs
    refine (so_medianAdjacent_int d _ rfl blk off cap x w.heap.size 0 s _ (holds_aside hH0 hne) h1 h2 (by omega) hne (holds_one hS0) (by omega)).mono ?_
    rintro e w' ⟨he, n, hw⟩
    exact ⟨he, N + n, by rw [hw, one_one]⟩
  intro x y z s N h1 h2 h3 hs
  refine (so_median_int d _ rfl blk off cap x y z w.heap.size 0 s _ (holds_aside hH0 hne) h1 h2 h3 hne (holds_one hS0) (by omega)).mono ?_
  rintro e w' ⟨he, n, hw⟩
  exact ⟨he, N + n, by rw [hw, one_one]⟩
set_option maxRecDepth 100000 in
theorem so_choosePivot_int (blk off cap a b : Nat) (d : Array Int) (w : World) (hH : Holds (Value.int .u16) w blk off d) (hblk : blk < w.heap.size) (hab : a < b) (hb : b ≤ d.size) (hsz : d.size < 4611686018427387904) :
    Calls Tryz.prog 170 #[.slice (some ⟨blk, off, none⟩) d.size cap, .int .i64 a, .int .i64 b] w fun e w' =>
      e = .returned (.tuple #[.int .i64 (choosePivot ltInt d a b).1, .int .i64 (hintCode (choosePivot ltInt d a b).2)]) ∧ ∃ n os, w' = grow (Sort.ahead w n) os := by
  obtain ⟨Wc, hW0, cS, hG, MA, MD⟩ := pivot_world_int blk off cap d w hH hblk hsz
  clear hH
  rw [choosePivot_eq]
  obtain ⟨I, hI⟩ : ∃ I : Nat, I = a + (b - a) / 4 * 1 := ⟨_, rfl⟩
  obtain ⟨J, hJ⟩ : ∃ J : Nat, J = a + (b - a) / 4 * 2 := ⟨_, rfl⟩
  obtain ⟨K, hK⟩ : ∃ K : Nat, K = a + (b - a) / 4 * 3 := ⟨_, rfl⟩
  have eI : ((a : Int) + ((b : Int) - (a : Int)) / 4) = (I : Int) := by omega
  have eJ : ((a : Int) + ((b : Int) - (a : Int)) / 4 * 2) = (J : Int) := by omega
  have eK : ((a : Int) + ((b : Int) - (a : Int)) / 4 * 3) = (K : Int) := by omega
  by_cases h8 : b - a ≥ 8
  · by_cases h50 : b - a ≥ 50
    ·
      obtain ⟨i1, s1, h1⟩ : ∃ i1 s1, medianAdjacent ltInt d I 0 = (i1, s1) := ⟨_, _, rfl⟩
      obtain ⟨j1, s2, h2⟩ : ∃ j1 s2, medianAdjacent ltInt d J s1 = (j1, s2) := ⟨_, _, rfl⟩
      obtain ⟨k1, s3, h3⟩ : ∃ k1 s3, medianAdjacent ltInt d K s2 = (k1, s3) := ⟨_, _, rfl⟩
      obtain ⟨p, s, h4⟩ : ∃ p s, median ltInt d i1 j1 k1 s3 = (p, s) := ⟨_, _, rfl⟩
      have hraw : rawPivot ltInt d a b = (p, s) := by simp only [rawPivot, if_pos h8, if_pos h50, ← hI, ← hJ, ← hK, h1, h2, h3, h4]
      have m1 := medianAdjacent_mem ltInt d I 0; rw [h1] at m1
      have m2 := medianAdjacent_mem ltInt d J s1; rw [h2] at m2
      have m3 := medianAdjacent_mem ltInt d K s2; rw [h3] at m3
      have n1 := medianAdjacent_count ltInt d I 0; rw [h1] at n1
      have n2 := medianAdjacent_count ltInt d J s1; rw [h2] at n2
      have n3 := medianAdjacent_count ltInt d K s2; rw [h3] at n3
      simp only [] at m1 m2 m3 n1 n2 n3
      have c1 : Calls Tryz.prog 200 #[.slice (some ⟨blk, off, none⟩) d.size cap, .int .i64 (I : Int), .pointer (some ⟨w.heap.size, 0, none⟩)] (Wc 0 0) fun e w' => e = .returned (.int .i64 (i1 : Int)) ∧ ∃ N', w' = Wc N' s1 := by
        have h := MA I 0 0 (by omega) (by omega) (by omega); rw [h1] at h; exact h
      have c2 : ∀ N, Calls Tryz.prog 200 #[.slice (some ⟨blk, off, none⟩) d.size cap, .int .i64 (J : Int), .pointer (some ⟨w.heap.size, 0, none⟩)] (Wc N s1) fun e w' => e = .returned (.int .i64 (j1 : Int)) ∧ ∃ N', w' = Wc N' s2 := fun N => by
        have h := MA J s1 N (by omega) (by omega) (by omega); rw [h2] at h; exact h
      have c3 : ∀ N, Calls Tryz.prog 200 #[.slice (some ⟨blk, off, none⟩) d.size cap, .int .i64 (K : Int), .pointer (some ⟨w.heap.size, 0, none⟩)] (Wc N s2) fun e w' => e = .returned (.int .i64 (k1 : Int)) ∧ ∃ N', w' = Wc N' s3 := fun N => by
        have h := MA K s2 N (by omega) (by omega) (by omega); rw [h3] at h; exact h
      have c4 : ∀ N, Calls Tryz.prog 201 #[.slice (some ⟨blk, off, none⟩) d.size cap, .int .i64 (i1 : Int), .int .i64 (j1 : Int), .int .i64 (k1 : Int), .pointer (some ⟨w.heap.size, 0, none⟩)] (Wc N s3) fun e w' => e = .returned (.int .i64 (p : Int)) ∧ ∃ N', w' = Wc N' s := fun N => by
        have h := MD i1 j1 k1 s3 N (by omega) (by omega) (by omega) (by omega); rw [h4] at h; exact h
      rw [hraw]
      obtain ⟨Hc, hHc⟩ : ∃ Hc : Int, Hc = hintCode (hintOf s) := ⟨_, rfl⟩
      have hh0 : s = 0 → Hc = 1 := fun h => by rw [hHc, h]; rfl
      have hh12 : s = 12 → Hc = 2 := fun h => by rw [hHc, h]; rfl
      have hhx : s ≠ 0 → s ≠ 12 → Hc = 0 := fun h1 h2 => by rw [hHc]; unfold hintOf; rw [if_neg h1, if_neg h2]; rfl
      show Calls Tryz.prog 170 _ w fun e w' => e = .returned (.tuple #[.int .i64 (p : Int), .int .i64 (hintCode (hintOf s))]) ∧ ∃ n os, w' = grow (Sort.ahead w n) os
      rw [← hHc]
      clear hHc hraw
      clear h1 h2 h3 h4 MA MD hI hJ hK m1 m2 m3
      go_enter Tryz.func170, Tryz.ntmps170
      go_wp2_with (first
        | (go_at_call_has 200 (Value.int .i64 (I : Int)); refine c1.mono ?_; rintro e w' ⟨rfl, N1, rfl⟩)
        | (go_at_call_has 200 (Value.int .i64 (J : Int)); refine (c2 _).mono ?_; rintro e w' ⟨rfl, N2, rfl⟩)
        | (go_at_call_has 200 (Value.int .i64 (K : Int)); refine (c3 _).mono ?_; rintro e w' ⟨rfl, N3, rfl⟩)
        | (go_at_call 201; refine (c4 _).mono ?_; rintro e w' ⟨rfl, N4, rfl⟩))
      all_goals
        go_ret2
        refine ⟨?_, _, hG _ _⟩
        first
          | (have e0 : (s : Int) = 0 := of_beq_int (by assumption)
             rw [hh0 (by omega)]; rfl)
          | (have e1 : (s : Int) = 12 := of_beq_int (by assumption)
             rw [hh12 (by omega)]; rfl)
          | (have e0 : (s : Int) ≠ 0 := of_bne_int (by assumption)
             have e1 : (s : Int) ≠ 12 := of_bne_int (by assumption)
             rw [hhx (by omega) (by omega)]; rfl)
          | (rw [hh0 (by omega)]; rfl)
    ·
      obtain ⟨p, s, h4⟩ : ∃ p s, median ltInt d I J K 0 = (p, s) := ⟨_, _, rfl⟩
      have hraw : rawPivot ltInt d a b = (p, s) := by simp only [rawPivot, if_pos h8, if_neg h50, ← hI, ← hJ, ← hK, h4]
      have c4 : Calls Tryz.prog 201 #[.slice (some ⟨blk, off, none⟩) d.size cap, .int .i64 (I : Int), .int .i64 (J : Int), .int .i64 (K : Int), .pointer (some ⟨w.heap.size, 0, none⟩)] (Wc 0 0) fun e w' => e = .returned (.int .i64 (p : Int)) ∧ ∃ N', w' = Wc N' s := by
        have h := MD I J K 0 0 (by omega) (by omega) (by omega) (by omega); rw [h4] at h; exact h
      rw [hraw]
      obtain ⟨Hc, hHc⟩ : ∃ Hc : Int, Hc = hintCode (hintOf s) := ⟨_, rfl⟩
      have hh0 : s = 0 → Hc = 1 := fun h => by rw [hHc, h]; rfl
      have hh12 : s = 12 → Hc = 2 := fun h => by rw [hHc, h]; rfl
      have hhx : s ≠ 0 → s ≠ 12 → Hc = 0 := fun h1 h2 => by rw [hHc]; unfold hintOf; rw [if_neg h1, if_neg h2]; rfl
      show Calls Tryz.prog 170 _ w fun e w' => e = .returned (.tuple #[.int .i64 (p : Int), .int .i64 (hintCode (hintOf s))]) ∧ ∃ n os, w' = grow (Sort.ahead w n) os
      rw [← hHc]
      clear hHc hraw
      clear h4 MA MD hI hJ hK
      go_enter Tryz.func170, Tryz.ntmps170
      go_wp2_with (first | (go_at_call 201; refine c4.mono ?_; rintro e w' ⟨rfl, N4, rfl⟩))
      all_goals
        go_ret2
        refine ⟨?_, _, hG _ _⟩
        first
          | (have e0 : (s : Int) = 0 := of_beq_int (by assumption)
             rw [hh0 (by omega)]; rfl)
          | (have e1 : (s : Int) = 12 := of_beq_int (by assumption)
             rw [hh12 (by omega)]; rfl)
          | (have e0 : (s : Int) ≠ 0 := of_bne_int (by assumption)
             have e1 : (s : Int) ≠ 12 := of_bne_int (by assumption)
             rw [hhx (by omega) (by omega)]; rfl)
          | (rw [hh0 (by omega)]; rfl)
  ·
    obtain ⟨p, hp⟩ : ∃ p : Nat, p = J := ⟨_, rfl⟩
    obtain ⟨s, hs⟩ : ∃ s : Nat, s = 0 := ⟨_, rfl⟩
    have hraw : rawPivot ltInt d a b = (p, s) := by simp only [rawPivot, if_neg h8, ← hJ, hp, hs]
    rw [hraw]
    obtain ⟨Hc, hHc⟩ : ∃ Hc : Int, Hc = hintCode (hintOf s) := ⟨_, rfl⟩
    have hh0 : s = 0 → Hc = 1 := fun h => by rw [hHc, h]; rfl
    have hh12 : s = 12 → Hc = 2 := fun h => by rw [hHc, h]; rfl
    have hhx : s ≠ 0 → s ≠ 12 → Hc = 0 := fun h1 h2 => by rw [hHc]; unfold hintOf; rw [if_neg h1, if_neg h2]; rfl
    show Calls Tryz.prog 170 _ w fun e w' => e = .returned (.tuple #[.int .i64 (p : Int), .int .i64 (hintCode (hintOf s))]) ∧ ∃ n os, w' = grow (Sort.ahead w n) os
    rw [← hHc]
    clear hHc hraw
    subst hp
    clear MA MD hI hJ hK
    have hW0' : w.alloc (.cells #[.int .i64 0] 3) = Wc 0 s := by rw [hs]; exact hW0
    clear hW0
    go_enter Tryz.func170, Tryz.ntmps170
    go_wp2
    all_goals
      go_ret2
      refine ⟨?_, _, hG _ _⟩
      first
        | (have e0 : (s : Int) = 0 := of_beq_int (by assumption)
           rw [hh0 (by omega)]; rfl)
        | (have e1 : (s : Int) = 12 := of_beq_int (by assumption)
           rw [hh12 (by omega)]; rfl)
        | (have e0 : (s : Int) ≠ 0 := of_bne_int (by assumption)
           have e1 : (s : Int) ≠ 12 := of_bne_int (by assumption)
           rw [hhx (by omega) (by omega)]; rfl)
        | (rw [hh0 (by omega)]; rfl)
end Go.Proofs.YtfkblpjfknfgbaaGreatDoor
namespace Go.Proofs.YtfkblpjfknfgbaaGreatDoor
open Go.RowKit Go.Sort
theorem swap_worldC {α : Type} [Inhabited α] (enc : α → Value) (w : World) (blk off : Nat) (dk : Array α) (n i j : Nat) (hi : i < dk.size) (hj : j < dk.size) :
    ((((putRow enc w blk off dk).drewN n).setCell ⟨blk, off + i, none⟩ (enc dk[j]!)).setCell ⟨blk, off + j, none⟩ (enc dk[i]!)).drew = (putRow enc w blk off (swp dk i j)).drewN (n + 1) := by
  rw [← putRow_swp enc w blk off dk i j hi hj]
  rfl
section
variable {α : Type} [Inhabited α]
theorem scanUp_go (p : α → Bool) (d : Array α) (j i : Nat) (h : i ≤ j) (hp : p d[i]! = true) : scanUp p d j i = scanUp p d j (i + 1) := by
  rw [scanUp, if_pos (by simp [h, hp])]
theorem scanUp_end (p : α → Bool) (d : Array α) (j i : Nat) (h : ¬ i ≤ j ∨ p d[i]! = false) : scanUp p d j i = i := by
  rw [scanUp, if_neg (by rcases h with h | h <;> simp [h])]
theorem scanDown_go (p : α → Bool) (d : Array α) (i j : Nat) (h : i ≤ j) (h0 : 0 < j) (hp : p d[j]! = true) : scanDown p d i j = scanDown p d i (j - 1) := by
  obtain ⟨k, rfl⟩ : ∃ k, j = k + 1 := ⟨j - 1, by omega⟩
  rw [scanDown, if_pos (by simp [h, hp])]
  rfl
theorem scanDown_end (p : α → Bool) (d : Array α) (i j : Nat) (h : ¬ i ≤ j ∨ p d[j]! = false) : scanDown p d i j = j := by
  cases j with
  | zero => rfl
  | succ k => rw [scanDown, if_neg (by rcases h with h | h <;> simp [h])]
variable (lt : α → α → Bool)
theorem partEq_break (a i j : Nat) (dk : Array α) {i2 j2 : Nat} (hi2 : i2 = scanUp (fun x => !lt dk[a]! x) dk j i) (hj2 : j2 = scanDown (fun x => lt dk[a]! x) dk i2 j) (h : j2 < i2) : partEqLoop lt a i j dk = (i2, dk) := by
  subst hi2; subst hj2
  rw [partEqLoop_eq, if_pos h]
theorem partEq_go (a i j : Nat) (dk : Array α) {i2 j2 : Nat} (hi2 : i2 = scanUp (fun x => !lt dk[a]! x) dk j i) (hj2 : j2 = scanDown (fun x => lt dk[a]! x) dk i2 j) (h : ¬ i2 > j2) : partEqLoop lt a i j dk = partEqLoop lt a (i2 + 1) (j2 - 1) (swp dk i2 j2) := by
  subst hi2; subst hj2
  rw [partEqLoop_eq, if_neg h]
theorem scans_lt (a i j : Nat) (dk : Array α) (h0 : 0 < i) {i2 j2 : Nat} (hi2 : i2 = scanUp (fun x => !lt dk[a]! x) dk j i) (hj2 : j2 = scanDown (fun x => lt dk[a]! x) dk i2 j) (h : i2 ≤ j2) : i2 < j2 := by
  subst hi2; subst hj2
  obtain ⟨u1, _, _, u4⟩ := scanUp_spec (fun x => !lt dk[a]! x) dk j _ i rfl
  obtain ⟨v1, _, _, v4⟩ := scanDown_spec (fun x => lt dk[a]! x) dk (scanUp (fun x => !lt dk[a]! x) dk j i) j
  rcases Nat.lt_or_ge (scanUp (fun x => !lt dk[a]! x) dk j i) (scanDown (fun x => lt dk[a]! x) dk (scanUp (fun x => !lt dk[a]! x) dk j i) j) with h' | h'
  · exact h'
  have e : scanDown (fun x => lt dk[a]! x) dk (scanUp (fun x => !lt dk[a]! x) dk j i) j = scanUp (fun x => !lt dk[a]! x) dk j i := by omega
  have f1 := u4 (by omega)
  have f2 := v4 h (by omega)
  rw [e] at f2
  simp only [f2] at f1
  cases f1
end
set_option maxHeartbeats 6400000 in
set_option maxRecDepth 100000 in
theorem so_partitionEqual_int (blk off cap a b pivot : Nat) (d : Array Int) (w : World) (hH : Holds (Value.int .u16) w blk off d) (hap : a ≤ pivot) (hpb : pivot < b) (hb : b ≤ d.size) (hsz : d.size < 4611686018427387904) :
    Calls Tryz.prog 174 #[.slice (some ⟨blk, off, none⟩) d.size cap, .int .i64 a, .int .i64 b, .int .i64 pivot] w fun e w' =>
      e = .returned (.int .i64 (Sort.partitionEqual Sort.ltInt d a b pivot).1) ∧ ∃ n, w' = (putRow (Value.int .u16) w blk off (Sort.partitionEqual Sort.ltInt d a b pivot).2).drewN n := by
  have hla : a < d.size := by omega
  have hlp : pivot < d.size := by omega
  obtain ⟨G, hG⟩ : ∃ G : Nat → Int, ∀ j, G j = d[j]! := ⟨fun j => d[j]!, fun _ => rfl⟩
  have ca : w.cell? ⟨blk, off + a, none⟩ = some (.int .u16 (G a)) := by rw [hG]; exact (hH a hla).1
  have fa := (hH a hla).2
  have cp : w.cell? ⟨blk, off + pivot, none⟩ = some (.int .u16 (G pivot)) := by rw [hG]; exact (hH pivot hlp).1
  have fp := (hH pivot hlp).2
  obtain ⟨v', hy'⟩ := cell?_setCell_some (w := w) (p := ⟨blk, off + a, none⟩) (x := .int .u16 (G pivot)) (q := ⟨blk, off + pivot, none⟩) cp
  have AG : Hid (∀ j, G j = d[j]!) := hG
  have AH : Hid (Holds (Value.int .u16) w blk off d) := hH
  clear hG hH
  go_enter Tryz.func174, Tryz.ntmps174
  go_wp2
  go_region
  go_wp2
  go_loopw [9, 10] (fun vi vj wr => ∃ (i j n : Nat) (dk : Array Int), vi = .int .i64 i ∧ vj = .int .i64 j ∧ a < i ∧ i ≤ j + 1 ∧ j < b ∧ dk.size = d.size ∧ wr = (putRow (Value.int .u16) w blk off dk).drewN n ∧
      Sort.partEqLoop Sort.ltInt a i j dk = Sort.partEqLoop Sort.ltInt a (a + 1) (b - 1) (Sort.swp d a pivot))
    (fun vi vj _ => (intOf vj).toNat + 1 - (intOf vi).toNat)
  case atStart =>
    refine ⟨a + 1, b - 1, 1, Sort.swp d a pivot, by go_num, by go_num, by omega, by omega, by omega, size_swp _ _ _, ?_, rfl⟩
    have e := swap_worldC (Value.int .u16) w blk off d 0 a pivot hla hlp
    rw [putRow_self _ w blk off d AH.out] at e
    rw [AG.out a, AG.out pivot]
    exact e
  case round =>
  obtain ⟨i, j, n, dk, rfl, rfl, hai, hij, hjb, hs, hw, heq⟩ := hrel
  clear ca fa cp fp hy' v' AG
  rename World => W1
  have hHk : Holds (Value.int .u16) W1 blk off dk := by
    rw [hw]
    exact holds_putRow (Value.int .u16) w blk off d dk AH.out hs
  obtain ⟨Gk, hG⟩ : ∃ Gk : Nat → Int, ∀ t, Gk t = dk[t]! := ⟨fun t => dk[t]!, fun _ => rfl⟩
  have hc : ∀ t, t < d.size → W1.cell? ⟨blk, off + t, none⟩ = some (.int .u16 (Gk t)) := fun t ht => by rw [hG]; exact (hHk t (by omega)).1
  have hf : ∀ t, t < d.size → W1.frozen? ⟨blk, off + t, none⟩ = false := fun t ht => (hHk t (by omega)).2
  have AG : Hid (∀ t, Gk t = dk[t]!) := hG
  have AW : Hid (W1 = (putRow (Value.int .u16) w blk off dk).drewN n) := hw
  have AE : Hid (Sort.partEqLoop Sort.ltInt a i j dk = Sort.partEqLoop Sort.ltInt a (a + 1) (b - 1) (Sort.swp d a pivot)) := heq
  clear hG hw heq hHk
  go_wp2
  go_loopw [9] (fun vi w1 => ∃ (i' n1 : Nat), vi = .int .i64 i' ∧ i ≤ i' ∧ i' ≤ j + 1 ∧ w1 = W1.drewN n1 ∧
      Hid (Sort.scanUp (fun x => !Sort.ltInt dk[a]! x) dk j i' = Sort.scanUp (fun x => !Sort.ltInt dk[a]! x) dk j i))
    (fun vi _ => j + 1 - (intOf vi).toNat)
  case atStart => exact ⟨i, 0, rfl, Nat.le_refl _, hij, rfl, rfl⟩
  case round =>
  obtain ⟨i', n1, rfl, hii, hij', hw1, hsc⟩ := hrel
  have hcw : ∀ t, t < d.size → wr.cell? ⟨blk, off + t, none⟩ = some (.int .u16 (Gk t)) := fun t ht => by rw [hw1]; exact hc t ht
  have HW1 : Hid (wr = W1.drewN n1) := hw1
  clear hw1
  by_cases hle : i' ≤ j
  · go_wp2_with fail
    go_big_quiet (first | (go_at_call 173; refine Calls.quiet_of_same (so_cmp_Less_int _ _ _)))
    go_wp2
    ·
      have ht : (!Sort.ltInt (Gk a) (Gk i')) = true := by assumption
      go_roundw
      case rel => exact ⟨i' + 1, n1 + nq, by go_num, by omega, by omega, by rw [HW1.out, World.drewN_drewN], (scanUp_go (fun x => !Sort.ltInt dk[a]! x) dk j i' hle (by rw [← AG.out a, ← AG.out i']; exact ht)).symm.trans hsc.out⟩
      case measure => simp [intOf]; omega
    ·
      have ht : (!Sort.ltInt (Gk a) (Gk i')) = false := by assumption
      have hi2 : Hid (i' = Sort.scanUp (fun x => !Sort.ltInt dk[a]! x) dk j i) := (scanUp_end (fun x => !Sort.ltInt dk[a]! x) dk j i' (Or.inr (by rw [← AG.out a, ← AG.out i']; exact ht))).symm.trans hsc.out
      clear ht
      have hw2 : wr.drewN nq = W1.drewN (n1 + nq) := by rw [HW1.out, World.drewN_drewN]
      clear hcw HW1 hsc
      go_loopw [10] (fun vj w2 => ∃ (j' n2 : Nat), vj = .int .i64 j' ∧ j' ≤ j ∧ i' ≤ j' + 1 ∧ w2 = W1.drewN n2 ∧
          Hid (Sort.scanDown (fun x => Sort.ltInt dk[a]! x) dk i' j' = Sort.scanDown (fun x => Sort.ltInt dk[a]! x) dk i' j))
        (fun vj _ => (intOf vj).toNat)
      case atStart => exact ⟨j, n1 + nq, rfl, Nat.le_refl _, hij', hw2, rfl⟩
      case round =>
      clear hw2
      obtain ⟨j', n2, rfl, hjj, hij2, hw2, hsd⟩ := hrel
      have hcw : ∀ t, t < d.size → wr.cell? ⟨blk, off + t, none⟩ = some (.int .u16 (Gk t)) := fun t ht => by rw [hw2]; exact hc t ht
      have HW2 : Hid (wr = W1.drewN n2) := hw2
      clear hw2
      by_cases hle2 : i' ≤ j'
      · go_wp2_with fail
        go_big_quiet (first | (go_at_call 173; refine Calls.quiet_of_same (so_cmp_Less_int _ _ _)))
        go_wp2
        ·
          have ht : Sort.ltInt (Gk a) (Gk j') = true := by assumption
          go_roundw
          case rel => exact ⟨j' - 1, n2 + nq, by go_num, by omega, by omega, by rw [HW2.out, World.drewN_drewN], (scanDown_go (fun x => Sort.ltInt dk[a]! x) dk i' j' hle2 (by omega) (by rw [← AG.out a, ← AG.out j']; exact ht)).symm.trans hsd.out⟩
          case measure => simp [intOf]; omega
        ·
          have ht : Sort.ltInt (Gk a) (Gk j') = false := by assumption
          have hj2 : Hid (j' = Sort.scanDown (fun x => Sort.ltInt dk[a]! x) dk i' j) := (scanDown_end (fun x => Sort.ltInt dk[a]! x) dk i' j' (Or.inr (by rw [← AG.out a, ← AG.out j']; exact ht))).symm.trans hsd.out
          clear hcw hsd ht
          have hw3 : wr.drewN nq = W1.drewN (n2 + nq) := by rw [HW2.out, World.drewN_drewN]
          generalize wr.drewN nq = W3 at hw3 ⊢
          have hc3 : ∀ t, t < d.size → W3.cell? ⟨blk, off + t, none⟩ = some (.int .u16 (Gk t)) := fun t ht => by rw [hw3]; exact hc t ht
          have hf3 : ∀ t, t < d.size → W3.frozen? ⟨blk, off + t, none⟩ = false := fun t ht => by rw [hw3]; exact hf t ht
          have HW3 : Hid (W3 = W1.drewN (n2 + nq)) := hw3
          clear hw3
          obtain ⟨v3, hy3⟩ := cell?_setCell_some (w := W3) (p := ⟨blk, off + i', none⟩) (x := .int .u16 (Gk j')) (q := ⟨blk, off + j', none⟩) (hc3 j' (by omega))
          have hlt3 := scans_lt Sort.ltInt a i j dk (by omega) hi2.out hj2.out hle2
          go_wp2
          go_region
          all_goals go_wp2
          all_goals go_roundw
          case rel =>
            refine ⟨i' + 1, j' - 1, n + (n2 + nq) + 1, Sort.swp dk i' j', by go_num, by go_num, by omega, by omega, by omega, by rw [size_swp]; exact hs, ?_, ?_⟩
            · rw [HW3.out, AW.out, World.drewN_drewN, AG.out i', AG.out j']
              exact swap_worldC (Value.int .u16) w blk off dk _ i' j' (by omega) (by omega)
            rw [← AE.out]; exact (partEq_go Sort.ltInt a i j dk hi2.out hj2.out (by omega)).symm
          case measure => simp [intOf]; omega
      go_wp2_with fail
      go_big_quiet (first | (go_at_call 173; refine Calls.quiet_of_same (so_cmp_Less_int _ _ _)))
      have hj2 : Hid (j' = Sort.scanDown (fun x => Sort.ltInt dk[a]! x) dk i' j) := (scanDown_end (fun x => Sort.ltInt dk[a]! x) dk i' j' (Or.inl hle2)).symm.trans hsd.out
      clear hcw hsd
      have hw3 : wr.drewN nq = W1.drewN (n2 + nq) := by rw [HW2.out, World.drewN_drewN]
      generalize wr.drewN nq = W3 at hw3 ⊢
      have hc3 : ∀ t, t < d.size → W3.cell? ⟨blk, off + t, none⟩ = some (.int .u16 (Gk t)) := fun t ht => by rw [hw3]; exact hc t ht
      have hf3 : ∀ t, t < d.size → W3.frozen? ⟨blk, off + t, none⟩ = false := fun t ht => by rw [hw3]; exact hf t ht
      have HW3 : Hid (W3 = W1.drewN (n2 + nq)) := hw3
      clear hw3
      go_wp2
      go_ret
      have e := partEq_break Sort.ltInt a i j dk hi2.out hj2.out (by omega)
      refine ⟨?_, n + (n2 + nq), ?_⟩
      · unfold Sort.partitionEqual; rw [← AE.out, e]; rfl
      unfold Sort.partitionEqual; rw [← AE.out, e, HW3.out, AW.out, World.drewN_drewN]
  go_wp2_with fail
  go_big_quiet (first | (go_at_call 173; refine Calls.quiet_of_same (so_cmp_Less_int _ _ _)))
  go_wp2
  have hi2 : Hid (i' = Sort.scanUp (fun x => !Sort.ltInt dk[a]! x) dk j i) := (scanUp_end (fun x => !Sort.ltInt dk[a]! x) dk j i' (Or.inl hle)).symm.trans hsc.out
  have hw2 : wr.drewN nq = W1.drewN (n1 + nq) := by rw [HW1.out, World.drewN_drewN]
  clear hcw HW1 hsc
  go_loopw [10] (fun vj w2 => ∃ (j' n2 : Nat), vj = .int .i64 j' ∧ j' ≤ j ∧ i' ≤ j' + 1 ∧ w2 = W1.drewN n2 ∧
      Hid (Sort.scanDown (fun x => Sort.ltInt dk[a]! x) dk i' j' = Sort.scanDown (fun x => Sort.ltInt dk[a]! x) dk i' j))
    (fun vj _ => (intOf vj).toNat)
  case atStart => exact ⟨j, n1 + nq, rfl, Nat.le_refl _, hij', hw2, rfl⟩
  case round =>
  clear hw2
  obtain ⟨j', n2, rfl, hjj, hij2, hw2, hsd⟩ := hrel
  have hcw : ∀ t, t < d.size → wr.cell? ⟨blk, off + t, none⟩ = some (.int .u16 (Gk t)) := fun t ht => by rw [hw2]; exact hc t ht
  have HW2 : Hid (wr = W1.drewN n2) := hw2
  clear hw2
  by_cases hle2 : i' ≤ j'
  · exfalso; omega
  go_wp2_with fail
  go_big_quiet (first | (go_at_call 173; refine Calls.quiet_of_same (so_cmp_Less_int _ _ _)))
  have hj2 : Hid (j' = Sort.scanDown (fun x => Sort.ltInt dk[a]! x) dk i' j) := (scanDown_end (fun x => Sort.ltInt dk[a]! x) dk i' j' (Or.inl hle2)).symm.trans hsd.out
  clear hcw hsd
  have hw3 : wr.drewN nq = W1.drewN (n2 + nq) := by rw [HW2.out, World.drewN_drewN]
  generalize wr.drewN nq = W3 at hw3 ⊢
  have hc3 : ∀ t, t < d.size → W3.cell? ⟨blk, off + t, none⟩ = some (.int .u16 (Gk t)) := fun t ht => by rw [hw3]; exact hc t ht
  have hf3 : ∀ t, t < d.size → W3.frozen? ⟨blk, off + t, none⟩ = false := fun t ht => by rw [hw3]; exact hf t ht
  have HW3 : Hid (W3 = W1.drewN (n2 + nq)) := hw3
  clear hw3
  go_wp2
  go_ret
  have e := partEq_break Sort.ltInt a i j dk hi2.out hj2.out (by omega)
  refine ⟨?_, n + (n2 + nq), ?_⟩
  · unfold Sort.partitionEqual; rw [← AE.out, e]; rfl
  unfold Sort.partitionEqual; rw [← AE.out, e, HW3.out, AW.out, World.drewN_drewN]
theorem so_partitionEqualOrdered_int (blk off cap a b pivot : Nat) (d : Array Int) (w : World) (hH : Holds (Value.int .u16) w blk off d) (hap : a ≤ pivot) (hpb : pivot < b) (hb : b ≤ d.size) (hsz : d.size < 4611686018427387904) :
    Calls Tryz.prog 174 #[.slice (some ⟨blk, off, none⟩) d.size cap, .int .i64 a, .int .i64 b, .int .i64 pivot] w fun e w' =>
      e = .returned (.int .i64 (Sort.partitionEqual Sort.ltInt d a b pivot).1) ∧ ∃ n, w' = putRow (Value.int .u16) (Sort.ahead w n) blk off (Sort.partitionEqual Sort.ltInt d a b pivot).2 :=
  (so_partitionEqual_int blk off cap a b pivot d w hH hap hpb hb hsz).mono fun _ _ ⟨he, n, hw⟩ => ⟨he, n, hw⟩
end Go.Proofs.YtfkblpjfknfgbaaGreatDoor
namespace Go.Proofs.YtfkblpjfknfgbaaGreatDoor
open Go.RowKit Go.Sort
theorem Hid.mk' {p : Prop} (h : p) : Hid p := h
section
variable {α : Type} [Inhabited α] (lt : α → α → Bool)
theorem part_break (a i j : Nat) (dk : Array α) {i2 j2 : Nat} (hi2 : i2 = scanUp (fun x => lt x dk[a]!) dk j i) (hj2 : j2 = scanDown (fun x => !lt x dk[a]!) dk i2 j) (h : j2 < i2) : partLoop lt a i j dk = (j2, dk) := by
  subst hi2; subst hj2
  rw [partLoop_eq, if_pos h]
theorem part_go (a i j : Nat) (dk : Array α) {i2 j2 : Nat} (hi2 : i2 = scanUp (fun x => lt x dk[a]!) dk j i) (hj2 : j2 = scanDown (fun x => !lt x dk[a]!) dk i2 j) (h : ¬ i2 > j2) : partLoop lt a i j dk = partLoop lt a (i2 + 1) (j2 - 1) (swp dk i2 j2) := by
  subst hi2; subst hj2
  rw [partLoop_eq, if_neg h]
theorem part_scans_lt (a i j : Nat) (dk : Array α) (h0 : 0 < i) {i2 j2 : Nat} (hi2 : i2 = scanUp (fun x => lt x dk[a]!) dk j i) (hj2 : j2 = scanDown (fun x => !lt x dk[a]!) dk i2 j) (h : i2 ≤ j2) : i2 < j2 := by
  subst hi2; subst hj2
  obtain ⟨u1, _, _, u4⟩ := scanUp_spec (fun x => lt x dk[a]!) dk j _ i rfl
  obtain ⟨v1, _, _, v4⟩ := scanDown_spec (fun x => !lt x dk[a]!) dk (scanUp (fun x => lt x dk[a]!) dk j i) j
  rcases Nat.lt_or_ge (scanUp (fun x => lt x dk[a]!) dk j i) (scanDown (fun x => !lt x dk[a]!) dk (scanUp (fun x => lt x dk[a]!) dk j i) j) with h' | h'
  · exact h'
  have e : scanDown (fun x => !lt x dk[a]!) dk (scanUp (fun x => lt x dk[a]!) dk j i) j = scanUp (fun x => lt x dk[a]!) dk j i := by omega
  have f1 := u4 (by omega)
  have f2 := v4 h (by omega)
  rw [e] at f2
  simp only [f1] at f2
  cases f2
theorem part_first_break (d : Array α) (a b pivot : Nat) {i j : Nat} {dk : Array α} {i2 j2 : Nat} (hi : i = a + 1) (hj : j = b - 1) (hdk : dk = swp d a pivot) (hi2 : i2 = scanUp (fun x => lt x dk[a]!) dk j i) (hj2 : j2 = scanDown (fun x => !lt x dk[a]!) dk i2 j) (h : j2 < i2) :
    partition lt d a b pivot = (j2, true, swp dk j2 a) := by
  subst hi; subst hj; subst hdk; subst hi2; subst hj2
  unfold partition
  simp only []
  rw [if_pos h]
theorem part_first_go (d : Array α) (a b pivot : Nat) {i j : Nat} {dk : Array α} {i2 j2 : Nat} (hi : i = a + 1) (hj : j = b - 1) (hdk : dk = swp d a pivot) (hi2 : i2 = scanUp (fun x => lt x dk[a]!) dk j i) (hj2 : j2 = scanDown (fun x => !lt x dk[a]!) dk i2 j) (h : ¬ i2 > j2) :
    partition lt d a b pivot = ((partLoop lt a (i2 + 1) (j2 - 1) (swp dk i2 j2)).1, false, swp (partLoop lt a (i2 + 1) (j2 - 1) (swp dk i2 j2)).2 (partLoop lt a (i2 + 1) (j2 - 1) (swp dk i2 j2)).1 a) := by
  subst hi; subst hj; subst hdk; subst hi2; subst hj2
  unfold partition
  simp only []
  rw [if_neg h]
end
set_option maxHeartbeats 12800000 in
set_option maxRecDepth 100000 in
theorem so_partition_int (blk off cap a b pivot : Nat) (d : Array Int) (w : World) (hH : Holds (Value.int .u16) w blk off d) (hap : a ≤ pivot) (hpb : pivot < b) (hb : b ≤ d.size) (hsz : d.size < 4611686018427387904) :
    Calls Tryz.prog 175 #[.slice (some ⟨blk, off, none⟩) d.size cap, .int .i64 a, .int .i64 b, .int .i64 pivot] w fun e w' =>
      e = .returned (.tuple #[.int .i64 (Sort.partition Sort.ltInt d a b pivot).1, .bool (Sort.partition Sort.ltInt d a b pivot).2.1]) ∧ ∃ n, w' = (putRow (Value.int .u16) w blk off (Sort.partition Sort.ltInt d a b pivot).2.2).drewN n := by
  have hla : a < d.size := by omega
  have hlp : pivot < d.size := by omega
  obtain ⟨G, hG⟩ : ∃ G : Nat → Int, ∀ j, G j = d[j]! := ⟨fun j => d[j]!, fun _ => rfl⟩
  have ca : w.cell? ⟨blk, off + a, none⟩ = some (.int .u16 (G a)) := by rw [hG]; exact (hH a hla).1
  have fa := (hH a hla).2
  have cp : w.cell? ⟨blk, off + pivot, none⟩ = some (.int .u16 (G pivot)) := by rw [hG]; exact (hH pivot hlp).1
  have fp := (hH pivot hlp).2
  obtain ⟨v', hy'⟩ := cell?_setCell_some (w := w) (p := ⟨blk, off + a, none⟩) (x := .int .u16 (G pivot)) (q := ⟨blk, off + pivot, none⟩) cp
  have hw : ((w.setCell ⟨blk, off + a, none⟩ (.int .u16 (G pivot))).setCell ⟨blk, off + pivot, none⟩ (.int .u16 (G a))).drew = (putRow (Value.int .u16) w blk off (Sort.swp d a pivot)).drewN 1 := by
    have e := swap_worldC (Value.int .u16) w blk off d 0 a pivot hla hlp
    rw [putRow_self _ w blk off d hH] at e
    rw [hG a, hG pivot]
    exact e
  have AH : Hid (Holds (Value.int .u16) w blk off d) := hH
  have HW0 := Hid.mk' hw
  clear hG hH hw
  go_enter Tryz.func175, Tryz.ntmps175
  go_wp2
  go_region
  go_wp2
  clear ca fa cp fp hy' v'
  have hw := HW0.out
  clear HW0
  generalize ((w.setCell ⟨blk, off + a, none⟩ (.int .u16 (G pivot))).setCell ⟨blk, off + pivot, none⟩ (.int .u16 (G a))).drew = W1 at hw ⊢
  obtain ⟨dk, hdk⟩ : ∃ dk, dk = Sort.swp d a pivot := ⟨_, rfl⟩
  obtain ⟨n, hn⟩ : ∃ n : Nat, n = 1 := ⟨_, rfl⟩
  rw [← hdk, ← hn] at hw
  clear hn
  have hs : dk.size = d.size := by rw [hdk, size_swp]
  have e1 : ((a : Int) + 1) = ((a + 1 : Nat) : Int) := by omega
  have e2 : ((b : Int) - 1) = ((b - 1 : Nat) : Int) := by omega
  rw [e1, e2]
  clear e1 e2
  obtain ⟨i, hi⟩ : ∃ i, i = a + 1 := ⟨_, rfl⟩
  obtain ⟨j, hj⟩ : ∃ j, j = b - 1 := ⟨_, rfl⟩
  rw [← hi, ← hj]
  have hai : a < i := by omega
  have hij : i ≤ j + 1 := by omega
  have hjb : j < b := by omega
  have HI := Hid.mk' hi
  have HJ := Hid.mk' hj
  have HDK := Hid.mk' hdk
  clear hi hj hdk
  have hHk : Holds (Value.int .u16) W1 blk off dk := by
    rw [hw]
    exact holds_putRow (Value.int .u16) w blk off d dk AH.out hs
  obtain ⟨Gk, hG⟩ : ∃ Gk : Nat → Int, ∀ t, Gk t = dk[t]! := ⟨fun t => dk[t]!, fun _ => rfl⟩
  have hc : ∀ t, t < d.size → W1.cell? ⟨blk, off + t, none⟩ = some (.int .u16 (Gk t)) := fun t ht => by rw [hG]; exact (hHk t (by omega)).1
  have hf : ∀ t, t < d.size → W1.frozen? ⟨blk, off + t, none⟩ = false := fun t ht => (hHk t (by omega)).2
  have AG : Hid (∀ t, Gk t = dk[t]!) := hG
  have AW : Hid (W1 = (putRow (Value.int .u16) w blk off dk).drewN n) := hw
  clear hG hw hHk
  go_loopw [10] (fun vi w1 => ∃ (i' n1 : Nat), vi = .int .i64 i' ∧ i ≤ i' ∧ i' ≤ j + 1 ∧ w1 = W1.drewN n1 ∧
      Hid (Sort.scanUp (fun x => Sort.ltInt x dk[a]!) dk j i' = Sort.scanUp (fun x => Sort.ltInt x dk[a]!) dk j i))
    (fun vi _ => j + 1 - (intOf vi).toNat)
  case atStart => exact ⟨i, 0, rfl, Nat.le_refl _, hij, rfl, rfl⟩
  case round =>
  obtain ⟨i', n1, rfl, hii, hij', hw1, hsc⟩ := hrel
  have hcw : ∀ t, t < d.size → wr.cell? ⟨blk, off + t, none⟩ = some (.int .u16 (Gk t)) := fun t ht => by rw [hw1]; exact hc t ht
  have HW1 : Hid (wr = W1.drewN n1) := hw1
  clear hw1
  by_cases hle : i' ≤ j
  · go_wp2_with fail
    go_big_quiet (first | (go_at_call 173; refine Calls.quiet_of_same (so_cmp_Less_int _ _ _)))
    go_wp2
    ·
      have ht : Sort.ltInt (Gk i') (Gk a) = true := by assumption
      go_roundw
      case rel => exact ⟨i' + 1, n1 + nq, by go_num, by omega, by omega, by rw [HW1.out, World.drewN_drewN], (scanUp_go (fun x => Sort.ltInt x dk[a]!) dk j i' hle (by rw [← AG.out a, ← AG.out i']; exact ht)).symm.trans hsc.out⟩
      case measure => simp [intOf]; omega
    ·
      have ht : Sort.ltInt (Gk i') (Gk a) = false := by assumption
      have hi2 : Hid (i' = Sort.scanUp (fun x => Sort.ltInt x dk[a]!) dk j i) := (scanUp_end (fun x => Sort.ltInt x dk[a]!) dk j i' (Or.inr (by rw [← AG.out a, ← AG.out i']; exact ht))).symm.trans hsc.out
      clear ht
      have hw2 : wr.drewN nq = W1.drewN (n1 + nq) := by rw [HW1.out, World.drewN_drewN]
      clear hcw HW1 hsc
      go_loopw [11] (fun vj w2 => ∃ (j' n2 : Nat), vj = .int .i64 j' ∧ j' ≤ j ∧ i' ≤ j' + 1 ∧ w2 = W1.drewN n2 ∧
          Hid (Sort.scanDown (fun x => !Sort.ltInt x dk[a]!) dk i' j' = Sort.scanDown (fun x => !Sort.ltInt x dk[a]!) dk i' j))
        (fun vj _ => (intOf vj).toNat)
      case atStart => exact ⟨j, n1 + nq, rfl, Nat.le_refl _, hij', hw2, rfl⟩
      case round =>
      clear hw2
      obtain ⟨j', n2, rfl, hjj, hij2, hw2, hsd⟩ := hrel
      have hcw : ∀ t, t < d.size → wr.cell? ⟨blk, off + t, none⟩ = some (.int .u16 (Gk t)) := fun t ht => by rw [hw2]; exact hc t ht
      have HW2 : Hid (wr = W1.drewN n2) := hw2
      clear hw2
      by_cases hle2 : i' ≤ j'
      · go_wp2_with fail
        go_big_quiet (first | (go_at_call 173; refine Calls.quiet_of_same (so_cmp_Less_int _ _ _)))
        go_wp2
        ·
          have ht : (!Sort.ltInt (Gk j') (Gk a)) = true := by assumption
          go_roundw
          case rel => exact ⟨j' - 1, n2 + nq, by go_num, by omega, by omega, by rw [HW2.out, World.drewN_drewN], (scanDown_go (fun x => !Sort.ltInt x dk[a]!) dk i' j' hle2 (by omega) (by rw [← AG.out a, ← AG.out j']; exact ht)).symm.trans hsd.out⟩
          case measure => simp [intOf]; omega
        ·
          have ht : (!Sort.ltInt (Gk j') (Gk a)) = false := by assumption
          have hj2 : Hid (j' = Sort.scanDown (fun x => !Sort.ltInt x dk[a]!) dk i' j) := (scanDown_end (fun x => !Sort.ltInt x dk[a]!) dk i' j' (Or.inr (by rw [← AG.out a, ← AG.out j']; exact ht))).symm.trans hsd.out
          clear hcw hsd ht
          have hw3 : wr.drewN nq = W1.drewN (n2 + nq) := by rw [HW2.out, World.drewN_drewN]
          generalize wr.drewN nq = W3 at hw3 ⊢
          have hc3 : ∀ t, t < d.size → W3.cell? ⟨blk, off + t, none⟩ = some (.int .u16 (Gk t)) := fun t ht => by rw [hw3]; exact hc t ht
          have hf3 : ∀ t, t < d.size → W3.frozen? ⟨blk, off + t, none⟩ = false := fun t ht => by rw [hw3]; exact hf t ht
          have HW3 : Hid (W3 = W1.drewN (n2 + nq)) := hw3
          clear hw3
          obtain ⟨v3, hy3⟩ := cell?_setCell_some (w := W3) (p := ⟨blk, off + i', none⟩) (x := .int .u16 (Gk j')) (q := ⟨blk, off + j', none⟩) (hc3 j' (by omega))
          have hlt3 := part_scans_lt Sort.ltInt a i j dk (by omega) hi2.out hj2.out hle2
          go_wp2
          go_region
          all_goals go_wp2
          obtain ⟨R, hR⟩ : ∃ R, R = Sort.partLoop Sort.ltInt a (i' + 1) (j' - 1) (Sort.swp dk i' j') := ⟨_, rfl⟩
          have HP : Hid (Sort.partition Sort.ltInt d a b pivot = (R.1, false, Sort.swp R.2 R.1 a)) := by rw [hR]; exact part_first_go Sort.ltInt d a b pivot HI.out HJ.out HDK.out hi2.out hj2.out (by omega)
          have hw0 : ((W3.setCell ⟨blk, off + i', none⟩ (.int .u16 (Gk j'))).setCell ⟨blk, off + j', none⟩ (.int .u16 (Gk i'))).drew = (putRow (Value.int .u16) w blk off (Sort.swp dk i' j')).drewN (n + (n2 + nq) + 1) := by
            rw [HW3.out, AW.out, World.drewN_drewN, AG.out i', AG.out j']
            exact swap_worldC (Value.int .u16) w blk off dk _ i' j' (by omega) (by omega)
          have HR : Hid (R = Sort.partLoop Sort.ltInt a (i' + 1) (j' - 1) (Sort.swp dk i' j')) := hR
          clear hR hc hf hc3 hf3 hy3 HW3 AW AG hi2 hj2
          go_loopw [10, 11] (fun vi vj wr => ∃ (i j n : Nat) (dk : Array Int), vi = .int .i64 i ∧ vj = .int .i64 j ∧ a < i ∧ i ≤ j + 1 ∧ j < b ∧ dk.size = d.size ∧ wr = (putRow (Value.int .u16) w blk off dk).drewN n ∧
              Sort.partLoop Sort.ltInt a i j dk = R)
            (fun vi vj _ => (intOf vj).toNat + 1 - (intOf vi).toNat)
          case atStart => exact ⟨i' + 1, j' - 1, _, Sort.swp dk i' j', by go_num, by go_num, by omega, by omega, by omega, by rw [size_swp]; exact hs, hw0, HR.out.symm⟩
          case round =>
          clear hw0 HR
          obtain ⟨i, j, n, dk, rfl, rfl, hai, hij, hjb, hs, hw, heq⟩ := hrel
          rename World => W1
          have AE : Hid (Sort.partLoop Sort.ltInt a i j dk = R) := heq
          clear heq
          have hHk : Holds (Value.int .u16) W1 blk off dk := by
            rw [hw]
            exact holds_putRow (Value.int .u16) w blk off d dk AH.out hs
          obtain ⟨Gk, hG⟩ : ∃ Gk : Nat → Int, ∀ t, Gk t = dk[t]! := ⟨fun t => dk[t]!, fun _ => rfl⟩
          have hc : ∀ t, t < d.size → W1.cell? ⟨blk, off + t, none⟩ = some (.int .u16 (Gk t)) := fun t ht => by rw [hG]; exact (hHk t (by omega)).1
          have hf : ∀ t, t < d.size → W1.frozen? ⟨blk, off + t, none⟩ = false := fun t ht => (hHk t (by omega)).2
          have AG : Hid (∀ t, Gk t = dk[t]!) := hG
          have AW : Hid (W1 = (putRow (Value.int .u16) w blk off dk).drewN n) := hw
          clear hG hw hHk
          go_wp2
          go_loopw [10] (fun vi w1 => ∃ (i' n1 : Nat), vi = .int .i64 i' ∧ i ≤ i' ∧ i' ≤ j + 1 ∧ w1 = W1.drewN n1 ∧
              Hid (Sort.scanUp (fun x => Sort.ltInt x dk[a]!) dk j i' = Sort.scanUp (fun x => Sort.ltInt x dk[a]!) dk j i))
            (fun vi _ => j + 1 - (intOf vi).toNat)
          case atStart => exact ⟨i, 0, rfl, Nat.le_refl _, hij, rfl, rfl⟩
          case round =>
          obtain ⟨i', n1, rfl, hii, hij', hw1, hsc⟩ := hrel
          have hcw : ∀ t, t < d.size → wr.cell? ⟨blk, off + t, none⟩ = some (.int .u16 (Gk t)) := fun t ht => by rw [hw1]; exact hc t ht
          have HW1 : Hid (wr = W1.drewN n1) := hw1
          clear hw1
          by_cases hle : i' ≤ j
          · go_wp2_with fail
            go_big_quiet (first | (go_at_call 173; refine Calls.quiet_of_same (so_cmp_Less_int _ _ _)))
            go_wp2
            ·
              have ht : Sort.ltInt (Gk i') (Gk a) = true := by assumption
              go_roundw
              case rel => exact ⟨i' + 1, n1 + nq, by go_num, by omega, by omega, by rw [HW1.out, World.drewN_drewN], (scanUp_go (fun x => Sort.ltInt x dk[a]!) dk j i' hle (by rw [← AG.out a, ← AG.out i']; exact ht)).symm.trans hsc.out⟩
              case measure => simp [intOf]; omega
            ·
              have ht : Sort.ltInt (Gk i') (Gk a) = false := by assumption
              have hi2 : Hid (i' = Sort.scanUp (fun x => Sort.ltInt x dk[a]!) dk j i) := (scanUp_end (fun x => Sort.ltInt x dk[a]!) dk j i' (Or.inr (by rw [← AG.out a, ← AG.out i']; exact ht))).symm.trans hsc.out
              clear ht
              have hw2 : wr.drewN nq = W1.drewN (n1 + nq) := by rw [HW1.out, World.drewN_drewN]
              clear hcw HW1 hsc
              go_loopw [11] (fun vj w2 => ∃ (j' n2 : Nat), vj = .int .i64 j' ∧ j' ≤ j ∧ i' ≤ j' + 1 ∧ w2 = W1.drewN n2 ∧
                  Hid (Sort.scanDown (fun x => !Sort.ltInt x dk[a]!) dk i' j' = Sort.scanDown (fun x => !Sort.ltInt x dk[a]!) dk i' j))
                (fun vj _ => (intOf vj).toNat)
              case atStart => exact ⟨j, n1 + nq, rfl, Nat.le_refl _, hij', hw2, rfl⟩
              case round =>
              clear hw2
              obtain ⟨j', n2, rfl, hjj, hij2, hw2, hsd⟩ := hrel
              have hcw : ∀ t, t < d.size → wr.cell? ⟨blk, off + t, none⟩ = some (.int .u16 (Gk t)) := fun t ht => by rw [hw2]; exact hc t ht
              have HW2 : Hid (wr = W1.drewN n2) := hw2
              clear hw2
              by_cases hle2 : i' ≤ j'
              · go_wp2_with fail
                go_big_quiet (first | (go_at_call 173; refine Calls.quiet_of_same (so_cmp_Less_int _ _ _)))
                go_wp2
                ·
                  have ht : (!Sort.ltInt (Gk j') (Gk a)) = true := by assumption
                  go_roundw
                  case rel => exact ⟨j' - 1, n2 + nq, by go_num, by omega, by omega, by rw [HW2.out, World.drewN_drewN], (scanDown_go (fun x => !Sort.ltInt x dk[a]!) dk i' j' hle2 (by omega) (by rw [← AG.out a, ← AG.out j']; exact ht)).symm.trans hsd.out⟩
                  case measure => simp [intOf]; omega
                ·
                  have ht : (!Sort.ltInt (Gk j') (Gk a)) = false := by assumption
                  have hj2 : Hid (j' = Sort.scanDown (fun x => !Sort.ltInt x dk[a]!) dk i' j) := (scanDown_end (fun x => !Sort.ltInt x dk[a]!) dk i' j' (Or.inr (by rw [← AG.out a, ← AG.out j']; exact ht))).symm.trans hsd.out
                  clear hcw hsd ht
                  have hw3 : wr.drewN nq = W1.drewN (n2 + nq) := by rw [HW2.out, World.drewN_drewN]
                  generalize wr.drewN nq = W3 at hw3 ⊢
                  have hc3 : ∀ t, t < d.size → W3.cell? ⟨blk, off + t, none⟩ = some (.int .u16 (Gk t)) := fun t ht => by rw [hw3]; exact hc t ht
                  have hf3 : ∀ t, t < d.size → W3.frozen? ⟨blk, off + t, none⟩ = false := fun t ht => by rw [hw3]; exact hf t ht
                  have HW3 : Hid (W3 = W1.drewN (n2 + nq)) := hw3
                  clear hw3
                  obtain ⟨v3, hy3⟩ := cell?_setCell_some (w := W3) (p := ⟨blk, off + i', none⟩) (x := .int .u16 (Gk j')) (q := ⟨blk, off + j', none⟩) (hc3 j' (by omega))
                  have hlt3 := part_scans_lt Sort.ltInt a i j dk (by omega) hi2.out hj2.out hle2
                  go_wp2
                  go_region
                  all_goals go_wp2
                  all_goals go_roundw
                  case rel =>
                    refine ⟨i' + 1, j' - 1, n + (n2 + nq) + 1, Sort.swp dk i' j', by go_num, by go_num, by omega, by omega, by omega, by rw [size_swp]; exact hs, ?_, ?_⟩
                    · rw [HW3.out, AW.out, World.drewN_drewN, AG.out i', AG.out j']
                      exact swap_worldC (Value.int .u16) w blk off dk _ i' j' (by omega) (by omega)
                    exact (part_go Sort.ltInt a i j dk hi2.out hj2.out (by omega)).symm.trans AE.out
                  case measure => simp [intOf]; omega
              go_wp2_with fail
              go_big_quiet (first | (go_at_call 173; refine Calls.quiet_of_same (so_cmp_Less_int _ _ _)))
              have hj2 : Hid (j' = Sort.scanDown (fun x => !Sort.ltInt x dk[a]!) dk i' j) := (scanDown_end (fun x => !Sort.ltInt x dk[a]!) dk i' j' (Or.inl hle2)).symm.trans hsd.out
              clear hcw hsd
              have hw3 : wr.drewN nq = W1.drewN (n2 + nq) := by rw [HW2.out, World.drewN_drewN]
              generalize wr.drewN nq = W3 at hw3 ⊢
              have hc3 : ∀ t, t < d.size → W3.cell? ⟨blk, off + t, none⟩ = some (.int .u16 (Gk t)) := fun t ht => by rw [hw3]; exact hc t ht
              have hf3 : ∀ t, t < d.size → W3.frozen? ⟨blk, off + t, none⟩ = false := fun t ht => by rw [hw3]; exact hf t ht
              have HW3 : Hid (W3 = W1.drewN (n2 + nq)) := hw3
              clear hw3
              obtain ⟨v3, hy3⟩ := cell?_setCell_some (w := W3) (p := ⟨blk, off + j', none⟩) (x := .int .u16 (Gk a)) (q := ⟨blk, off + a, none⟩) (hc3 a (by omega))
              have hlj : j' < d.size := by omega
              go_wp2
              go_region
              all_goals go_wp2
              all_goals go_ret2
              have e : Sort.partition Sort.ltInt d a b pivot = (j', false, Sort.swp dk j' a) := by
                have e0 := (part_break Sort.ltInt a i j dk hi2.out hj2.out (by omega)).symm.trans AE.out
                rw [HP.out, ← e0]
              refine ⟨?_, n + (n2 + nq) + 1, ?_⟩
              · rw [e]; rfl
              rw [e, HW3.out, AW.out, World.drewN_drewN, AG.out a, AG.out j']
              exact swap_worldC (Value.int .u16) w blk off dk _ j' a (by omega) (by omega)
          go_wp2_with fail
          go_big_quiet (first | (go_at_call 173; refine Calls.quiet_of_same (so_cmp_Less_int _ _ _)))
          go_wp2
          have hi2 : Hid (i' = Sort.scanUp (fun x => Sort.ltInt x dk[a]!) dk j i) := (scanUp_end (fun x => Sort.ltInt x dk[a]!) dk j i' (Or.inl hle)).symm.trans hsc.out
          have hw2 : wr.drewN nq = W1.drewN (n1 + nq) := by rw [HW1.out, World.drewN_drewN]
          clear hcw HW1 hsc
          go_loopw [11] (fun vj w2 => ∃ (j' n2 : Nat), vj = .int .i64 j' ∧ j' ≤ j ∧ i' ≤ j' + 1 ∧ w2 = W1.drewN n2 ∧
              Hid (Sort.scanDown (fun x => !Sort.ltInt x dk[a]!) dk i' j' = Sort.scanDown (fun x => !Sort.ltInt x dk[a]!) dk i' j))
            (fun vj _ => (intOf vj).toNat)
          case atStart => exact ⟨j, n1 + nq, rfl, Nat.le_refl _, hij', hw2, rfl⟩
          case round =>
          clear hw2
          obtain ⟨j', n2, rfl, hjj, hij2, hw2, hsd⟩ := hrel
          have hcw : ∀ t, t < d.size → wr.cell? ⟨blk, off + t, none⟩ = some (.int .u16 (Gk t)) := fun t ht => by rw [hw2]; exact hc t ht
          have HW2 : Hid (wr = W1.drewN n2) := hw2
          clear hw2
          by_cases hle2 : i' ≤ j'
          · exfalso; omega
          go_wp2_with fail
          go_big_quiet (first | (go_at_call 173; refine Calls.quiet_of_same (so_cmp_Less_int _ _ _)))
          have hj2 : Hid (j' = Sort.scanDown (fun x => !Sort.ltInt x dk[a]!) dk i' j) := (scanDown_end (fun x => !Sort.ltInt x dk[a]!) dk i' j' (Or.inl hle2)).symm.trans hsd.out
          clear hcw hsd
          have hw3 : wr.drewN nq = W1.drewN (n2 + nq) := by rw [HW2.out, World.drewN_drewN]
          generalize wr.drewN nq = W3 at hw3 ⊢
          have hc3 : ∀ t, t < d.size → W3.cell? ⟨blk, off + t, none⟩ = some (.int .u16 (Gk t)) := fun t ht => by rw [hw3]; exact hc t ht
          have hf3 : ∀ t, t < d.size → W3.frozen? ⟨blk, off + t, none⟩ = false := fun t ht => by rw [hw3]; exact hf t ht
          have HW3 : Hid (W3 = W1.drewN (n2 + nq)) := hw3
          clear hw3
          obtain ⟨v3, hy3⟩ := cell?_setCell_some (w := W3) (p := ⟨blk, off + j', none⟩) (x := .int .u16 (Gk a)) (q := ⟨blk, off + a, none⟩) (hc3 a (by omega))
          have hlj : j' < d.size := by omega
          go_wp2
          go_region
          all_goals go_wp2
          all_goals go_ret2
          have e : Sort.partition Sort.ltInt d a b pivot = (j', false, Sort.swp dk j' a) := by
            have e0 := (part_break Sort.ltInt a i j dk hi2.out hj2.out (by omega)).symm.trans AE.out
            rw [HP.out, ← e0]
          refine ⟨?_, n + (n2 + nq) + 1, ?_⟩
          · rw [e]; rfl
          rw [e, HW3.out, AW.out, World.drewN_drewN, AG.out a, AG.out j']
          exact swap_worldC (Value.int .u16) w blk off dk _ j' a (by omega) (by omega)
      go_wp2_with fail
      go_big_quiet (first | (go_at_call 173; refine Calls.quiet_of_same (so_cmp_Less_int _ _ _)))
      have hj2 : Hid (j' = Sort.scanDown (fun x => !Sort.ltInt x dk[a]!) dk i' j) := (scanDown_end (fun x => !Sort.ltInt x dk[a]!) dk i' j' (Or.inl hle2)).symm.trans hsd.out
      clear hcw hsd
      have hw3 : wr.drewN nq = W1.drewN (n2 + nq) := by rw [HW2.out, World.drewN_drewN]
      generalize wr.drewN nq = W3 at hw3 ⊢
      have hc3 : ∀ t, t < d.size → W3.cell? ⟨blk, off + t, none⟩ = some (.int .u16 (Gk t)) := fun t ht => by rw [hw3]; exact hc t ht
      have hf3 : ∀ t, t < d.size → W3.frozen? ⟨blk, off + t, none⟩ = false := fun t ht => by rw [hw3]; exact hf t ht
      have HW3 : Hid (W3 = W1.drewN (n2 + nq)) := hw3
      clear hw3
      obtain ⟨v3, hy3⟩ := cell?_setCell_some (w := W3) (p := ⟨blk, off + j', none⟩) (x := .int .u16 (Gk a)) (q := ⟨blk, off + a, none⟩) (hc3 a (by omega))
      have hlj : j' < d.size := by omega
      go_wp2
      go_region
      all_goals go_wp2
      all_goals go_ret2
      have e : Sort.partition Sort.ltInt d a b pivot = (j', true, Sort.swp dk j' a) := part_first_break Sort.ltInt d a b pivot HI.out HJ.out HDK.out hi2.out hj2.out (by omega)
      refine ⟨?_, n + (n2 + nq) + 1, ?_⟩
      · rw [e]; rfl
      rw [e, HW3.out, AW.out, World.drewN_drewN, AG.out a, AG.out j']
      exact swap_worldC (Value.int .u16) w blk off dk _ j' a (by omega) (by omega)
  go_wp2_with fail
  go_big_quiet (first | (go_at_call 173; refine Calls.quiet_of_same (so_cmp_Less_int _ _ _)))
  go_wp2
  have hi2 : Hid (i' = Sort.scanUp (fun x => Sort.ltInt x dk[a]!) dk j i) := (scanUp_end (fun x => Sort.ltInt x dk[a]!) dk j i' (Or.inl hle)).symm.trans hsc.out
  have hw2 : wr.drewN nq = W1.drewN (n1 + nq) := by rw [HW1.out, World.drewN_drewN]
  clear hcw HW1 hsc
  go_loopw [11] (fun vj w2 => ∃ (j' n2 : Nat), vj = .int .i64 j' ∧ j' ≤ j ∧ i' ≤ j' + 1 ∧ w2 = W1.drewN n2 ∧
      Hid (Sort.scanDown (fun x => !Sort.ltInt x dk[a]!) dk i' j' = Sort.scanDown (fun x => !Sort.ltInt x dk[a]!) dk i' j))
    (fun vj _ => (intOf vj).toNat)
  case atStart => exact ⟨j, n1 + nq, rfl, Nat.le_refl _, hij', hw2, rfl⟩
  case round =>
  clear hw2
  obtain ⟨j', n2, rfl, hjj, hij2, hw2, hsd⟩ := hrel
  have hcw : ∀ t, t < d.size → wr.cell? ⟨blk, off + t, none⟩ = some (.int .u16 (Gk t)) := fun t ht => by rw [hw2]; exact hc t ht
  have HW2 : Hid (wr = W1.drewN n2) := hw2
  clear hw2
  by_cases hle2 : i' ≤ j'
  · exfalso; omega
  go_wp2_with fail
  go_big_quiet (first | (go_at_call 173; refine Calls.quiet_of_same (so_cmp_Less_int _ _ _)))
  have hj2 : Hid (j' = Sort.scanDown (fun x => !Sort.ltInt x dk[a]!) dk i' j) := (scanDown_end (fun x => !Sort.ltInt x dk[a]!) dk i' j' (Or.inl hle2)).symm.trans hsd.out
  clear hcw hsd
  have hw3 : wr.drewN nq = W1.drewN (n2 + nq) := by rw [HW2.out, World.drewN_drewN]
  generalize wr.drewN nq = W3 at hw3 ⊢
  have hc3 : ∀ t, t < d.size → W3.cell? ⟨blk, off + t, none⟩ = some (.int .u16 (Gk t)) := fun t ht => by rw [hw3]; exact hc t ht
  have hf3 : ∀ t, t < d.size → W3.frozen? ⟨blk, off + t, none⟩ = false := fun t ht => by rw [hw3]; exact hf t ht
  have HW3 : Hid (W3 = W1.drewN (n2 + nq)) := hw3
  clear hw3
  obtain ⟨v3, hy3⟩ := cell?_setCell_some (w := W3) (p := ⟨blk, off + j', none⟩) (x := .int .u16 (Gk a)) (q := ⟨blk, off + a, none⟩) (hc3 a (by omega))
  have hlj : j' < d.size := by omega
  go_wp2
  go_region
  all_goals go_wp2
  all_goals go_ret2
  have e : Sort.partition Sort.ltInt d a b pivot = (j', true, Sort.swp dk j' a) := part_first_break Sort.ltInt d a b pivot HI.out HJ.out HDK.out hi2.out hj2.out (by omega)
  refine ⟨?_, n + (n2 + nq) + 1, ?_⟩
  · rw [e]; rfl
  rw [e, HW3.out, AW.out, World.drewN_drewN, AG.out a, AG.out j']
  exact swap_worldC (Value.int .u16) w blk off dk _ j' a (by omega) (by omega)
theorem so_partitionOrdered_int (blk off cap a b pivot : Nat) (d : Array Int) (w : World) (hH : Holds (Value.int .u16) w blk off d) (hap : a ≤ pivot) (hpb : pivot < b) (hb : b ≤ d.size) (hsz : d.size < 4611686018427387904) :
    Calls Tryz.prog 175 #[.slice (some ⟨blk, off, none⟩) d.size cap, .int .i64 a, .int .i64 b, .int .i64 pivot] w fun e w' =>
      e = .returned (.tuple #[.int .i64 (Sort.partition Sort.ltInt d a b pivot).1, .bool (Sort.partition Sort.ltInt d a b pivot).2.1]) ∧ ∃ n, w' = putRow (Value.int .u16) (Sort.ahead w n) blk off (Sort.partition Sort.ltInt d a b pivot).2.2 :=
  (so_partition_int blk off cap a b pivot d w hH hap hpb hb hsz).mono fun _ _ ⟨he, n, hw⟩ => ⟨he, n, hw⟩
end Go.Proofs.YtfkblpjfknfgbaaGreatDoor
namespace Go.Sort
variable {α : Type} [Inhabited α]
def AtU (enc : α → Value) (w : World) (blk off : Nat) (d : Array α) (wr : World) : Prop := ∃ n os, wr = grow (putRow enc (ahead w n) blk off d) os
section
variable {enc : α → Value} {w wr w1 : World} {blk off : Nat} {d d' d0 : Array α}
theorem AtU.refl (h : Holds enc w blk off d) : AtU enc w blk off d w := ⟨0, #[], by rw [grow_empty, ahead_zero, putRow_self enc w blk off d h]⟩
theorem AtU.holds (h : AtU enc w blk off d wr) (h0 : Holds enc w blk off d0) (hs : d.size = d0.size) (hb : blk < w.heap.size) : Holds enc wr blk off d ∧ blk < wr.heap.size := by
  obtain ⟨n, os, rfl⟩ := h
  exact ⟨holds_grow enc _ os blk off d (by simpa using hb) (holds_putRow enc _ blk off d0 d (holds_ahead enc w n blk off d0 h0) hs), by simp; omega⟩
theorem AtU.step (h : AtU enc w blk off d wr) (hb : blk < w.heap.size) (hs : d'.size = d.size) (h1 : ∃ m, w1 = putRow enc (ahead wr m) blk off d') : AtU enc w blk off d' w1 := by
  obtain ⟨n, os, rfl⟩ := h
  obtain ⟨m, rfl⟩ := h1
  exact ⟨n + m, os, grow_step enc w os n m blk off d d' hb hs⟩
theorem AtU.stepG (h : AtU enc w blk off d wr) (hb : blk < w.heap.size) (hs : d'.size = d.size) (h1 : ∃ m os', w1 = grow (putRow enc (ahead wr m) blk off d') os') : AtU enc w blk off d' w1 := by
  obtain ⟨n, os, rfl⟩ := h
  obtain ⟨m, os', rfl⟩ := h1
  exact ⟨n + m, os ++ os', grow_step_grow enc w os os' n m blk off d d' hb hs⟩
theorem AtU.same (h : AtU enc w blk off d wr) (h0 : Holds enc w blk off d0) (hs : d.size = d0.size) (hb : blk < w.heap.size) (h1 : ∃ m os', w1 = grow (ahead wr m) os') : AtU enc w blk off d w1 := by
  obtain ⟨m, os', rfl⟩ := h1
  refine h.stepG hb rfl ⟨m, os', ?_⟩
  rw [putRow_self enc (ahead wr m) blk off d (holds_ahead enc wr m blk off d (h.holds h0 hs hb).1)]
theorem AtU.ahead (h : AtU enc w blk off d wr) (m : Nat) : AtU enc w blk off d (ahead wr m) := by
  obtain ⟨n, os, rfl⟩ := h
  exact ⟨n + m, os, by rw [← ahead_ahead]; rfl⟩
end
section
variable (lt : α → α → Bool)
structure RdU (α : Type) where
  d1 : Array α
  lim : Nat
  c : Nat × Hint
  d2 : Array α
  pivot : Nat
  hint : Hint
  pi : Array α × Bool
def rdU (d : Array α) (a b limit : Nat) (wb wp : Bool) : RdU α :=
  let d1 := if !wb then breakPatterns d a b else d
  let c := choosePivot lt d1 a b
  let d2 := if c.2 = .decreasing then reverseRange d1 a b else d1
  let hint := if c.2 = .decreasing then Hint.increasing else c.2
  { d1 := d1, lim := if !wb then limit - 1 else limit, c := c, d2 := d2, pivot := if c.2 = .decreasing then (b - 1) - (c.1 - a) else c.1, hint := hint,
    pi := if wb && wp && hint = .increasing then partialInsertionSort lt d2 a b else (d2, false) }
variable {lt} {d : Array α} {a b limit : Nat} {wb wp : Bool}
theorem pdq_unfoldU : pdq lt d a b limit wb wp =
    if b - a ≤ 12 then insertionSort lt d a b else
    if limit = 0 then heapSort lt d a b else
    if (rdU lt d a b limit wb wp).pi.2 = true then (rdU lt d a b limit wb wp).pi.1 else
    if (decide (a > 0) && !lt (rdU lt d a b limit wb wp).pi.1[a - 1]! (rdU lt d a b limit wb wp).pi.1[(rdU lt d a b limit wb wp).pivot]!) = true then
      (if a < (partitionEqual lt (rdU lt d a b limit wb wp).pi.1 a b (rdU lt d a b limit wb wp).pivot).1 ∧ (partitionEqual lt (rdU lt d a b limit wb wp).pi.1 a b (rdU lt d a b limit wb wp).pivot).1 ≤ b then pdq lt (partitionEqual lt (rdU lt d a b limit wb wp).pi.1 a b (rdU lt d a b limit wb wp).pivot).2 (partitionEqual lt (rdU lt d a b limit wb wp).pi.1 a b (rdU lt d a b limit wb wp).pivot).1 b (rdU lt d a b limit wb wp).lim wb wp else (partitionEqual lt (rdU lt d a b limit wb wp).pi.1 a b (rdU lt d a b limit wb wp).pivot).2)
    else
      (if a ≤ (partition lt (rdU lt d a b limit wb wp).pi.1 a b (rdU lt d a b limit wb wp).pivot).1 ∧ (partition lt (rdU lt d a b limit wb wp).pi.1 a b (rdU lt d a b limit wb wp).pivot).1 < b then
        (if (partition lt (rdU lt d a b limit wb wp).pi.1 a b (rdU lt d a b limit wb wp).pivot).1 - a < b - (partition lt (rdU lt d a b limit wb wp).pi.1 a b (rdU lt d a b limit wb wp).pivot).1 then
          pdq lt (pdq lt (partition lt (rdU lt d a b limit wb wp).pi.1 a b (rdU lt d a b limit wb wp).pivot).2.2 a (partition lt (rdU lt d a b limit wb wp).pi.1 a b (rdU lt d a b limit wb wp).pivot).1 (rdU lt d a b limit wb wp).lim true true) ((partition lt (rdU lt d a b limit wb wp).pi.1 a b (rdU lt d a b limit wb wp).pivot).1 + 1) b (rdU lt d a b limit wb wp).lim (decide ((partition lt (rdU lt d a b limit wb wp).pi.1 a b (rdU lt d a b limit wb wp).pivot).1 - a ≥ (b - a) / 8)) (partition lt (rdU lt d a b limit wb wp).pi.1 a b (rdU lt d a b limit wb wp).pivot).2.1
        else
          pdq lt (pdq lt (partition lt (rdU lt d a b limit wb wp).pi.1 a b (rdU lt d a b limit wb wp).pivot).2.2 ((partition lt (rdU lt d a b limit wb wp).pi.1 a b (rdU lt d a b limit wb wp).pivot).1 + 1) b (rdU lt d a b limit wb wp).lim true true) a (partition lt (rdU lt d a b limit wb wp).pi.1 a b (rdU lt d a b limit wb wp).pivot).1 (rdU lt d a b limit wb wp).lim (decide (b - (partition lt (rdU lt d a b limit wb wp).pi.1 a b (rdU lt d a b limit wb wp).pivot).1 ≥ (b - a) / 8)) (partition lt (rdU lt d a b limit wb wp).pi.1 a b (rdU lt d a b limit wb wp).pivot).2.1)
      else (partition lt (rdU lt d a b limit wb wp).pi.1 a b (rdU lt d a b limit wb wp).pivot).2.2) := by
  rw [pdq]
  rfl
theorem pdq_smallU (h : b - a ≤ 12) : pdq lt d a b limit wb wp = insertionSort lt d a b := by rw [pdq_unfoldU, if_pos h]
theorem pdq_heapU (h : ¬ b - a ≤ 12) (h0 : limit = 0) : pdq lt d a b limit wb wp = heapSort lt d a b := by rw [pdq_unfoldU, if_neg h, if_pos h0]
theorem pdq_doneU (h : ¬ b - a ≤ 12) (h0 : ¬ limit = 0) (h1 : (rdU lt d a b limit wb wp).pi.2 = true) : pdq lt d a b limit wb wp = (rdU lt d a b limit wb wp).pi.1 := by rw [pdq_unfoldU, if_neg h, if_neg h0, if_pos h1]
theorem pdq_eqU (h : ¬ b - a ≤ 12) (h0 : ¬ limit = 0) (h1 : (rdU lt d a b limit wb wp).pi.2 = false) (h2 : (decide (a > 0) && !lt (rdU lt d a b limit wb wp).pi.1[a - 1]! (rdU lt d a b limit wb wp).pi.1[(rdU lt d a b limit wb wp).pivot]!) = true) (h3 : a < (partitionEqual lt (rdU lt d a b limit wb wp).pi.1 a b (rdU lt d a b limit wb wp).pivot).1 ∧ (partitionEqual lt (rdU lt d a b limit wb wp).pi.1 a b (rdU lt d a b limit wb wp).pivot).1 ≤ b) :
    pdq lt d a b limit wb wp = pdq lt (partitionEqual lt (rdU lt d a b limit wb wp).pi.1 a b (rdU lt d a b limit wb wp).pivot).2 (partitionEqual lt (rdU lt d a b limit wb wp).pi.1 a b (rdU lt d a b limit wb wp).pivot).1 b (rdU lt d a b limit wb wp).lim wb wp := by
  rw [pdq_unfoldU, if_neg h, if_neg h0, if_neg (by rw [h1]; exact Bool.false_ne_true), if_pos h2, if_pos h3]
theorem pdq_leftU (h : ¬ b - a ≤ 12) (h0 : ¬ limit = 0) (h1 : (rdU lt d a b limit wb wp).pi.2 = false) (h2 : (decide (a > 0) && !lt (rdU lt d a b limit wb wp).pi.1[a - 1]! (rdU lt d a b limit wb wp).pi.1[(rdU lt d a b limit wb wp).pivot]!) = false) (h3 : a ≤ (partition lt (rdU lt d a b limit wb wp).pi.1 a b (rdU lt d a b limit wb wp).pivot).1 ∧ (partition lt (rdU lt d a b limit wb wp).pi.1 a b (rdU lt d a b limit wb wp).pivot).1 < b) (h4 : (partition lt (rdU lt d a b limit wb wp).pi.1 a b (rdU lt d a b limit wb wp).pivot).1 - a < b - (partition lt (rdU lt d a b limit wb wp).pi.1 a b (rdU lt d a b limit wb wp).pivot).1) :
    pdq lt d a b limit wb wp = pdq lt (pdq lt (partition lt (rdU lt d a b limit wb wp).pi.1 a b (rdU lt d a b limit wb wp).pivot).2.2 a (partition lt (rdU lt d a b limit wb wp).pi.1 a b (rdU lt d a b limit wb wp).pivot).1 (rdU lt d a b limit wb wp).lim true true) ((partition lt (rdU lt d a b limit wb wp).pi.1 a b (rdU lt d a b limit wb wp).pivot).1 + 1) b (rdU lt d a b limit wb wp).lim (decide ((partition lt (rdU lt d a b limit wb wp).pi.1 a b (rdU lt d a b limit wb wp).pivot).1 - a ≥ (b - a) / 8)) (partition lt (rdU lt d a b limit wb wp).pi.1 a b (rdU lt d a b limit wb wp).pivot).2.1 := by
  rw [pdq_unfoldU, if_neg h, if_neg h0, if_neg (by rw [h1]; exact Bool.false_ne_true), if_neg (by rw [h2]; exact Bool.false_ne_true), if_pos h3, if_pos h4]
theorem pdq_rightU (h : ¬ b - a ≤ 12) (h0 : ¬ limit = 0) (h1 : (rdU lt d a b limit wb wp).pi.2 = false) (h2 : (decide (a > 0) && !lt (rdU lt d a b limit wb wp).pi.1[a - 1]! (rdU lt d a b limit wb wp).pi.1[(rdU lt d a b limit wb wp).pivot]!) = false) (h3 : a ≤ (partition lt (rdU lt d a b limit wb wp).pi.1 a b (rdU lt d a b limit wb wp).pivot).1 ∧ (partition lt (rdU lt d a b limit wb wp).pi.1 a b (rdU lt d a b limit wb wp).pivot).1 < b) (h4 : ¬ (partition lt (rdU lt d a b limit wb wp).pi.1 a b (rdU lt d a b limit wb wp).pivot).1 - a < b - (partition lt (rdU lt d a b limit wb wp).pi.1 a b (rdU lt d a b limit wb wp).pivot).1) :
    pdq lt d a b limit wb wp = pdq lt (pdq lt (partition lt (rdU lt d a b limit wb wp).pi.1 a b (rdU lt d a b limit wb wp).pivot).2.2 ((partition lt (rdU lt d a b limit wb wp).pi.1 a b (rdU lt d a b limit wb wp).pivot).1 + 1) b (rdU lt d a b limit wb wp).lim true true) a (partition lt (rdU lt d a b limit wb wp).pi.1 a b (rdU lt d a b limit wb wp).pivot).1 (rdU lt d a b limit wb wp).lim (decide (b - (partition lt (rdU lt d a b limit wb wp).pi.1 a b (rdU lt d a b limit wb wp).pivot).1 ≥ (b - a) / 8)) (partition lt (rdU lt d a b limit wb wp).pi.1 a b (rdU lt d a b limit wb wp).pivot).2.1 := by
  rw [pdq_unfoldU, if_neg h, if_neg h0, if_neg (by rw [h1]; exact Bool.false_ne_true), if_neg (by rw [h2]; exact Bool.false_ne_true), if_pos h3, if_neg h4]
theorem rd_decU (hh : (rdU lt d a b limit wb wp).c.2 = .decreasing) :
    (rdU lt d a b limit wb wp).d2 = reverseRange (rdU lt d a b limit wb wp).d1 a b ∧ (rdU lt d a b limit wb wp).pivot = (b - 1) - ((rdU lt d a b limit wb wp).c.1 - a) ∧ (rdU lt d a b limit wb wp).hint = .increasing := ⟨if_pos hh, if_pos hh, if_pos hh⟩
theorem rd_notU (hh : (rdU lt d a b limit wb wp).c.2 ≠ .decreasing) :
    (rdU lt d a b limit wb wp).d2 = (rdU lt d a b limit wb wp).d1 ∧ (rdU lt d a b limit wb wp).pivot = (rdU lt d a b limit wb wp).c.1 ∧ (rdU lt d a b limit wb wp).hint = (rdU lt d a b limit wb wp).c.2 := ⟨if_neg hh, if_neg hh, if_neg hh⟩
theorem rd_pi_yesU (hc : (wb && wp && decide ((rdU lt d a b limit wb wp).hint = .increasing)) = true) : (rdU lt d a b limit wb wp).pi = partialInsertionSort lt (rdU lt d a b limit wb wp).d2 a b := if_pos hc
theorem rd_pi_noU (hc : (wb && wp && decide ((rdU lt d a b limit wb wp).hint = .increasing)) = false) : (rdU lt d a b limit wb wp).pi = ((rdU lt d a b limit wb wp).d2, false) := if_neg (fun h => Bool.false_ne_true (hc.symm.trans h))
theorem rd_lim_leU : (rdU lt d a b limit wb wp).lim ≤ limit := by
  show (if (!wb) = true then limit - 1 else limit) ≤ limit
  split <;> omega
theorem rd_factsU (h : SWO lt) (hpi : partialInsertionSort_stmt lt) (hrev : reverseRange_stmt α) (hab : a < b) (hb : b ≤ d.size) (hB : Below lt a b d) :
    (rdU lt d a b limit wb wp).d1.size = d.size ∧ Below lt a b (rdU lt d a b limit wb wp).d1 ∧ (a ≤ (rdU lt d a b limit wb wp).c.1 ∧ (rdU lt d a b limit wb wp).c.1 < b) ∧
    (rdU lt d a b limit wb wp).d2.size = d.size ∧ Below lt a b (rdU lt d a b limit wb wp).d2 ∧ (a ≤ (rdU lt d a b limit wb wp).pivot ∧ (rdU lt d a b limit wb wp).pivot < b) ∧
    (rdU lt d a b limit wb wp).pi.1.size = d.size ∧ Below lt a b (rdU lt d a b limit wb wp).pi.1 := by
  have p1 : PermIn a b d (rdU lt d a b limit wb wp).d1 := step_break d (Nat.le_of_lt hab) hb ((!wb) = true)
  have s1 := p1.1
  have B1 := hB.perm hb p1
  have c1 : a ≤ (rdU lt d a b limit wb wp).c.1 ∧ (rdU lt d a b limit wb wp).c.1 < b := choosePivot_holds lt (rdU lt d a b limit wb wp).d1 a b hab
  have p2 : PermIn a b (rdU lt d a b limit wb wp).d1 (rdU lt d a b limit wb wp).d2 := step_reverse hrev (rdU lt d a b limit wb wp).d1 (Nat.le_of_lt hab) (by rw [s1]; exact hb) ((rdU lt d a b limit wb wp).c.2 = .decreasing)
  have s2 := p2.1.trans s1
  have B2 := B1.perm (by rw [s1]; exact hb) p2
  have pv : a ≤ (rdU lt d a b limit wb wp).pivot ∧ (rdU lt d a b limit wb wp).pivot < b := pivot_range c1.1 c1.2 ((rdU lt d a b limit wb wp).c.2 = .decreasing)
  have p3 : PermIn a b (rdU lt d a b limit wb wp).d2 (rdU lt d a b limit wb wp).pi.1 := (step_partial hpi h (rdU lt d a b limit wb wp).d2 hab (by rw [s2]; exact hb) B2 ((wb && wp && decide ((rdU lt d a b limit wb wp).hint = .increasing)) = true)).1
  exact ⟨s1, B1, c1, s2, B2, pv, p3.1.trans s2, B2.perm (by rw [s2]; exact hb) p3⟩
end
end Go.Sort
namespace Go.Proofs.YtfkblpjfknfgbaaGreatDoor
open Go.Sort Go.RowKit
abbrev encI : Int → Value := fun x => Value.int .u16 x
theorem swap_world {α : Type} [Inhabited α] (enc : α → Value) {w wr : World} {n blk off : Nat} {dk : Array α} {i j : Nat} (hi : i < dk.size) (hj : j < dk.size) (hwr : wr = putRow enc (Sort.ahead w n) blk off dk)
    {x y : Value} (hx : x = enc dk[j]!) (hy : y = enc dk[i]!) : ((wr.setCell ⟨blk, off + i, none⟩ x).setCell ⟨blk, off + j, none⟩ y).drew = putRow enc (Sort.ahead w (n + 1)) blk off (swp dk i j) := by
  subst hwr; subst hx; subst hy
  rw [putRow_swp enc _ blk off dk i j hi hj, ← ahead_drew]
  rfl
set_option maxHeartbeats 1600000 in
set_option maxRecDepth 1000000 in
theorem so_reverseRange_int (blk off cap : Nat) (d : Array Int) (a b : Nat) (w : World) (hH : Holds encI w blk off d) (hab : a ≤ b) (hb : b ≤ d.size) (hsz : d.size < 4611686018427387904) :
    Calls Tryz.prog 171 #[.slice (some ⟨blk, off, none⟩) d.size cap, .int .i64 a, .int .i64 b] w fun e w' => e = .returned (.tuple #[]) ∧ ∃ n, w' = putRow encI (Sort.ahead w n) blk off (reverseRange d a b) := by
  go_enter Tryz.func171, Tryz.ntmps171
  go_wp2
  go_loopg [6, 7] (b - a) (fun k s6 s7 wr => ∃ (i jn : Nat) (jz : Int) (dk : Array Int) (n : Nat), s6 = .int .i64 i ∧ s7 = .int .i64 jz ∧ ((i : Int) < jz → jz = jn ∧ jn < d.size) ∧ (¬ (i : Int) < jz → ¬ i < jn) ∧ jn - i ≤ k ∧
    dk.size = d.size ∧ wr = putRow encI (Sort.ahead w n) blk off dk ∧ reverseLoop i jn dk = reverseLoop a (b - 1) d)
  case atStart => exact ⟨a, b - 1, (b : Int) - 1, d, 0, rfl, rfl, fun h => ⟨by omega, by omega⟩, fun h => by omega, by omega, rfl, (putRow_self encI w blk off d hH).symm, rfl⟩
  case round =>
  obtain ⟨i, jn, jz, dk, n, rfl, rfl, h1, h2, hk, hds, hwr, heq⟩ := hrel
  by_cases hlt : (i : Int) < jz
  · obtain ⟨rfl, hjn⟩ := h1 hlt
    have hij : i < jn := by omega
    have hHk : Holds encI wr blk off dk := by rw [hwr]; exact holds_putRow encI _ blk off d dk (holds_ahead encI w n blk off d hH) hds
    obtain ⟨ci, fi⟩ := hHk i (by omega)
    obtain ⟨cj, fj⟩ := hHk jn (by omega)
    have A : Aside (wr = putRow encI (Sort.ahead w n) blk off dk) := hwr
    clear hwr hHk hH h1 h2
    go_wp2_with fail
    go_region
    go_wp2
    go_roundg (jn - 1 - (i + 1))
    case measure => omega
    case rel =>
    rw [reverseLoop, if_pos hij] at heq
    exact ⟨i + 1, jn - 1, (jn : Int) - 1, swp dk i jn, n + 1, by simp, rfl, fun h => ⟨by omega, by omega⟩, fun h => by omega, Nat.le_refl _, by rw [size_swp]; exact hds,
      swap_world encI (by omega) (by omega) A.out (by simp [encI, getElem!_pos, show jn < dk.size by omega]) rfl, heq⟩
  have hnot := h2 hlt
  go_wp2
  go_end0
  refine ⟨rfl, n, ?_⟩
  rw [reverseLoop, if_neg hnot] at heq
  rw [reverseRange, ← heq]
end Go.Proofs.YtfkblpjfknfgbaaGreatDoor
namespace Go.Sort
variable {α : Type} [Inhabited α] (lt : α → α → Bool)
theorem sd_endU {hi F root : Nat} (d : Array α) (h : hi ≤ 2 * root + 1) : siftDown lt hi F root d = d := by rw [siftDown, dif_pos h]
theorem sd_right_stopU {hi F root : Nat} (d : Array α) (h1 : 2 * root + 2 < hi) (h2 : lt d[F + (2 * root + 1)]! d[F + (2 * root + 2)]! = true) (h3 : lt d[F + root]! d[F + (2 * root + 2)]! = false) : siftDown lt hi F root d = d := by
  rw [siftDown, dif_neg (by omega), show F + (2 * root + 1) + 1 = F + (2 * root + 2) by omega, h2, h3]
  simp [show 2 * root + 1 + 1 < hi by omega]
theorem sd_right_goU {hi F root : Nat} (d : Array α) (h1 : 2 * root + 2 < hi) (h2 : lt d[F + (2 * root + 1)]! d[F + (2 * root + 2)]! = true) (h3 : lt d[F + root]! d[F + (2 * root + 2)]! = true) :
    siftDown lt hi F root d = siftDown lt hi F (2 * root + 2) (swp d (F + root) (F + (2 * root + 2))) := by
  rw [siftDown, dif_neg (by omega), show F + (2 * root + 1) + 1 = F + (2 * root + 2) by omega, h2, h3]
  simp [show 2 * root + 1 + 1 < hi by omega]
theorem sd_left_stopU {hi F root : Nat} (d : Array α) (h0 : 2 * root + 1 < hi) (h1 : 2 * root + 2 < hi → lt d[F + (2 * root + 1)]! d[F + (2 * root + 2)]! = false) (h3 : lt d[F + root]! d[F + (2 * root + 1)]! = false) : siftDown lt hi F root d = d := by
  rw [siftDown, dif_neg (by omega), show F + (2 * root + 1) + 1 = F + (2 * root + 2) by omega, h3]
  by_cases h : 2 * root + 2 < hi
  · simp [h1 h]
  simp [show ¬ 2 * root + 1 + 1 < hi by omega]
theorem sd_left_goU {hi F root : Nat} (d : Array α) (h0 : 2 * root + 1 < hi) (h1 : 2 * root + 2 < hi → lt d[F + (2 * root + 1)]! d[F + (2 * root + 2)]! = false) (h3 : lt d[F + root]! d[F + (2 * root + 1)]! = true) :
    siftDown lt hi F root d = siftDown lt hi F (2 * root + 1) (swp d (F + root) (F + (2 * root + 1))) := by
  rw [siftDown, dif_neg (by omega), show F + (2 * root + 1) + 1 = F + (2 * root + 2) by omega, h3]
  by_cases h : 2 * root + 2 < hi
  · simp [h1 h]
  simp [show ¬ 2 * root + 1 + 1 < hi by omega]
end Go.Sort
namespace Go.Proofs.YtfkblpjfknfgbaaGreatDoor
open Go.Sort Go.RowKit
theorem drewN_world {α : Type} [Inhabited α] (enc : α → Value) {w wr : World} {n blk off : Nat} {dk : Array α} (hwr : wr = putRow enc (Sort.ahead w n) blk off dk) (m : Nat) : wr.drewN m = putRow enc (Sort.ahead w (n + m)) blk off dk := by
  subst hwr
  rw [← ahead_ahead]
  rfl
set_option maxHeartbeats 3200000 in
set_option maxRecDepth 1000000 in
theorem so_siftDown_int (blk off len cap : Nat) (d : Array Int) (hlen : d.size = len) (lo hi first : Nat) (w : World) (hH : Holds encI w blk off d) (hlo : lo ≤ hi) (hb : first + hi ≤ d.size) (hsz : d.size < 4611686018427387904) :
    Calls Tryz.prog 199 #[.slice (some ⟨blk, off, none⟩) len cap, .int .i64 lo, .int .i64 hi, .int .i64 first] w fun e w' => e = .returned (.tuple #[]) ∧ ∃ n, w' = putRow encI (Sort.ahead w n) blk off (siftDown ltInt hi first lo d) := by
  subst hlen
  go_enter Tryz.func199, Tryz.ntmps199
  go_wp2
  go_loopg [8] (hi - lo) (fun k s8 wr => ∃ (root : Nat) (dk : Array Int) (n : Nat), s8 = .int .i64 root ∧ root ≤ hi ∧ hi - root ≤ k ∧ dk.size = d.size ∧ wr = putRow encI (Sort.ahead w n) blk off dk ∧ siftDown ltInt hi first root dk = siftDown ltInt hi first lo d)
  case atStart => exact ⟨lo, d, 0, rfl, hlo, Nat.le_refl _, rfl, (putRow_self encI w blk off d hH).symm, rfl⟩
  case round =>
  obtain ⟨root, dk, n, rfl, hr, hk, hds, hwr, heq⟩ := hrel
  have hHk : Holds encI wr blk off dk := by rw [hwr]; exact holds_putRow encI _ blk off d dk (holds_ahead encI w n blk off d hH) hds
  have hcw : ∀ t, t < d.size → wr.cell? ⟨blk, off + t, none⟩ = some (.int .u16 dk[t]!) := fun t ht => (hHk t (by omega)).1
  have hfw : ∀ t, t < d.size → wr.frozen? ⟨blk, off + t, none⟩ = false := fun t ht => (hHk t (by omega)).2
  have A : Aside (wr = putRow encI (Sort.ahead w n) blk off dk) := hwr
  clear hwr hH hHk
  by_cases h0 : hi ≤ 2 * root + 1
  ·
    have h0z : (hi : Int) ≤ 2 * (root : Int) + 1 := by omega
    go_wp2
    go_end0
    refine ⟨rfl, n, ?_⟩
    rw [A.out, ← heq, sd_endU ltInt dk h0]
  ·
    have h0z : ¬ ((hi : Int) ≤ 2 * (root : Int) + 1) := by omega
    by_cases h1 : 2 * root + 2 < hi
    · have h1z : 2 * (root : Int) + 1 + 1 < (hi : Int) := by omega
      go_wp2_with fail
      go_big_quiet (first | (go_at_call 173; refine Calls.quiet_of_same (so_cmp_Less_int _ _ _)))
      go_wp2_with fail
      ·
        have hL : ltInt dk[first + 2 * root + 1]! dk[first + 2 * root + 2]! = true := by assumption
        revert nq; intro nq1
        have hcw2 : ∀ t, t < d.size → (wr.drewN nq1).cell? ⟨blk, off + t, none⟩ = some (.int .u16 dk[t]!) := hcw
        have hfw2 : ∀ t, t < d.size → (wr.drewN nq1).frozen? ⟨blk, off + t, none⟩ = false := hfw
        have A2 : Aside (wr.drewN nq1 = putRow encI (Sort.ahead w (n + nq1)) blk off dk) := drewN_world encI A.out nq1
        clear hcw hfw A
        generalize wr.drewN nq1 = wr2 at hcw2 hfw2 A2 ⊢
        go_big_quiet (first | (go_at_call 173; refine Calls.quiet_of_same (so_cmp_Less_int _ _ _)))
        go_wp2_with fail
        ·
          have hS : ltInt dk[first + root]! dk[first + 2 * root + 2]! = false := by
            have : (!ltInt dk[first + root]! dk[first + 2 * root + 2]!) = true := by assumption
            simpa using this
          (try simp only [Exit.inBlock, Exit.then]); refine bodyPost_ret (results_none rfl _ _ _) rfl ?_
          refine ⟨rfl, n + nq1 + nq, ?_⟩
          rw [drewN_world encI A2.out nq, ← heq, sd_right_stopU ltInt dk h1 hL hS]
        ·
          have hG : ltInt dk[first + root]! dk[first + 2 * root + 2]! = true := by
            have : (!ltInt dk[first + root]! dk[first + 2 * root + 2]!) = false := by assumption
            simpa using this
          have hcw3 : ∀ t, t < d.size → (wr2.drewN nq).cell? ⟨blk, off + t, none⟩ = some (.int .u16 dk[t]!) := hcw2
          have hfw3 : ∀ t, t < d.size → (wr2.drewN nq).frozen? ⟨blk, off + t, none⟩ = false := hfw2
          have A3 : Aside (wr2.drewN nq = putRow encI (Sort.ahead w (n + nq1 + nq)) blk off dk) := drewN_world encI A2.out nq
          clear hcw2 hfw2 A2
          generalize wr2.drewN nq = wr3 at hcw3 hfw3 A3 ⊢
          go_region
          go_wp2
          go_roundg (hi - (2 * root + 2))
          case measure => omega
          case rel =>
          refine ⟨2 * root + 2, swp dk (first + root) (first + (2 * root + 1 + 1)), n + nq1 + nq + 1, by simp <;> omega, by omega, Nat.le_refl _, by rw [size_swp]; exact hds, swap_world encI (by omega) (by omega) A3.out rfl rfl, ?_⟩
          rw [← heq, sd_right_goU ltInt dk h1 hL hG]
      ·
        have hL : ltInt dk[first + 2 * root + 1]! dk[first + 2 * root + 2]! = false := by assumption
        revert nq; intro nq1
        have hcw2 : ∀ t, t < d.size → (wr.drewN nq1).cell? ⟨blk, off + t, none⟩ = some (.int .u16 dk[t]!) := hcw
        have hfw2 : ∀ t, t < d.size → (wr.drewN nq1).frozen? ⟨blk, off + t, none⟩ = false := hfw
        have A2 : Aside (wr.drewN nq1 = putRow encI (Sort.ahead w (n + nq1)) blk off dk) := drewN_world encI A.out nq1
        clear hcw hfw A
        generalize wr.drewN nq1 = wr2 at hcw2 hfw2 A2 ⊢
        go_big_quiet (first | (go_at_call 173; refine Calls.quiet_of_same (so_cmp_Less_int _ _ _)))
        go_wp2_with fail
        ·
          have hS : ltInt dk[first + root]! dk[first + 2 * root + 1]! = false := by
            have : (!ltInt dk[first + root]! dk[first + 2 * root + 1]!) = true := by assumption
            simpa using this
          (try simp only [Exit.inBlock, Exit.then]); refine bodyPost_ret (results_none rfl _ _ _) rfl ?_
          refine ⟨rfl, n + nq1 + nq, ?_⟩
          rw [drewN_world encI A2.out nq, ← heq, sd_left_stopU ltInt dk (by omega) (fun _ => hL) hS]
        ·
          have hG : ltInt dk[first + root]! dk[first + 2 * root + 1]! = true := by
            have : (!ltInt dk[first + root]! dk[first + 2 * root + 1]!) = false := by assumption
            simpa using this
          have hcw3 : ∀ t, t < d.size → (wr2.drewN nq).cell? ⟨blk, off + t, none⟩ = some (.int .u16 dk[t]!) := hcw2
          have hfw3 : ∀ t, t < d.size → (wr2.drewN nq).frozen? ⟨blk, off + t, none⟩ = false := hfw2
          have A3 : Aside (wr2.drewN nq = putRow encI (Sort.ahead w (n + nq1 + nq)) blk off dk) := drewN_world encI A2.out nq
          clear hcw2 hfw2 A2
          generalize wr2.drewN nq = wr3 at hcw3 hfw3 A3 ⊢
          go_region
          go_wp2
          go_roundg (hi - (2 * root + 1))
          case measure => omega
          case rel =>
          refine ⟨2 * root + 1, swp dk (first + root) (first + (2 * root + 1)), n + nq1 + nq + 1, by simp <;> omega, by omega, Nat.le_refl _, by rw [size_swp]; exact hds, swap_world encI (by omega) (by omega) A3.out rfl rfl, ?_⟩
          rw [← heq, sd_left_goU ltInt dk (by omega) (fun _ => hL) hG]
    ·
      have h1z : decide (2 * (root : Int) + 1 + 1 < (hi : Int)) = false := decide_eq_false (by omega)
      go_wp2_with fail
      go_big_quiet (first | (go_at_call 173; refine Calls.quiet_of_same (so_cmp_Less_int _ _ _)))
      go_wp2_with fail
      revert nq; intro nq1
      have hcw2 : ∀ t, t < d.size → (wr.drewN nq1).cell? ⟨blk, off + t, none⟩ = some (.int .u16 dk[t]!) := hcw
      have hfw2 : ∀ t, t < d.size → (wr.drewN nq1).frozen? ⟨blk, off + t, none⟩ = false := hfw
      have A2 : Aside (wr.drewN nq1 = putRow encI (Sort.ahead w (n + nq1)) blk off dk) := drewN_world encI A.out nq1
      clear hcw hfw A
      generalize wr.drewN nq1 = wr2 at hcw2 hfw2 A2 ⊢
      go_big_quiet (first | (go_at_call 173; refine Calls.quiet_of_same (so_cmp_Less_int _ _ _)))
      go_wp2_with fail
      ·
        have hS : ltInt dk[first + root]! dk[first + 2 * root + 1]! = false := by
          have : (!ltInt dk[first + root]! dk[first + 2 * root + 1]!) = true := by assumption
          simpa using this
        (try simp only [Exit.inBlock, Exit.then]); refine bodyPost_ret (results_none rfl _ _ _) rfl ?_
        refine ⟨rfl, n + nq1 + nq, ?_⟩
        rw [drewN_world encI A2.out nq, ← heq, sd_left_stopU ltInt dk (by omega) (fun h => absurd h h1) hS]
      ·
        have hG : ltInt dk[first + root]! dk[first + 2 * root + 1]! = true := by
          have : (!ltInt dk[first + root]! dk[first + 2 * root + 1]!) = false := by assumption
          simpa using this
        have hcw3 : ∀ t, t < d.size → (wr2.drewN nq).cell? ⟨blk, off + t, none⟩ = some (.int .u16 dk[t]!) := hcw2
        have hfw3 : ∀ t, t < d.size → (wr2.drewN nq).frozen? ⟨blk, off + t, none⟩ = false := hfw2
        have A3 : Aside (wr2.drewN nq = putRow encI (Sort.ahead w (n + nq1 + nq)) blk off dk) := drewN_world encI A2.out nq
        clear hcw2 hfw2 A2
        generalize wr2.drewN nq = wr3 at hcw3 hfw3 A3 ⊢
        go_region
        go_wp2
        go_roundg (hi - (2 * root + 1))
        case measure => omega
        case rel =>
        refine ⟨2 * root + 1, swp dk (first + root) (first + (2 * root + 1)), n + nq1 + nq + 1, by simp <;> omega, by omega, Nat.le_refl _, by rw [size_swp]; exact hds, swap_world encI (by omega) (by omega) A3.out rfl rfl, ?_⟩
        rw [← heq, sd_left_goU ltInt dk (by omega) (fun h => absurd h h1) hG]
end Go.Proofs.YtfkblpjfknfgbaaGreatDoor
namespace Go.Sort
variable {α : Type} [Inhabited α] (lt : α → α → Bool)
theorem size_siftDownU (hi F : Nat) : ∀ (n root : Nat) (d : Array α), hi - root ≤ n → (siftDown lt hi F root d).size = d.size := by
  intro n
  induction n with
  | zero => intro root d h; rw [siftDown, dif_pos (by omega)]
  | succ n ih =>
    intro root d h
    rw [siftDown]
    split
    · rfl
    split
    · split
      · rfl
      split
      · rw [ih _ _ (by omega), size_swp]
      rfl
    split
    · rfl
    rw [ih _ _ (by omega), size_swp]
end Go.Sort
namespace Go.Proofs.YtfkblpjfknfgbaaGreatDoor
open Go.Sort Go.RowKit
theorem half_start {a b : Nat} (hab : a ≤ b) : ((b : Int) - (a : Int) - 1).tdiv 2 = (((b - a - 1) / 2 + 1 : Nat) : Int) - 1 := by
  by_cases h : a = b
  · subst h
    have : ((a : Int) - (a : Int) - 1) = -1 := by omega
    rw [this]
    simp
  rw [Int.tdiv_eq_ediv_of_nonneg (by omega)]
  omega
set_option maxHeartbeats 3200000 in
set_option maxRecDepth 1000000 in
theorem so_heapSort_int (blk off len cap : Nat) (d : Array Int) (hlen : d.size = len) (a b : Nat) (w : World) (hH : Holds encI w blk off d) (hab : a ≤ b) (hb : b ≤ d.size) (hsz : d.size < 4611686018427387904) :
    Calls Tryz.prog 168 #[.slice (some ⟨blk, off, none⟩) len cap, .int .i64 a, .int .i64 b] w fun e w' => e = .returned (.tuple #[]) ∧ ∃ n, w' = putRow encI (Sort.ahead w n) blk off (heapSort ltInt d a b) := by
  subst hlen
  have ecast : ((b - a : Nat) : Int) = (b : Int) - (a : Int) := by omega
  go_enter Tryz.func168, Tryz.ntmps168
  go_wp2
  go_loopg [9] ((b - a - 1) / 2 + 1) (fun k s9 wr => s9 = .int .i64 ((k : Int) - 1) ∧ k ≤ (b - a - 1) / 2 + 1 ∧ ∃ (dk : Array Int) (n : Nat), dk.size = d.size ∧ wr = putRow encI (Sort.ahead w n) blk off dk ∧
    heapBuild ltInt (b - a) a k dk = heapBuild ltInt (b - a) a ((b - a - 1) / 2 + 1) d)
  case atStart => exact ⟨by rw [half_start hab], Nat.le_refl _, d, 0, rfl, (putRow_self encI w blk off d hH).symm, rfl⟩
  case round =>
  obtain ⟨rfl, hkk, dk, n, hds, hwr, heq⟩ := hrel
  have hHk : Holds encI wr blk off dk := by rw [hwr]; exact holds_putRow encI _ blk off d dk (holds_ahead encI w n blk off d hH) hds
  have A : Aside (wr = putRow encI (Sort.ahead w n) blk off dk) := hwr
  clear hwr
  cases gk with
  | zero =>
    have hB : dk = heapBuild ltInt (b - a) a ((b - a - 1) / 2 + 1) d := heq
    clear heq hHk hkk
    go_wp2
    go_loopg [10] (b - a) (fun k s10 wr2 => s10 = .int .i64 ((k : Int) - 1) ∧ k ≤ b - a ∧ ∃ (dj : Array Int) (n2 : Nat), dj.size = d.size ∧ wr2 = putRow encI (Sort.ahead w n2) blk off dj ∧ heapPop ltInt a k dj = heapPop ltInt a (b - a) dk)
    case atStart => exact ⟨by rw [ecast], Nat.le_refl _, dk, n, hds, A.out, rfl⟩
    case round =>
    obtain ⟨rfl, hkk, dj, n2, hdj, hwr2, heq2⟩ := hrel
    cases gk with
    | zero =>
      go_wp2
      go_end0
      refine ⟨rfl, n2, ?_⟩
      have e : dj = heapSort ltInt d a b := by rw [heapSort, ← hB, ← heq2]; rfl
      rw [← e]
    | succ k =>
      have hHj : Holds encI wr blk off dj := by rw [hwr2]; exact holds_putRow encI _ blk off d dj (holds_ahead encI w n2 blk off d hH) hdj
      have hcw : ∀ t, t < d.size → wr.cell? ⟨blk, off + t, none⟩ = some (.int .u16 dj[t]!) := fun t ht => (hHj t (by omega)).1
      have hfw : ∀ t, t < d.size → wr.frozen? ⟨blk, off + t, none⟩ = false := fun t ht => (hHj t (by omega)).2
      have A2 : Aside (wr = putRow encI (Sort.ahead w n2) blk off dj) := hwr2
      clear hwr2 hHj
      rcases Nat.eq_zero_or_pos k with hk0 | hkp
      · subst hk0
        go_wp2_with fail
        go_region
        go_wp2_with fail
        rw [swap_world encI (i := a) (j := a) (by omega) (by omega) A2.out rfl rfl]
        refine (so_siftDown_int blk off d.size cap (swp dj a (a)) (by rw [size_swp]; exact hdj) 0 0 a _ (holds_putRow encI _ blk off d _ (holds_ahead encI w (n2 + 1) blk off d hH) (by rw [size_swp]; exact hdj)) (Nat.zero_le _) (by rw [size_swp]; omega) (by rw [size_swp]; omega)).mono ?_
        rintro e w1 ⟨rfl, m, hw1⟩
        go_wp2
        go_roundg 0
        case measure => omega
        case rel =>
        refine ⟨by simp, by omega, siftDown ltInt 0 a 0 (swp dj a (a)), n2 + 1 + m, by rw [size_siftDownU ltInt _ _ _ _ _ (Nat.le_refl _), size_swp]; exact hdj, ?_, heq2⟩
        first
          | rw [hw1, putRow_ahead_putRow encI w (n2 + 1) m blk off _ _ (size_siftDownU ltInt _ _ _ _ _ (Nat.le_refl _))]
          | rw [putRow_ahead_putRow encI w (n2 + 1) m blk off _ _ (size_siftDownU ltInt _ _ _ _ _ (Nat.le_refl _))]
      skip
      go_wp2_with fail
      go_region
      go_wp2_with fail
      rw [swap_world encI (i := a) (j := a + k) (by omega) (by omega) A2.out rfl rfl]
      refine (so_siftDown_int blk off d.size cap (swp dj a (a + k)) (by rw [size_swp]; exact hdj) 0 k a _ (holds_putRow encI _ blk off d _ (holds_ahead encI w (n2 + 1) blk off d hH) (by rw [size_swp]; exact hdj)) (Nat.zero_le _) (by rw [size_swp]; omega) (by rw [size_swp]; omega)).mono ?_
      rintro e w1 ⟨rfl, m, hw1⟩
      go_wp2
      go_roundg k
      case measure => omega
      case rel =>
      refine ⟨by simp, by omega, siftDown ltInt k a 0 (swp dj a (a + k)), n2 + 1 + m, by rw [size_siftDownU ltInt _ _ _ _ _ (Nat.le_refl _), size_swp]; exact hdj, ?_, heq2⟩
      first
        | rw [hw1, putRow_ahead_putRow encI w (n2 + 1) m blk off _ _ (size_siftDownU ltInt _ _ _ _ _ (Nat.le_refl _))]
        | rw [putRow_ahead_putRow encI w (n2 + 1) m blk off _ _ (size_siftDownU ltInt _ _ _ _ _ (Nat.le_refl _))]
  | succ k =>
    have hcall := so_siftDown_int blk off d.size cap dk hds k (b - a) a wr hHk (by omega) (by omega) (by omega)
    rw [ecast] at hcall
    go_wp2_with (go_at_call 199; refine hcall.mono ?_; rintro e w1 ⟨rfl, m, hw1⟩)
    go_roundg k
    case measure => omega
    case rel =>
    refine ⟨by simp, by omega, siftDown ltInt (b - a) a k dk, n + m, by rw [size_siftDownU ltInt _ _ _ _ _ (Nat.le_refl _)]; exact hds, ?_, heq⟩
    rw [A.out, putRow_ahead_putRow encI w n m blk off dk _ (size_siftDownU ltInt _ _ _ _ _ (Nat.le_refl _))]
end Go.Proofs.YtfkblpjfknfgbaaGreatDoor
namespace Go.Proofs.YtfkblpjfknfgbaaGreatDoor
open Go.Sort Go.RowKit
structure Callees13 : Prop where
  ins : ∀ (blk off cap a b : Nat) (d : Array Int) (w : World), Holds encI w blk off d → a ≤ b → b ≤ d.size → d.size < 4611686018427387904 →
    Calls Tryz.prog 167 #[.slice (some ⟨blk, off, none⟩) d.size cap, .int .i64 a, .int .i64 b] w fun e w' => e = .returned (.tuple #[]) ∧ ∃ n, w' = putRow encI (Sort.ahead w n) blk off (insertionSort ltInt d a b)
  brk : ∀ (blk off cap a b : Nat) (d : Array Int) (w : World), Holds encI w blk off d → blk < w.heap.size → a ≤ b → b ≤ d.size → d.size < 4611686018427387904 →
    Calls Tryz.prog 169 #[.slice (some ⟨blk, off, none⟩) d.size cap, .int .i64 a, .int .i64 b] w fun e w' => e = .returned (.tuple #[]) ∧ ∃ n os, w' = grow (putRow encI (Sort.ahead w n) blk off (breakPatterns d a b)) os
  piv : ∀ (blk off cap a b : Nat) (d : Array Int) (w : World), Holds encI w blk off d → blk < w.heap.size → a < b → b ≤ d.size → d.size < 4611686018427387904 →
    Calls Tryz.prog 170 #[.slice (some ⟨blk, off, none⟩) d.size cap, .int .i64 a, .int .i64 b] w fun e w' => e = .returned (.tuple #[.int .i64 (choosePivot ltInt d a b).1, .int .i64 (hintCode (choosePivot ltInt d a b).2)]) ∧ ∃ n os, w' = grow (Sort.ahead w n) os
  par : ∀ (blk off cap a b : Nat) (d : Array Int) (w : World), Holds encI w blk off d → a < b → b ≤ d.size → d.size < 4611686018427387904 →
    Calls Tryz.prog 172 #[.slice (some ⟨blk, off, none⟩) d.size cap, .int .i64 a, .int .i64 b] w fun e w' => e = .returned (.bool (partialInsertionSort ltInt d a b).2) ∧ ∃ n, w' = putRow encI (Sort.ahead w n) blk off (partialInsertionSort ltInt d a b).1
  peq : ∀ (blk off cap a b pivot : Nat) (d : Array Int) (w : World), Holds encI w blk off d → a ≤ pivot → pivot < b → b ≤ d.size → d.size < 4611686018427387904 →
    Calls Tryz.prog 174 #[.slice (some ⟨blk, off, none⟩) d.size cap, .int .i64 a, .int .i64 b, .int .i64 pivot] w fun e w' => e = .returned (.int .i64 (partitionEqual ltInt d a b pivot).1) ∧ ∃ n, w' = putRow encI (Sort.ahead w n) blk off (partitionEqual ltInt d a b pivot).2
  prt : ∀ (blk off cap a b pivot : Nat) (d : Array Int) (w : World), Holds encI w blk off d → a ≤ pivot → pivot < b → b ≤ d.size → d.size < 4611686018427387904 →
    Calls Tryz.prog 175 #[.slice (some ⟨blk, off, none⟩) d.size cap, .int .i64 a, .int .i64 b, .int .i64 pivot] w fun e w' => e = .returned (.tuple #[.int .i64 (partition ltInt d a b pivot).1, .bool (partition ltInt d a b pivot).2.1]) ∧ ∃ n, w' = putRow encI (Sort.ahead w n) blk off (partition ltInt d a b pivot).2.2
structure Plain13 : Prop where
  swo : SWO ltInt
  ins : insertionSort_stmt ltInt
  par : partialInsertionSort_stmt ltInt
  prt : partition_stmt ltInt
  peq : partitionEqual_stmt ltInt
  pdq : pdq_stmt ltInt
theorem hintCode_two {h : Hint} (e : hintCode h = 2) : h = .decreasing := by cases h <;> simp [hintCode] at e ⊢
theorem eighth {x y p q : Nat} (h1 : q ≤ p) (h2 : y ≤ x) : decide (((x : Int) - (y : Int)) / 8 ≤ (p : Int) - (q : Int)) = decide (p - q ≥ (x - y) / 8) :=
  decide_eq_decide.2 ⟨fun h => by omega, fun h => by omega⟩
set_option maxHeartbeats 6400000 in
set_option maxRecDepth 1000000 in
theorem so_pdqsort_int (C : Callees13) (S : Plain13) : ∀ (N blk off cap a b limit : Nat) (d : Array Int) (w : World), b - a < N → Holds encI w blk off d → blk < w.heap.size → a ≤ b → b ≤ d.size → d.size < 4611686018427387904 → limit < 4611686018427387904 → Below ltInt a b d →
    Calls Tryz.prog 129 #[.slice (some ⟨blk, off, none⟩) d.size cap, .int .i64 a, .int .i64 b, .int .i64 limit] w fun e w' => e = .returned (.tuple #[]) ∧ AtU encI w blk off (pdq ltInt d a b limit true true) w' := by
  intro N
  induction N with
  | zero => intro _ _ _ _ _ _ _ _ h; exact absurd h (Nat.not_lt_zero _)
  | succ N ih =>
    intro blk off cap a b limit d w hN hH hblk hab hb hsz hlimit hBel0
    go_enter Tryz.func129, Tryz.ntmps129
    go_wp2
    go_loopg [1, 2, 3, 8, 9] (b - a) (fun k s1 s2 s3 s8 s9 wr => ∃ (a' b' lim : Nat) (wb wp : Bool) (dk : Array Int), s1 = .int .i64 a' ∧ s2 = .int .i64 b' ∧ s3 = .int .i64 lim ∧ s8 = .bool wb ∧ s9 = .bool wp ∧
      a' ≤ b' ∧ b' ≤ d.size ∧ b' - a' ≤ k ∧ k ≤ b - a ∧ lim ≤ limit ∧ dk.size = d.size ∧ Below ltInt a' b' dk ∧ AtU encI w blk off dk wr ∧ pdq ltInt dk a' b' lim wb wp = pdq ltInt d a b limit true true)
    case atStart => exact ⟨a, b, limit, true, true, d, rfl, rfl, rfl, rfl, rfl, hab, hb, Nat.le_refl _, Nat.le_refl _, Nat.le_refl _, rfl, hBel0, AtU.refl hH, rfl⟩
    case round =>
    obtain ⟨a', b', lim, wb, wp, dk, rfl, rfl, rfl, rfl, rfl, hab', hb', hk, hkN, hlim, hds, hBel, hAt, heq⟩ := hrel
    obtain ⟨hHk, hblk'⟩ := hAt.holds hH hds hblk
    have A : Aside (pdq ltInt dk a' b' lim wb wp = pdq ltInt d a b limit true true) := heq
    clear heq
    by_cases h12 : b' - a' ≤ 12
    ·
      have h12z : (b' : Int) - (a' : Int) ≤ 12 := by omega
      have hc := C.ins blk off cap a' b' dk wr hHk hab' (by omega) (by omega)
      rw [hds] at hc
      go_wp2_with (go_at_call 167; refine hc.mono ?_; rintro e w1 ⟨rfl, hw1⟩)
      (try simp only [Exit.inBlock, Exit.then]); refine bodyPost_ret (results_none rfl _ _ _) rfl ?_
      refine ⟨rfl, ?_⟩
      rw [← A.out, pdq_smallU h12]
      exact hAt.step hblk (S.ins S.swo dk a' b' hab' (by omega)).1.1 hw1
    have h12z : ¬ ((b' : Int) - (a' : Int) ≤ 12) := by omega
    by_cases hl0 : lim = 0
    ·
      subst hl0
      have hc := so_heapSort_int blk off d.size cap dk hds a' b' wr hHk hab' (by omega) (by omega)
      go_wp2_with (go_at_call 168; refine hc.mono ?_; rintro e w1 ⟨rfl, hw1⟩)
      (try simp only [Exit.inBlock, Exit.then]); refine bodyPost_ret (results_none rfl _ _ _) rfl ?_
      refine ⟨rfl, ?_⟩
      rw [← A.out, pdq_heapU h12 rfl]
      exact hAt.step hblk (heapSort_holds S.swo dk a' b' hab' (by omega)).1.1 hw1
    have hl0z : ¬ ((lim : Int) = 0) := by omega
    obtain ⟨s1, B1, hc1, s2, B2, hpv, s3, B3⟩ := rd_factsU (limit := lim) (wb := wb) (wp := wp) S.swo S.par reverseRange_holds (show a' < b' by omega) (show b' ≤ dk.size by omega) hBel
    go_upto_if 35 with fail
    go_cut [3] from 19 (fun s3 wc => s3 = .int .i64 (rdU ltInt dk a' b' lim wb wp).lim ∧ AtU encI w blk off (rdU ltInt dk a' b' lim wb wp).d1 wc)
    case first =>
      cases wb
      · have hc := C.brk blk off cap a' b' dk wr hHk hblk' hab' (by omega) (by omega)
        rw [hds] at hc
        go_wp2_with (go_at_call 169; refine hc.mono ?_; rintro e w1 ⟨rfl, hw1⟩)
        go_meet
        case rel =>
        refine ⟨?_, hAt.stepG hblk s1 hw1⟩
        show Value.int .i64 ((lim : Int) - 1) = Value.int .i64 ((lim - 1 : Nat) : Int)
        congr 1
        omega
      go_wp2_with fail
      go_meet
      case rel => exact ⟨rfl, hAt⟩
    case rest =>
    obtain ⟨rfl, hAt1⟩ := hcut
    obtain ⟨hH1, hblk1⟩ := hAt1.holds hH (s1.trans hds) hblk
    have hc17 : Calls Tryz.prog 170 #[.slice (some ⟨blk, off, none⟩) d.size cap, .int .i64 a', .int .i64 b'] wc fun e w' => e = .returned (.tuple #[.int .i64 (rdU ltInt dk a' b' lim wb wp).c.1, .int .i64 (hintCode (rdU ltInt dk a' b' lim wb wp).c.2)]) ∧ ∃ n os, w' = grow (Sort.ahead wc n) os := by
      have := C.piv blk off cap a' b' (rdU ltInt dk a' b' lim wb wp).d1 wc hH1 hblk1 (by omega) (by omega) (by omega)
      rw [s1, hds] at this
      exact this
    go_upto_if 50 with (go_at_call 170; refine hc17.mono ?_; rintro e w2 ⟨rfl, hw2⟩)
    have hAt2 : AtU encI w blk off (rdU ltInt dk a' b' lim wb wp).d1 w2 := hAt1.same hH (s1.trans hds) hblk hw2
    obtain ⟨hH2, hblk2⟩ := hAt2.holds hH (s1.trans hds) hblk
    go_cut [11, 12] from 19 (fun s11 s12 wc => s11 = .int .i64 (rdU ltInt dk a' b' lim wb wp).pivot ∧ s12 = .int .i64 (hintCode (rdU ltInt dk a' b' lim wb wp).hint) ∧ AtU encI w blk off (rdU ltInt dk a' b' lim wb wp).d2 wc)
    case first =>
      by_cases hh : (rdU ltInt dk a' b' lim wb wp).c.2 = .decreasing
      · have hcode : hintCode (rdU ltInt dk a' b' lim wb wp).c.2 = 2 := by rw [hh]; rfl
        obtain ⟨e2, epv, eht⟩ := rd_decU hh
        have hc18 := so_reverseRange_int blk off cap (rdU ltInt dk a' b' lim wb wp).d1 a' b' w2 hH2 hab' (by omega) (by omega)
        rw [s1, hds] at hc18
        go_wp2_with (go_at_call 171; refine hc18.mono ?_; rintro e w3 ⟨rfl, hw3⟩)
        go_meet
        case rel =>
        refine ⟨?_, by rw [eht]; rfl, by rw [e2]; exact hAt2.step hblk (by rw [← e2, s2, s1]) hw3⟩
        rw [epv]
        congr 1
        omega
      have hcode : ¬ (hintCode (rdU ltInt dk a' b' lim wb wp).c.2 = 2) := fun h => hh (hintCode_two h)
      obtain ⟨e2, epv, eht⟩ := rd_notU hh
      go_wp2_with fail
      go_meet
      case rel => exact ⟨by rw [epv], by rw [eht], by rw [e2]; exact hAt2⟩
    case rest =>
    obtain ⟨rfl, rfl, hAt3⟩ := hcut
    obtain ⟨hH3, hblk3⟩ := hAt3.holds hH (s2.trans hds) hblk
    go_upto_region 15 with fail
    go_cut [12, 68] from 19 (fun s12 s68 wx => s12 = .int .i64 (hintCode (rdU ltInt dk a' b' lim wb wp).hint) ∧ s68 = .bool (wb && wp && decide ((rdU ltInt dk a' b' lim wb wp).hint = .increasing)) ∧ wx = wc)
    case first =>
      cases wb <;> cases wp <;> cases hh3 : (rdU ltInt dk a' b' lim _ _).hint <;>
        (have hcode3 := congrArg hintCode hh3
         simp only [hintCode] at hcode3
         go_wp2_with fail
         go_meet
         exact ⟨by simp [hh3, hintCode], by simp [hh3, hintCode], rfl⟩)
    case rest =>
    obtain ⟨rfl, rfl, rfl⟩ := hcut
    go_upto_if 68 with fail
    go_cut [] from 19 (fun wx => (rdU ltInt dk a' b' lim wb wp).pi.2 = false ∧ AtU encI w blk off (rdU ltInt dk a' b' lim wb wp).pi.1 wx)
    case first =>
      cases h68 : (wb && wp && decide ((rdU ltInt dk a' b' lim wb wp).hint = .increasing))
      · have epi := rd_pi_noU h68
        go_wp2_with fail
        go_meet
        case rel => exact ⟨by rw [epi], by rw [epi]; exact hAt3⟩
      have epi := rd_pi_yesU h68
      have hc19 := C.par blk off cap a' b' (rdU ltInt dk a' b' lim wb wp).d2 wc hH3 (by omega) (by omega) (by omega)
      rw [s2, hds, ← epi] at hc19
      go_wp2_with (go_at_call 172; refine hc19.mono ?_; rintro e w4 ⟨rfl, hw4⟩)
      all_goals first
        | (have hp2 : (rdU ltInt dk a' b' lim wb wp).pi.2 = false := by rw [epi]; assumption
           go_meet
           exact ⟨hp2, hAt3.step hblk (by rw [s3, s2]) hw4⟩)
        | (have hp2 : (rdU ltInt dk a' b' lim wb wp).pi.2 = true := by rw [epi]; assumption
           (try simp only [Exit.inBlock, Exit.then]); refine bodyPost_ret (results_none rfl _ _ _) rfl ?_
           refine ⟨rfl, ?_⟩
           rw [← A.out, pdq_doneU h12 hl0 hp2]
           exact hAt3.step hblk (by rw [s3, s2]) hw4)
    case rest =>
    obtain ⟨hp2, hAt5⟩ := hcut
    obtain ⟨hH5, hblk5⟩ := hAt5.holds hH (s3.trans hds) hblk
    have hcw : ∀ t, t < d.size → wc.cell? ⟨blk, off + t, none⟩ = some (.int .u16 (rdU ltInt dk a' b' lim wb wp).pi.1[t]!) := fun t ht => (hH5 t (by omega)).1
    have hfw : ∀ t, t < d.size → wc.frozen? ⟨blk, off + t, none⟩ = false := fun t ht => (hH5 t (by omega)).2
    go_upto_region 17 with fail
    go_cut [87] from 19 (fun s87 wx => s87 = .bool (decide (a' > 0) && !ltInt (rdU ltInt dk a' b' lim wb wp).pi.1[a' - 1]! (rdU ltInt dk a' b' lim wb wp).pi.1[(rdU ltInt dk a' b' lim wb wp).pivot]!) ∧ AtU encI w blk off (rdU ltInt dk a' b' lim wb wp).pi.1 wx)
    case first =>
      rcases Nat.eq_zero_or_pos a' with ha0 | ha0
      · have ha0z : decide ((a' : Int) > 0) = false := decide_eq_false (by omega)
        go_big_quiet (first | (go_at_call 173; refine Calls.quiet_of_same (so_cmp_Less_int _ _ _)))
        go_wp2_with fail
        go_meet
        case rel => exact ⟨by simp [ha0], hAt5.ahead nq⟩
      have ha0z : (a' : Int) > 0 := by omega
      go_big_quiet (first | (go_at_call 173; refine Calls.quiet_of_same (so_cmp_Less_int _ _ _)))
      go_wp2_with fail
      go_meet
      case rel => exact ⟨by simp [ha0], hAt5.ahead nq⟩
    case rest =>
    obtain ⟨rfl, hAt6⟩ := hcut
    obtain ⟨hH6, hblk6⟩ := hAt6.holds hH (s3.trans hds) hblk
    clear hcw hfw
    cases h87 : (decide (a' > 0) && !ltInt (rdU ltInt dk a' b' lim wb wp).pi.1[a' - 1]! (rdU ltInt dk a' b' lim wb wp).pi.1[(rdU ltInt dk a' b' lim wb wp).pivot]!)
    ·
      obtain ⟨mid, ap, d4, hx⟩ : ∃ mid ap d4, partition ltInt (rdU ltInt dk a' b' lim wb wp).pi.1 a' b' (rdU ltInt dk a' b' lim wb wp).pivot = (mid, ap, d4) := ⟨(partition ltInt (rdU ltInt dk a' b' lim wb wp).pi.1 a' b' (rdU ltInt dk a' b' lim wb wp).pivot).1, (partition ltInt (rdU ltInt dk a' b' lim wb wp).pi.1 a' b' (rdU ltInt dk a' b' lim wb wp).pivot).2.1, (partition ltInt (rdU ltInt dk a' b' lim wb wp).pi.1 a' b' (rdU ltInt dk a' b' lim wb wp).pivot).2.2, rfl⟩
      obtain ⟨r1, r2, r3, r4, r5, r6, r7⟩ := round_part S.swo S.prt hpv.1 hpv.2 (show b' ≤ (rdU ltInt dk a' b' lim wb wp).pi.1.size by omega) B3 hx
      have hc22 := C.prt blk off cap a' b' (rdU ltInt dk a' b' lim wb wp).pivot (rdU ltInt dk a' b' lim wb wp).pi.1 wc hH6 hpv.1 hpv.2 (by omega) (by omega)
      rw [s3, hds, hx] at hc22
      have X : Aside (partition ltInt (rdU ltInt dk a' b' lim wb wp).pi.1 a' b' (rdU ltInt dk a' b' lim wb wp).pivot = (mid, ap, d4)) := hx
      clear hx
      go_upto_if 113 with (go_at_call 175; refine hc22.mono ?_; rintro e w7 ⟨rfl, hw7⟩)
      have hx := X.out
      have hAt7 : AtU encI w blk off d4 w7 := hAt6.step hblk r3 hw7
      obtain ⟨hH7, hblk7⟩ := hAt7.holds hH (r3.trans (s3.trans hds)) hblk
      by_cases h4 : mid - a' < b' - mid
      · have h4z : (mid : Int) - (a' : Int) < (b' : Int) - (mid : Int) := by omega
        have hih := ih blk off cap a' mid (rdU ltInt dk a' b' lim wb wp).lim d4 w7 (by omega) hH7 hblk7 (by omega) (by omega) (by omega) (Nat.lt_of_le_of_lt (Nat.le_trans rd_lim_leU hlim) hlimit) r4
        rw [r3, s3, hds] at hih
        obtain ⟨pL, sL⟩ := S.pdq S.swo d4 a' mid (rdU ltInt dk a' b' lim wb wp).lim true true (by omega) (by omega) r4
        go_wp2_with (go_at_call 129; refine hih.mono ?_; rintro e w8 ⟨rfl, hw8⟩)
        go_roundg (b' - (mid + 1))
        case measure => omega
        case rel =>
        refine ⟨mid + 1, b', (rdU ltInt dk a' b' lim wb wp).lim, decide (mid - a' ≥ (b' - a') / 8), ap, pdq ltInt d4 a' mid (rdU ltInt dk a' b' lim wb wp).lim true true, by simp, rfl, rfl, ?_, rfl, by omega, by omega, Nat.le_refl _, by omega, Nat.le_trans rd_lim_leU hlim, by rw [pL.1, r3, s3, hds], (r6 _ pL sL).1, hAt7.stepG hblk pL.1 hw8, ?_⟩
        · exact congrArg Value.bool (eighth (by omega) (by omega))
        rw [← A.out, pdq_leftU h12 hl0 hp2 h87 (by rw [hx]; exact ⟨r1, r2⟩) (by rw [hx]; exact h4), hx]
      have h4z : ¬ ((mid : Int) - (a' : Int) < (b' : Int) - (mid : Int)) := by omega
      have hih := ih blk off cap (mid + 1) b' (rdU ltInt dk a' b' lim wb wp).lim d4 w7 (by omega) hH7 hblk7 (by omega) (by omega) (by omega) (Nat.lt_of_le_of_lt (Nat.le_trans rd_lim_leU hlim) hlimit) r5
      rw [r3, s3, hds] at hih
      obtain ⟨pL, sL⟩ := S.pdq S.swo d4 (mid + 1) b' (rdU ltInt dk a' b' lim wb wp).lim true true (by omega) (by omega) r5
      go_wp2_with (go_at_call 129; refine hih.mono ?_; rintro e w8 ⟨rfl, hw8⟩)
      go_roundg (mid - a')
      case measure => omega
      case rel =>
      refine ⟨a', mid, (rdU ltInt dk a' b' lim wb wp).lim, decide (b' - mid ≥ (b' - a') / 8), ap, pdq ltInt d4 (mid + 1) b' (rdU ltInt dk a' b' lim wb wp).lim true true, rfl, rfl, rfl, ?_, rfl, by omega, by omega, Nat.le_refl _, by omega, Nat.le_trans rd_lim_leU hlim, by rw [pL.1, r3, s3, hds], (r7 _ pL sL).1, hAt7.stepG hblk pL.1 hw8, ?_⟩
      · exact congrArg Value.bool (eighth (by omega) (by omega))
      rw [← A.out, pdq_rightU h12 hl0 hp2 h87 (by rw [hx]; exact ⟨r1, r2⟩) (by rw [hx]; exact h4), hx]
    ·
      have h87' := h87
      simp only [Bool.and_eq_true, decide_eq_true_eq, Bool.not_eq_true'] at h87'
      obtain ⟨mid, d4, hx⟩ : ∃ mid d4, partitionEqual ltInt (rdU ltInt dk a' b' lim wb wp).pi.1 a' b' (rdU ltInt dk a' b' lim wb wp).pivot = (mid, d4) := ⟨(partitionEqual ltInt (rdU ltInt dk a' b' lim wb wp).pi.1 a' b' (rdU ltInt dk a' b' lim wb wp).pivot).1, (partitionEqual ltInt (rdU ltInt dk a' b' lim wb wp).pi.1 a' b' (rdU ltInt dk a' b' lim wb wp).pivot).2, rfl⟩
      obtain ⟨r1, r2, r3, r4, _⟩ := round_eq S.swo S.peq h87'.1 hpv.1 hpv.2 (show b' ≤ (rdU ltInt dk a' b' lim wb wp).pi.1.size by omega) B3 h87'.2 hx
      have hc21 := C.peq blk off cap a' b' (rdU ltInt dk a' b' lim wb wp).pivot (rdU ltInt dk a' b' lim wb wp).pi.1 wc hH6 hpv.1 hpv.2 (by omega) (by omega)
      rw [s3, hds, hx] at hc21
      have X : Aside (partitionEqual ltInt (rdU ltInt dk a' b' lim wb wp).pi.1 a' b' (rdU ltInt dk a' b' lim wb wp).pivot = (mid, d4)) := hx
      clear hx
      go_wp2_with (go_at_call 174; refine hc21.mono ?_; rintro e w7 ⟨rfl, hw7⟩)
      go_roundg (b' - mid)
      case measure => omega
      case rel =>
      have hx := X.out
      exact ⟨mid, b', (rdU ltInt dk a' b' lim wb wp).lim, wb, wp, d4, rfl, rfl, rfl, rfl, rfl, r2, hb', Nat.le_refl _, by omega, Nat.le_trans rd_lim_leU hlim, by rw [r3, s3, hds], r4, hAt6.step hblk r3 hw7, by rw [← A.out, pdq_eqU h12 hl0 hp2 h87 (by rw [hx]; exact ⟨r1, r2⟩), hx]⟩
end Go.Proofs.YtfkblpjfknfgbaaGreatDoor
