/-
  Parts of the proof: SSort, FL0, FLA, FLB, FR1, FL2, FL3, FL4, FL1, FL9, FA0, FR11, Lines5, Builder, Img4, Img5, Each, Split, Split2, Split3A, Each2, Rows1, AC0.
-/
import Derived.Sort.AssemblyPlain
import Derived.Test.YtfkblpjfknfgbaaGreatDoorZ1
import Derived.Test.YtfkblpjfknfgbaaGreatDoorZ2
import Derived.Test.YtfkblpjfknfgbaaGreatDoorRows
import Derived.Below
import Derived.Lib.Slices
import Derived.Laws.AppendOwn
import Derived.OwnWalk
import Derived.WalkKit
import Derived.WalkSpells
import Derived.WalkLawsBesides
import Derived.Lib.Hide
import Derived.Maps.AppendAt
import Derived.Deep.AppendLies
import Derived.RegionTactic
import Derived.Lib.AppendZeros
import Derived.Lib.SliceRun
import Derived.Laws.OwnMore
import Derived.Deep.QuietTactic
import Derived.BigQuiet
import Derived.Lib.SlicesCompact
import Derived.Lib.Walk
import Derived.Deep.LoopGhost
import Derived.Deep.RegionWith
import Derived.Test.YtfkblpjfknfgbaaGreatDoorZ0
import Derived.Lib.ItoaNum
import Derived.Lib.LaidTab
import Derived.Sort.Grow
import Derived.Lib.Strings
import Derived.Lib.Builder
import Derived.Lib.AppendStr
import Derived.Lib.UnsafeStr
import Derived.Laws.Externs
import Derived.Lib.AsciiSet
import Derived.RangeFuncNested
import Derived.RangeFuncBound
import Derived.RangeFuncCalls
import Derived.RangeFuncLeaves
import Derived.RangeFuncBox
import Derived.Shelf.Abstract
import Derived.Shelf.RegionOpen
import Derived.OwnWalkIn
import Derived.TacticsInMore
import Derived.LoopNIn
import Derived.LoopIn
import Derived.Lib.IndexMore
import Derived.Laws.BitsLemmas
import Derived.Lib.EndianBits
set_option linter.unusedVariables false
set_option linter.unusedSimpArgs false
namespace Go.Proofs.YtfkblpjfknfgbaaGreatDoor
open Go.Sort
theorem callees13 : Callees13 where
  ins := so_insertionSort_int
  brk := so_breakPatterns_int
  piv := so_choosePivot_int
  par := so_partialInsertionSort_int
  peq := so_partitionEqualOrdered_int
  prt := so_partitionOrdered_int
theorem plain13 : Plain13 where
  swo := swo_ltInt
  ins := insertionSort_holds
  par := partialInsertionSort_holds
  prt := partition_holds _
  peq := partitionEqual_holds _
  pdq := pdq_sorts _
theorem pdqWalkInt : pdqWalk_int := fun blk off cap a b limit d w hH hb hab hbd hsz hl hB =>
  so_pdqsort_int callees13 plain13 (b - a + 1) blk off cap a b limit d w (by omega) hH hb hab hbd hsz hl hB
theorem sort_int_eq (zs : List Int) : Sort.sort ltInt zs.toArray = (zs.mergeSort fun x y => decide (x ≤ y)).toArray := by
  rw [← sortInt zs]
theorem so_slices_Sort (blk off cap : Nat) (zs : List Int) (w : World) (hH : Holds (Value.int .u16) w blk off zs.toArray) (hblk : blk < w.heap.size) (hsz : zs.length < 4611686018427387904) :
    Calls Tryz.prog 92 #[.slice (some ⟨blk, off, none⟩) zs.length cap] w fun e w' =>
      e = .returned (.tuple #[]) ∧ ∃ n os, w' = grow (putRow (Value.int .u16) (Sort.ahead w n) blk off (zs.mergeSort fun x y => decide (x ≤ y)).toArray) os := by
  have h := so_Sort_int pdqWalkInt blk off cap zs.toArray w hH hblk (by simpa using hsz)
  rw [sort_int_eq] at h
  simpa using h
end Go.Proofs.YtfkblpjfknfgbaaGreatDoor
namespace Go.Proofs.YtfkblpjfknfgbaaGreatDoor
open Go.RowKit
def FS (w : World) (v : Value) (zs : List Int) : Prop :=
  ∃ (p : Option Addr) (c : Nat), v = .slice p zs.length c ∧ zs.length ≤ c ∧ (zs.length = 0 ∨ ∃ b off, p = some ⟨b, off, none⟩ ∧ ∀ j, j < zs.length → w.cell? ⟨b, off + j, none⟩ = some (.int .u16 (zs.getD j 0)))
def FN (B : Nat) (w : World) (v : Value) (zs : List Int) : Prop :=
  ∃ (p : Option Addr) (c : Nat), v = .slice p zs.length c ∧ zs.length ≤ c ∧ (zs.length = 0 ∨ ∃ b off, p = some ⟨b, off, none⟩ ∧ B ≤ b ∧ Sort.Holds (Value.int .u16) w b off zs.toArray)
theorem FS.keep {w w' : World} {v : Value} {zs : List Int} (h : FS w v zs) (hb : Below w.heap.size w w') : FS w' v zs := by
  obtain ⟨p, c, hv, hc, h⟩ := h
  refine ⟨p, c, hv, hc, h.imp id ?_⟩
  rintro ⟨b, off, hp, h2⟩
  refine ⟨b, off, hp, fun j hj => ?_⟩
  have h3 := h2 j hj
  exact (hb.cell (World.block_lt_of_cell? w _ h3)).trans h3
theorem FN.fs {B : Nat} {w : World} {v : Value} {zs : List Int} (h : FN B w v zs) : FS w v zs := by
  obtain ⟨p, c, hv, hc, h⟩ := h
  refine ⟨p, c, hv, hc, h.imp id ?_⟩
  rintro ⟨b, off, hp, _, h2⟩
  refine ⟨b, off, hp, fun j hj => ?_⟩
  have h3 := (h2 j (by simpa using hj)).1
  simpa [List.getD, hj] using h3
theorem FN.mono {B B' : Nat} {w : World} {v : Value} {zs : List Int} (h : FN B w v zs) (hB : B' ≤ B) : FN B' w v zs := by
  obtain ⟨p, c, hv, hc, h⟩ := h
  exact ⟨p, c, hv, hc, h.imp id (by rintro ⟨b, off, hp, h1, h2⟩; exact ⟨b, off, hp, by omega, h2⟩)⟩
theorem FN.nil (B : Nat) (w : World) (p : Option Addr) (c : Nat) : FN B w (.slice p 0 c) [] := ⟨p, c, rfl, Nat.zero_le _, .inl rfl⟩
theorem below_row {α : Type} [Inhabited α] (enc : α → Value) (w : World) (B n blk off : Nat) (d : Array α) (os : Array Obj) (hB : B ≤ blk) (hw : blk < w.heap.size) : Below B w (Sort.grow (Sort.putRow enc (Sort.ahead w n) blk off d) os) := by
  refine ⟨rfl, rfl, rfl, by simp, fun k hk => ?_⟩
  rw [Sort.heap_grow_old _ _ (by simp; omega)]
  have : blk ≠ k := by omega
  simp [Sort.putRow, Sort.mapBlock, Sort.ahead, Array.getElem?_modify, this]
theorem FN.of_own {B e : Nat} {w : World} {v : Value} {zs : List Int} (h : w.ownsRow B e 1 v zs.length (zs.map (Value.int .u16))) : FN B w v zs := by
  rcases h.2 with ⟨rfl, h0⟩ | ⟨g, cap, cur, rfl, hB, hg, hn, hm, hs, ht⟩
  · exact ⟨none, 0, by rw [h0], by omega, .inl h0⟩
  refine ⟨_, cap, rfl, hn, .inr ⟨g, 0, rfl, hB, fun j hj => ?_⟩⟩
  have hj' : j < zs.length := by simpa using hj
  refine ⟨?_, by simp [World.frozen?, hg]⟩
  rw [Nat.mul_one] at ht
  have h1 : (cur.toList.take zs.length)[j]? = (zs.map (Value.int .u16))[j]? := by rw [ht]
  rw [List.getElem?_take_of_lt hj'] at h1
  simp only [World.cell?, hg, Nat.zero_add]
  simp only [Option.isSome_none, Bool.false_eq_true, if_false]
  rw [← Array.getElem?_toList, h1]
  simp [hj']
theorem flag_info : (Tryz.prog.info? 28).map (fun i => (i.zero, i.size, i.bytes)) = some (some (.int .u16 0), 1, 2) := by kernel_rfl
theorem so_Sort_FN (B : Nat) (v : Value) (zs : List Int) (w : World) (h : FN B w v zs) (hB : B ≤ w.heap.size) (hsz : zs.length < 4611686018427387904) :
    Calls Tryz.prog 92 #[v] w fun e w' => e = .returned (.tuple #[]) ∧ FN B w' v (zs.mergeSort fun x y => decide (x ≤ y)) ∧ Below B w w' := by
  obtain ⟨p, c, rfl, hc, h⟩ := h
  have hl : (zs.mergeSort fun x y => decide (x ≤ y)).length = zs.length := by simp
  rcases h with h | ⟨b, off, rfl, hb, hH⟩
  · rw [h]
    refine (so_Sort_int_nil p c w).mono ?_
    rintro e w' ⟨rfl, rfl⟩
    exact ⟨rfl, ⟨p, c, by rw [hl, h], by omega, .inl (by omega)⟩, Below.refl _ _⟩
  by_cases h0 : zs.length = 0
  · rw [h0]
    refine (so_Sort_int_nil _ c w).mono ?_
    rintro e w' ⟨rfl, rfl⟩
    exact ⟨rfl, ⟨_, c, by rw [hl, h0], by omega, .inl (by omega)⟩, Below.refl _ _⟩
  have hblk : b < w.heap.size := World.block_lt_of_cell? w _ (hH 0 (by simp; omega)).1
  refine (so_slices_Sort b off c zs w hH hblk hsz).mono ?_
  rintro e w' ⟨rfl, n, os, rfl⟩
  refine ⟨rfl, ⟨_, c, by rw [hl], by omega, .inr ⟨b, off, rfl, hb, ?_⟩⟩, below_row _ _ _ _ _ _ _ _ hb hblk⟩
  refine Sort.holds_grow _ _ _ _ _ _ (by simpa using hblk) ?_
  exact Sort.holds_putRow _ _ _ _ zs.toArray _ (Sort.holds_ahead _ _ _ _ _ _ hH) (by simp)
end Go.Proofs.YtfkblpjfknfgbaaGreatDoor
namespace Go.Proofs.YtfkblpjfknfgbaaGreatDoor
open Go.RowKit
theorem run_append_zero {P : Program} (w : World) (base : Nat) (t ty e : TypeId) (i : TypeInfo) (size : Nat) (ht : P.underlying t = some (.slice e)) (hi : P.info? e = some i)
    (v : Value) (n : Nat) (xs : List Value) (hown : w.ownsRow base e size v n xs) (A : Option Addr) (c : Nat) : (Builtin.append_ #[t, t] ty #[v, .slice A 0 c]).run P w = .ok v w := by
  rcases hown.2 with ⟨rfl, rfl⟩ | ⟨g, cap, cur, rfl, _, _, hnc, _⟩
  · cases A <;> simp [Builtin.append_, run_underlying ht, sizeOf, typeInfo, hi, Builtin.lenOf, Builtin.firstCells, loadCells, loadCellsFrom]
  cases A <;> simp [Builtin.append_, run_underlying ht, sizeOf, typeInfo, hi, Builtin.lenOf, Builtin.firstCells, hnc, storeCells, loadCells, loadCellsFrom]
theorem run_append_src {P : Program} (w : World) (base : Nat) (t ty e : TypeId) (i : TypeInfo) (z : Value) (size bytes : Nat) (ht : P.underlying t = some (.slice e)) (hi : P.info? e = some i) (hz : i.zero = some z)
    (hsize : i.size = size) (hby : i.bytes = bytes) (hzs : z.cells.size = size) (hsz : 0 < size)
    (v : Value) (n : Nat) (xs : List Value) (hown : w.ownsRow base e size v n xs)
    (A : Option Addr) (m c : Nat) (news : List Value) (hl : news.length = m * size) (hr : m = 0 ∨ ∃ ad, A = some ad ∧ ∀ j u, news[j]? = some u → w.cell? (ad.add j) = some u) (h1 : ∀ u ∈ news, u.oneCell' = true)
    (h63 : n + m ≤ maxLen) (hbytes : (n + m) * bytes ≤ 140737488355328) (hbase : base ≤ w.heap.size) :
    ∃ v' w', (Builtin.append_ #[t, t] ty #[v, .slice A m c]).run P w = .ok v' w' ∧ w'.ownsRow base e size v' (n + m) (xs ++ news) ∧ w.grownBy w' v.ownBlock ∧ (v'.ownBlock = v.ownBlock ∨ v'.ownBlock = some w.heap.size) := by
  rcases Nat.eq_zero_or_pos m with h0 | h0
  · subst h0
    have hn : news = [] := List.eq_nil_of_length_eq_zero (by simpa using hl)
    subst hn
    exact ⟨v, w, run_append_zero w base t ty e i size ht hi v n xs hown A c, by simpa using hown, World.grownBy.refl w _, .inl rfl⟩
  obtain ⟨ad, rfl, hc⟩ := hr.resolve_left (by omega)
  obtain ⟨v', w', hrun, h2, h3, _, h5⟩ := run_append_own_at (P := P) w base t ty e i z size bytes ht hi hz hsize hby hzs hsz v n xs hown ad m c news hl hc h1 h63 hbytes hbase
  exact ⟨v', w', hrun, h2, h3, h5⟩
theorem FS.news {w : World} {p : Option Addr} {zs : List Int} (hs : zs.length = 0 ∨ ∃ b off, p = some ⟨b, off, none⟩ ∧ ∀ j, j < zs.length → w.cell? ⟨b, off + j, none⟩ = some (.int .u16 (zs.getD j 0))) (w' : World) (hb : Below w.heap.size w w') :
    zs.length = 0 ∨ ∃ ad, p = some ad ∧ ∀ j u, (zs.map (Value.int .u16))[j]? = some u → w'.cell? (ad.add j) = some u := by
  refine hs.imp id ?_
  rintro ⟨b, off, rfl, hc⟩
  refine ⟨_, rfl, fun j u hj => ?_⟩
  have hlt : j < zs.length := by
    have := (List.getElem?_eq_some_iff.1 hj).1
    simpa using this
  have h1 := hc j hlt
  rw [Addr.add_lit]
  rw [(hb.cell (World.block_lt_of_cell? w _ h1)).trans h1]
  rw [← hj]
  simp [List.getD, hlt]
end Go.Proofs.YtfkblpjfknfgbaaGreatDoor
namespace Go.Proofs.YtfkblpjfknfgbaaGreatDoor
open Go.RowKit
theorem run_append_new {P : Program} (w : World) (base : Nat) (t ty e : TypeId) (i : TypeInfo) (z : Value) (bytes : Nat) (ht : P.underlying t = some (.slice e)) (hi : P.info? e = some i) (hz : i.zero = some z)
    (hsize : i.size = 1) (hby : i.bytes = bytes) (hzs : z.cells.size = 1) (g : Nat) (hown : w.ownsRow base e 1 (.slice (some ⟨g, 0, none⟩) 0 0) 0 []) (hbase : base ≤ w.heap.size)
    (A : Option Addr) (m c : Nat) (news : List Value) (hl : news.length = m) (hr : m = 0 ∨ ∃ ad, A = some ad ∧ ∀ j u, news[j]? = some u → w.cell? (ad.add j) = some u)
    (h63 : m ≤ maxLen) (hbytes : m * bytes ≤ 281474976710656) :
    ∃ v' w', (Builtin.append_ #[t, t] ty #[.slice (some ⟨g, 0, none⟩) 0 0, .slice A m c]).run P w = .ok v' w' ∧ w'.ownsRow base e 1 v' m news ∧ Below w.heap.size w w' := by
  rcases Nat.eq_zero_or_pos m with h0 | h0
  · subst h0
    have hn : news = [] := List.eq_nil_of_length_eq_zero hl
    subst hn
    exact ⟨_, w, run_append_zero w base t ty e i 1 ht hi _ 0 [] hown A c, hown, Below.refl _ _⟩
  obtain ⟨ad, rfl, hc⟩ := hr.resolve_left (by omega)
  have hrun := run_append_grow (P := P) w t ty e i z ht hi hz ⟨g, 0, none⟩ 0 0 [] (by simp) (by simp) ad m c news (by rw [hsize]; omega) hc (by omega) (by simp only [maxLen] at h63; omega) (by rw [hby, Nat.zero_add, nextslicecap_zero h0]; exact hbytes)
  rw [Nat.zero_add] at hrun
  have hge := grownCap_ge w m 0 e
  refine ⟨_, _, hrun, ?_, ((Below.refl _ w).drew).alloc (Nat.le_refl _) _⟩
  refine ⟨by omega, .inr ⟨w.heap.size, _, _, rfl, hbase, heap_alloc_new w.drew _, hge, grownCap_le_maxLen w m 0 e h63, ?_, ?_⟩⟩
  · simp [size_zeroCells, hzs, hl]; omega
  simp [hl]
end Go.Proofs.YtfkblpjfknfgbaaGreatDoor
namespace Go.Proofs.YtfkblpjfknfgbaaGreatDoor
open Go.RowKit
def IS (w : World) (v : Value) (zs : List Int) : Prop :=
  ∃ (p : Option Addr) (c : Nat), v = .slice p zs.length c ∧ zs.length ≤ c ∧ (zs.length = 0 ∨ ∃ b off, p = some ⟨b, off, none⟩ ∧ ∀ j, j < zs.length → w.cell? ⟨b, off + j, none⟩ = some (.int .i64 (zs.getD j 0)))
theorem IS.keep {w w' : World} {v : Value} {zs : List Int} (h : IS w v zs) (hb : Below w.heap.size w w') : IS w' v zs := by
  obtain ⟨p, c, hv, hc, h⟩ := h
  refine ⟨p, c, hv, hc, h.imp id ?_⟩
  rintro ⟨b, off, hp, h2⟩
  refine ⟨b, off, hp, fun j hj => ?_⟩
  have h3 := h2 j hj
  exact (hb.cell (World.block_lt_of_cell? w _ h3)).trans h3
theorem IS.of_own {B e : Nat} {w : World} {v : Value} {zs : List Int} (h : w.ownsRow B e 1 v zs.length (zs.map (Value.int .i64))) : IS w v zs := by
  rcases h.2 with ⟨rfl, h0⟩ | ⟨g, cap, cur, rfl, hB, hg, hn, hm, hs, ht⟩
  · exact ⟨none, 0, by rw [h0], by omega, .inl h0⟩
  refine ⟨_, cap, rfl, hn, .inr ⟨g, 0, rfl, fun j hj => ?_⟩⟩
  rw [Nat.mul_one] at ht
  have h1 : (cur.toList.take zs.length)[j]? = (zs.map (Value.int .i64))[j]? := by rw [ht]
  rw [List.getElem?_take_of_lt hj] at h1
  simp only [World.cell?, hg, Nat.zero_add]
  simp only [Option.isSome_none, Bool.false_eq_true, if_false]
  rw [← Array.getElem?_toList, h1]
  simp [hj, List.getD]
end Go.Proofs.YtfkblpjfknfgbaaGreatDoor
namespace Go.Proofs.YtfkblpjfknfgbaaGreatDoor
open Go.RowKit
set_option maxHeartbeats 2000000 in
set_option maxRecDepth 100000 in
theorem so_CloneF (v : Value) (zs : List Int) (w : World) (h : FS w v zs) (hbig : zs.length * 2 ≤ 281474976710656) :
    Calls Tryz.prog 40 #[v] w fun e w' => ∃ v', e = .returned v' ∧ FN w.heap.size w' v' zs ∧ Below w.heap.size w w' := by
  obtain ⟨p, c, rfl, hcap, hs⟩ := h
  obtain ⟨i0, hi, hz0, hz1, hz2⟩ := info_parts flag_info
  have qn : ∀ (w : World) (a : Option Addr) (n c n' c' : Nat), (binOp .eql 29 (.slice a n c) (.slice none n' c')).run Tryz.prog w = .ok (.bool a.isNone) w := fun w a n c n' c' => Lib.run_eql_slice_nil w _ _ a n c n' c' Tryz.underlying29
  have hS := Lib.hid hs
  clear hs
  cases p with
  | none =>
    have h0 : zs = [] := List.eq_nil_of_length_eq_zero (hS.out.resolve_right (by rintro ⟨b, off, hp, _⟩; cases hp))
    clear hS
    subst h0
    go_enter Tryz.func40, Tryz.ntmps40
    go_wp2
    go_ret
    exact ⟨_, rfl, FN.nil _ _ _ _, Below.refl _ _⟩
  | some ad =>
    have hr := run_append_new (P := Tryz.prog) (w.alloc (.cells #[] 28)) w.heap.size 29 29 28 i0 (.int .u16 0) 2 Tryz.underlying29 hi hz0 hz1 hz2 rfl w.heap.size (World.ownsRow_made w #[] 0 (Nat.le_refl _) (Nat.zero_le _) rfl) (by simp)
      (some ad) zs.length c (zs.map (Value.int .u16)) (by simp) (FS.news hS.out _ ((Below.refl _ w).alloc (Nat.le_refl _) _)) (by unfold maxLen; omega) hbig
    obtain ⟨v', w1, hrun, hown, hg⟩ := hr
    have HR := Lib.hid hrun
    have HO := Lib.hid hown
    have HG := Lib.hid hg
    clear hrun hown hg hS
    go_enter Tryz.func40, Tryz.ntmps40
    go_wp2_with (at_builtin; refine Lib.wpList_append_run _ rfl _ _ _ _ rfl _ _ rfl rfl _ _ HR.out ?_)
    go_ret
    refine ⟨v', rfl, FN.of_own (e := 28) HO.out, ?_⟩
    exact ((Below.refl _ w).alloc (Nat.le_refl _) _).trans (HG.out.mono (by simp))
end Go.Proofs.YtfkblpjfknfgbaaGreatDoor
namespace Go.Proofs.YtfkblpjfknfgbaaGreatDoor
open Go.RowKit
def CW (w : World) (b off n : Nat) (dk : Array Int) : World := Sort.putRow (Value.int .u16) (Sort.ahead w n) b off dk
theorem CW.store {w : World} {b off n : Nat} {dk : Array Int} (m i : Nat) (hi : i < dk.size) (x : Int) : ((CW w b off n dk).drewN m).setCell ⟨b, off + i, none⟩ (.int .u16 x) = CW w b off (n + m) (dk.setIfInBounds i x) := by
  unfold CW
  rw [putRow_drewN]
  exact Sort.putRow_set (Value.int .u16) (Sort.ahead w (n + m)) b off dk i x hi
theorem CW.more {w wr : World} {b off n : Nat} {dk : Array Int} (h : wr = CW w b off n dk) (m : Nat) : wr.drewN m = CW w b off (n + m) dk := by
  subst h
  exact putRow_drewN _ _ _ _ _ _ _
theorem CW.set {w wr : World} {b off n : Nat} {dk : Array Int} (h : wr = CW w b off n dk) (m i : Nat) (hi : i < dk.size) (x : Int) : (wr.drewN m).setCell ⟨b, off + i, none⟩ (.int .u16 x) = CW w b off (n + m) (dk.setIfInBounds i x) := by
  subst h
  exact CW.store m i hi x
theorem CW.set' {w wr : World} {b off n : Nat} {dk : Array Int} (h : wr = CW w b off n dk) (m i : Nat) (hi : i < dk.size) (x : Int) : (wr.setCell ⟨b, off + i, none⟩ (.int .u16 x)).drewN m = CW w b off (n + m) (dk.setIfInBounds i x) := CW.set h m i hi x
theorem CW.start {w : World} {b off : Nat} {d : Array Int} (n : Nat) (h : Sort.Holds (Value.int .u16) w b off d) : w.drewN n = CW w b off n d := (Sort.putRow_self _ _ _ _ _ (Sort.holds_ahead _ w n b off d h)).symm
theorem CW.holds {w : World} {b off : Nat} {d dk : Array Int} (n : Nat) (h : Sort.Holds (Value.int .u16) w b off d) (hs : dk.size = d.size) : Sort.Holds (Value.int .u16) (CW w b off n dk) b off dk := Sort.holds_putRow _ _ _ _ d dk (Sort.holds_ahead _ w n b off d h) hs
set_option maxHeartbeats 4000000 in
set_option maxRecDepth 1000000 in
theorem so_Compact_arr (b off c : Nat) (d : Array Int) (w : World) (hH : Sort.Holds (Value.int .u16) w b off d) (hsz : d.size ≤ 4611686018427387904) (hcap : d.size ≤ c) :
    Calls Tryz.prog 93 #[.slice (some ⟨b, off, none⟩) d.size c] w fun e w' =>
      ∃ (n : Nat) (dk : Array Int), e = .returned (.slice (some ⟨b, off, none⟩) (Lib.compactUpTo d d.size).length c) ∧ w' = CW w b off n dk ∧ dk.size = d.size ∧ ∀ j, j < (Lib.compactUpTo d d.size).length → (Lib.compactUpTo d d.size)[j]? = some dk[j]! := by
  have HH := Lib.hid hH
  have hall : ∀ n, (∀ j, j < d.size → Lib.keeps d j = true) → (Lib.compactUpTo d d.size).length = d.size ∧ w.drewN n = CW w b off n d ∧ ∀ j, j < (Lib.compactUpTo d d.size).length → (Lib.compactUpTo d d.size)[j]? = some d[j]! := by
    intro n hk
    have e : Lib.compactUpTo d d.size = d.toList := by rw [Lib.compactUpTo_all d _ hk, Lib.range_map_get]
    rw [e]
    exact ⟨by simp, CW.start n hH, fun j hj => by simp at hj; simp [hj, getElem!_pos]⟩
  have HA := Lib.hid hall
  clear hall hH
  by_cases h2 : d.size < 2
  · go_enter Tryz.func93, Tryz.ntmps93
    go_wp2
    go_ret
    obtain ⟨e1, e2, e3⟩ := HA.out 0 (fun j hj => Lib.keeps_lt_one d j (by omega))
    exact ⟨0, d, by rw [e1]; rfl, e2, rfl, e3⟩
  go_enter Tryz.func93, Tryz.ntmps93
  go_wp2
  go_loopw [3] (fun i wr => ∃ k n : Nat, 1 ≤ k ∧ k ≤ d.size ∧ i = .int .i64 k ∧ wr = w.drewN n ∧ Hid (∀ j, j < k → Lib.keeps d j = true)) (fun i _ => d.size - (intOf i).toNat)
  case atStart => exact ⟨1, 0, Nat.le_refl _, by omega, rfl, rfl, Lib.keeps_lt_one d⟩
  case round =>
  obtain ⟨k, n, hk1, hk, rfl, rfl, HK⟩ := hrel
  by_cases hlt : k < d.size
  · obtain ⟨c1, -⟩ := HH.out k hlt
    obtain ⟨c0, -⟩ := HH.out (k - 1) (by omega)
    generalize hx : d[k]! = x at c1
    generalize hy : d[k - 1]! = y at c0
    have HX := Lib.hid hx
    have HY := Lib.hid hy
    clear hx hy
    cases hq : (x == y)
    · have hkp := Lib.hid (Lib.keeps_pos (d := d) (m := k) (by rw [HX.out, HY.out]; simpa using hq))
      go_wp2_with fail
      go_quiet (fail)
      go_wp2
      go_roundw
      case rel => exact ⟨k + 1, _, by omega, by omega, by go_num, rfl, fun j hj => (by
        by_cases e : j = k
        · subst e; exact hkp.out
        exact HK.out j (by omega))⟩
      case measure => simp [intOf]; omega
    have hkn := Lib.hid (Lib.keeps_neg (d := d) (m := k) (by omega) (by rw [HX.out, HY.out]; simpa using hq))
    go_wp2_with fail
    go_quiet (fail)
    go_wp2
    clear c0 c1
    go_loopw [3, 5] (fun i i2 wr => ∃ (kk k2 n2 : Nat) (dk : Array Int), i = .int .i64 kk ∧ i2 = .int .i64 k2 ∧ 1 ≤ k2 ∧ k + k2 ≤ d.size ∧ Hid (wr = CW w b off n2 dk) ∧ Hid (Lib.CompInv d (k + k2) kk dk)) (fun _ i2 _ => d.size - (k + (intOf i2).toNat))
    case atStart => exact ⟨k, 1, _, d, rfl, rfl, Nat.le_refl _, by omega, CW.start _ HH.out, Lib.CompInv.start HK.out hkn.out⟩
    case round =>
    obtain ⟨kk, k2, n2, dk, rfl, rfl, h1, hle, HW, HI⟩ := hrel
    have hkk := HI.out.lt
    have hds := HI.out.size
    have hHk : Sort.Holds (Value.int .u16) wr b off dk := by rw [HW.out]; exact CW.holds _ HH.out hds
    have HHk := Lib.hid hHk
    clear hHk
    by_cases hlt2 : k + k2 < d.size
    · obtain ⟨cm, -⟩ := HHk.out (k + k2) (by omega)
      obtain ⟨cp, -⟩ := HHk.out (k + k2 - 1) (by omega)
      obtain ⟨ck, fk⟩ := HHk.out kk (by omega)
      rw [HI.out.high (k + k2) (by omega), show off + (k + k2) = off + k + k2 by omega] at cm
      rw [HI.out.high (k + k2 - 1) (by omega), show off + (k + k2 - 1) = off + k + (k2 - 1) by omega] at cp
      generalize hu : d[k + k2]! = u at cm
      generalize hv : d[k + k2 - 1]! = v at cp
      generalize dk[kk]! = old at ck
      have HU := Lib.hid hu
      have HV := Lib.hid hv
      clear hu hv
      cases hq2 : (u == v)
      · have hkp := Lib.hid (Lib.keeps_pos (d := d) (m := k + k2) (by rw [HU.out, HV.out]; simpa using hq2))
        go_wp2_with fail
        go_quiet (fail)
        go_wp2
        go_roundw
        case rel => exact ⟨kk + 1, k2 + 1, _, dk.setIfInBounds kk u, by go_num, by go_num, by omega, by omega, CW.set' HW.out _ kk (by omega) u, by have := HI.out.keep hlt2 hkp.out; rwa [HU.out] at this⟩
        case measure => simp [intOf]; omega
      have hkn2 := Lib.hid (Lib.keeps_neg (d := d) (m := k + k2) (by omega) (by rw [HU.out, HV.out]; simpa using hq2))
      go_wp2_with fail
      go_quiet (fail)
      go_wp2
      go_roundw
      case rel => exact ⟨kk, k2 + 1, _, dk, rfl, by go_num, by omega, by omega, CW.more HW.out _, HI.out.skip hkn2.out⟩
      case measure => simp [intOf]; omega
    have hend : k + k2 = d.size := by omega
    have hcl : ∀ ty, (Builtin.clear_ #[29] ty #[.slice (some ⟨b, off + kk, none⟩) (d.size - kk) (c - kk)]).run Tryz.prog wr = .ok (.tuple #[]) (wr.setCells b (off + kk) (List.replicate (d.size - kk) (.int .u16 0))) :=
      fun ty => Lib.run_clear_slice wr _ _ ty _ Tryz.underlying29 Tryz.zeroValue28 rfl rfl b (off + kk) _ _ (by omega) (fun j hj => by rw [show off + kk + j = off + (kk + j) by omega, (HHk.out (kk + j) (by omega)).1]; rfl) (fun j hj => by rw [show off + kk + j = off + (kk + j) by omega]; exact (HHk.out (kk + j) (by omega)).2)
    go_wp2
    go_ret
    have hI := HI.out
    rw [hend] at hI
    refine ⟨n2, (Lib.compactUpTo d d.size ++ List.replicate (d.size - kk) 0).toArray, by rw [hI.len]; rfl, ?_, by have := hI.len; simp; omega, fun j hj => ?_⟩
    · rw [← hI.done 0, HW.out]
      have := Lib.putRow_setCells (Value.int .u16) (Sort.ahead w n2) b off (List.replicate (d.size - kk) (0 : Int)) dk kk (by simp; omega)
      rw [List.map_replicate] at this
      exact this
    simp [hj, List.getElem?_append_left hj]
  have hke : k = d.size := by omega
  subst hke
  go_wp2
  go_ret
  obtain ⟨e1, e2, e3⟩ := HA.out n HK.out
  exact ⟨n, d, by rw [e1]; rfl, e2, rfl, e3⟩
end Go.Proofs.YtfkblpjfknfgbaaGreatDoor
namespace Go.Proofs.YtfkblpjfknfgbaaGreatDoor
open Go.RowKit
theorem below_CW {w : World} {B b off n : Nat} {dk : Array Int} (hB : B ≤ b) (hb : b < w.heap.size) : Below B w (CW w b off n dk) := by
  have h := below_row (Value.int .u16) w B n b off dk #[] hB hb
  rwa [Sort.grow_empty] at h
set_option maxHeartbeats 1000000 in
theorem so_Compact (B : Nat) (v : Value) (zs : List Int) (w : World) (h : FN B w v zs) (hsz : zs.length ≤ 4611686018427387904) :
    Calls Tryz.prog 93 #[v] w fun e w' => ∃ v', e = .returned v' ∧ FN B w' v' (Lib.compact zs) ∧ Below B w w' := by
  obtain ⟨p, c, rfl, hc, h⟩ := h
  have he : ∀ (q : Option Addr), zs.length = 0 → Calls Tryz.prog 93 #[.slice q zs.length c] w fun e w' => ∃ v', e = .returned v' ∧ FN B w' v' (Lib.compact zs) ∧ Below B w w' := by
    intro q h0
    have : zs = [] := List.eq_nil_of_length_eq_zero h0
    subst this
    clear h
    go_enter Tryz.func93, Tryz.ntmps93
    go_wp2
    go_ret
    exact ⟨_, rfl, FN.nil _ _ _ _, Below.refl _ _⟩
  rcases h with h | ⟨b, off, rfl, hb, hH⟩
  · exact he p h
  by_cases h0 : zs.length = 0
  · exact he _ h0
  have hblk : b < w.heap.size := World.block_lt_of_cell? w _ (hH 0 (by simp; omega)).1
  have hC := so_Compact_arr b off c zs.toArray w hH (by simpa using hsz) (by simpa using hc)
  rw [List.size_toArray] at hC
  refine hC.mono ?_
  rintro e w' ⟨n, dk, rfl, rfl, hs, hlow⟩
  have hle : (Lib.compactUpTo zs.toArray zs.length).length ≤ zs.length := by
    unfold Lib.compactUpTo
    rw [List.length_map]
    exact Nat.le_trans (List.length_filter_le _ _) (by simp)
  have hHd := CW.holds n hH hs
  have hs' : dk.size = zs.length := by simpa using hs
  refine ⟨_, rfl, ⟨_, c, rfl, by have : (Lib.compact zs).length ≤ zs.length := hle; omega, .inr ⟨b, off, rfl, hb, fun j hj => ?_⟩⟩, below_CW hb hblk⟩
  have hj' : j < (Lib.compactUpTo zs.toArray zs.length).length := by simpa [Lib.compact] using hj
  obtain ⟨h1, h2⟩ := hHd j (by omega)
  refine ⟨?_, h2⟩
  rw [h1]
  have h3 := hlow j hj'
  have h4 : (Lib.compact zs).toArray[j]! = dk[j]! := by
    have : (Lib.compact zs)[j]? = some dk[j]! := h3
    obtain ⟨h5, h6⟩ := List.getElem?_eq_some_iff.1 this
    rw [getElem!_pos (Lib.compact zs).toArray j (by simpa using h5)]
    simpa using h6
  rw [h4]
def canon (zs : List Int) : List Int := Lib.compact (zs.mergeSort fun x y => decide (x ≤ y))
set_option maxHeartbeats 1000000 in
theorem so_Of (v : Value) (zs : List Int) (w : World) (h : FS w v zs) (hbig : zs.length * 2 ≤ 281474976710656) :
    Calls Tryz.prog 64 #[v] w fun e w' => ∃ v', e = .returned v' ∧ FN w.heap.size w' v' (canon zs) ∧ Below w.heap.size w w' := by
  have hF := Lib.hid h
  obtain ⟨p, c, rfl, hcap, -⟩ := h
  go_enter Tryz.func64, Tryz.ntmps64
  go_wp2_with (go_at_call 40; refine (so_CloneF _ zs _ hF.out hbig).mono ?_; rintro e w1 ⟨v1, rfl, h1, b1⟩)
  have H1 := Lib.hid h1
  have B1 := Lib.hid b1
  have hs1 := b1.size
  clear h1 b1
  go_wp2_with (go_at_call 92; refine (so_Sort_FN w.heap.size _ zs _ H1.out hs1 (by omega)).mono ?_; rintro e w2 ⟨rfl, h2, b2⟩)
  have H2 := Lib.hid h2
  have B2 := Lib.hid b2
  clear h2 b2
  go_wp2_with (go_at_call 93; refine (so_Compact w.heap.size _ _ _ H2.out (by simp; omega)).mono ?_; rintro e w3 ⟨v3, rfl, h3, b3⟩)
  have H3 := Lib.hid h3
  have B3 := Lib.hid b3
  clear h3 b3
  go_wp2
  go_ret
  exact ⟨v3, rfl, H3.out, B1.out.trans (B2.out.trans B3.out)⟩
end Go.Proofs.YtfkblpjfknfgbaaGreatDoor
namespace Go.Proofs.YtfkblpjfknfgbaaGreatDoor
open Go.RowKit
set_option maxHeartbeats 1000000 in
theorem so_Index (v : Value) (zs : List Int) (x : Int) (w : World) (h : FS w v zs) (hbig : zs.length ≤ 9223372036854775807) :
    Calls Tryz.prog 124 #[v, .int .u16 x] w fun e w' => e = .returned (.int .i64 (Lib.idxOf zs x)) ∧ w' = w := by
  obtain ⟨p, c, rfl, hcap, hs⟩ := h
  have hS := Lib.hid hs
  clear hs
  go_enter Tryz.func124, Tryz.ntmps124
  go_wp2
  go_loop [5, 8] (fun _ i => ∃ k : Nat, k ≤ zs.length ∧ i = .int .i64 k ∧ ∀ j, j < k → zs.getD j 0 ≠ x) (fun _ i => zs.length - (intOf i).toNat)
  case atStart => exact ⟨0, Nat.zero_le _, rfl, fun j hj => absurd hj (Nat.not_lt_zero _)⟩
  case round =>
  obtain ⟨k, hk, rfl, hne⟩ := hrel
  have hN := Lib.hid hne
  clear hne
  by_cases hlt : k < zs.length
  · obtain ⟨b, off, rfl, hc⟩ := hS.out.resolve_left (by omega)
    have hcell := hc k hlt
    generalize hz : zs.getD k 0 = z at hcell
    clear hc
    cases hq : (x == z)
    · go_wp2
      go_roundw
      case rel =>
        refine ⟨k + 1, by omega, by go_num, fun j hj => ?_⟩
        by_cases e : j = k
        · subst e; rw [hz]; intro e; rw [e] at hq; simp at hq
        exact hN.out j (by omega)
      case measure => simp [intOf]; omega
    go_wp2
    go_ret
    have := Lib.idxOf_hit zs zs.length k x hlt (Nat.le_refl _) (by rw [hz]; exact (beq_iff_eq.1 hq).symm) hN.out
    rw [List.take_length] at this
    exact ⟨by rw [this]; rfl, rfl⟩
  have hke : k = zs.length := by omega
  subst hke
  go_wp2
  go_ret
  have := Lib.idxOf_miss zs zs.length x hN.out
  rw [List.take_length] at this
  exact ⟨by rw [this]; rfl, rfl⟩
theorem so_Contains (v : Value) (zs : List Int) (x : Int) (w : World) (h : FS w v zs) (hbig : zs.length ≤ 9223372036854775807) :
    Calls Tryz.prog 87 #[v, .int .u16 x] w fun e w' => e = .returned (.bool (zs.contains x)) ∧ w' = w := by
  have hb : zs.contains x = decide (0 ≤ Lib.idxOf zs x) := by
    rw [Bool.eq_iff_iff, decide_eq_true_eq, Lib.idxOf_nonneg_iff]
  have hbb := Lib.hid hb
  clear hb
  have hF := Lib.hid h
  obtain ⟨p, c, rfl, hcap, -⟩ := h
  go_enter Tryz.func87, Tryz.ntmps87
  go_wp2_with (go_at_call 124; refine (so_Index _ zs x _ hF.out hbig).mono ?_; rintro e w' ⟨rfl, rfl⟩)
  go_ret
  exact ⟨by rw [hbb.out]; rfl, rfl⟩
theorem so_Has (v : Value) (zs : List Int) (x : Int) (w : World) (h : FS w v zs) (hbig : zs.length ≤ 9223372036854775807) :
    Calls Tryz.prog 51 #[v, .int .u16 x] w fun e w' => e = .returned (.bool (zs.contains x)) ∧ w' = w := by
  have hF := Lib.hid h
  obtain ⟨q, hq⟩ : ∃ q, zs.contains x = q := ⟨_, rfl⟩
  have HQ := Lib.hid hq
  rw [hq]
  clear hq
  obtain ⟨p, c, rfl, hcap, -⟩ := h
  go_enter Tryz.func51, Tryz.ntmps51
  go_wp2_with (go_at_call 87; refine (so_Contains _ zs x _ hF.out hbig).mono ?_; rw [HQ.out]; rintro e w' ⟨rfl, rfl⟩)
  go_ret
  exact ⟨rfl, rfl⟩
end Go.Proofs.YtfkblpjfknfgbaaGreatDoor
namespace Go.Proofs.YtfkblpjfknfgbaaGreatDoor
theorem mem_compactUpTo (d : Array Int) : ∀ (m : Nat) (x : Int), x ∈ Lib.compactUpTo d m ↔ ∃ j, j < m ∧ d[j]! = x
  | 0, x => by simp [Lib.compactUpTo]
  | m + 1, x => by
    rw [Lib.compactUpTo_succ, List.mem_append, mem_compactUpTo d m x]
    constructor
    · rintro (⟨j, hj, e⟩ | h)
      · exact ⟨j, by omega, e⟩
      · cases hk : Lib.keeps d m
        · rw [hk] at h; simp at h
        · rw [hk] at h; simp at h; exact ⟨m, by omega, h.symm⟩
    · rintro ⟨j, hj, e⟩
      by_cases hjm : j = m
      · subst hjm
        cases hk : Lib.keeps d j
        · left
          have : ¬ (j = 0 ∨ d[j]! ≠ d[j - 1]!) := by simpa [Lib.keeps] using hk
          exact ⟨j - 1, by omega, by
            have h2 : d[j]! = d[j - 1]! := by
              by_cases h3 : d[j]! = d[j - 1]!
              · exact h3
              · exact absurd (.inr h3) this
            rw [← h2]; exact e⟩
        · right; simp [e]
      · exact .inl ⟨j, by omega, e⟩
theorem mem_compact (zs : List Int) (x : Int) : x ∈ Lib.compact zs ↔ x ∈ zs := by
  unfold Lib.compact
  rw [mem_compactUpTo]
  constructor
  · rintro ⟨j, hj, rfl⟩
    rw [getElem!_pos zs.toArray j (by simpa using hj)]
    simp
  intro h
  obtain ⟨j, hj, rfl⟩ := List.getElem_of_mem h
  exact ⟨j, hj, by rw [getElem!_pos zs.toArray j (by simpa using hj)]; simp⟩
theorem mem_canon (zs : List Int) (x : Int) : x ∈ canon zs ↔ x ∈ zs := by
  unfold canon
  rw [mem_compact, List.mem_mergeSort]
theorem contains_iff (zs : List Int) (x : Int) : zs.contains x = true ↔ x ∈ zs := by simp
end Go.Proofs.YtfkblpjfknfgbaaGreatDoor
namespace Go.Proofs.YtfkblpjfknfgbaaGreatDoor
theorem sorted_get {zs : List Int} (hs : zs.Pairwise (· ≤ ·)) {i j : Nat} (hij : i ≤ j) (hj : j < zs.length) : zs.toArray[i]! ≤ zs.toArray[j]! := by
  rw [getElem!_pos zs.toArray i (by simp; omega), getElem!_pos zs.toArray j (by simpa using hj)]
  simp only [List.getElem_toArray]
  rcases Nat.lt_or_ge i j with h | h
  · exact List.pairwise_iff_getElem.1 hs i j (by omega) hj h
  obtain rfl : i = j := by omega
  exact Int.le_refl _
theorem compact_sorted (zs : List Int) (hs : zs.Pairwise (· ≤ ·)) : ∀ m, m ≤ zs.length → (Lib.compactUpTo zs.toArray m).Pairwise (· < ·)
  | 0, _ => by simp [Lib.compactUpTo]
  | m + 1, hm => by
    rw [Lib.compactUpTo_succ, List.pairwise_append]
    refine ⟨compact_sorted zs hs m (by omega), ?_, ?_⟩
    · split <;> simp
    · intro x hx y hy
      cases hk : Lib.keeps zs.toArray m
      · rw [hk] at hy; simp at hy
      · rw [hk] at hy
        obtain rfl : y = zs.toArray[m]! := by simpa using hy
        obtain ⟨j, hj, rfl⟩ := (mem_compactUpTo _ _ _).1 hx
        have hk2 : m = 0 ∨ zs.toArray[m]! ≠ zs.toArray[m - 1]! := by simpa [Lib.keeps] using hk
        have h1 := sorted_get hs (show j ≤ m - 1 by omega) (by omega)
        have h2 := sorted_get hs (show m - 1 ≤ m by omega) (by omega)
        rcases hk2 with h | h <;> omega
theorem canon_sorted (zs : List Int) : (canon zs).Pairwise (· < ·) := by
  refine compact_sorted _ ?_ _ (Nat.le_refl _)
  have := List.pairwise_mergeSort (le := fun x y : Int => decide (x ≤ y)) (by intro a b c; simp; omega) (by intro a b; simp; omega) zs
  exact this.imp (by intro a b h; simpa using h)
theorem sorted_ext : ∀ (a b : List Int), a.Pairwise (· < ·) → b.Pairwise (· < ·) → (∀ x, x ∈ a ↔ x ∈ b) → a = b
  | [], [], _, _, _ => rfl
  | [], y :: b, _, _, h => absurd ((h y).2 (by simp)) (by simp)
  | x :: a, [], _, _, h => absurd ((h x).1 (by simp)) (by simp)
  | x :: a, y :: b, ha, hb, h => by
    rw [List.pairwise_cons] at ha hb
    have e : x = y := by
      have h1 := (h x).1 (by simp)
      have h2 := (h y).2 (by simp)
      rw [List.mem_cons] at h1 h2
      rcases h1 with h1 | h1
      · exact h1
      · rcases h2 with h2 | h2
        · exact h2.symm
        · have := hb.1 x h1; have := ha.1 y h2; omega
    subst e
    rw [sorted_ext a b ha.2 hb.2 (fun z => by
      have hz := h z
      rw [List.mem_cons, List.mem_cons] at hz
      constructor
      · intro hm
        rcases hz.1 (.inr hm) with rfl | h2
        · exact absurd (ha.1 z hm) (by omega)
        · exact h2
      · intro hm
        rcases hz.2 (.inr hm) with rfl | h2
        · exact absurd (hb.1 z hm) (by omega)
        · exact h2)]
theorem canon_ext {a b : List Int} (h : ∀ x, x ∈ a ↔ x ∈ b) : canon a = canon b :=
  sorted_ext _ _ (canon_sorted a) (canon_sorted b) (fun x => by rw [mem_canon, mem_canon]; exact h x)
theorem canon_idem (a : List Int) : canon (canon a) = canon a := canon_ext (fun x => mem_canon a x)
theorem canon_nil : canon [] = [] := by simp [canon, Lib.compact, Lib.compactUpTo]
end Go.Proofs.YtfkblpjfknfgbaaGreatDoor
namespace Go.Proofs.YtfkblpjfknfgbaaGreatDoor
open Go.RowKit
def numsF (kind : Int) (l : List UInt8) : List Int := (piecesOf kind l).map (numF kind)
def readF (kind : Int) (l : List UInt8) : List Int × Int :=
  if kindOk kind = false then ([], 30)
  else if l = [] then ([], 31)
  else if (numsF kind l).contains 0 = true then ([], 31)
  else if 64 < (numsF kind l).length then ([], 32)
  else (canon (numsF kind l), 0)
theorem numsOf (kind : Int) (s : ByteArray) : (piecesS kind s).map (fun p => numF kind p.data.toList) = numsF kind s.data.toList := by
  unfold piecesS numsF
  rw [List.map_map]
  rfl
theorem cgo_piece (l : List UInt8) : ∀ cur, ∀ p ∈ cgo cur l, p.length ≤ cur.length + l.length := by
  induction l with
  | nil => intro cur p hp; simp [cgo] at hp; subst hp; simp
  | cons b l ih =>
    intro cur p hp
    rw [cgo] at hp
    split at hp
    · rcases List.mem_cons.1 hp with rfl | hp
      · simp
      have := ih [] p hp; simp at this ⊢; omega
    have := ih _ p hp; simp at this ⊢; omega
theorem chop_piece (k : Nat) : ∀ (n : Nat) (l : List UInt8), ∀ p ∈ chop k n l, p.length ≤ l.length
  | 0, l, p, hp => by simp [chop] at hp
  | n + 1, l, p, hp => by
    rw [chop] at hp
    split at hp
    · simp at hp
    · rcases List.mem_cons.1 hp with rfl | hp
      · simp; omega
      · have := chop_piece k n _ p hp; simp at this; omega
theorem piece_size (kind : Int) (s : ByteArray) (p : ByteArray) (hp : p ∈ piecesS kind s) : p.size ≤ s.size := by
  unfold piecesS piecesOf at hp
  obtain ⟨q, hq, rfl⟩ := List.mem_map.1 hp
  rw [mkS_size, ← len_toList s]
  split at hq
  · have := cgo_piece _ _ q hq; simpa using this
  exact chop_piece _ _ _ q hq
theorem numsF_bd (kind : Int) (l : List UInt8) : ∀ x ∈ numsF kind l, 0 ≤ x ∧ x ≤ 65535 := by
  intro x hx
  obtain ⟨p, _, rfl⟩ := List.mem_map.1 hx
  exact numF_bd kind p
theorem readF_bd (kind : Int) (l : List UInt8) : ∀ x ∈ (readF kind l).1, 0 ≤ x ∧ x ≤ 65535 := by
  intro x hx
  unfold readF at hx
  split at hx
  · simp at hx
  split at hx
  · simp at hx
  split at hx
  · simp at hx
  split at hx
  · simp at hx
  exact numsF_bd kind l x ((mem_canon _ _).1 hx)
theorem no_zero (zs : List Int) (h : ∀ j, j < zs.length → zs.getD j 0 ≠ 0) : zs.contains 0 = false := by
  cases hq : zs.contains 0
  · rfl
  obtain ⟨j, hj, hjx⟩ := List.getElem_of_mem ((contains_iff _ _).1 hq)
  exact absurd (by simp [List.getD, hj, hjx]) (h j hj)
theorem a_zero (zs : List Int) (k : Nat) (hk : k < zs.length) (h : zs.getD k 0 = 0) : zs.contains 0 = true := by
  have e : zs.getD k 0 = zs[k] := by simp [List.getD, hk]
  rw [contains_iff, ← h, e]
  exact List.getElem_mem hk
theorem take_snoc_u16 (zs : List Int) (k : Nat) (h : k < zs.length) : (zs.take (k + 1)).map (Value.int .u16) = (zs.take k).map (Value.int .u16) ++ [Value.int .u16 (zs.getD k 0)] := by
  rw [List.take_add_one, List.getElem?_eq_getElem h, List.map_append]
  simp [List.getD, h]
set_option maxHeartbeats 4000000 in
set_option maxRecDepth 100000 in
theorem so_Read (kind : Int) (s : ByteArray) (m : Int) (w : World) (hs : s.size ≤ 4194304) (hm : w.cell? ⟨0, 0, none⟩ = some (.int .i64 m)) :
    Calls Tryz.prog 62 #[.int .i64 kind, .string s] w fun e w' => ∃ v', e = .returned (.tuple #[v', .int .i64 (readF kind s.data.toList).2]) ∧ FN w.heap.size w' v' (readF kind s.data.toList).1 ∧ Below w.heap.size w w' := by
  obtain ⟨i0, hi, hz0, hz1, hz2⟩ := info_parts flag_info
  rcases kind_cases kind with ⟨h, hk⟩ | ⟨h, hk⟩
  · have HK := Lib.hid h
    have HKK := Lib.hid hk
    clear h hk
    by_cases h0 : s.size = 0
    · have hR := Lib.hid (show readF kind s.data.toList = ([], 31) by rw [readF, if_neg (by rw [HK.out]; decide), if_pos (isEmpty0 s h0)])
      have he := isEmpty1 s h0
      go_enter Tryz.func62, Tryz.ntmps62
      go_wp2_with (go_at_call 89; refine (so_known _ _).mono ?_; rw [HK.out]; rintro e w1 ⟨rfl, rfl⟩)
      go_ret2
      exact ⟨_, by rw [hR.out]; rfl, by rw [hR.out]; exact FN.nil _ _ _ _, Below.refl _ _⟩
    have he := notEmpty s (by omega)
    have HE := Lib.hid (show ¬ s.data.toList = [] by intro e; have := len_toList s; rw [e] at this; simp at this; omega)
    have HR := Lib.hid (show readF kind s.data.toList = if (numsF kind s.data.toList).contains 0 = true then ([], 31) else if 64 < (numsF kind s.data.toList).length then ([], 32) else (canon (numsF kind s.data.toList), 0) by rw [readF, if_neg (by rw [HK.out]; decide), if_neg HE.out])
    have hNS := numsOf kind s
    have hPS := fun p hp => piece_size kind s p hp
    have hln := piecesOf_len kind s.data.toList
    rw [len_toList] at hln
    have hnl : (numsF kind s.data.toList).length = (piecesS kind s).length := by rw [← hNS]; simp
    rw [← piecesS_len] at hln
    generalize hzs : numsF kind s.data.toList = zs at *
    have HZS := Lib.hid hzs
    clear hzs
    obtain ⟨ss, hss⟩ : ∃ ss, piecesS kind s = ss := ⟨_, rfl⟩
    have HSS := Lib.hid hss
    rw [hss] at hNS hPS hln hnl
    have HNS := Lib.hid hNS
    have HPS := Lib.hid hPS
    clear hNS hPS hss h0
    generalize hr : readF kind s.data.toList = r at *
    have HRr := Lib.hid hr
    clear hr
    go_enter Tryz.func62, Tryz.ntmps62
    go_wp2_with (first
      | (go_at_call 89; refine (so_known _ _).mono ?_; rw [HK.out]; rintro e w1 ⟨rfl, rfl⟩)
      | (go_at_call 90; refine (so_pieces kind s m _ HKK.out hs hm).mono ?_; rw [HSS.out]; rintro e w1 ⟨v1, rfl, ⟨hl1, A, cap, rfl, hcap, hcells⟩, b1⟩; have HC := Lib.hid hcells; have B1 := Lib.hid b1; clear hl1 hcells b1))
    have hs1 := B1.out.size
    go_loopw [6, 8, 9, 19] (fun o _ _ i wr => ∃ k : Nat, k ≤ ss.length ∧ i = .int .i64 k ∧ Hid (∀ j, j < k → zs.getD j 0 ≠ 0) ∧ Hid (Own w1 wr 28 1 o k ((zs.take k).map (Value.int .u16)))) (fun _ _ _ i _ => ss.length - (intOf i).toNat)
    case atStart => exact ⟨0, Nat.zero_le _, rfl, (fun j hj => absurd hj (Nat.not_lt_zero _)), Own.nil_ _ _ _⟩
    case round =>
    obtain ⟨k, hkk, rfl, HN, HO⟩ := hrel
    have hsz := HO.out.size
    by_cases hlt : k < ss.length
    · obtain ⟨g, o, rfl, hc⟩ := HC.out.resolve_left (by omega)
      have c0 := hc k (.string ss[k]) (strV_get ss k hlt)
      have hcell := (HO.out.below.cell (World.block_lt_of_cell? w1 _ c0)).trans c0
      have hps := HPS.out ss[k] (List.getElem_mem hlt)
      have hkz : k < zs.length := by omega
      have hz : zs.getD k 0 = numF kind ss[k].data.toList := by
        have := HNS.out
        simp only [← this, List.getD, List.getElem?_map, List.getElem?_eq_getElem hlt]
        rfl
      have HM := Lib.hid (take_snoc_u16 zs k hkz)
      have hpm : ss[k].size ≤ maxLen := by unfold maxLen; omega
      have hbd := numF_bd kind ss[k].data.toList
      clear hc c0 hps
      generalize ss[k] = p at *
      by_cases hq : numF kind p.data.toList = 0
      · have hfin := Lib.hid (show r = ([], 31) by rw [HR.out, if_pos (a_zero zs k hkz (by rw [hz, hq]))])
        have HQ := Lib.hid hq
        clear hq hz hbd
        go_wp2_with (go_at_call 91; refine (so_number kind p _ HKK.out hpm).mono ?_; rw [HQ.out]; rintro e w2 ⟨rfl, n, rfl⟩)
        go_ret2
        exact ⟨_, by rw [hfin.out]; rfl, by rw [hfin.out]; exact FN.nil _ _ _ _, B1.out.trans (below_drewN (HO.out.below.mono hs1) n)⟩
      obtain ⟨x, hx⟩ : ∃ x, numF kind p.data.toList = x := ⟨_, rfl⟩
      have HX := Lib.hid hx
      rw [hx] at hq hz hbd
      obtain ⟨b0, b1⟩ := hbd
      have hne : (x == 0) = false := by rw [beq_eq_false_iff_ne]; exact hq
      have HZ := Lib.hid hz
      clear hx hq hz
      go_wp2_with (first
        | (go_at_call 91; refine (so_number kind p _ HKK.out hpm).mono ?_; rw [HX.out]; rintro e w2 ⟨rfl, n, hw2⟩; have HO2 := Lib.hid (show Own w1 w2 _ _ _ _ _ by rw [hw2]; exact HO.out.drewN n); clear hw2)
        | (at_builtin; refine wpList_push1 rfl _ _ 29 rfl w1.heap.size 28 i0 (.int .u16 0) 2 Tryz.underlying29 hi hz0 hz1 hz2 rfl _ k _ rfl HO2.out.own _ rfl rfl (by unfold maxLen; omega) (by omega) HO2.out.size ?_; intro gg cap2 w5 hown hg5; have HO' := Lib.hid (HO2.out.push hown hg5); clear hown hg5))
      go_roundw
      case rel =>
        refine ⟨k + 1, by omega, by go_num, (fun j hj => ?_), Lib.hid (by rw [HM.out, HZ.out]; exact HO'.out)⟩
        by_cases e : j = k
        · subst e; rw [HZ.out]; intro e; rw [e] at hne; simp at hne
        exact HN.out j (by omega)
      case measure => simp [intOf]; omega
    have hke : k = ss.length := by omega
    subst hke
    have hno := no_zero zs (fun j hj => HN.out j (by omega))
    rw [← hnl, List.take_length] at HO
    have HO' := Lib.hid (FN.of_own (e := 28) HO.out.own)
    rw [← hnl] at hlt hln ⊢
    have hv := HO'.out
    obtain ⟨p9, c9, rfl, -⟩ := hv
    have HNL := Lib.hid hnl
    clear hnl
    by_cases h64 : 64 < zs.length
    · have hfin := Lib.hid (show r = ([], 32) by rw [HR.out, if_neg (by rw [hno]; decide), if_pos h64])
      go_wp2
      go_ret2
      exact ⟨_, by rw [hfin.out]; rfl, by rw [hfin.out]; exact FN.nil _ _ _ _, B1.out.trans (HO.out.below.mono hs1)⟩
    have hfin := Lib.hid (show r = (canon zs, 0) by rw [HR.out, if_neg (by rw [hno]; decide), if_neg h64])
    have h64' : ¬ (64 : Int) < (zs.length : Int) := by omega
    go_wp2_with (go_at_call 64; refine (so_Of _ zs _ HO'.out.fs (by omega)).mono ?_; rintro e w2 ⟨v2, rfl, h2, b2⟩; have H2 := Lib.hid h2; have B2 := Lib.hid b2; clear h2 b2)
    go_ret2
    exact ⟨_, by rw [hfin.out]; rfl, by rw [hfin.out]; exact H2.out.mono (Nat.le_trans hs1 hsz), (B1.out.trans (HO.out.below.mono hs1)).trans (B2.out.mono (Nat.le_trans hs1 hsz))⟩
  have HK := Lib.hid h
  have hR := Lib.hid (show readF kind s.data.toList = ([], 30) by rw [readF, if_pos h])
  clear h hk
  go_enter Tryz.func62, Tryz.ntmps62
  go_wp2_with (go_at_call 89; refine (so_known _ _).mono ?_; rw [HK.out]; rintro e w1 ⟨rfl, rfl⟩)
  go_ret2
  exact ⟨_, by rw [hR.out]; rfl, by rw [hR.out]; exact FN.nil _ _ _ _, Below.refl _ _⟩
end Go.Proofs.YtfkblpjfknfgbaaGreatDoor
namespace Go.Proofs.YtfkblpjfknfgbaaGreatDoor
open Go.RowKit
theorem byte_info : (Tryz.prog.info? 5).map (fun i => (i.zero, i.size, i.bytes)) = some (some (.int .u8 0), 1, 1) := by kernel_rfl
theorem bytes_snoc (l : List UInt8) (b : UInt8) : Lib.byteCells l ++ [Value.int .u8 (b.toNat : Int)] = Lib.byteCells (l ++ [b]) := by simp [Lib.byteCells]
end Go.Proofs.YtfkblpjfknfgbaaGreatDoor
namespace Go.Proofs.YtfkblpjfknfgbaaGreatDoor
open Go.RowKit
def IsB (B b : Nat) (bs : List Value) (w : World) : Prop := Lib.IsBuilder 215 5 B b bs w
def BAt (B b : Nat) (bs : List Value) (w : World) : Prop := Lib.BuilderAt 215 5 B b (.pointer (some ⟨b, 0, none⟩)) bs w
theorem BAt.is {B b : Nat} {bs : List Value} {w : World} (h : BAt B b bs w) : IsB B b bs w := .inr h
theorem builder_info : (Tryz.prog.info? 215).map (fun i => (i.zero, i.size, i.bytes)) = some (some (.agg #[.pointer none, .slice none 0 0]), 2, 32) := by kernel_rfl
theorem builder_lies : liesAt Tryz.prog Tryz.prog.depth 215 (2 / Tryz.prog.cellsOf 215) 0 215 1 = true := by kernel_rfl
set_option maxHeartbeats 1000000 in
set_option maxRecDepth 100000 in
theorem copyCheck_used (b : Nat) (w : World) (h0 : w.cell? ⟨b, 0, none⟩ = some (.pointer (some ⟨b, 0, none⟩))) :
    Calls Tryz.prog 154 #[.pointer (some ⟨b, 0, none⟩)] w fun e w' => e = .returned (.tuple #[]) ∧ w' = w := by
  obtain ⟨i0, hi, hz0, hz1, hz2⟩ := info_parts builder_info
  go_enter Tryz.func154, Tryz.ntmps154
  go_wp2
  rw [Lib.run_neq_ptr_same w _ Tryz.underlying212 hi]
  go_wp2
  go_end0
  exact ⟨rfl, rfl⟩
set_option maxHeartbeats 1000000 in
set_option maxRecDepth 100000 in
theorem copyCheck_fresh (b : Nat) (w : World) (h0 : w.cell? ⟨b, 0, none⟩ = some (.pointer none)) (hsh : w.shape? b = some (215, 2)) (hfz : w.frozen? ⟨b, 0, none⟩ = false) :
    Calls Tryz.prog 154 #[.pointer (some ⟨b, 0, none⟩)] w fun e w' => e = .returned (.tuple #[]) ∧ w' = w.setCell ⟨b, 0, none⟩ (.pointer (some ⟨b, 0, none⟩)) := by
  obtain ⟨i0, hi, hz0, hz1, hz2⟩ := info_parts builder_info
  go_enter Tryz.func154, Tryz.ntmps154
  go_wp2
  rw [Lib.run_to_unsafe w ⟨b, 0, none⟩ Tryz.underlying212 Tryz.underlying279 hi (by rw [hz1]; decide) hsh (Nat.zero_lt_succ 1)]
  simp only [Result.andThen]
  rw [Oper.upon_value]
  go_wp2
  rw [run_callFunc_extern Tryz.func189 (by kernel_rfl) (by kernel_rfl) (by kernel_rfl) (e := Extern.AbiNoEscape.same) (by kernel_rfl)]
  rw [Lib.run_noEscape]
  simp only [Result.andThen]
  rw [Oper.upon_value]
  go_wp2
  rw [Lib.run_from_unsafe w ⟨b, 0, none⟩ Tryz.underlying279 Tryz.underlying212 hi hsh builder_lies]
  simp only [Result.andThen]
  rw [Oper.upon_value]
  go_wp2
  go_end0
  exact ⟨rfl, rfl⟩
theorem copyCheck_any (B b : Nat) (bs : List Value) (w : World) (h : IsB B b bs w) :
    Calls Tryz.prog 154 #[.pointer (some ⟨b, 0, none⟩)] w fun e w' => e = .returned (.tuple #[]) ∧ (BAt B b bs w' ∧ Below B w w') := by
  rcases h with h | h
  · refine (copyCheck_fresh b w h.cell0 h.shape h.frozen0).mono ?_
    rintro e w' ⟨rfl, rfl⟩
    exact ⟨rfl, h.used _, (Below.refl B w).setCell (p := ⟨b, 0, none⟩) h.1 _⟩
  refine (copyCheck_used b w h.cell0).mono ?_
  rintro e w' ⟨rfl, rfl⟩
  exact ⟨rfl, h, Below.refl B _⟩
set_option maxHeartbeats 2000000 in
set_option maxRecDepth 100000 in
theorem writeByte_any (B b : Nat) (bs : List Value) (c : Int) (w : World) (h : IsB B b bs w) (hlen : bs.length + 1 ≤ 140737488355328) (hBw : B ≤ w.heap.size) :
    Calls Tryz.prog 121 #[.pointer (some ⟨b, 0, none⟩), .int .u8 c] w fun e w' => e = .returned .nilIface ∧ (BAt B b (bs ++ [.int .u8 c]) w' ∧ Below B w w') := by
  obtain ⟨i0, hi, hz0, hz1, hz2⟩ := info_parts byte_info
  go_enter Tryz.func121, Tryz.ntmps121
  go_wp2_with (go_at_call 154; refine (copyCheck_any B b bs _ h).mono ?_)
  rintro e w1 ⟨rfl, h1, hb1⟩
  obtain ⟨hB, v, hbk, hown, hne⟩ := h1
  have c0 : w1.cell? ⟨b, 0, none⟩ = some (.pointer (some ⟨b, 0, none⟩)) := by rw [Lib.cell_of_heap hbk]; rfl
  have c1 : w1.cell? ⟨b, 1, none⟩ = some v := by rw [Lib.cell_of_heap hbk]; rfl
  go_wp2_with (at_builtin; refine wpList_append_own _ rfl _ _ 213 rfl B 5 i0 (.int .u8 0) 1 1 Tryz.underlying213 hi hz0 hz1 hz2 rfl (by decide) _ _ _ rfl (hown.alloc _) ⟨w1.heap.size, 0, none⟩ 1 1 [.int .u8 c] rfl rfl ?c1 ?c2 ?c3 ?c4 ?c5 ?_)
  case c1 =>
    intro j u hj
    match j, hj with
    | 0, hj => simp at hj; subst hj; simp [Addr.add]
  case c2 => intro u hu; simp at hu; subst hu; rfl
  case c3 => unfold maxLen; omega
  case c4 => omega
  case c5 => have := hb1.size; simp; omega
  intro v' w2 hown' hgrow _
  have hlt : b < w1.heap.size := by
    rcases Nat.lt_or_ge b w1.heap.size with h' | h'
    · exact h'
    simp [Array.getElem?_eq_none h'] at hbk
  have hb2 : w2.heap[b]? = some (.cells #[.pointer (some ⟨b, 0, none⟩), v] 215 (0, 0)) := by
    rw [hgrow.block b (by simp; omega) (fun e => hne e.symm), Lib.alloc_old w1 _ b hlt]
    exact hbk
  have d0 : w2.cell? ⟨b, 0, none⟩ = some (.pointer (some ⟨b, 0, none⟩)) := by rw [Lib.cell_of_heap hb2]; rfl
  have d1 : w2.cell? ⟨b, 1, none⟩ = some v := by rw [Lib.cell_of_heap hb2]; rfl
  have f1 : w2.frozen? ⟨b, 1, none⟩ = false := Lib.frozen_of_heap hb2 1
  obtain ⟨g, cap, rfl⟩ : ∃ g cap, v' = .slice (some ⟨g, 0, none⟩) (bs.length + 1) cap := by
    rcases hown'.2 with ⟨_, h0⟩ | ⟨g, cap, cur, hv, _⟩
    · omega
    exact ⟨g, cap, hv⟩
  go_wp2
  go_ret
  refine ⟨rfl, ?_, ?_⟩
  · exact Lib.BuilderAt.put (T := 215) (e := 5) hB hb2 (bs' := bs ++ [.int .u8 c]) (by simpa using hown') (by decide)
  exact ((hb1.alloc (by have := hb1.size; omega) _).grown hgrow (by have := hb1.size; simp; omega) (fun k hk => (hown.lt k hk).1)).setCell (p := ⟨b, 1, none⟩) hB _
theorem builderString_any (B b : Nat) (l : List UInt8) (w : World) (h : IsB B b (Lib.byteCells l) w) (hBw : B ≤ w.heap.size) :
    Calls Tryz.prog 119 #[.pointer (some ⟨b, 0, none⟩)] w fun e w' => e = .returned (.string ⟨l.toArray⟩) ∧ Below B w w' :=
  Tryz.Builder_String_any B b l w h hBw
theorem fresh_isB (w : World) : IsB w.heap.size w.heap.size [] (w.alloc (.cells #[.pointer none, .slice none 0 0] 215)) := Lib.fresh_isBuilder _ _ w
end Go.Proofs.YtfkblpjfknfgbaaGreatDoor
namespace Go.Proofs.YtfkblpjfknfgbaaGreatDoor
open Go.RowKit
def fitB (b : UInt8) : Bool := decide (32 < b.toNat) && decide (b.toNat ≠ 127)
theorem fitB_eq (b : UInt8) : fitB b = (decide (32 < (b.toNat : Int)) && ((b.toNat : Int) != 127)) := by
  unfold fitB
  rw [Bool.eq_iff_iff]; simp; omega
def fitAll (s : ByteArray) : Bool := s.data.toList.all fitB
theorem all_no (s : ByteArray) (k : Nat) (h : k < s.size) (hf : fitB s[k] = false) : fitAll s = false := by
  unfold fitAll; rw [List.all_eq_false]
  exact ⟨s[k], by show s.data[k] ∈ _; simp, by simp [hf]⟩
theorem all_take (s : ByteArray) (k : Nat) (h : k < s.size) (hf : fitB s[k] = true) (ht : (s.data.toList.take k).all fitB = true) : (s.data.toList.take (k + 1)).all fitB = true := by
  rw [take_snoc s k h, List.all_append, ht]; simp [hf]
theorem all_full (s : ByteArray) (ht : (s.data.toList.take s.size).all fitB = true) : fitAll s = true := by
  unfold fitAll; rwa [List.take_of_length_le (by simp)] at ht
set_option maxHeartbeats 400000 in
theorem fit_any (b : UInt8) (w : World) :
    Calls Tryz.prog 122 #[.int .u8 b.toNat] w fun e w' => e = .returned (.bool (fitB b)) ∧ w = w' := by
  have H := Lib.hid (fitB_eq b)
  go_enter Tryz.func122, Tryz.ntmps122
  go_wp2
  all_goals go_ret
  all_goals exact ⟨ret_bool (by rw [H.out]; simp [*] <;> omega), rfl⟩
def validB (s : ByteArray) : Bool := decide (0 < s.size) && decide (s.size ≤ 64) && fitAll s
set_option maxHeartbeats 1000000 in
theorem Valid_any (s : ByteArray) (w : World) :
    Calls Tryz.prog 85 #[.string s] w fun e w' => e = .returned (.bool (validB s)) ∧ w = w' := by
  by_cases h0 : s.size = 0
  · have H : Hid (validB s = false) := Lib.hid (by unfold validB; rw [decide_eq_false (by omega)]; rfl)
    have hse : s = ⟨#[]⟩ := by
      apply ByteArray.ext; exact Array.eq_empty_of_size_eq_zero h0
    subst hse
    go_enter Tryz.func85, Tryz.ntmps85
    go_wp2_with fail
    go_ret
    exact ⟨ret_bool H.out.symm, rfl⟩
  have hne := notEmpty s (by omega)
  by_cases h1 : s.size ≤ 64
  · have H : Hid (validB s = fitAll s) := Lib.hid (by unfold validB; rw [decide_eq_true (by omega), decide_eq_true h1]; rfl)
    go_enter Tryz.func85, Tryz.ntmps85
    go_wp2_with fail
    go_loop [3, 13] (fun _ i => ∃ k : Nat, k ≤ s.size ∧ i = .int .i64 k ∧ Hid ((s.data.toList.take k).all fitB = true)) (fun _ i => s.size - (intOf i).toNat)
    case atStart => exact ⟨0, Nat.zero_le _, rfl, Lib.hid rfl⟩
    case round =>
    obtain ⟨k, hk, rfl, HT⟩ := hrel
    by_cases hlt : k < s.size
    · cases hf : fitB s[k]
      · have HN := Lib.hid (all_no s k hlt hf)
        go_wp2_with (first | (go_at_call 122; refine (fit_any _ _).mono ?_; rintro e w' ⟨rfl, rfl⟩))
        go_ret
        exact ⟨ret_bool (by rw [H.out, HN.out]), rfl⟩
      have HN := Lib.hid (all_take s k hlt hf HT.out)
      go_wp2_with (first | (go_at_call 122; refine (fit_any _ _).mono ?_; rintro e w' ⟨rfl, rfl⟩))
      go_round
      case rel => exact ⟨k + 1, by omega, by go_num, HN⟩
      case measure => simp [intOf]; omega
    obtain rfl : k = s.size := by omega
    have HN := Lib.hid (all_full s HT.out)
    go_wp2_with fail
    go_ret
    exact ⟨ret_bool (by rw [H.out, HN.out]), rfl⟩
  have H : Hid (validB s = false) := Lib.hid (by unfold validB; rw [decide_eq_false h1]; simp)
  go_enter Tryz.func85, Tryz.ntmps85
  go_wp2_with fail
  go_ret
  exact ⟨ret_bool H.out.symm, rfl⟩
theorem valid_one (s : ByteArray) (k : Nat) (h : k < s.size) : validB (s.extract k (k + 1)) = fitB s[k] := by
  have h1 : (s.extract k (k + 1)).data.toList = [s[k]] := by
    rw [extract_mkS, mkS_data, show k + 1 - k = 1 by omega]
    rw [List.drop_eq_getElem_cons (by simpa using h)]
    rfl
  have h2 : (s.extract k (k + 1)).size = 1 := by rw [← len_toList, h1]; rfl
  unfold validB fitAll
  rw [h2, h1]; simp
theorem Valid_one (s : ByteArray) (k : Nat) (h : k < s.size) (w : World) :
    Calls Tryz.prog 85 #[.string (s.extract k (k + 1))] w fun e w' => e = .returned (.bool (fitB s[k])) ∧ w = w' := by
  rw [← valid_one s k h]
  exact Valid_any _ w
end Go.Proofs.YtfkblpjfknfgbaaGreatDoor
namespace Go.Proofs.YtfkblpjfknfgbaaGreatDoor
open Go.RowKit
def onceGo (acc : List UInt8) : List UInt8 → List UInt8
  | [] => acc
  | c :: l => onceGo (if acc.contains c then acc else acc ++ [c]) l
def onceL (l : List UInt8) : List UInt8 := onceGo [] l
theorem onceGo_snoc (acc : List UInt8) (l : List UInt8) (c : UInt8) : onceGo acc (l ++ [c]) = if (onceGo acc l).contains c then onceGo acc l else onceGo acc l ++ [c] := by
  induction l generalizing acc with
  | nil => simp [onceGo]
  | cons a l ih => rw [List.cons_append, onceGo, ih, onceGo]
theorem onceGo_len (acc l : List UInt8) : (onceGo acc l).length ≤ acc.length + l.length := by
  induction l generalizing acc with
  | nil => simp [onceGo]
  | cons a l ih =>
    rw [onceGo]
    refine Nat.le_trans (ih _) ?_
    split <;> simp <;> omega
def lettersS (s : ByteArray) : ByteArray × Int := if s.size = 0 ∨ fitAll s = false then (⟨#[]⟩, 21) else (mkS (onceL s.data.toList), 0)
def SeenAt (W : World) (g : Nat) (l : List UInt8) : Prop := W.heap[g]? = some (.cells (Lib.setCells l) 240 (0, 0))
theorem IsB.below {B b g i : Nat} {bs : List Value} {w : World} (h : IsB B b bs w) (hg : g < B) (u : Value) : IsB B b bs (w.setCell ⟨g, i, none⟩ u) := by
  have key : ∀ p, Lib.BuilderAt 215 5 B b p bs w → Lib.BuilderAt 215 5 B b p bs (w.setCell ⟨g, i, none⟩ u) := by
    rintro p ⟨hB, v, hb, hown, hne⟩
    refine ⟨hB, v, ?_, ownsRow_setCell_below hown (a := ⟨g, i, none⟩) hg u, hne⟩
    rw [Go.heap_setCell_other _ _ _ _ (by show b ≠ g; omega)]; exact hb
  rcases h with h | h
  · exact .inl (key _ h)
  exact .inr (key _ h)
theorem SeenAt.put {W : World} {g : Nat} {l : List UInt8} (h : SeenAt W g l) (c : UInt8) : SeenAt (W.setCell ⟨g, c.toNat, none⟩ (.bool true)) g (l ++ [c]) := by
  unfold SeenAt
  rw [Lib.setCells_snoc]
  exact Go.heap_setCell_same W g c.toNat _ _ _ h
theorem zero256 (w : World) : (zeroValue 240).run Tryz.prog w = .ok (.agg (Lib.setCells [])) w := by kernel_rfl
structure LetAt (w W : World) (l : List UInt8) : Prop where
  below : Below w.heap.size w W
  seen : SeenAt W w.heap.size l
  out : IsB (w.heap.size + 1) (w.heap.size + 1) (Lib.byteCells l) W
theorem LetAt.start (w : World) : LetAt w ((w.alloc (.cells (Lib.setCells []) 240)).alloc (.cells #[.pointer none, .slice none 0 0] 215)) [] := by
  refine ⟨((Below.refl _ _).alloc (Nat.le_refl _) _).alloc (by simp) _, ?_, ?_⟩
  · unfold SeenAt
    rw [Lib.alloc_old _ _ _ (by simp)]
    show (w.heap.push (.cells (Lib.setCells []) 240))[w.heap.size]? = _
    rw [Array.getElem?_push_size]
  have := fresh_isB (w.alloc (.cells (Lib.setCells []) 240))
  simpa [Lib.byteCells] using this
theorem LetAt.size {w W : World} {l : List UInt8} (h : LetAt w W l) : w.heap.size + 1 < W.heap.size := by
  rcases h.out with h | h
  · exact h.lt
  exact h.lt
theorem LetAt.cell {w W : World} {l : List UInt8} (h : LetAt w W l) (c : UInt8) : W.cell? ⟨w.heap.size, c.toNat, none⟩ = some (.bool (l.contains c)) := by
  rw [Lib.cell_of_heap h.seen]; exact Lib.setCells_at l c
theorem LetAt.thaw {w W : World} {l : List UInt8} (h : LetAt w W l) (j : Nat) : W.frozen? ⟨w.heap.size, j, none⟩ = false := Lib.frozen_of_heap h.seen j
theorem LetAt.put {w W : World} {l : List UInt8} (h : LetAt w W l) (c : UInt8) : IsB (w.heap.size + 1) (w.heap.size + 1) (Lib.byteCells l) (W.setCell ⟨w.heap.size, c.toNat, none⟩ (.bool true)) := h.out.below (by omega) _
theorem LetAt.wrote {w W W' : World} {l : List UInt8} {c : UInt8} (h : LetAt w W l) (hb : Below (w.heap.size + 1) (W.setCell ⟨w.heap.size, c.toNat, none⟩ (.bool true)) W')
    (ho : BAt (w.heap.size + 1) (w.heap.size + 1) (Lib.byteCells l ++ [.int .u8 (c.toNat : Int)]) W') : LetAt w W' (l ++ [c]) := by
  refine ⟨(h.below.setCell (p := ⟨w.heap.size, c.toNat, none⟩) (Nat.le_refl _) _).trans (hb.mono (by omega)), ?_, ?_⟩
  · unfold SeenAt
    rw [hb.block _ (by omega)]
    exact h.seen.put c
  rw [bytes_snoc] at ho; exact ho.is
set_option maxHeartbeats 4000000 in
set_option maxRecDepth 100000 in
theorem Letters_any (s : ByteArray) (w : World) (hs : s.size ≤ 140737488355328) :
    Calls Tryz.prog 112 #[.string s] w fun e w' => e = .returned (.tuple #[.string (lettersS s).1, .int .i64 (lettersS s).2]) ∧ Below w.heap.size w w' := by
  by_cases h0 : s.size = 0
  · have H : Hid (lettersS s = (⟨#[]⟩, 21)) := Lib.hid (by unfold lettersS; rw [if_pos (.inl h0)])
    have hse : s = ⟨#[]⟩ := by
      apply ByteArray.ext; exact Array.eq_empty_of_size_eq_zero h0
    subst hse
    go_enter Tryz.func112, Tryz.ntmps112
    have hz := zero256
    go_wp2_with fail
    go_ret2
    exact ⟨by rw [H.out]; rfl, (Below.refl _ _).alloc (Nat.le_refl _) _⟩
  have hne := notEmpty s (by omega)
  go_enter Tryz.func112, Tryz.ntmps112
  have hz := zero256
  go_wp2_with fail
  go_loopw [6, 11] (fun _ i W => ∃ k : Nat, k ≤ s.size ∧ i = .int .i64 k ∧ Hid ((s.data.toList.take k).all fitB = true) ∧ LetAt w W (onceL (s.data.toList.take k))) (fun _ i _ => s.size - (intOf i).toNat)
  case atStart => exact ⟨0, Nat.zero_le _, rfl, Lib.hid rfl, LetAt.start w⟩
  case round =>
  obtain ⟨k, hk, rfl, HT, hl⟩ := hrel
  have HL := Lib.hid hl
  clear hl
  by_cases hlt : k < s.size
  · cases hf : fitB s[k]
    · have HN : Hid (lettersS s = (⟨#[]⟩, 21)) := Lib.hid (by unfold lettersS; rw [if_pos (.inr (all_no s k hlt hf))])
      go_wp2_with (first | (go_at_call 122; refine (fit_any _ _).mono ?_; rintro e w' ⟨rfl, rfl⟩))
      go_ret2
      exact ⟨by rw [HN.out]; rfl, HL.out.below⟩
    have HN := Lib.hid (all_take s k hlt hf HT.out)
    have hb := s[k].toNat_lt
    have hb2 : (s[k].toNat : Int) < 256 := by omega
    have hcell := HL.out.cell s[k]
    have hthaw := HL.out.thaw s[k].toNat
    have HK : Hid (onceL (s.data.toList.take (k + 1)) = if (onceL (s.data.toList.take k)).contains s[k] then onceL (s.data.toList.take k) else onceL (s.data.toList.take k) ++ [s[k]]) := Lib.hid (by rw [take_snoc s k hlt]; exact onceGo_snoc _ _ _)
    have HLn : Hid ((onceL (s.data.toList.take k)).length ≤ k) := Lib.hid (by
      have h1 := onceGo_len [] (s.data.toList.take k)
      have h2 : (s.data.toList.take k).length ≤ k := List.length_take_le _ _
      rw [onceL]
      simp only [List.length_nil] at h1
      omega)
    cases hc : (onceL (s.data.toList.take k)).contains s[k]
    · rw [hc] at hcell HK
      go_wp2_with (first
        | (go_at_call 122; refine (fit_any _ _).mono ?_; rintro e w' ⟨rfl, rfl⟩)
        | (go_at_call 121; refine (writeByte_any _ _ _ _ _ (HL.out.put s[k]) (by have := HLn.out; simp [Lib.byteCells]; omega) (by have := HL.out.size; simp [World.setCell]; omega)).mono ?_; rintro e w' ⟨rfl, h1, h2⟩; have HO := Lib.hid (HL.out.wrote h2 h1); clear h1 h2))
      go_roundw
      case rel => exact ⟨k + 1, by omega, by go_num, HN, by rw [HK.out]; exact HO.out⟩
      case measure => simp [intOf]; omega
    rw [hc] at hcell HK
    go_wp2_with (first
      | (go_at_call 122; refine (fit_any _ _).mono ?_; rintro e w' ⟨rfl, rfl⟩))
    go_roundw
    case rel => exact ⟨k + 1, by omega, by go_num, HN, by rw [HK.out]; exact HL.out⟩
    case measure => simp [intOf]; omega
  obtain rfl : k = s.size := by omega
  have HN : Hid (lettersS s = (mkS (onceL (s.data.toList.take s.size)), 0)) := Lib.hid (by
    unfold lettersS; rw [if_neg (by rintro (h | h); · exact h0 h
                                    rw [all_full s HT.out] at h; cases h), List.take_of_length_le (by simp)])
  go_wp2_with (first
    | (go_at_call 119; refine (builderString_any _ _ _ _ HL.out.out (by have := HL.out.size; omega)).mono ?_; rintro e w' ⟨rfl, h2⟩; have HO := Lib.hid (HL.out.below.trans (h2.mono (by omega))); clear h2))
  go_ret2
  exact ⟨by rw [HN.out]; rfl, HO.out⟩
end Go.Proofs.YtfkblpjfknfgbaaGreatDoor
namespace Go.Proofs.YtfkblpjfknfgbaaGreatDoor
open Go.RowKit Go.Shelf
def ended (l : List UInt8) : List UInt8 := Lib.trimSuffix l [13]
def linesFrom : Nat → List UInt8 → List (List UInt8)
  | 0, _ => []
  | n + 1, l => if l = [] then [] else ended (Lib.cut l [10]).1 :: linesFrom n (Lib.cut l [10]).2.1
def unmarked (l : List UInt8) : List UInt8 := Lib.trimPrefix l [239, 187, 191]
def linesOf (l : List UInt8) : List (List UInt8) := linesFrom l.length (unmarked l)
def numbered (n : Nat) : List (List UInt8) → List (Int × ByteArray)
  | [] => []
  | l :: r => ((n : Int), mkS l) :: numbered (n + 1) r
abbrev encLine (x : Int × ByteArray) : Array Value := #[.int .i64 x.1, .string x.2]
theorem numbered_len (n : Nat) (r : List (List UInt8)) : (numbered n r).length = r.length := by
  induction r generalizing n with
  | nil => rfl
  | cons a r ih => simp [numbered, ih]
theorem cut_lt (l : List UInt8) (h : l ≠ []) : (Lib.cut l [10]).2.1.length < l.length := by
  have hl : 0 < l.length := List.length_pos_iff.2 h
  unfold Lib.cut
  split
  · simp; omega
  simpa using hl
theorem linesFrom_nil (n : Nat) : linesFrom n [] = [] := by cases n <;> simp [linesFrom]
theorem linesFrom_len (n : Nat) : ∀ l, (linesFrom n l).length ≤ n := by
  induction n with
  | zero => intro l; simp [linesFrom]
  | succ n ih =>
    intro l
    simp only [linesFrom]
    split
    · simp
    simp; exact ih _
theorem linesFrom_step (n : Nat) (l : List UInt8) (h : l ≠ []) (hn : l.length ≤ n) : linesFrom n l = ended (Lib.cut l [10]).1 :: linesFrom (n - 1) (Lib.cut l [10]).2.1 := by
  cases n with
  | zero => simp at hn; exact absurd hn h
  | succ n => simp [linesFrom, h]
theorem unmarked_le (l : List UInt8) : (unmarked l).length ≤ l.length := Lib.trimPrefix_le l _
def eachOf (l : List UInt8) : List (Int × ByteArray) := if 65536 < l.length then [] else numbered 1 (linesOf l)
theorem eachOf_len (l : List UInt8) : (eachOf l).length ≤ 65536 := by
  unfold eachOf
  split
  · simp
  rw [numbered_len]
  have := linesFrom_len l.length (unmarked l)
  unfold linesOf; omega
def strLen : Value → Nat | .string s => s.size | _ => 0
theorem Cut_nl (l : List UInt8) (m : Int) (w : World) (hs : l.length ≤ 65536) (hm : w.cell? ⟨0, 0, none⟩ = some (.int .i64 m)) :
    Calls Tryz.prog 107 #[.string (mkS l), .string ⟨#[10]⟩] w fun e w' => e = .returned (.tuple #[.string (mkS (Lib.cut l [10]).1), .string (mkS (Lib.cut l [10]).2.1), .bool (Lib.cut l [10]).2.2]) ∧ ∃ n, w' = w.drewN n :=
  Tryz.strings_Cut (mkS l) ⟨#[10]⟩ m w (by rw [mkS_size]; omega) hm
theorem Trim_cr (l : List UInt8) (w : World) (hs : l.length ≤ 65536) :
    Calls Tryz.prog 108 #[.string (mkS l), .string ⟨#[13]⟩] w fun e w' => e = .returned (.string (mkS (ended l))) ∧ w = w' :=
  (Tryz.strings_TrimSuffix (mkS l) ⟨#[13]⟩ w (by rw [mkS_size]; omega)).mono fun _ _ h => ⟨h.1, h.2.symm⟩
theorem Trim_mark (s : ByteArray) (w : World) :
    Calls Tryz.prog 106 #[.string s, .string ⟨#[239, 187, 191]⟩] w fun e w' => e = .returned (.string (mkS (unmarked s.data.toList))) ∧ w = w' :=
  (Tryz.strings_TrimPrefix s ⟨#[239, 187, 191]⟩ w).mono fun _ _ h => ⟨h.1, h.2.symm⟩
theorem cut_fst_le (l : List UInt8) : (Lib.cut l [10]).1.length ≤ l.length := by
  unfold Lib.cut
  split
  · simp; omega
  exact Nat.le_refl _
theorem mkS_empty (l : List UInt8) : (mkS l).toList.isEmpty = l.isEmpty := by rw [Lib.toList_data]; rfl
set_option maxRecDepth 100000 in
set_option maxHeartbeats 2000000 in
theorem each1_in (n : Nat) (hn : 1 ≤ n) (l Bn n₀ : Nat) (s : ByteArray) (hn0 : 0 < n₀) (m : Int) (J Jx : List (Int × ByteArray) → World → Prop)
    (hY : ∀ pre x W, J pre W → pre.length < (eachOf s.data.toList).length → YieldAt Fence.wide (n - 1) Tryz.prog l (encLine x) W fun e W' =>
      (e = .returned (.bool true) ∧ J (pre ++ [x]) W' ∧ Below n₀ W W') ∨ (e = .returned (.bool false) ∧ Jx (pre ++ [x]) W'))
    (hJd : ∀ pre (W : World) k, J pre W → J pre (W.drewN k))
    (W : World) (hBn : W.cell? ⟨Bn, 0, none⟩ = some (.string s)) (hm : W.cell? ⟨0, 0, none⟩ = some (.int .i64 m)) (h0 : J [] W) :
    CallsIn Fence.wide n Tryz.prog 105 #[.func (.yield l) #[] #[], .pointer (some ⟨Bn, 0, none⟩)] W fun e W' => (∃ v, e = .returned v) ∧
      ((∃ ys, ys = eachOf s.data.toList ∧ J ys W') ∨ (∃ pre, pre <+: eachOf s.data.toList ∧ Jx pre W')) := by
  have hl := len_toList s
  by_cases hbig : 65536 < s.size
  · have HE : Hid (eachOf s.data.toList = []) := Lib.hid (by rw [eachOf, if_pos (by omega)])
    have H0 := Lib.hid h0
    clear hY hJd hl h0
    refine callsIn_of_wp Tryz.func105 rfl trivial ?_ rfl
    simp only [Tryz.ntmps105, List.size_toArray, List.length_cons, List.length_nil, Nat.reduceAdd, Nat.reduceSub, Array.replicate_succ, Array.replicate_zero, List.push_toArray, List.append_toArray, List.nil_append, List.cons_append]
    gi_wp2
    refine bodyPost_ret (results_none rfl _ _ _) rfl ?_
    exact ⟨⟨_, rfl⟩, .inl ⟨[], HE.out.symm, H0.out⟩⟩
  have HE : Hid (eachOf s.data.toList = numbered 1 (linesFrom s.size (unmarked s.data.toList))) := Lib.hid (by rw [eachOf, if_neg (by omega), linesOf, hl])
  have HU : Hid ((unmarked s.data.toList).length ≤ s.size) := Lib.hid (by have := unmarked_le s.data.toList; omega)
  have HY := Lib.hid hY
  have HJD := Lib.hid hJd
  have H0 := Lib.hid h0
  clear hY hJd hl h0
  refine callsIn_of_wp Tryz.func105 rfl trivial ?_ rfl
  simp only [Tryz.ntmps105, List.size_toArray, List.length_cons, List.length_nil, Nat.reduceAdd, Nat.reduceSub, Array.replicate_succ, Array.replicate_zero, List.push_toArray, List.append_toArray, List.nil_append, List.cons_append]
  gi_wp2_with (refine ⟨trivial, ?_⟩; gi_at_call 106; refine (callsIn_wide.2 (Trim_mark _ _)).mono ?_; rintro e w1 ⟨rfl, rfl⟩)
  gi_loopw [3, 4] (fun r i wr => ∃ (pre : List (Int × ByteArray)) (rest : List (UInt8)) (k f : Nat), r = .string (mkS rest) ∧ i = .int .i64 (k + 1 : Nat) ∧ pre.length = k ∧ rest.length ≤ f ∧ f + k ≤ s.size ∧
    eachOf s.data.toList = pre ++ numbered (k + 1) (linesFrom f rest) ∧ J pre wr ∧ Below n₀ W wr) (fun r _ _ => strLen r)
  case atStart => exact ⟨[], unmarked s.data.toList, 0, s.size, rfl, rfl, rfl, HU.out, by omega, HE.out, H0.out, Below.refl _ _⟩
  case round =>
  obtain ⟨pre, rest, k, f, rfl, rfl, hpl, hrf, hfk, hall, hj, hbw⟩ := hrel
  have HAll := Lib.hid hall
  have HJ := Lib.hid hj
  have HBW := Lib.hid hbw
  have HPL := Lib.hid hpl
  clear hall hj hbw hpl
  cases hq : (mkS rest).toList.isEmpty
  · have HNE : Hid (rest ≠ []) := Lib.hid (by rw [mkS_empty] at hq; intro h; rw [h] at hq; cases hq)
    have HStep := Lib.hid (linesFrom_step f rest HNE.out hrf)
    have hcl := cut_lt rest HNE.out
    have hcf := cut_fst_le rest
    have hm2 := (HBW.out.cell (p := ⟨0, 0, none⟩) hn0).trans hm
    gi_wp2_with first
      | (refine ⟨trivial, ?_⟩; gi_at_call 107; refine (callsIn_wide.2 (Cut_nl rest m _ (by omega) hm2)).mono ?_; rintro e w1 ⟨rfl, nd, rfl⟩)
      | (refine ⟨trivial, ?_⟩; gi_at_call 108; refine (callsIn_wide.2 (Trim_cr _ _ (by omega))).mono ?_; rintro e w1 ⟨rfl, rfl⟩)
    obtain ⟨fn, tmps, assign, body, hy, hR⟩ := HY.out pre ((k : Int) + 1, mkS (ended (Lib.cut rest [10]).1)) (wr.drewN nd) (HJD.out _ _ nd HJ.out) (by rw [HAll.out, HStep.out]; simp [numbered])
    dsimp only [encLine] at hy
    rw [hy]
    gi_wp2
    refine hR.mono ?_
    rintro e W3 (⟨rfl, hJ3, hk3⟩ | ⟨rfl, hJx3⟩)
    · have HJ3 := Lib.hid hJ3
      have HK3 := Lib.hid hk3
      clear hJ3 hk3
      gi_wp2
      go_roundw
      case rel =>
        refine ⟨pre ++ [((k : Int) + 1, mkS (ended (Lib.cut rest [10]).1))], (Lib.cut rest [10]).2.1, k + 1, f - 1, rfl, ?_, ?_, by omega, by omega, ?_, HJ3.out, ?_⟩
        · simp only [Int.natCast_add, Int.cast_ofNat_Int]
        · simp [HPL.out]
        · rw [HAll.out, HStep.out]; simp [numbered]
        exact HBW.out.trans ((show Below n₀ wr (wr.drewN nd) from ⟨rfl, rfl, rfl, Nat.le_refl _, fun _ _ => rfl⟩).trans HK3.out)
      case measure => simp only [strLen, mkS_size]; exact hcl
    have HJx3 := Lib.hid hJx3
    clear hJx3
    gi_wp2
    refine bodyPost_ret (results_none rfl _ _ _) rfl ?_
    refine ⟨⟨_, rfl⟩, .inr ⟨_, ?_, HJx3.out⟩⟩
    rw [HAll.out, HStep.out]; exact ⟨numbered (k + 1 + 1) (linesFrom (f - 1) (Lib.cut rest [10]).2.1), by simp [numbered]⟩
  have HNE : Hid (rest = []) := Lib.hid (by rw [mkS_empty] at hq; exact List.isEmpty_iff.1 hq)
  gi_wp2
  go_end0
  refine ⟨⟨_, rfl⟩, .inl ⟨pre, ?_, HJ.out⟩⟩
  rw [HAll.out, HNE.out, linesFrom_nil]; simp [numbered]
theorem Each_in (n : Nat) (s : ByteArray) (w : World) :
    CallsIn Fence.wide n Tryz.prog 73 #[.string s] w fun e w' => e = .returned (.func (.func 105) #[] #[.pointer (some ⟨w.heap.size, 0, none⟩)]) ∧ w' = w.alloc (.cells #[.string s] 9) := by
  refine callsIn_of_wp Tryz.func73 rfl trivial ?_ rfl
  simp only [Tryz.ntmps73, List.size_toArray, List.length_cons, List.length_nil, Nat.reduceAdd, Nat.reduceSub, Array.replicate_succ, Array.replicate_zero, List.push_toArray, List.append_toArray, List.nil_append, List.cons_append]
  gi_wp2
  go_ret
  exact ⟨rfl, rfl⟩
theorem each_stops (n : Nat) (hn : 1 ≤ n) (Bn n₀ : Nat) (s : ByteArray) (hn0 : 0 < n₀) (m : Int) (w : World) (hBn : Bn < w.heap.size)
    (hc : w.cell? ⟨Bn, 0, none⟩ = some (.string s)) (hm : w.cell? ⟨0, 0, none⟩ = some (.int .i64 m)) :
    SeqStopsK Fence.wide n Tryz.prog 105 #[.pointer (some ⟨Bn, 0, none⟩)] encLine (Below n₀) (fun ys => ys = eachOf s.data.toList) (fun pre => pre <+: eachOf s.data.toList) (eachOf s.data.toList).length w := fun l J Jx W hW hJ _ hY h0 =>
  each1_in n hn l Bn n₀ s hn0 m J Jx hY (fun pre W k h => hJ pre W _ none h ⟨rfl, rfl, rfl, Nat.le_refl _, fun _ _ _ => rfl⟩ (fun _ e => by cases e)) W
    ((hW.cell (p := ⟨Bn, 0, none⟩) hBn).trans hc) ((hW.cell (p := ⟨0, 0, none⟩) (by show 0 < w.heap.size; omega)).trans hm) h0
end Go.Proofs.YtfkblpjfknfgbaaGreatDoor
namespace Go.Proofs.YtfkblpjfknfgbaaGreatDoor
open Go.RowKit Go.Shelf
attribute [local go_sem] Oper.semAt_some
def lineV (pre : List (Int × ByteArray)) : List Value := pre.map fun x => .string x.2
set_option maxRecDepth 100000 in
set_option maxHeartbeats 2000000 in
theorem Split_any (s : ByteArray) (m : Int) (w : World) (h0 : 0 < w.heap.size) (hm : w.cell? ⟨0, 0, none⟩ = some (.int .i64 m)) :
    Calls Tryz.prog 42 #[.string s] w fun e W' => ∃ v, e = .returned (.tuple #[v, .int .i64 (if 65536 < s.size then 10 else 0)]) ∧
      W'.ownsRow w.heap.size 9 1 v (eachOf s.data.toList).length (lineV (eachOf s.data.toList)) ∧ Below w.heap.size w W' := by
  by_cases hbig : 65536 < s.size
  · have HE : Hid (eachOf s.data.toList = []) := Lib.hid (by rw [eachOf, if_pos (by rw [len_toList]; omega)])
    go_enter Tryz.func42, Tryz.ntmps42
    go_wp2_with fail
    refine bodyPost_ret (results_tmp2 rfl _ _ _) rfl ?_
    exact ⟨.slice none 0 0, by simp, by rw [HE.out]; exact World.ownsRow_nil _ _ _ _, Below.refl _ _⟩
  have hlen := eachOf_len s.data.toList
  refine (callsIn_wide (n := 3)).1 ?_
  obtain ⟨i0, hi, hz0, hz1, hz2⟩ := info_parts str_info
  refine callsIn_of_wp_marks Tryz.func42 rfl trivial ?_ rfl
  simp only [Tryz.ntmps42, List.size_toArray, List.length_cons, List.length_nil, Nat.reduceAdd, Nat.reduceSub, Array.replicate_succ, Array.replicate_zero, List.push_toArray, List.append_toArray, List.nil_append, List.cons_append]
  gi_wp2_with (refine ⟨trivial, ?_⟩; gi_at_call 73; refine (Each_in _ _ _).mono ?_; rintro e w' ⟨rfl, rfl⟩)
  have bO := Boxed.new w 110 (.slice none 0 0)
  have bN := Boxed.new (w.alloc (.cells #[.slice none 0 0] 110)) 9 (.string s)
  rw [World.size_alloc] at bN
  have hB0 : Below w.heap.size w ((w.alloc (.cells #[.slice none 0 0] 110)).alloc (.cells #[.string s] 9)) := ((Below.refl _ w).alloc (Nat.le_refl _) _).alloc (by simp) _
  refine wpIn_rangeFunc_ownG rfl (by omega) (gf := 105) (lb := #[.pointer (some ⟨w.heap.size + 1, 0, none⟩)]) rfl trivial (enters_of Tryz.func105 (by kernel_rfl) rfl)
    (each_stops (3 - 1) (by omega) (w.heap.size + 1) w.heap.size s h0 m _ (by simp) bN.cell ((hB0.cell (p := ⟨0, 0, none⟩) h0).trans hm)) belowK_t (belowK_b (by simp; omega)) (Below.refl _ _) (fun _ => rfl)
    (fun pre W => (∃ v, Boxed W w.heap.size 110 v ∧ W.ownsRow w.heap.size 9 1 v pre.length (lineV pre) ∧ True) ∧ Below w.heap.size w W)
    (fun _ _ _ => False)
    (OwnFrom.and (_root_.Go.Own.from (holdsRow_own w.heap.size w.heap.size 110 9 1 (fun pre => pre.length) (fun pre => lineV pre) (fun pre v => True)) _) (ownFrom_below (Nat.le_refl _) (by simp; omega)))
    (fun _ _ _ _ _ hs _ _ => hs)
    ⟨⟨_, bO.alloc _, World.ownsRow_nil _ _ _ _, trivial⟩, hB0⟩
    (fun x => { tmps := #[.string s, undef, .slice none 0 0, .int .i64 0, .pointer (some ⟨w.heap.size, 0, none⟩), undef, .string x.2, .string s, .int .i64 s.size, .bool (decide (65536 < (s.size : Int))), .string s, .func (.func 105) #[] #[.pointer (some ⟨w.heap.size + 1, 0, none⟩)], .int .i64 x.1, .string x.2, undef, undef, undef, undef, undef], defers := [] }) ?assign ?body ?done ?stop
  case assign =>
    intro l x W K hK
    gi_wp2
    exact hK
  case body =>
    rintro l pre x W ⟨⟨v, hv, hrow, _⟩, hB⟩ hlt
    have hc := hv.cell
    gi_wp2_with (gi_at_builtin; refine wpListIn_append_own _ rfl _ _ 110 rfl w.heap.size 9 i0 (.string ByteArray.empty) 1 16 Tryz.underlying110 hi hz0 hz1 hz2 rfl (by decide) _ _ _ rfl (hrow.alloc _) ⟨W.heap.size, 0, none⟩ 1 1 [.string x.2] rfl rfl (cell_one_new _ _ _) (by simp [Value.oneCell']) (by unfold maxLen; omega) (by omega) (by have := hB.size; simp; omega) ?_; intro v' w1 hown' hgrow _; obtain ⟨g', cap', rfl⟩ := ownsRow_succ hown'; obtain ⟨hv1, hv2, hr2, hk2, hb2⟩ := hv.appended (by decide) hrow hB.size (Nat.le_refl _) hown' hgrow; have hc1 := hv1.cell; have hf1 := hv1.frozen)
    exact ⟨hk2.from _, hb2, ⟨_, hv2, by simpa [lineV] using hr2, trivial⟩, hB.trans hb2⟩
  case done =>
    rintro D ys W hD rfl ⟨⟨v, hv, hrow, _⟩, hB⟩ hK
    have hc := hv.cell
    gi_wp2
    refine ⟨by simp, .inl ⟨_, _, rfl, run_takeDeferred hK, ?_⟩⟩
    exact ⟨_, results_tmp2 rfl _ _ _, v, by simp, ownsRow_putObj hrow _ hK rfl, hB.trans (belowK_b (w := w) (Nat.le_refl _) W D _ _ (by simp at hD; omega) hK rfl rfl)⟩
  case stop =>
  rintro D c pre W _ _ h _
  exact h.elim
end Go.Proofs.YtfkblpjfknfgbaaGreatDoor
namespace Go.Proofs.YtfkblpjfknfgbaaGreatDoor
open Go.RowKit
theorem byteEq (b : UInt8) (n : Nat) (hn : n < 256) : ((b.toNat : Int) == (n : Int)) = (UInt8.ofNat n == b) := by
  rw [Bool.eq_iff_iff, beq_iff_eq, beq_iff_eq]
  constructor
  · intro h
    have : b.toNat = n := by omega
    rw [← this]; simp
  rintro rfl
  simp [Nat.mod_eq_of_lt hn]
end Go.Proofs.YtfkblpjfknfgbaaGreatDoor
namespace Go.Proofs.YtfkblpjfknfgbaaGreatDoor
open Go.RowKit
def codeS (s : ByteArray) : Int := if 65536 < s.size then 10 else 0
theorem maxLen_of (W : World) (h : W.ShapedOpen Tryz.prog) : ∃ m, W.cell? ⟨0, 0, none⟩ = some (.int .i64 m) :=
  Go.Proofs.cell_of_shapedOpen_int (zero := #[.int .i64 0]) h (by decide +kernel) (by kernel_rfl) rfl (by kernel_rfl) (by kernel_rfl) Tryz.underlying3
end Go.Proofs.YtfkblpjfknfgbaaGreatDoor
namespace Go.Proofs.YtfkblpjfknfgbaaGreatDoor
open Go.RowKit Go.Shelf
def clamp (s : ByteArray) : ByteArray := if s.size ≤ 65536 then s else ⟨#[]⟩
theorem clamp_le (s : ByteArray) : (clamp s).size ≤ 65536 := by
  unfold clamp
  split
  · assumption
  exact Nat.zero_le _
abbrev encC (x : Int × ByteArray) : Array Value := #[.int .i64 x.1, .string (clamp x.2)]
theorem encC_of (x : Int × ByteArray) (h : x.2.size ≤ 65536) : encC x = #[.int .i64 x.1, .string x.2] := by
  show #[Value.int .i64 x.1, .string (clamp x.2)] = _
  unfold clamp; rw [if_pos h]
theorem ended_le (l : List UInt8) : (ended l).length ≤ l.length := by
  unfold ended Lib.trimSuffix
  split
  · rw [List.length_take]; omega
  exact Nat.le_refl _
set_option maxRecDepth 100000 in
set_option maxHeartbeats 2000000 in
theorem each1c_in (n : Nat) (hn : 1 ≤ n) (l Bn n₀ : Nat) (s : ByteArray) (hn0 : 0 < n₀) (m : Int) (J Jx : List (Int × ByteArray) → World → Prop)
    (hY : ∀ pre x W, J pre W → pre.length < (eachOf s.data.toList).length → YieldAt Fence.wide (n - 1) Tryz.prog l (encC x) W fun e W' =>
      (e = .returned (.bool true) ∧ J (pre ++ [x]) W' ∧ Below n₀ W W') ∨ (e = .returned (.bool false) ∧ Jx (pre ++ [x]) W'))
    (hJd : ∀ pre (W : World) k, J pre W → J pre (W.drewN k))
    (W : World) (hBn : W.cell? ⟨Bn, 0, none⟩ = some (.string s)) (hm : W.cell? ⟨0, 0, none⟩ = some (.int .i64 m)) (h0 : J [] W) :
    CallsIn Fence.wide n Tryz.prog 105 #[.func (.yield l) #[] #[], .pointer (some ⟨Bn, 0, none⟩)] W fun e W' => (∃ v, e = .returned v) ∧
      ((∃ ys, ys = eachOf s.data.toList ∧ J ys W') ∨ (∃ pre, pre <+: eachOf s.data.toList ∧ Jx pre W')) := by
  have hl := len_toList s
  by_cases hbig : 65536 < s.size
  · have HE : Hid (eachOf s.data.toList = []) := Lib.hid (by rw [eachOf, if_pos (by omega)])
    have H0 := Lib.hid h0
    clear hY hJd hl h0
    refine callsIn_of_wp Tryz.func105 rfl trivial ?_ rfl
    simp only [Tryz.ntmps105, List.size_toArray, List.length_cons, List.length_nil, Nat.reduceAdd, Nat.reduceSub, Array.replicate_succ, Array.replicate_zero, List.push_toArray, List.append_toArray, List.nil_append, List.cons_append]
    gi_wp2
    refine bodyPost_ret (results_none rfl _ _ _) rfl ?_
    exact ⟨⟨_, rfl⟩, .inl ⟨[], HE.out.symm, H0.out⟩⟩
  have HE : Hid (eachOf s.data.toList = numbered 1 (linesFrom s.size (unmarked s.data.toList))) := Lib.hid (by rw [eachOf, if_neg (by omega), linesOf, hl])
  have HU : Hid ((unmarked s.data.toList).length ≤ s.size) := Lib.hid (by have := unmarked_le s.data.toList; omega)
  have HY := Lib.hid hY
  have HJD := Lib.hid hJd
  have H0 := Lib.hid h0
  clear hY hJd hl h0
  refine callsIn_of_wp Tryz.func105 rfl trivial ?_ rfl
  simp only [Tryz.ntmps105, List.size_toArray, List.length_cons, List.length_nil, Nat.reduceAdd, Nat.reduceSub, Array.replicate_succ, Array.replicate_zero, List.push_toArray, List.append_toArray, List.nil_append, List.cons_append]
  gi_wp2_with (refine ⟨trivial, ?_⟩; gi_at_call 106; refine (callsIn_wide.2 (Trim_mark _ _)).mono ?_; rintro e w1 ⟨rfl, rfl⟩)
  gi_loopw [3, 4] (fun r i wr => ∃ (pre : List (Int × ByteArray)) (rest : List (UInt8)) (k f : Nat), r = .string (mkS rest) ∧ i = .int .i64 (k + 1 : Nat) ∧ pre.length = k ∧ rest.length ≤ f ∧ f + k ≤ s.size ∧
    eachOf s.data.toList = pre ++ numbered (k + 1) (linesFrom f rest) ∧ J pre wr ∧ Below n₀ W wr) (fun r _ _ => strLen r)
  case atStart => exact ⟨[], unmarked s.data.toList, 0, s.size, rfl, rfl, rfl, HU.out, by omega, HE.out, H0.out, Below.refl _ _⟩
  case round =>
  obtain ⟨pre, rest, k, f, rfl, rfl, hpl, hrf, hfk, hall, hj, hbw⟩ := hrel
  have HAll := Lib.hid hall
  have HJ := Lib.hid hj
  have HBW := Lib.hid hbw
  have HPL := Lib.hid hpl
  clear hall hj hbw hpl
  cases hq : (mkS rest).toList.isEmpty
  · have HNE : Hid (rest ≠ []) := Lib.hid (by rw [mkS_empty] at hq; intro h; rw [h] at hq; cases hq)
    have HStep := Lib.hid (linesFrom_step f rest HNE.out hrf)
    have hcl := cut_lt rest HNE.out
    have hcf := cut_fst_le rest
    have hm2 := (HBW.out.cell (p := ⟨0, 0, none⟩) hn0).trans hm
    gi_wp2_with first
      | (refine ⟨trivial, ?_⟩; gi_at_call 107; refine (callsIn_wide.2 (Cut_nl rest m _ (by omega) hm2)).mono ?_; rintro e w1 ⟨rfl, nd, rfl⟩)
      | (refine ⟨trivial, ?_⟩; gi_at_call 108; refine (callsIn_wide.2 (Trim_cr _ _ (by omega))).mono ?_; rintro e w1 ⟨rfl, rfl⟩)
    obtain ⟨fn, tmps, assign, body, hy, hR⟩ := HY.out pre ((k : Int) + 1, mkS (ended (Lib.cut rest [10]).1)) (wr.drewN nd) (HJD.out _ _ nd HJ.out) (by rw [HAll.out, HStep.out]; simp [numbered])
    rw [encC_of _ (by show (mkS (ended (Lib.cut rest [10]).1)).size ≤ 65536; rw [mkS_size]; have := ended_le (Lib.cut rest [10]).1; omega)] at hy
    rw [hy]
    gi_wp2
    refine hR.mono ?_
    rintro e W3 (⟨rfl, hJ3, hk3⟩ | ⟨rfl, hJx3⟩)
    · have HJ3 := Lib.hid hJ3
      have HK3 := Lib.hid hk3
      clear hJ3 hk3
      gi_wp2
      go_roundw
      case rel =>
        refine ⟨pre ++ [((k : Int) + 1, mkS (ended (Lib.cut rest [10]).1))], (Lib.cut rest [10]).2.1, k + 1, f - 1, rfl, ?_, ?_, by omega, by omega, ?_, HJ3.out, ?_⟩
        · simp only [Int.natCast_add, Int.cast_ofNat_Int]
        · simp [HPL.out]
        · rw [HAll.out, HStep.out]; simp [numbered]
        exact HBW.out.trans ((show Below n₀ wr (wr.drewN nd) from ⟨rfl, rfl, rfl, Nat.le_refl _, fun _ _ => rfl⟩).trans HK3.out)
      case measure => simp only [strLen, mkS_size]; exact hcl
    have HJx3 := Lib.hid hJx3
    clear hJx3
    gi_wp2
    refine bodyPost_ret (results_none rfl _ _ _) rfl ?_
    refine ⟨⟨_, rfl⟩, .inr ⟨_, ?_, HJx3.out⟩⟩
    rw [HAll.out, HStep.out]; exact ⟨numbered (k + 1 + 1) (linesFrom (f - 1) (Lib.cut rest [10]).2.1), by simp [numbered]⟩
  have HNE : Hid (rest = []) := Lib.hid (by rw [mkS_empty] at hq; exact List.isEmpty_iff.1 hq)
  gi_wp2
  go_end0
  refine ⟨⟨_, rfl⟩, .inl ⟨pre, ?_, HJ.out⟩⟩
  rw [HAll.out, HNE.out, linesFrom_nil]; simp [numbered]
theorem eachc_stops (n : Nat) (hn : 1 ≤ n) (Bn n₀ : Nat) (s : ByteArray) (hn0 : 0 < n₀) (m : Int) (w : World) (hBn : Bn < w.heap.size)
    (hc : w.cell? ⟨Bn, 0, none⟩ = some (.string s)) (hm : w.cell? ⟨0, 0, none⟩ = some (.int .i64 m)) :
    SeqStopsK Fence.wide n Tryz.prog 105 #[.pointer (some ⟨Bn, 0, none⟩)] encC (Below n₀) (fun ys => ys = eachOf s.data.toList) (fun pre => pre <+: eachOf s.data.toList) (eachOf s.data.toList).length w := fun l J Jx W hW hJ _ hY h0 =>
  each1c_in n hn l Bn n₀ s hn0 m J Jx hY (fun pre W k h => hJ pre W _ none h ⟨rfl, rfl, rfl, Nat.le_refl _, fun _ _ _ => rfl⟩ (fun _ e => by cases e)) W
    ((hW.cell (p := ⟨Bn, 0, none⟩) hBn).trans hc) ((hW.cell (p := ⟨0, 0, none⟩) (by show 0 < w.heap.size; omega)).trans hm) h0
end Go.Proofs.YtfkblpjfknfgbaaGreatDoor
namespace Go.Proofs.YtfkblpjfknfgbaaGreatDoor
open Go.RowKit Go.Shelf
attribute [local go_sem] Oper.semAt_some
theorem fgo_pos : ∀ (l : List UInt8) (c : Option (List UInt8)), (∀ d, c = some d → d ≠ []) → ∀ f ∈ fgo l c, f ≠ []
  | [], none, _, f, hf => by simp [fgo] at hf
  | [], some d, hc, f, hf => by simp [fgo] at hf; subst hf; exact hc _ rfl
  | b :: l, none, hc, f, hf => by
    cases hg : gapB b
    · rw [fgo_first _ _ hg] at hf; exact fgo_pos l _ (by intro d e; cases e; simp) f hf
    · rw [fgo_skip _ _ hg] at hf; exact fgo_pos l _ (by intro d e; cases e) f hf
  | b :: l, some d, hc, f, hf => by
    cases hg : gapB b
    · rw [fgo_more _ _ _ hg] at hf; exact fgo_pos l _ (by intro d' e; cases e; simp) f hf
    · rw [fgo_end _ _ (.inr ⟨b, l, rfl, hg⟩), fgo_skip _ _ hg] at hf
      rcases List.mem_cons.1 hf with rfl | h
      · exact hc f rfl
      · exact fgo_pos l _ (by intro d' e; cases e) f h
theorem fields_pos (s : ByteArray) : ∀ f ∈ fieldsS s, 0 < f.size := by
  intro f hf
  unfold fieldsS at hf
  obtain ⟨m, hm, rfl⟩ := List.mem_map.1 hf
  rw [mkS_size]
  exact List.length_pos_iff.2 (fgo_pos _ none (by intro d e; cases e) m hm)
def sharp (f : ByteArray) : Bool := f.data.toList.head? == some 35
def keptS (fs : List ByteArray) : List ByteArray := fs.takeWhile (fun f => !sharp f)
theorem kept_stop (fs : List ByteArray) (k : Nat) (hk : k < fs.length) (h : ∀ f ∈ fs.take k, sharp f = false) (hs : sharp fs[k] = true) : keptS fs = fs.take k := by
  unfold keptS
  conv => lhs; rw [← List.take_append_drop k fs]
  rw [List.takeWhile_append_of_pos (by intro f hf; simp [h f hf]), List.drop_eq_getElem_cons hk, List.takeWhile_cons_of_neg (by simp [hs]), List.append_nil]
theorem kept_all (fs : List ByteArray) (h : ∀ f ∈ fs, sharp f = false) : keptS fs = fs := by
  induction fs with
  | nil => rfl
  | cons a fs ih =>
    have ih' := ih (fun f hf => h f (by simp [hf]))
    unfold keptS at ih' ⊢
    rw [List.takeWhile_cons_of_pos (by simp [h a (by simp)]), ih']
theorem sharp_at (f : ByteArray) (h : 0 < f.size) : sharp f = ((f[0].toNat : Int) == 35) := by
  have e : f.data.toList = f[0] :: f.data.toList.drop 1 := by
    have := drop_cons f 0 h
    simpa using this
  have b : ((f[0].toNat : Int) == 35) = ((35 : UInt8) == f[0]) := byteEq f[0] 35 (by omega)
  unfold sharp
  rw [e, b, Bool.eq_iff_iff]
  simp
  exact ⟨fun h => h.symm, fun h => h.symm⟩
abbrev RowIn := Int × Value × List ByteArray
def rowCells (rs : List RowIn) : List Value := rs.flatMap fun r => [.int .i64 r.1, r.2.1]
def rowAbs (rs : List RowIn) : List (Int × List ByteArray) := rs.map fun r => (r.1, r.2.2)
def rowOf (n : Int) (l : ByteArray) : List (Int × List ByteArray) := if keptS (fieldsS l) = [] then [] else [(n, keptS (fieldsS l))]
def rowsOf (pre : List (Int × ByteArray)) : List (Int × List ByteArray) := pre.flatMap fun x => rowOf x.1 (clamp x.2)
theorem rowsOf_snoc (pre : List (Int × ByteArray)) (x : Int × ByteArray) : rowsOf (pre ++ [x]) = rowsOf pre ++ rowOf x.1 (clamp x.2) := by simp [rowsOf]
theorem rowOf_len (n : Int) (l : ByteArray) : (rowOf n l).length ≤ 1 := by unfold rowOf; split <;> simp
theorem rowsOf_len (pre : List (Int × ByteArray)) : (rowsOf pre).length ≤ pre.length := by
  induction pre with
  | nil => simp [rowsOf]
  | cons x pre ih =>
    have := rowOf_len x.1 (clamp x.2)
    have e : rowsOf (x :: pre) = rowOf x.1 (clamp x.2) ++ rowsOf pre := by simp [rowsOf]
    rw [e, List.length_append, List.length_cons]; omega
def RdT (W : World) (e : Nat) (v : Value) (n : Nat) (xs : List Value) : Prop :=
  xs.length = n ∧ ∃ A cap, v = .slice A n cap ∧ n ≤ cap ∧ (n = 0 ∨ ∃ (g : Nat) (cur : Array Value) (fr : Nat × Nat), A = some ⟨g, 0, none⟩ ∧ W.heap[g]? = some (.cells cur e fr) ∧ ∀ (j : Nat) (u : Value), xs[j]? = some u → cur[j]? = some u)
theorem RdT.rd {W : World} {e n : Nat} {v : Value} {xs : List Value} (h : RdT W e v n xs) : Rd W 1 v n xs := by
  obtain ⟨h1, A, cap, hv, hc, h2⟩ := h
  refine ⟨by omega, A, cap, hv, hc, ?_⟩
  rcases h2 with h2 | ⟨g, cur, fr, hA, hb, h3⟩
  · exact .inl h2
  exact .inr ⟨g, 0, hA, fun j u hj => by rw [Nat.zero_add, cell_of_row W g j cur e fr hb]; exact h3 j u hj⟩
theorem RdT.kept {W W' : World} {row : Option Nat} {e n : Nat} {v : Value} {xs : List Value} (h : RdT W e v n xs) (hg : W.grownBy W' row) (hrow : ∀ r, row = some r → ∃ o : Obj, W.heap[r]? = some o ∧ ∀ cur fr, o ≠ .cells cur e fr) : RdT W' e v n xs := by
  obtain ⟨h1, A, cap, hv, hc, h2⟩ := h
  refine ⟨h1, A, cap, hv, hc, ?_⟩
  rcases h2 with h2 | ⟨g, cur, fr, hA, hb, h3⟩
  · exact .inl h2
  refine .inr ⟨g, cur, fr, hA, ?_, h3⟩
  refine (hg.block g (block_lt hb) fun e' => ?_).trans hb
  obtain ⟨o, ho, hne⟩ := hrow g e'.symm
  rw [hb] at ho; cases ho; exact hne _ _ rfl
theorem RdT.keep {W W' : World} {e n : Nat} {v : Value} {xs : List Value} (h : RdT W e v n xs) (hb : Below W.heap.size W W') : RdT W' e v n xs :=
  h.kept (grown_of_below hb none) (fun r e => by cases e)
theorem RdT.of_own {w : World} {B e n : Nat} {v : Value} {xs : List Value} (h : w.ownsRow B e 1 v n xs) : RdT w e v n xs := by
  refine ⟨by have := h.1; omega, ?_⟩
  rcases h.2 with ⟨rfl, rfl⟩ | ⟨g, cap, cur, rfl, _, hb, hn, _, _, ht⟩
  · exact ⟨none, 0, rfl, Nat.le_refl _, .inl rfl⟩
  refine ⟨_, cap, rfl, hn, .inr ⟨g, cur, _, rfl, hb, fun j u hj => ?_⟩⟩
  rw [← ht] at hj
  have := List.getElem?_take_of_lt (l := cur.toList) (show j < n * 1 from by
    rcases Nat.lt_or_ge j (n * 1) with h | h
    · exact h
    rw [List.getElem?_eq_none (by rw [List.length_take]; omega)] at hj; cases hj)
  rw [this] at hj
  simpa using hj
theorem RdT.front {w : World} {e n k g cap : Nat} {xs : List Value} (h : RdT w e (.slice (some ⟨g, 0, none⟩) n cap) n xs) (hk : k ≤ n) : RdT w e (.slice (some ⟨g, 0, none⟩) k k) k (xs.take k) := by
  obtain ⟨h1, A, cap', hv, hc, h2⟩ := h
  cases hv
  refine ⟨by rw [List.length_take]; omega, _, k, rfl, Nat.le_refl _, ?_⟩
  rcases h2 with h2 | ⟨g', cur, fr, hA, hb, h3⟩
  · exact .inl (by omega)
  cases hA
  refine .inr ⟨_, cur, fr, rfl, hb, fun j u hj => h3 j u ?_⟩
  rw [List.getElem?_take] at hj
  split at hj
  · exact hj
  cases hj
theorem not_cells {o : Obj} (h : o.isCells = false) (e : Nat) : ∀ cur fr, o ≠ .cells cur e fr := by
  rintro cur fr rfl; cases h
def rowsRead (W : World) (rs : List RowIn) : Prop := ∀ r ∈ rs, RdT W 9 r.2.1 r.2.2.length (strV r.2.2)
def RowsBox (n₀ B : Nat) (t e : Nat) (W : World) (out : List (Int × List ByteArray)) : Prop :=
  ∃ (rs : List RowIn) (v : Value), Boxed W B t v ∧ W.ownsRow n₀ e 2 v rs.length (rowCells rs) ∧ rowsRead W rs ∧ rowAbs rs = out
theorem rowsBox_own {β : Type} (n₀ B t e : Nat) (f : β → List (Int × List ByteArray)) : _root_.Go.Own (fun s W => RowsBox n₀ B t e W (f s)) := by
  rintro s X Y row ⟨rs, v, hv, hr, hrd, ha⟩ hg hrow
  refine ⟨rs, v, hv.kept hg (fun e' => ?_), hr.kept hg ?_, fun r hm => (hrd r hm).kept hg (fun q e => by obtain ⟨o, ho, hc⟩ := hrow q e; exact ⟨o, ho, not_cells hc _⟩), ha⟩
  · obtain ⟨o, ho, hc⟩ := hrow B e'.symm
    rw [show X.heap[B]? = _ from hv] at ho; cases ho; cases hc
  rcases hr.2 with ⟨rfl, _⟩ | ⟨g, cap, cur, rfl, _, hgb, _⟩
  · exact .inl rfl
  refine .inr fun e' => ?_
  obtain ⟨o, ho, hc⟩ := hrow g (by simpa [Value.ownBlock] using e'.symm)
  rw [hgb] at ho; cases ho; cases hc
theorem RowsBox.keep {n₀ B t e : Nat} {W W' : World} {out : List (Int × List ByteArray)} (h : RowsBox n₀ B t e W out) (hb : Below W.heap.size W W') : RowsBox n₀ B t e W' out := by
  obtain ⟨rs, v, hv, hr, hrd, ha⟩ := h
  exact ⟨rs, v, (hb.block B hv.lt).trans hv, own_below hr hb, fun r hm => (hrd r hm).keep hb, ha⟩
theorem keepsFrom_below {B : Nat} {W W' : World} (hb : Below W.heap.size W W') : KeepsFrom B W W' :=
  ⟨hb.size, fun _ _ _ h0 _ => (hb.block _ (Array.getElem?_eq_some_iff.1 h0).1).trans h0⟩
theorem rows_push {W w1 : World} {n₀ B t e : Nat} {v v' : Value} {rs : List RowIn} {r : RowIn} {tmp : Obj} {out : List (Int × List ByteArray)} (hte : t ≠ e) (hes : 9 ≠ e) (hts : 9 ≠ t)
    (hv : Boxed W B t v) (hrow : W.ownsRow n₀ e 2 v rs.length (rowCells rs)) (hrd : rowsRead W rs) (hab : rowAbs rs = out) (hr : RdT W 9 r.2.1 r.2.2.length (strV r.2.2)) (hn₀ : n₀ ≤ W.heap.size) (hB : n₀ ≤ B)
    (hown' : w1.ownsRow n₀ e 2 v' (rs.length + 1) (rowCells rs ++ [.int .i64 r.1, r.2.1])) (hgrow : (W.alloc tmp).grownBy w1 v.ownBlock) :
    KeepsOthers W (w1.setCell ⟨B, 0, none⟩ v') ∧ Below n₀ W (w1.setCell ⟨B, 0, none⟩ v') ∧ RowsBox n₀ B t e (w1.setCell ⟨B, 0, none⟩ v') (out ++ [(r.1, r.2.2)]) := by
  obtain ⟨hv1, hv2, hr2, hk2, hb2⟩ := hv.appended hte hrow hn₀ hB hown' hgrow
  refine ⟨hk2, hb2, rs ++ [r], v', hv2, by simpa [rowCells] using hr2, ?_, by rw [← hab]; simp [rowAbs]⟩
  have keep : ∀ (q : RowIn), RdT W 9 q.2.1 q.2.2.length (strV q.2.2) → RdT (w1.setCell ⟨B, 0, none⟩ v') 9 q.2.1 q.2.2.length (strV q.2.2) := by
    intro q hq
    have h1 : RdT (W.alloc tmp) 9 q.2.1 q.2.2.length (strV q.2.2) := hq.kept (World.grownBy_alloc W tmp none) (fun r e => by cases e)
    have h2 : RdT w1 9 q.2.1 q.2.2.length (strV q.2.2) := h1.kept hgrow (fun k ek => by
      rcases (hrow.alloc tmp).2 with ⟨rfl, _⟩ | ⟨g, cap, cur, rfl, _, hgb, _⟩
      · simp [Value.ownBlock] at ek
      obtain rfl : g = k := by simpa [Value.ownBlock] using ek
      exact ⟨_, hgb, by rintro c f e'; injection e' with _ h; exact hes h.symm⟩)
    exact h2.kept (grownBy_setCell' w1 B v') (fun k ek => by cases ek; exact ⟨_, hv1, by rintro c f e'; injection e' with _ h; exact hts h.symm⟩)
  intro q hq
  rcases List.mem_append.1 hq with h | h
  · exact keep q (hrd q h)
  rw [List.mem_singleton.1 h]; exact keep r hr
theorem cell_news (w : World) (us : Array Value) (t : Nat) : ∀ j u, us.toList[j]? = some u → (w.alloc (.cells us t)).cell? ((⟨w.heap.size, 0, none⟩ : Addr).add j) = some u := by
  intro j u hj
  rw [row_addr, cell_of_row (w.alloc (.cells us t)) w.heap.size j us t (0, 0) (heap_alloc_new w _)]
  simpa using hj
end Go.Proofs.YtfkblpjfknfgbaaGreatDoor
namespace Go.Proofs.YtfkblpjfknfgbaaGreatDoor
open Go.RowKit
def admB (t : List UInt8) (b : UInt8) : Bool := match t with
  | [] => false
  | [c] => c.toNat == 46 || c == b
  | _ :: c :: l => if c.toNat = 94 then !(l.dropLast.contains b) else (c :: l).dropLast.contains b
def itemsGo : Nat → List UInt8 → Except Int (List (List UInt8))
  | 0, _ => .ok []
  | _, [] => .ok []
  | n + 1, b :: l => if b.toNat = 91 then match l.findIdx? (fun c => c.toNat == 93) with
      | none => .error 41
      | some k => if k = 0 ∨ (k = 1 ∧ (l.getD 0 0).toNat = 94) then .error 41 else match itemsGo n (l.drop (k + 1)) with
        | .error c => .error c
        | .ok ts => .ok ((b :: l.take (k + 1)) :: ts)
    else match itemsGo n l with
      | .error c => .error c
      | .ok ts => .ok ([b] :: ts)
def condR (l : List UInt8) : Except Int (List (List UInt8)) :=
  if l.length = 0 ∨ 512 < l.length then .error 40 else if l = [46] then .ok [] else match itemsGo l.length l with
    | .error c => .error c
    | .ok ts => if 16 < ts.length then .error 42 else .ok ts
def all256 : List UInt8 := (List.range 256).map UInt8.ofNat
def shownB (t : List UInt8) : List UInt8 :=
  let yes := all256.filter (fun b => admB t b)
  let no := all256.filter (fun b => !admB t b)
  if no = [] then [46] else if yes.length = 1 ∧ yes ≠ [46] ∧ yes ≠ [91] then yes
  else if admB t 93 = true then [91, 94] ++ no ++ [93] else [91] ++ yes.filter (fun b => b.toNat != 94) ++ (if yes.contains 94 = true then [94] else []) ++ [93]
def condShow (ts : List (List UInt8)) : List UInt8 := if ts = [] then [46] else ts.flatMap shownB
abbrev Ws := Nat → Nat
def clV (X : Ws) : Value := .agg #[.int .u64 (X 0), .int .u64 (X 1), .int .u64 (X 2), .int .u64 (X 3)]
def HasP (X : Ws) (p : UInt8 → Bool) : Prop := (∀ j, X j < 18446744073709551616) ∧ ∀ b : UInt8, (X (b.toNat / 64)).testBit (b.toNat % 64) = p b
def put4 (X : Ws) (n : Nat) : Ws := fun j => if j = n / 64 then X j ||| 2 ^ (n % 64) else X j
def not4 (X : Ws) : Ws := fun j => 18446744073709551615 - X j
theorem HasP.none : HasP (fun _ => 0) (fun _ => false) := ⟨fun j => show 0 < 18446744073709551616 by decide, fun b => by simp⟩
theorem HasP.put {X : Ws} {p : UInt8 → Bool} (h : HasP X p) (c : UInt8) : HasP (put4 X c.toNat) (fun b => p b || c == b) := by
  refine ⟨fun j => ?_, fun b => ?_⟩
  · unfold put4
    split
    · exact Nat.or_lt_two_pow (n := 64) (h.1 j) (Nat.pow_lt_pow_right (by decide) (by omega))
    exact h.1 j
  unfold put4
  have hb := h.2 b
  by_cases e : b.toNat / 64 = c.toNat / 64
  · rw [if_pos e, Nat.testBit_or, Nat.testBit_two_pow, hb]
    congr 1
    rw [Bool.eq_iff_iff, decide_eq_true_iff, beq_iff_eq, ← UInt8.toNat_inj]
    omega
  rw [if_neg e, hb]
  have : (c == b) = false := by rw [beq_eq_false_iff_ne]; rintro rfl; exact e rfl
  show p b = (p b || c == b)
  rw [this, Bool.or_false]
theorem HasP.not {X : Ws} {p : UInt8 → Bool} (h : HasP X p) : HasP (not4 X) (fun b => !p b) := by
  refine ⟨fun j => by unfold not4; omega, fun b => ?_⟩
  have hb := h.2 b
  have hx := h.1 (b.toNat / 64)
  unfold not4
  rw [show 18446744073709551615 - X (b.toNat / 64) = 2 ^ 64 - (X (b.toNat / 64) + 1) by omega, Nat.testBit_two_pow_sub_succ hx, hb]
  have : b.toNat % 64 < 64 := Nat.mod_lt _ (by decide)
  simp [this]
theorem HasP.ext {X : Ws} {p q : UInt8 → Bool} (h : HasP X p) (he : ∀ b, p b = q b) : HasP X q := ⟨h.1, fun b => by rw [h.2 b, he b]⟩
end Go.Proofs.YtfkblpjfknfgbaaGreatDoor
