/-
  Slices of flags: those that are read, and rows made by a call that may be written.
  Index, Contains, Has: they only read.
  append of a slice's elements, whatever the slice: nil, empty or not.
  append onto an empty row, up to the memory's own bound; append that fits.
  slices.Clone over flags.
  slices.Compact over flags: what stands in the row behind it.
-/
import Derived.Test.YtgcnfebifopdnaaDoorRows
import Derived.Test.YtgcnfebifopdnaaDoorSSort
import Derived.Below
import Derived.Lib.Slices
import Derived.Laws.AppendOwn
import Derived.OwnWalk
import Derived.WalkKit
import Derived.WalkSpells
import Derived.WalkLawsBesides
import Derived.Lib.Hide
import Derived.Lib.Walk
import Derived.Maps.AppendAt
import Derived.Deep.AppendLies
import Derived.RegionTactic
import Derived.Lib.AppendZeros
import Derived.Lib.SliceRun
import Derived.Laws.OwnMore
import Derived.Lib.SlicesCompact
import Derived.Deep.QuietTactic
import Derived.BigQuiet
namespace Go.Proofs.YtgcnfebifopdnaaDoor
section
open Go.RowKit

/-- In w the slice v reads as the flags zs. -/
def FS (w : World) (v : Value) (zs : List Int) : Prop :=
  ∃ (p : Option Addr) (c : Nat), v = .slice p zs.length c ∧ zs.length ≤ c ∧ (zs.length = 0 ∨ ∃ b off, p = some ⟨b, off, none⟩ ∧ ∀ j, j < zs.length → w.cell? ⟨b, off + j, none⟩ = some (.int .u16 (zs.getD j 0)))
/-- The slice v is a row of flags zs behind B that may be written. -/
def FN (B : Nat) (w : World) (v : Value) (zs : List Int) : Prop :=
  ∃ (p : Option Addr) (c : Nat), v = .slice p zs.length c ∧ zs.length ≤ c ∧ (zs.length = 0 ∨ ∃ b off, p = some ⟨b, off, none⟩ ∧ B ≤ b ∧ Sort.Holds (Value.int .u16) w b off zs.toArray)

theorem FS.keep {w w' : World} {v : Value} {zs : List Int} (h : FS w v zs) (hb : Below w.heap.size w w') : FS w' v zs := by
  obtain ⟨p, c, hv, hc, h⟩ := h
  refine ⟨p, c, hv, hc, h.imp id ?_⟩
  rintro ⟨b, off, hp, h2⟩
  refine ⟨b, off, hp, fun j hj => ?_⟩
  have h3 := h2 j hj
  exact (hb.cell (World.block_lt_of_cell? w _ h3)).trans h3
theorem FN.fs {B : Nat} {w : World} {v : Value} {zs : List Int} (h : FN B w v zs) : FS w v zs := by
  obtain ⟨p, c, hv, hc, h⟩ := h
  refine ⟨p, c, hv, hc, h.imp id ?_⟩
  rintro ⟨b, off, hp, _, h2⟩
  refine ⟨b, off, hp, fun j hj => ?_⟩
  have h3 := (h2 j (by simpa using hj)).1
  simpa [List.getD, hj] using h3
theorem FN.mono {B B' : Nat} {w : World} {v : Value} {zs : List Int} (h : FN B w v zs) (hB : B' ≤ B) : FN B' w v zs := by
  obtain ⟨p, c, hv, hc, h⟩ := h
  exact ⟨p, c, hv, hc, h.imp id (by rintro ⟨b, off, hp, h1, h2⟩; exact ⟨b, off, hp, by omega, h2⟩)⟩
theorem FN.nil (B : Nat) (w : World) (p : Option Addr) (c : Nat) : FN B w (.slice p 0 c) [] := ⟨p, c, rfl, Nat.zero_le _, .inl rfl⟩

/-- What writes one row behind B, draws and makes memory leaves what is below B. -/
theorem below_row {α : Type} [Inhabited α] (enc : α → Value) (w : World) (B n blk off : Nat) (d : Array α) (os : Array Obj) (hB : B ≤ blk) (hw : blk < w.heap.size) : Below B w (Sort.grow (Sort.putRow enc (Sort.ahead w n) blk off d) os) := by
  refine ⟨rfl, rfl, rfl, by simp, fun k hk => ?_⟩
  rw [Sort.heap_grow_old _ _ (by simp; omega)]
  have : blk ≠ k := by omega
  simp [Sort.putRow, Sort.mapBlock, Sort.ahead, Array.getElem?_modify, this]

/-- A row of its own is a row of flags that may be written. -/
theorem FN.of_own {B e : Nat} {w : World} {v : Value} {zs : List Int} (h : w.ownsRow B e 1 v zs.length (zs.map (Value.int .u16))) : FN B w v zs := by
  rcases h.2 with ⟨rfl, h0⟩ | ⟨g, cap, cur, rfl, hB, hg, hn, hm, hs, ht⟩
  · exact ⟨none, 0, by rw [h0], by omega, .inl h0⟩
  · refine ⟨_, cap, rfl, hn, .inr ⟨g, 0, rfl, hB, fun j hj => ?_⟩⟩
    have hj' : j < zs.length := by simpa using hj
    refine ⟨?_, by simp [World.frozen?, hg]⟩
    rw [Nat.mul_one] at ht
    have h1 : (cur.toList.take zs.length)[j]? = (zs.map (Value.int .u16))[j]? := by rw [ht]
    rw [List.getElem?_take_of_lt hj'] at h1
    simp only [World.cell?, hg, Nat.zero_add]
    simp only [Option.isSome_none, Bool.false_eq_true, if_false]
    rw [← Array.getElem?_toList, h1]
    simp [hj']

theorem flag_info : (Tryd.prog.info? 34).map (fun i => (i.zero, i.size, i.bytes)) = some (some (.int .u16 0), 1, 2) := by kernel_rfl

/-- slices.Sort on such a row. -/
theorem so_Sort_FN (B : Nat) (v : Value) (zs : List Int) (w : World) (h : FN B w v zs) (hB : B ≤ w.heap.size) (hsz : zs.length < 4611686018427387904) :
    Calls Tryd.prog 43 #[v] w fun e w' => e = .returned (.tuple #[]) ∧ FN B w' v (zs.mergeSort fun x y => decide (x ≤ y)) ∧ Below B w w' := by
  obtain ⟨p, c, rfl, hc, h⟩ := h
  have hl : (zs.mergeSort fun x y => decide (x ≤ y)).length = zs.length := by simp
  rcases h with h | ⟨b, off, rfl, hb, hH⟩
  · rw [h]
    refine (so_Sort_int_nil p c w).mono ?_
    rintro e w' ⟨rfl, rfl⟩
    exact ⟨rfl, ⟨p, c, by rw [hl, h], by omega, .inl (by omega)⟩, Below.refl _ _⟩
  · by_cases h0 : zs.length = 0
    · rw [h0]
      refine (so_Sort_int_nil _ c w).mono ?_
      rintro e w' ⟨rfl, rfl⟩
      exact ⟨rfl, ⟨_, c, by rw [hl, h0], by omega, .inl (by omega)⟩, Below.refl _ _⟩
    · have hblk : b < w.heap.size := World.block_lt_of_cell? w _ (hH 0 (by simp; omega)).1
      refine (so_slices_Sort b off c zs w hH hblk hsz).mono ?_
      rintro e w' ⟨rfl, n, os, rfl⟩
      refine ⟨rfl, ⟨_, c, by rw [hl], by omega, .inr ⟨b, off, rfl, hb, ?_⟩⟩, below_row _ _ _ _ _ _ _ _ hb hblk⟩
      refine Sort.holds_grow _ _ _ _ _ _ (by simpa using hblk) ?_
      exact Sort.holds_putRow _ _ _ _ zs.toArray _ (Sort.holds_ahead _ _ _ _ _ _ hH) (by simp)
end

section
open Go.RowKit

set_option maxHeartbeats 1000000 in
theorem so_Index (v : Value) (zs : List Int) (x : Int) (w : World) (h : FS w v zs) (hbig : zs.length ≤ 9223372036854775807) :
    Calls Tryd.prog 59 #[v, .int .u16 x] w fun e w' => e = .returned (.int .i64 (Lib.idxOf zs x)) ∧ w' = w := by
  obtain ⟨p, c, rfl, hcap, hs⟩ := h
  have hS := Lib.hid hs
  clear hs
  go_enter Tryd.func59, Tryd.ntmps59
  go_wp2
  go_loop [5, 8] (fun _ i => ∃ k : Nat, k ≤ zs.length ∧ i = .int .i64 k ∧ ∀ j, j < k → zs.getD j 0 ≠ x) (fun _ i => zs.length - (intOf i).toNat)
  case atStart => exact ⟨0, Nat.zero_le _, rfl, fun j hj => absurd hj (Nat.not_lt_zero _)⟩
  case round =>
    obtain ⟨k, hk, rfl, hne⟩ := hrel
    have hN := Lib.hid hne
    clear hne
    by_cases hlt : k < zs.length
    · obtain ⟨b, off, rfl, hc⟩ := hS.out.resolve_left (by omega)
      have hcell := hc k hlt
      generalize hz : zs.getD k 0 = z at hcell
      clear hc
      cases hq : (x == z)
      · go_wp2
        go_roundw
        case rel =>
          refine ⟨k + 1, by omega, by go_num, fun j hj => ?_⟩
          by_cases e : j = k
          · subst e; rw [hz]; intro e; rw [e] at hq; simp at hq
          · exact hN.out j (by omega)
        case measure => simp [intOf]; omega
      · go_wp2
        go_ret
        have := Lib.idxOf_hit zs zs.length k x hlt (Nat.le_refl _) (by rw [hz]; exact (beq_iff_eq.1 hq).symm) hN.out
        rw [List.take_length] at this
        exact ⟨by rw [this]; rfl, rfl⟩
    · have hke : k = zs.length := by omega
      subst hke
      go_wp2
      go_ret
      have := Lib.idxOf_miss zs zs.length x hN.out
      rw [List.take_length] at this
      exact ⟨by rw [this]; rfl, rfl⟩

theorem so_Contains (v : Value) (zs : List Int) (x : Int) (w : World) (h : FS w v zs) (hbig : zs.length ≤ 9223372036854775807) :
    Calls Tryd.prog 45 #[v, .int .u16 x] w fun e w' => e = .returned (.bool (zs.contains x)) ∧ w' = w := by
  have hb : zs.contains x = decide (0 ≤ Lib.idxOf zs x) := by
    rw [Bool.eq_iff_iff, decide_eq_true_eq, Lib.idxOf_nonneg_iff]
  have hbb := Lib.hid hb
  clear hb
  have hF := Lib.hid h
  obtain ⟨p, c, rfl, hcap, -⟩ := h
  go_enter Tryd.func45, Tryd.ntmps45
  go_wp2_with (go_at_call 59; refine (so_Index _ zs x _ hF.out hbig).mono ?_; rintro e w' ⟨rfl, rfl⟩)
  go_ret
  exact ⟨by rw [hbb.out]; rfl, rfl⟩

theorem so_Has (v : Value) (zs : List Int) (x : Int) (w : World) (h : FS w v zs) (hbig : zs.length ≤ 9223372036854775807) :
    Calls Tryd.prog 27 #[v, .int .u16 x] w fun e w' => e = .returned (.bool (zs.contains x)) ∧ w' = w := by
  have hF := Lib.hid h
  obtain ⟨q, hq⟩ : ∃ q, zs.contains x = q := ⟨_, rfl⟩
  have HQ := Lib.hid hq
  rw [hq]
  clear hq
  obtain ⟨p, c, rfl, hcap, -⟩ := h
  go_enter Tryd.func27, Tryd.ntmps27
  go_wp2_with (go_at_call 45; refine (so_Contains _ zs x _ hF.out hbig).mono ?_; rw [HQ.out]; rintro e w' ⟨rfl, rfl⟩)
  go_ret
  exact ⟨rfl, rfl⟩
end

section
open Go.RowKit
/-- An append of nothing leaves the row and the world. -/
theorem run_append_zero {P : Program} (w : World) (base : Nat) (t ty e : TypeId) (i : TypeInfo) (size : Nat) (ht : P.underlying t = some (.slice e)) (hi : P.info? e = some i)
    (v : Value) (n : Nat) (xs : List Value) (hown : w.ownsRow base e size v n xs) (A : Option Addr) (c : Nat) : (Builtin.append_ #[t, t] ty #[v, .slice A 0 c]).run P w = .ok v w := by
  rcases hown.2 with ⟨rfl, rfl⟩ | ⟨g, cap, cur, rfl, _, _, hnc, _⟩
  · cases A <;> simp [Builtin.append_, run_underlying ht, sizeOf, typeInfo, hi, Builtin.lenOf, Builtin.firstCells, loadCells, loadCellsFrom]
  · cases A <;> simp [Builtin.append_, run_underlying ht, sizeOf, typeInfo, hi, Builtin.lenOf, Builtin.firstCells, hnc, storeCells, loadCells, loadCellsFrom]
theorem run_append_src {P : Program} (w : World) (base : Nat) (t ty e : TypeId) (i : TypeInfo) (z : Value) (size bytes : Nat) (ht : P.underlying t = some (.slice e)) (hi : P.info? e = some i) (hz : i.zero = some z)
    (hsize : i.size = size) (hby : i.bytes = bytes) (hzs : z.cells.size = size) (hsz : 0 < size)
    (v : Value) (n : Nat) (xs : List Value) (hown : w.ownsRow base e size v n xs)
    (A : Option Addr) (m c : Nat) (news : List Value) (hl : news.length = m * size) (hr : m = 0 ∨ ∃ ad, A = some ad ∧ ∀ j u, news[j]? = some u → w.cell? (ad.add j) = some u) (h1 : ∀ u ∈ news, u.oneCell' = true)
    (h63 : n + m ≤ maxLen) (hbytes : (n + m) * bytes ≤ 140737488355328) (hbase : base ≤ w.heap.size) :
    ∃ v' w', (Builtin.append_ #[t, t] ty #[v, .slice A m c]).run P w = .ok v' w' ∧ w'.ownsRow base e size v' (n + m) (xs ++ news) ∧ w.grownBy w' v.ownBlock ∧ (v'.ownBlock = v.ownBlock ∨ v'.ownBlock = some w.heap.size) := by
  rcases Nat.eq_zero_or_pos m with h0 | h0
  · subst h0
    have hn : news = [] := List.eq_nil_of_length_eq_zero (by simpa using hl)
    subst hn
    exact ⟨v, w, run_append_zero w base t ty e i size ht hi v n xs hown A c, by simpa using hown, World.grownBy.refl w _, .inl rfl⟩
  · obtain ⟨ad, rfl, hc⟩ := hr.resolve_left (by omega)
    obtain ⟨v', w', hrun, h2, h3, _, h5⟩ := run_append_own_at (P := P) w base t ty e i z size bytes ht hi hz hsize hby hzs hsz v n xs hown ad m c news hl hc h1 h63 hbytes hbase
    exact ⟨v', w', hrun, h2, h3, h5⟩
/-- The cells of a slice of flags, as values. -/
theorem FS.news {w : World} {p : Option Addr} {zs : List Int} (hs : zs.length = 0 ∨ ∃ b off, p = some ⟨b, off, none⟩ ∧ ∀ j, j < zs.length → w.cell? ⟨b, off + j, none⟩ = some (.int .u16 (zs.getD j 0))) (w' : World) (hb : Below w.heap.size w w') :
    zs.length = 0 ∨ ∃ ad, p = some ad ∧ ∀ j u, (zs.map (Value.int .u16))[j]? = some u → w'.cell? (ad.add j) = some u := by
  refine hs.imp id ?_
  rintro ⟨b, off, rfl, hc⟩
  refine ⟨_, rfl, fun j u hj => ?_⟩
  have hlt : j < zs.length := by
    have := (List.getElem?_eq_some_iff.1 hj).1
    simpa using this
  have h1 := hc j hlt
  rw [Addr.add_lit]
  rw [(hb.cell (World.block_lt_of_cell? w _ h1)).trans h1]
  rw [← hj]
  simp [List.getD, hlt]
end

section
open Go.RowKit

/-- An append onto an empty row: up to the memory's own bound. -/
theorem run_append_new {P : Program} (w : World) (base : Nat) (t ty e : TypeId) (i : TypeInfo) (z : Value) (bytes : Nat) (ht : P.underlying t = some (.slice e)) (hi : P.info? e = some i) (hz : i.zero = some z)
    (hsize : i.size = 1) (hby : i.bytes = bytes) (hzs : z.cells.size = 1) (g : Nat) (hown : w.ownsRow base e 1 (.slice (some ⟨g, 0, none⟩) 0 0) 0 []) (hbase : base ≤ w.heap.size)
    (A : Option Addr) (m c : Nat) (news : List Value) (hl : news.length = m) (hr : m = 0 ∨ ∃ ad, A = some ad ∧ ∀ j u, news[j]? = some u → w.cell? (ad.add j) = some u)
    (h63 : m ≤ maxLen) (hbytes : m * bytes ≤ 281474976710656) :
    ∃ v' w', (Builtin.append_ #[t, t] ty #[.slice (some ⟨g, 0, none⟩) 0 0, .slice A m c]).run P w = .ok v' w' ∧ w'.ownsRow base e 1 v' m news ∧ Below w.heap.size w w' := by
  rcases Nat.eq_zero_or_pos m with h0 | h0
  · subst h0
    have hn : news = [] := List.eq_nil_of_length_eq_zero hl
    subst hn
    exact ⟨_, w, run_append_zero w base t ty e i 1 ht hi _ 0 [] hown A c, hown, Below.refl _ _⟩
  · obtain ⟨ad, rfl, hc⟩ := hr.resolve_left (by omega)
    have hrun := run_append_grow (P := P) w t ty e i z ht hi hz ⟨g, 0, none⟩ 0 0 [] (by simp) (by simp) ad m c news (by rw [hsize]; omega) hc (by omega) (by simp only [maxLen] at h63; omega) (by rw [hby, Nat.zero_add, nextslicecap_zero h0]; exact hbytes)
    rw [Nat.zero_add] at hrun
    have hge := grownCap_ge w m 0 e
    refine ⟨_, _, hrun, ?_, ((Below.refl _ w).drew).alloc (Nat.le_refl _) _⟩
    refine ⟨by omega, .inr ⟨w.heap.size, _, _, rfl, hbase, heap_alloc_new w.drew _, hge, grownCap_le_maxLen w m 0 e h63, ?_, ?_⟩⟩
    · simp [size_zeroCells, hzs, hl]; omega
    · simp [hl]
/-- An append that fits. -/
theorem run_append_src_fits {P : Program} (w : World) (base : Nat) (t ty e : TypeId) (i : TypeInfo) (size : Nat) (ht : P.underlying t = some (.slice e)) (hi : P.info? e = some i) (hsize : i.size = size)
    (g k cap : Nat) (xs : List Value) (hown : w.ownsRow base e size (.slice (some ⟨g, 0, none⟩) k cap) k xs)
    (A : Option Addr) (m c : Nat) (news : List Value) (hl : news.length = m * size) (hr : m = 0 ∨ ∃ ad, A = some ad ∧ ∀ j u, news[j]? = some u → w.cell? (ad.add j) = some u) (h1 : ∀ u ∈ news, u.oneCell' = true) (hfit : k + m ≤ cap) :
    ∃ w', (Builtin.append_ #[t, t] ty #[.slice (some ⟨g, 0, none⟩) k cap, .slice A m c]).run P w = .ok (.slice (some ⟨g, 0, none⟩) (k + m) cap) w' ∧ w'.ownsRow base e size (.slice (some ⟨g, 0, none⟩) (k + m) cap) (k + m) (xs ++ news) ∧ w.grownBy w' (some g) := by
  rcases Nat.eq_zero_or_pos m with h0 | h0
  · subst h0
    have hn : news = [] := List.eq_nil_of_length_eq_zero (by simpa using hl)
    subst hn
    exact ⟨w, run_append_zero w base t ty e i size ht hi _ k xs hown A c, by simpa using hown, World.grownBy.refl w _⟩
  · obtain ⟨ad, rfl, hc⟩ := hr.resolve_left (by omega)
    exact run_append_fits (P := P) w base t ty e i size ht hi hsize g k cap xs hown ad m c news hl hc h1 hfit
end

section
open Go.RowKit

set_option maxHeartbeats 2000000 in
set_option maxRecDepth 100000 in
theorem so_CloneF (v : Value) (zs : List Int) (w : World) (h : FS w v zs) (hbig : zs.length * 2 ≤ 281474976710656) :
    Calls Tryd.prog 40 #[v] w fun e w' => ∃ v', e = .returned v' ∧ FN w.heap.size w' v' zs ∧ Below w.heap.size w w' := by
  obtain ⟨p, c, rfl, hcap, hs⟩ := h
  obtain ⟨i0, hi, hz0, hz1, hz2⟩ := info_parts flag_info
  have qn : ∀ (w : World) (a : Option Addr) (n c n' c' : Nat), (binOp .eql 22 (.slice a n c) (.slice none n' c')).run Tryd.prog w = .ok (.bool a.isNone) w := fun w a n c n' c' => Lib.run_eql_slice_nil w _ _ a n c n' c' Tryd.underlying22
  have hS := Lib.hid hs
  clear hs
  cases p with
  | none =>
    have h0 : zs = [] := List.eq_nil_of_length_eq_zero (hS.out.resolve_right (by rintro ⟨b, off, hp, _⟩; cases hp))
    clear hS
    subst h0
    go_enter Tryd.func40, Tryd.ntmps40
    go_wp2
    go_ret
    exact ⟨_, rfl, FN.nil _ _ _ _, Below.refl _ _⟩
  | some ad =>
    have hr := run_append_new (P := Tryd.prog) (w.alloc (.cells #[] 34)) w.heap.size 22 22 34 i0 (.int .u16 0) 2 Tryd.underlying22 hi hz0 hz1 hz2 rfl w.heap.size (World.ownsRow_made w #[] 0 (Nat.le_refl _) (Nat.zero_le _) rfl) (by simp)
      (some ad) zs.length c (zs.map (Value.int .u16)) (by simp) (FS.news hS.out _ ((Below.refl _ w).alloc (Nat.le_refl _) _)) (by unfold maxLen; omega) hbig
    obtain ⟨v', w1, hrun, hown, hg⟩ := hr
    have HR := Lib.hid hrun
    have HO := Lib.hid hown
    have HG := Lib.hid hg
    clear hrun hown hg hS
    go_enter Tryd.func40, Tryd.ntmps40
    go_wp2_with (at_builtin; refine Lib.wpList_append_run _ rfl _ _ _ _ rfl _ _ rfl rfl _ _ HR.out ?_)
    go_ret
    refine ⟨v', rfl, FN.of_own (e := 34) HO.out, ?_⟩
    exact ((Below.refl _ w).alloc (Nat.le_refl _) _).trans (HG.out.mono (by simp))

set_option maxHeartbeats 2000000 in
set_option maxRecDepth 100000 in
theorem so_CloneS (v : Value) (zs : List Int) (w : World) (h : FS w v zs) (hbig : zs.length * 2 ≤ 281474976710656) :
    Calls Tryd.prog 39 #[v] w fun e w' => ∃ v', e = .returned v' ∧ FN w.heap.size w' v' zs ∧ Below w.heap.size w w' := by
  obtain ⟨p, c, rfl, hcap, hs⟩ := h
  obtain ⟨i0, hi, hz0, hz1, hz2⟩ := info_parts flag_info
  have qn : ∀ (w : World) (a : Option Addr) (n c n' c' : Nat), (binOp .eql 23 (.slice a n c) (.slice none n' c')).run Tryd.prog w = .ok (.bool a.isNone) w := fun w a n c n' c' => Lib.run_eql_slice_nil w _ _ a n c n' c' Tryd.underlying23
  have hS := Lib.hid hs
  clear hs
  cases p with
  | none =>
    have h0 : zs = [] := List.eq_nil_of_length_eq_zero (hS.out.resolve_right (by rintro ⟨b, off, hp, _⟩; cases hp))
    clear hS
    subst h0
    go_enter Tryd.func39, Tryd.ntmps39
    go_wp2
    go_ret
    exact ⟨_, rfl, FN.nil _ _ _ _, Below.refl _ _⟩
  | some ad =>
    have hr := run_append_new (P := Tryd.prog) (w.alloc (.cells #[] 34)) w.heap.size 23 23 34 i0 (.int .u16 0) 2 Tryd.underlying23 hi hz0 hz1 hz2 rfl w.heap.size (World.ownsRow_made w #[] 0 (Nat.le_refl _) (Nat.zero_le _) rfl) (by simp)
      (some ad) zs.length c (zs.map (Value.int .u16)) (by simp) (FS.news hS.out _ ((Below.refl _ w).alloc (Nat.le_refl _) _)) (by unfold maxLen; omega) hbig
    obtain ⟨v', w1, hrun, hown, hg⟩ := hr
    have HR := Lib.hid hrun
    have HO := Lib.hid hown
    have HG := Lib.hid hg
    clear hrun hown hg hS
    go_enter Tryd.func39, Tryd.ntmps39
    go_wp2_with (at_builtin; refine Lib.wpList_append_run _ rfl _ _ _ _ rfl _ _ rfl rfl _ _ HR.out ?_)
    go_ret
    refine ⟨v', rfl, FN.of_own (e := 34) HO.out, ?_⟩
    exact ((Below.refl _ w).alloc (Nat.le_refl _) _).trans (HG.out.mono (by simp))
end

section
open Go.RowKit

/-- The world where the row holds dk, so many draws on. -/
def CW (w : World) (b off n : Nat) (dk : Array Int) : World := Sort.putRow (Value.int .u16) (Sort.ahead w n) b off dk
theorem CW.store {w : World} {b off n : Nat} {dk : Array Int} (m i : Nat) (hi : i < dk.size) (x : Int) : ((CW w b off n dk).drewN m).setCell ⟨b, off + i, none⟩ (.int .u16 x) = CW w b off (n + m) (dk.setIfInBounds i x) := by
  unfold CW
  rw [putRow_drewN]
  exact Sort.putRow_set (Value.int .u16) (Sort.ahead w (n + m)) b off dk i x hi
theorem CW.more {w wr : World} {b off n : Nat} {dk : Array Int} (h : wr = CW w b off n dk) (m : Nat) : wr.drewN m = CW w b off (n + m) dk := by
  subst h
  exact putRow_drewN _ _ _ _ _ _ _
theorem CW.set {w wr : World} {b off n : Nat} {dk : Array Int} (h : wr = CW w b off n dk) (m i : Nat) (hi : i < dk.size) (x : Int) : (wr.drewN m).setCell ⟨b, off + i, none⟩ (.int .u16 x) = CW w b off (n + m) (dk.setIfInBounds i x) := by
  subst h
  exact CW.store m i hi x
theorem CW.set' {w wr : World} {b off n : Nat} {dk : Array Int} (h : wr = CW w b off n dk) (m i : Nat) (hi : i < dk.size) (x : Int) : (wr.setCell ⟨b, off + i, none⟩ (.int .u16 x)).drewN m = CW w b off (n + m) (dk.setIfInBounds i x) := CW.set h m i hi x
theorem CW.start {w : World} {b off : Nat} {d : Array Int} (n : Nat) (h : Sort.Holds (Value.int .u16) w b off d) : w.drewN n = CW w b off n d := (Sort.putRow_self _ _ _ _ _ (Sort.holds_ahead _ w n b off d h)).symm
theorem CW.holds {w : World} {b off : Nat} {d dk : Array Int} (n : Nat) (h : Sort.Holds (Value.int .u16) w b off d) (hs : dk.size = d.size) : Sort.Holds (Value.int .u16) (CW w b off n dk) b off dk := Sort.holds_putRow _ _ _ _ d dk (Sort.holds_ahead _ w n b off d h) hs

set_option maxHeartbeats 4000000 in
set_option maxRecDepth 1000000 in
theorem so_Compact_arr (b off c : Nat) (d : Array Int) (w : World) (hH : Sort.Holds (Value.int .u16) w b off d) (hsz : d.size ≤ 4611686018427387904) (hcap : d.size ≤ c) :
    Calls Tryd.prog 44 #[.slice (some ⟨b, off, none⟩) d.size c] w fun e w' =>
      ∃ (n : Nat) (dk : Array Int), e = .returned (.slice (some ⟨b, off, none⟩) (Lib.compactUpTo d d.size).length c) ∧ w' = CW w b off n dk ∧ dk.size = d.size ∧ ∀ j, j < (Lib.compactUpTo d d.size).length → (Lib.compactUpTo d d.size)[j]? = some dk[j]! := by
  have HH := Lib.hid hH
  have hall : ∀ n, (∀ j, j < d.size → Lib.keeps d j = true) → (Lib.compactUpTo d d.size).length = d.size ∧ w.drewN n = CW w b off n d ∧ ∀ j, j < (Lib.compactUpTo d d.size).length → (Lib.compactUpTo d d.size)[j]? = some d[j]! := by
    intro n hk
    have e : Lib.compactUpTo d d.size = d.toList := by rw [Lib.compactUpTo_all d _ hk, Lib.range_map_get]
    rw [e]
    exact ⟨by simp, CW.start n hH, fun j hj => by simp at hj; simp [hj, getElem!_pos]⟩
  have HA := Lib.hid hall
  clear hall hH
  by_cases h2 : d.size < 2
  · go_enter Tryd.func44, Tryd.ntmps44
    go_wp2
    go_ret
    obtain ⟨e1, e2, e3⟩ := HA.out 0 (fun j hj => Lib.keeps_lt_one d j (by omega))
    exact ⟨0, d, by rw [e1]; rfl, e2, rfl, e3⟩
  · go_enter Tryd.func44, Tryd.ntmps44
    go_wp2
    go_loopw [3] (fun i wr => ∃ k n : Nat, 1 ≤ k ∧ k ≤ d.size ∧ i = .int .i64 k ∧ wr = w.drewN n ∧ Hid (∀ j, j < k → Lib.keeps d j = true)) (fun i _ => d.size - (intOf i).toNat)
    case atStart => exact ⟨1, 0, Nat.le_refl _, by omega, rfl, rfl, Lib.keeps_lt_one d⟩
    case round =>
      obtain ⟨k, n, hk1, hk, rfl, rfl, HK⟩ := hrel
      by_cases hlt : k < d.size
      · obtain ⟨c1, -⟩ := HH.out k hlt
        obtain ⟨c0, -⟩ := HH.out (k - 1) (by omega)
        generalize hx : d[k]! = x at c1
        generalize hy : d[k - 1]! = y at c0
        have HX := Lib.hid hx
        have HY := Lib.hid hy
        clear hx hy
        cases hq : (x == y)
        · have hkp := Lib.hid (Lib.keeps_pos (d := d) (m := k) (by rw [HX.out, HY.out]; simpa using hq))
          go_wp2_with fail
          go_quiet (fail)
          go_wp2
          go_roundw
          case rel => exact ⟨k + 1, _, by omega, by omega, by go_num, rfl, fun j hj => (by
            by_cases e : j = k
            · subst e; exact hkp.out
            · exact HK.out j (by omega))⟩
          case measure => simp [intOf]; omega
        · have hkn := Lib.hid (Lib.keeps_neg (d := d) (m := k) (by omega) (by rw [HX.out, HY.out]; simpa using hq))
          go_wp2_with fail
          go_quiet (fail)
          go_wp2
          clear c0 c1
          go_loopw [3, 5] (fun i i2 wr => ∃ (kk k2 n2 : Nat) (dk : Array Int), i = .int .i64 kk ∧ i2 = .int .i64 k2 ∧ 1 ≤ k2 ∧ k + k2 ≤ d.size ∧ Hid (wr = CW w b off n2 dk) ∧ Hid (Lib.CompInv d (k + k2) kk dk)) (fun _ i2 _ => d.size - (k + (intOf i2).toNat))
          case atStart => exact ⟨k, 1, _, d, rfl, rfl, Nat.le_refl _, by omega, CW.start _ HH.out, Lib.CompInv.start HK.out hkn.out⟩
          case round =>
            obtain ⟨kk, k2, n2, dk, rfl, rfl, h1, hle, HW, HI⟩ := hrel
            have hkk := HI.out.lt
            have hds := HI.out.size
            have hHk : Sort.Holds (Value.int .u16) wr b off dk := by rw [HW.out]; exact CW.holds _ HH.out hds
            have HHk := Lib.hid hHk
            clear hHk
            by_cases hlt2 : k + k2 < d.size
            · obtain ⟨cm, -⟩ := HHk.out (k + k2) (by omega)
              obtain ⟨cp, -⟩ := HHk.out (k + k2 - 1) (by omega)
              obtain ⟨ck, fk⟩ := HHk.out kk (by omega)
              rw [HI.out.high (k + k2) (by omega), show off + (k + k2) = off + k + k2 by omega] at cm
              rw [HI.out.high (k + k2 - 1) (by omega), show off + (k + k2 - 1) = off + k + (k2 - 1) by omega] at cp
              generalize hu : d[k + k2]! = u at cm
              generalize hv : d[k + k2 - 1]! = v at cp
              generalize dk[kk]! = old at ck
              have HU := Lib.hid hu
              have HV := Lib.hid hv
              clear hu hv
              cases hq2 : (u == v)
              · have hkp := Lib.hid (Lib.keeps_pos (d := d) (m := k + k2) (by rw [HU.out, HV.out]; simpa using hq2))
                go_wp2_with fail
                go_quiet (fail)
                go_wp2
                go_roundw
                case rel => exact ⟨kk + 1, k2 + 1, _, dk.setIfInBounds kk u, by go_num, by go_num, by omega, by omega, CW.set' HW.out _ kk (by omega) u, by have := HI.out.keep hlt2 hkp.out; rwa [HU.out] at this⟩
                case measure => simp [intOf]; omega
              · have hkn2 := Lib.hid (Lib.keeps_neg (d := d) (m := k + k2) (by omega) (by rw [HU.out, HV.out]; simpa using hq2))
                go_wp2_with fail
                go_quiet (fail)
                go_wp2
                go_roundw
                case rel => exact ⟨kk, k2 + 1, _, dk, rfl, by go_num, by omega, by omega, CW.more HW.out _, HI.out.skip hkn2.out⟩
                case measure => simp [intOf]; omega
            · have hend : k + k2 = d.size := by omega
              have hcl : ∀ ty, (Builtin.clear_ #[22] ty #[.slice (some ⟨b, off + kk, none⟩) (d.size - kk) (c - kk)]).run Tryd.prog wr = .ok (.tuple #[]) (wr.setCells b (off + kk) (List.replicate (d.size - kk) (.int .u16 0))) :=
                fun ty => Lib.run_clear_slice wr _ _ ty _ Tryd.underlying22 Tryd.zeroValue34 rfl rfl b (off + kk) _ _ (by omega) (fun j hj => by rw [show off + kk + j = off + (kk + j) by omega, (HHk.out (kk + j) (by omega)).1]; rfl) (fun j hj => by rw [show off + kk + j = off + (kk + j) by omega]; exact (HHk.out (kk + j) (by omega)).2)
              go_wp2
              go_ret
              have hI := HI.out
              rw [hend] at hI
              refine ⟨n2, (Lib.compactUpTo d d.size ++ List.replicate (d.size - kk) 0).toArray, by rw [hI.len]; rfl, ?_, by have := hI.len; simp; omega, fun j hj => ?_⟩
              · rw [← hI.done 0, HW.out]
                have := Lib.putRow_setCells (Value.int .u16) (Sort.ahead w n2) b off (List.replicate (d.size - kk) (0 : Int)) dk kk (by simp; omega)
                rw [List.map_replicate] at this
                exact this
              · simp [hj, List.getElem?_append_left hj]
      · have hke : k = d.size := by omega
        subst hke
        go_wp2
        go_ret
        obtain ⟨e1, e2, e3⟩ := HA.out n HK.out
        exact ⟨n, d, by rw [e1]; rfl, e2, rfl, e3⟩
end
end Go.Proofs.YtgcnfebifopdnaaDoor
