/-
  slices.Compact on rows of flags; flags.Of.
  IndexFunc over a set: the function is a set's Has.
  slices.DeleteFunc over a row of flags, the function a set's Has; Without.
  Without; Fold of Without over groups; All.
  twin; slices that are written out.
  Plain laws of the sets.
  Plain laws of the sets: order, equality, counts.
  slices.Equal over flags; a set's Equal and Count.
  slices.Grow of nil, slices.Concat; With.
-/
import Derived.Test.YtgcnfebifopdnaaDoorRows
import Derived.Test.YtgcnfebifopdnaaDoorGA
import Derived.Deep.QuietTactic
import Derived.BigQuiet
import Derived.Deep.RegionWith
import Derived.Lib.AppendZeros
namespace Go.Proofs.YtgcnfebifopdnaaDoor
section
open Go.RowKit

theorem below_CW {w : World} {B b off n : Nat} {dk : Array Int} (hB : B ≤ b) (hb : b < w.heap.size) : Below B w (CW w b off n dk) := by
  have h := below_row (Value.int .u16) w B n b off dk #[] hB hb
  rwa [Sort.grow_empty] at h

set_option maxHeartbeats 1000000 in
theorem so_Compact (B : Nat) (v : Value) (zs : List Int) (w : World) (h : FN B w v zs) (hsz : zs.length ≤ 4611686018427387904) :
    Calls Tryd.prog 44 #[v] w fun e w' => ∃ v', e = .returned v' ∧ FN B w' v' (Lib.compact zs) ∧ Below B w w' := by
  obtain ⟨p, c, rfl, hc, h⟩ := h
  have he : ∀ (q : Option Addr), zs.length = 0 → Calls Tryd.prog 44 #[.slice q zs.length c] w fun e w' => ∃ v', e = .returned v' ∧ FN B w' v' (Lib.compact zs) ∧ Below B w w' := by
    intro q h0
    have : zs = [] := List.eq_nil_of_length_eq_zero h0
    subst this
    clear h
    go_enter Tryd.func44, Tryd.ntmps44
    go_wp2
    go_ret
    exact ⟨_, rfl, FN.nil _ _ _ _, Below.refl _ _⟩
  rcases h with h | ⟨b, off, rfl, hb, hH⟩
  · exact he p h
  · by_cases h0 : zs.length = 0
    · exact he _ h0
    · have hblk : b < w.heap.size := World.block_lt_of_cell? w _ (hH 0 (by simp; omega)).1
      have hC := so_Compact_arr b off c zs.toArray w hH (by simpa using hsz) (by simpa using hc)
      rw [List.size_toArray] at hC
      refine hC.mono ?_
      rintro e w' ⟨n, dk, rfl, rfl, hs, hlow⟩
      have hle : (Lib.compactUpTo zs.toArray zs.length).length ≤ zs.length := by
        unfold Lib.compactUpTo
        rw [List.length_map]
        exact Nat.le_trans (List.length_filter_le _ _) (by simp)
      have hHd := CW.holds n hH hs
      have hs' : dk.size = zs.length := by simpa using hs
      refine ⟨_, rfl, ⟨_, c, rfl, by have : (Lib.compact zs).length ≤ zs.length := hle; omega, .inr ⟨b, off, rfl, hb, fun j hj => ?_⟩⟩, below_CW hb hblk⟩
      have hj' : j < (Lib.compactUpTo zs.toArray zs.length).length := by simpa [Lib.compact] using hj
      obtain ⟨h1, h2⟩ := hHd j (by omega)
      refine ⟨?_, h2⟩
      rw [h1]
      have h3 := hlow j hj'
      have h4 : (Lib.compact zs).toArray[j]! = dk[j]! := by
        have : (Lib.compact zs)[j]? = some dk[j]! := h3
        obtain ⟨h5, h6⟩ := List.getElem?_eq_some_iff.1 this
        rw [getElem!_pos (Lib.compact zs).toArray j (by simpa using h5)]
        simpa using h6
      rw [h4]

/-- The set of the flags, in order. -/
def canon (zs : List Int) : List Int := Lib.compact (zs.mergeSort fun x y => decide (x ≤ y))

set_option maxHeartbeats 1000000 in
theorem so_Of (v : Value) (zs : List Int) (w : World) (h : FS w v zs) (hbig : zs.length * 2 ≤ 281474976710656) :
    Calls Tryd.prog 25 #[v] w fun e w' => ∃ v', e = .returned v' ∧ FN w.heap.size w' v' (canon zs) ∧ Below w.heap.size w w' := by
  have hF := Lib.hid h
  obtain ⟨p, c, rfl, hcap, -⟩ := h
  go_enter Tryd.func25, Tryd.ntmps25
  go_wp2_with (go_at_call 40; refine (so_CloneF _ zs _ hF.out hbig).mono ?_; rintro e w1 ⟨v1, rfl, h1, b1⟩)
  have H1 := Lib.hid h1
  have B1 := Lib.hid b1
  have hs1 := b1.size
  clear h1 b1
  go_wp2_with (go_at_call 43; refine (so_Sort_FN w.heap.size _ zs _ H1.out hs1 (by omega)).mono ?_; rintro e w2 ⟨rfl, h2, b2⟩)
  have H2 := Lib.hid h2
  have B2 := Lib.hid b2
  clear h2 b2
  go_wp2_with (go_at_call 44; refine (so_Compact w.heap.size _ _ _ H2.out (by simp; omega)).mono ?_; rintro e w3 ⟨v3, rfl, h3, b3⟩)
  have H3 := Lib.hid h3
  have B3 := Lib.hid b3
  clear h3 b3
  go_wp2
  go_ret
  exact ⟨v3, rfl, H3.out, B1.out.trans (B2.out.trans B3.out)⟩
end

section
open Go.RowKit

/-- The first place that is in ts. -/
def fstIn (ts zs : List Int) : Int := match zs.findIdx? (fun z => ts.contains z) with | some k => k | none => -1
theorem fstIn_hit (ts zs : List Int) (k : Nat) (hk : k < zs.length) (h : ts.contains (zs.getD k 0) = true) (hne : ∀ j, j < k → ts.contains (zs.getD j 0) = false) : fstIn ts zs = k := by
  have : zs.findIdx? (fun z => ts.contains z) = some k := by
    rw [List.findIdx?_eq_some_iff_getElem]
    refine ⟨hk, ?_, fun j hj => ?_⟩
    · have e : zs.getD k 0 = zs[k] := by simp [List.getD, hk]
      rw [← e]; exact h
    · have e : zs.getD j 0 = zs[j] := by simp [List.getD, show j < zs.length by omega]
      rw [← e, hne j hj]; simp
  unfold fstIn; rw [this]
theorem fstIn_miss (ts zs : List Int) (hne : ∀ j, j < zs.length → ts.contains (zs.getD j 0) = false) : fstIn ts zs = -1 := by
  have : zs.findIdx? (fun z => ts.contains z) = none := by
    rw [List.findIdx?_eq_none_iff]
    intro x hx
    obtain ⟨j, hj, rfl⟩ := List.getElem_of_mem hx
    have e : zs.getD j 0 = zs[j] := by simp [List.getD, hj]
    rw [← e]; exact hne j hj
  unfold fstIn; rw [this]
theorem fstIn_nonneg (ts zs : List Int) : decide (0 ≤ fstIn ts zs) = zs.any (fun z => ts.contains z) := by
  unfold fstIn
  cases h : zs.findIdx? (fun z => ts.contains z) with
  | none =>
    rw [List.findIdx?_eq_none_iff] at h
    have : zs.any (fun z => ts.contains z) = false := by rw [List.any_eq_false]; intro x hx; rw [h x hx]; simp
    rw [this]; decide
  | some k =>
    have h2 := (List.findIdx?_eq_some_iff_getElem.1 h)
    obtain ⟨hk, h3, _⟩ := h2
    have : zs.any (fun z => ts.contains z) = true := List.any_eq_true.2 ⟨zs[k], List.getElem_mem hk, h3⟩
    rw [this]; simp

set_option maxHeartbeats 1000000 in
theorem so_IndexFuncS (v u : Value) (zs ts : List Int) (w : World) (h : FS w v zs) (hu : FS w u ts) (hbig : zs.length ≤ 9223372036854775807) (hbig2 : ts.length ≤ 9223372036854775807) :
    Calls Tryd.prog 56 #[v, .func (.func 27) #[u] #[]] w fun e w' => e = .returned (.int .i64 (fstIn ts zs)) ∧ w' = w := by
  obtain ⟨p, c, rfl, hcap, hs⟩ := h
  have hS := Lib.hid hs
  have hU := Lib.hid hu
  clear hs hu
  go_enter Tryd.func56, Tryd.ntmps56
  go_wp2
  go_loop [5, 8] (fun _ i => ∃ k : Nat, k ≤ zs.length ∧ i = .int .i64 k ∧ ∀ j, j < k → ts.contains (zs.getD j 0) = false) (fun _ i => zs.length - (intOf i).toNat)
  case atStart => exact ⟨0, Nat.zero_le _, rfl, fun j hj => absurd hj (Nat.not_lt_zero _)⟩
  case round =>
    obtain ⟨k, hk, rfl, hne⟩ := hrel
    have hN := Lib.hid hne
    clear hne
    by_cases hlt : k < zs.length
    · obtain ⟨b, off, rfl, hc⟩ := hS.out.resolve_left (by omega)
      have hcell := hc k hlt
      generalize hz : zs.getD k 0 = z at hcell
      have HZ := Lib.hid hz
      clear hc hz
      cases hq : ts.contains z
      · have HQ := Lib.hid hq
        clear hq
        go_wp2_with (go_at_call 27; refine (so_Has _ ts z _ hU.out hbig2).mono ?_; rw [HQ.out]; rintro e w' ⟨rfl, rfl⟩)
        go_roundw
        case rel =>
          refine ⟨k + 1, by omega, by go_num, fun j hj => ?_⟩
          by_cases e : j = k
          · subst e; rw [HZ.out]; exact HQ.out
          · exact hN.out j (by omega)
        case measure => simp [intOf]; omega
      · have HQ := Lib.hid hq
        clear hq
        go_wp2_with (go_at_call 27; refine (so_Has _ ts z _ hU.out hbig2).mono ?_; rw [HQ.out]; rintro e w' ⟨rfl, rfl⟩)
        go_ret
        have := fstIn_hit ts zs k hlt (by rw [HZ.out]; exact HQ.out) hN.out
        exact ⟨by rw [this]; rfl, rfl⟩
    · have hke : k = zs.length := by omega
      subst hke
      go_wp2
      go_ret
      have := fstIn_miss ts zs hN.out
      exact ⟨by rw [this]; rfl, rfl⟩
end

section
open Go.RowKit

theorem CW.set0 {w wr : World} {b off n : Nat} {dk : Array Int} (h : wr = CW w b off n dk) (i : Nat) (hi : i < dk.size) (x : Int) : wr.setCell ⟨b, off + i, none⟩ (.int .u16 x) = CW w b off n (dk.setIfInBounds i x) := by
  subst h
  exact Sort.putRow_set (Value.int .u16) (Sort.ahead w n) b off dk i x hi
theorem lay_size {α : Type} : ∀ (xs : List α) (d : Array α) (k : Nat), (Lib.lay d k xs).size = d.size
  | [], _, _ => rfl
  | x :: r, d, k => by rw [Lib.lay, lay_size r]; simp

/-- The flags that are not in ts. -/
def outs (ts zs : List Int) : List Int := zs.filter fun z => !ts.contains z
theorem outs_snoc (ts zs : List Int) (m : Nat) (hm : m < zs.length) : outs ts (zs.take (m + 1)) = outs ts (zs.take m) ++ if ts.contains (zs.getD m 0) then [] else [zs.getD m 0] := by
  unfold outs
  rw [List.take_add_one, List.filter_append]
  congr 1
  simp only [List.getD, List.getElem?_eq_getElem hm, Option.getD_some, Option.toList]
  cases h : ts.contains zs[m] <;> simp_all
theorem outs_all (ts zs : List Int) (m : Nat) (hm : m ≤ zs.length) (h : ∀ j, j < m → ts.contains (zs.getD j 0) = false) : outs ts (zs.take m) = zs.take m := by
  unfold outs
  rw [List.filter_eq_self]
  intro x hx
  obtain ⟨j, hj, rfl⟩ := List.getElem_of_mem hx
  have hj' : j < m := by simp at hj; omega
  have := h j hj'
  have e : zs.getD j 0 = zs[j]'(by omega) := by simp [List.getD, show j < zs.length by omega]
  rw [e] at this
  rw [List.getElem_take, this]; rfl

/-- m places have been looked at; what stays of them, k flags, lies at the row's head. -/
structure DelInv (ts zs : List Int) (m k : Nat) (dk : Array Int) : Prop where
  size : dk.size = zs.length
  len : (outs ts (zs.take m)).length = k
  lt : k < m
  le : m ≤ zs.length
  low : ∀ j, j < k → (outs ts (zs.take m))[j]? = some dk[j]!
  high : ∀ j, k ≤ j → dk[j]! = zs.getD j 0
theorem getD_bang (zs : List Int) (j : Nat) : zs.toArray[j]! = zs.getD j 0 := by
  by_cases h : j < zs.length
  · rw [getElem!_pos zs.toArray j (by simpa using h)]; simp [List.getD, h]
  · rw [getElem!_neg zs.toArray j (by simpa using h)]; simp [List.getD, show zs.length ≤ j by omega]
theorem DelInv.start {ts zs : List Int} {k : Nat} (hk : k < zs.length) (hin : ts.contains (zs.getD k 0) = true) (h : ∀ j, j < k → ts.contains (zs.getD j 0) = false) : DelInv ts zs (k + 1) k zs.toArray where
  size := by simp
  len := by rw [outs_snoc _ _ _ hk, hin, outs_all ts zs k (by omega) h]; simp [Nat.min_eq_left (Nat.le_of_lt hk)]
  lt := by omega
  le := by omega
  low := fun j hj => by
    rw [outs_snoc _ _ _ hk, hin, outs_all ts zs k (by omega) h, getD_bang]
    simp [hj, List.getD, show j < zs.length by omega]
  high := fun j _ => getD_bang zs j
theorem DelInv.skip {ts zs : List Int} {m k : Nat} {dk : Array Int} (h : DelInv ts zs m k dk) (hm : m < zs.length) (hin : ts.contains (zs.getD m 0) = true) : DelInv ts zs (m + 1) k dk where
  size := h.size
  len := by rw [outs_snoc _ _ _ hm, hin]; simpa using h.len
  lt := by have := h.lt; omega
  le := by omega
  low := fun j hj => by rw [outs_snoc _ _ _ hm, hin]; simpa using h.low j hj
  high := h.high
theorem DelInv.keep {ts zs : List Int} {m k : Nat} {dk : Array Int} (h : DelInv ts zs m k dk) (hm : m < zs.length) (hin : ts.contains (zs.getD m 0) = false) : DelInv ts zs (m + 1) (k + 1) (dk.setIfInBounds k (zs.getD m 0)) where
  size := by simpa using h.size
  len := by rw [outs_snoc _ _ _ hm, hin]; simp [h.len]
  lt := by have := h.lt; omega
  le := by omega
  low := fun j hj => by
    have hl := h.len
    have hs := h.size
    have hlt := h.lt
    rw [outs_snoc _ _ _ hm, hin]
    by_cases e : j = k
    · subst e
      rw [Sort.getElem!_set_same _ _ _ (by omega), List.getElem?_append_right (by omega), hl]
      simp
    · rw [Sort.getElem!_set_other _ _ _ _ e, List.getElem?_append_left (by omega)]
      exact h.low j (by omega)
  high := fun j hj => by rw [Sort.getElem!_set_other _ _ _ _ (by omega)]; exact h.high j (by omega)

set_option maxHeartbeats 4000000 in
set_option maxRecDepth 1000000 in
theorem so_DeleteFunc (B : Nat) (v u : Value) (zs ts : List Int) (w : World) (h : FN B w v zs) (hu : ∀ w', Below B w w' → FS w' u ts) (hbig : zs.length ≤ 4611686018427387904) (hbig2 : ts.length ≤ 4611686018427387904) :
    Calls Tryd.prog 42 #[v, .func (.func 27) #[u] #[]] w fun e w' => ∃ v', e = .returned v' ∧ FN B w' v' (outs ts zs) ∧ Below B w w' := by
  have HF := Lib.hid h.fs
  have HN := Lib.hid h
  have HU := Lib.hid hu
  obtain ⟨p, c, rfl, hc, hs⟩ := h
  have HS := Lib.hid hs
  clear hu hs
  by_cases hany : ∃ k, k < zs.length ∧ ts.contains (zs.getD k 0) = true ∧ ∀ j, j < k → ts.contains (zs.getD j 0) = false
  · obtain ⟨k, hk, hin, hne⟩ := hany
    have he := Lib.hid (fstIn_hit ts zs k hk hin hne)
    have HD := Lib.hid (DelInv.start hk hin hne)
    clear hin hne
    obtain ⟨b, off, rfl, hb, hH⟩ := HS.out.resolve_left (by omega)
    have HH := Lib.hid hH
    have hblk : b < w.heap.size := World.block_lt_of_cell? w _ (hH 0 (by simp; omega)).1
    clear hH
    have hk1 : ((k : Int) == -1) = false := by
      rw [beq_eq_false_iff_ne]; omega
    go_enter Tryd.func42, Tryd.ntmps42
    go_wp2_with (go_at_call 56; refine (so_IndexFuncS _ _ zs ts _ HF.out (HU.out w (Below.refl _ _)) (by omega) (by omega)).mono ?_; rw [he.out]; rintro e w' ⟨rfl, hw⟩; obtain rfl : w = w' := hw.symm)
    go_loopw [5, 6, 7] (fun i j _ wr => ∃ (kk m n : Nat) (dk : Array Int), i = .int .i64 kk ∧ j = .int .i64 m ∧ m ≤ zs.length ∧ Hid (wr = CW w b off n dk) ∧ Hid (DelInv ts zs m kk dk)) (fun _ j _ _ => zs.length - (intOf j).toNat)
    case atStart => exact ⟨k, k + 1, 0, zs.toArray, rfl, by go_num, by omega, CW.start 0 HH.out, HD.out⟩
    case round =>
      obtain ⟨kk, m, n, dk, rfl, rfl, hm, HW, HI⟩ := hrel
      have hkk := HI.out.lt
      have hds := HI.out.size
      have hHk : Sort.Holds (Value.int .u16) wr b off dk := by rw [HW.out]; exact CW.holds _ HH.out (by simpa using hds)
      have HHk := Lib.hid hHk
      clear hHk
      have HB := Lib.hid (show Below B w wr by rw [HW.out]; exact below_CW hb hblk)
      by_cases hlt : m < zs.length
      · obtain ⟨cm, -⟩ := HHk.out m (by omega)
        obtain ⟨ck, fk⟩ := HHk.out kk (by omega)
        rw [HI.out.high m (by omega)] at cm
        generalize hz : zs.getD m 0 = z at cm
        have HZ := Lib.hid hz
        clear hz
        generalize dk[kk]! = old at ck
        cases hq : ts.contains z
        · have HQ := Lib.hid hq
          clear hq
          go_wp2_with (go_at_call 27; refine (so_Has _ ts z _ (HU.out _ HB.out) (by omega)).mono ?_; rw [HQ.out]; rintro e w' ⟨rfl, rfl⟩)
          go_roundw
          case rel => exact ⟨kk + 1, m + 1, n, dk.setIfInBounds kk z, by go_num, by go_num, by omega, CW.set0 HW.out kk (by omega) z, by have := HI.out.keep hlt (by rw [HZ.out]; exact HQ.out); rwa [HZ.out] at this⟩
          case measure => simp [intOf]; omega
        · have HQ := Lib.hid hq
          clear hq
          go_wp2_with (go_at_call 27; refine (so_Has _ ts z _ (HU.out _ HB.out) (by omega)).mono ?_; rw [HQ.out]; rintro e w' ⟨rfl, rfl⟩)
          go_roundw
          case rel => exact ⟨kk, m + 1, n, dk, rfl, by go_num, by omega, HW.out, HI.out.skip hlt (by rw [HZ.out]; exact HQ.out)⟩
          case measure => simp [intOf]; omega
      · have hend : m = zs.length := by omega
        have hcl : ∀ ty, (Builtin.clear_ #[23] ty #[.slice (some ⟨b, off + kk, none⟩) (zs.length - kk) (c - kk)]).run Tryd.prog wr = .ok (.tuple #[]) (wr.setCells b (off + kk) (List.replicate (zs.length - kk) (.int .u16 0))) :=
          fun ty => Lib.run_clear_slice wr _ _ ty _ Tryd.underlying23 Tryd.zeroValue34 rfl rfl b (off + kk) _ _ (by omega) (fun j hj => by rw [show off + kk + j = off + (kk + j) by omega, (HHk.out (kk + j) (by omega)).1]; rfl) (fun j hj => by rw [show off + kk + j = off + (kk + j) by omega]; exact (HHk.out (kk + j) (by omega)).2)
        go_wp2
        go_ret
        have hI := HI.out
        rw [hend] at hI
        have hl := hI.len
        rw [List.take_length] at hl
        have hw : wr.setCells b (off + kk) (List.replicate (zs.length - kk) (.int .u16 0)) = CW w b off n (Lib.lay dk kk (List.replicate (zs.length - kk) 0)) := by
          have := Lib.putRow_setCells (Value.int .u16) (Sort.ahead w n) b off (List.replicate (zs.length - kk) (0 : Int)) dk kk (by simp; omega)
          rw [List.map_replicate] at this
          rw [HW.out]
          exact this
        rw [hw]
        have hsz := lay_size (List.replicate (zs.length - kk) (0 : Int)) dk kk
        refine ⟨_, rfl, ⟨_, c, by rw [hl]; rfl, by omega, .inr ⟨b, off, rfl, hb, fun j hj => ?_⟩⟩, below_CW hb hblk⟩
        have hj' : j < kk := by have : j < (outs ts zs).length := by simpa using hj
                                omega
        obtain ⟨h1, h2⟩ := CW.holds n HH.out (dk := Lib.lay dk kk (List.replicate (zs.length - kk) 0)) (by simp; omega) j (by omega)
        refine ⟨?_, h2⟩
        rw [h1]
        have h3 := hI.low j hj'
        rw [List.take_length] at h3
        obtain ⟨h5, h6⟩ := List.getElem?_eq_some_iff.1 h3
        rw [getElem!_pos (outs ts zs).toArray j (by simpa using h5)]
        have h7 : (Lib.lay dk kk (List.replicate (zs.length - kk) 0))[j]? = dk[j]? := by rw [Lib.lay_get? _ _ _ _ (by simp; omega), if_neg (by omega)]
        rw [getElem!_pos (Lib.lay dk kk (List.replicate (zs.length - kk) 0)) j (by omega)]
        rw [getElem!_pos dk j (by omega)] at h6
        rw [Array.getElem?_eq_getElem (by omega), Array.getElem?_eq_getElem (by omega)] at h7
        congr 1
        rw [Option.some.inj h7]
        simpa using h6.symm
  · have hne : ∀ m, m ≤ zs.length → ∀ j, j < m → ts.contains (zs.getD j 0) = false := by
      intro m
      induction m with
      | zero => intro _ j hj; omega
      | succ m ih =>
        intro hm j hj
        by_cases e : j = m
        · subst e
          cases h : ts.contains (zs.getD j 0)
          · rfl
          · exact absurd ⟨j, by omega, h, ih (by omega)⟩ hany
        · exact ih (by omega) j (by omega)
    have he := Lib.hid (fstIn_miss ts zs (hne zs.length (Nat.le_refl _)))
    have ho := Lib.hid (show outs ts zs = zs by have := outs_all ts zs zs.length (Nat.le_refl _) (hne zs.length (Nat.le_refl _)); rwa [List.take_length] at this)
    clear hany hne
    go_enter Tryd.func42, Tryd.ntmps42
    go_wp2_with (go_at_call 56; refine (so_IndexFuncS _ _ zs ts _ HF.out (HU.out w (Below.refl _ _)) (by omega) (by omega)).mono ?_; rw [he.out]; rintro e w' ⟨rfl, hw⟩; obtain rfl : w = w' := hw.symm)
    go_ret
    exact ⟨_, rfl, by rw [ho.out]; exact HN.out, Below.refl _ _⟩
end

section
open Go.RowKit

theorem compact_le (zs : List Int) : (Lib.compact zs).length ≤ zs.length := by
  unfold Lib.compact Lib.compactUpTo
  rw [List.length_map]
  exact Nat.le_trans (List.length_filter_le _ _) (by simp)
theorem canon_le (zs : List Int) : (canon zs).length ≤ zs.length := by
  have := compact_le (zs.mergeSort fun x y => decide (x ≤ y))
  unfold canon
  simpa using this
theorem outs_le (ts zs : List Int) : (outs ts zs).length ≤ zs.length := List.length_filter_le _ _

set_option maxHeartbeats 1000000 in
theorem so_Without (v u : Value) (zs ts : List Int) (w : World) (h : FS w v zs) (hu : FS w u ts) (hbig : zs.length * 2 ≤ 281474976710656) (hbig2 : ts.length ≤ 4611686018427387904) :
    Calls Tryd.prog 24 #[v, u] w fun e w' => ∃ v', e = .returned v' ∧ FN w.heap.size w' v' (canon (outs ts zs)) ∧ Below w.heap.size w w' := by
  have hF := Lib.hid h
  have hU := Lib.hid hu
  have hol := outs_le ts zs
  clear h hu
  go_enter Tryd.func24, Tryd.ntmps24
  go_wp2_with (go_at_call 39; refine (so_CloneS _ zs _ hF.out hbig).mono ?_; rintro e w1 ⟨v1, rfl, h1, b1⟩)
  have H1 := Lib.hid h1
  have B1 := Lib.hid b1
  clear h1 b1
  go_wp2_with (go_at_call 42; refine (so_DeleteFunc w.heap.size _ _ zs ts _ H1.out (fun w' hb => hU.out.keep (B1.out.trans hb)) (by omega) hbig2).mono ?_; rintro e w2 ⟨v2, rfl, h2, b2⟩)
  have H2 := Lib.hid h2
  have B2 := Lib.hid (B1.out.trans b2)
  have hs2 := B2.out.size
  clear h2 b2
  go_wp2_with (go_at_call 25; refine (so_Of _ _ _ H2.out.fs (by omega)).mono ?_; rintro e w3 ⟨v3, rfl, h3, b3⟩)
  have H3 := Lib.hid (h3.mono hs2)
  have B3 := Lib.hid (B2.out.trans (b3.mono hs2))
  clear h3 b3
  go_wp2
  go_ret
  exact ⟨v3, rfl, H3.out, B3.out⟩

/-- Groups of flags. -/
def GS (w : World) (g : Value) (gs : List (Value × List Int)) : Prop :=
  ∃ (p : Option Addr) (c : Nat), g = .slice p gs.length c ∧ (gs.length = 0 ∨ ∃ b off, p = some ⟨b, off, none⟩ ∧ ∀ j (hj : j < gs.length), w.cell? ⟨b, off + j, none⟩ = some gs[j].1) ∧ ∀ x ∈ gs, FS w x.1 x.2

def foldOuts (zs : List Int) (tss : List (List Int)) : List Int := tss.foldl (fun s t => canon (outs t s)) (canon zs)
theorem foldOuts_snoc (zs : List Int) (tss : List (List Int)) (t : List Int) : foldOuts zs (tss ++ [t]) = canon (outs t (foldOuts zs tss)) := by
  unfold foldOuts; rw [List.foldl_append]; rfl

set_option maxHeartbeats 2000000 in
set_option maxRecDepth 100000 in
theorem so_FoldWithout (v g : Value) (zs : List Int) (gs : List (Value × List Int)) (w : World) (h : FS w v zs) (hg : GS w g gs) (hbig : zs.length * 2 ≤ 281474976710656) (hn : gs.length ≤ 4611686018427387904) (hb2 : ∀ x ∈ gs, x.2.length * 2 ≤ 281474976710656) :
    Calls Tryd.prog 21 #[.func (.func 24) #[] #[], v, g] w fun e w' => ∃ v', e = .returned v' ∧ FN w.heap.size w' v' (canon (foldOuts zs (gs.map (·.2)))) ∧ Below w.heap.size w w' := by
  have hF := Lib.hid h
  have hB2 := Lib.hid hb2
  obtain ⟨p, c, rfl, hs, hall⟩ := hg
  have hS := Lib.hid hs
  have hA := Lib.hid hall
  clear h hb2 hs hall
  have hcl := canon_le zs
  have hnf : ∀ (w : World), (Go.binOp .eql 45 (.func (.func 24) #[] #[]) .nilFunc).run Tryd.prog w = .ok (.bool false) w := fun _ => by kernel_rfl
  go_enter Tryd.func21, Tryd.ntmps21
  go_wp2_with (go_at_call 25; refine (so_Of _ zs _ hF.out hbig).mono ?_; rintro e w1 ⟨v1, rfl, h1, b1⟩)
  have H1 := Lib.hid h1
  have B1 := Lib.hid b1
  clear h1 b1
  go_wp2
  go_loopw [7, 9, 17] (fun s _ i wr => ∃ k : Nat, k ≤ gs.length ∧ i = .int .i64 k ∧ Hid (FS wr s (foldOuts zs ((gs.take k).map (·.2)))) ∧ Hid (Below w.heap.size w wr) ∧ (foldOuts zs ((gs.take k).map (·.2))).length ≤ zs.length) (fun _ _ i _ => gs.length - (intOf i).toNat)
  case atStart => exact ⟨0, Nat.zero_le _, rfl, H1.out.fs, B1.out, hcl⟩
  case round =>
    obtain ⟨k, hk, rfl, HV, HB, hl⟩ := hrel
    by_cases hlt : k < gs.length
    · obtain ⟨b, off, rfl, hc⟩ := hS.out.resolve_left (by omega)
      have c0 := hc k hlt
      have hm : gs[k] ∈ gs := List.getElem_mem hlt
      have hcell : wr.cell? ⟨b, off + k, none⟩ = some gs[k].1 := (HB.out.cell (World.block_lt_of_cell? w _ c0)).trans c0
      have HG := Lib.hid ((hA.out _ hm).keep HB.out)
      have hgl := hB2.out _ hm
      have hsn : (gs.take (k + 1)).map (·.2) = (gs.take k).map (·.2) ++ [gs[k].2] := by
        rw [List.take_add_one, List.map_append, List.getElem?_eq_getElem hlt]; rfl
      have HSN := Lib.hid hsn
      clear hc c0 hsn hm
      generalize hgk : gs[k] = gk at *
      obtain ⟨gv, gt⟩ := gk
      clear hgk
      dsimp only at hcell hgl
      generalize hfo : foldOuts zs ((gs.take k).map (·.2)) = cur at *
      have HFO := Lib.hid hfo
      clear hfo
      obtain ⟨P, N, C, hgv⟩ : ∃ P N C, gv = .slice P N C := by obtain ⟨p', c', e', _⟩ := HG.out; exact ⟨_, _, _, e'⟩
      subst hgv
      go_wp2_with (go_at_call 39; refine (so_CloneS _ cur _ HV.out (by omega)).mono ?_; rintro e w2 ⟨v2, rfl, h2, b2⟩)
      have H2 := Lib.hid h2.fs
      have B2 := Lib.hid b2
      clear h2 b2
      go_wp2_with (go_at_call 40; refine (so_CloneF _ gt _ (HG.out.keep B2.out) hgl).mono ?_; rintro e w3 ⟨v3, rfl, h3, b3⟩)
      have H3 := Lib.hid h3.fs
      have H2' := Lib.hid (H2.out.keep b3)
      have B3 := Lib.hid (B2.out.trans (b3.mono B2.out.size))
      clear h3 b3
      go_wp2_with (go_at_call 24; refine (so_Without _ _ cur gt _ H2'.out H3.out (by omega) (by omega)).mono ?_; rintro e w4 ⟨v4, rfl, h4, b4⟩)
      have H4 := Lib.hid h4.fs
      have B4 := Lib.hid (B3.out.trans (b4.mono B3.out.size))
      have hsz := HB.out.size
      clear h4 b4
      go_wp2
      go_roundw
      case rel =>
        refine ⟨k + 1, by omega, by go_num, ?_, HB.out.trans (B4.out.mono hsz), ?_⟩
        · show FS _ _ _
          rw [HSN.out, foldOuts_snoc, HFO.out]; exact H4.out
        · rw [HSN.out, foldOuts_snoc, HFO.out]
          exact Nat.le_trans (canon_le _) (Nat.le_trans (outs_le _ _) hl)
      case measure => simp [intOf]; omega
    · have hke : k = gs.length := by omega
      subst hke
      rw [List.take_length] at HV hl
      have hsz := HB.out.size
      go_wp2_with (go_at_call 25; refine (so_Of _ _ _ HV.out (by omega)).mono ?_; rintro e w2 ⟨v2, rfl, h2, b2⟩)
      have H2 := Lib.hid (h2.mono hsz)
      have B2 := Lib.hid (HB.out.trans (b2.mono hsz))
      clear h2 b2
      go_wp2
      go_ret
      exact ⟨v2, rfl, H2.out, B2.out⟩
end

section
open Go.RowKit

/-- A slice that is written out. -/
theorem fs_built (w : World) (zs : List Int) (cur : Array Value) (n : Nat) (ty : TypeId) (hc : cur = (zs.map (Value.int .u16)).toArray) (hn : n = zs.length) : FS (w.alloc (.cells cur ty)) (.slice (some ⟨w.heap.size, 0, none⟩) n n) zs := by
  subst hc hn
  refine ⟨_, zs.length, rfl, Nat.le_refl _, .inr ⟨w.heap.size, 0, rfl, fun j hj => ?_⟩⟩
  simp [List.getD, hj]

set_option maxHeartbeats 1000000 in
set_option maxRecDepth 100000 in
theorem so_twin (v : Value) (zs : List Int) (w : World) (h : FS w v zs) (hbig : zs.length * 2 ≤ 140737488355328) :
    Calls Tryd.prog 20 #[v] w fun e w' => ∃ v', e = .returned v' ∧ FN w.heap.size w' v' zs ∧ Below w.heap.size w w' := by
  obtain ⟨p, c, rfl, hcap, hs⟩ := h
  obtain ⟨i0, hi, hz0, hz1, hz2⟩ := info_parts flag_info
  have hr := run_append_src (P := Tryd.prog) w w.heap.size 22 22 34 i0 (.int .u16 0) 1 2 Tryd.underlying22 hi hz0 hz1 hz2 rfl (by decide) (.slice none 0 0) 0 [] (World.ownsRow_nil _ _ _ _)
    p zs.length c (zs.map (Value.int .u16)) (by simp) (FS.news hs _ (Below.refl _ w)) (by intro u hu; obtain ⟨x, _, rfl⟩ := List.mem_map.1 hu; rfl) (by unfold maxLen; omega) (by omega) (Nat.le_refl _)
  obtain ⟨v', w1, hrun, hown, hg, -⟩ := hr
  have HR := Lib.hid hrun
  have HO := Lib.hid hown
  have HG := Lib.hid hg
  clear hrun hown hg hs
  go_enter Tryd.func20, Tryd.ntmps20
  go_wp2_with (at_builtin; refine Lib.wpList_append_run _ rfl _ _ _ _ rfl _ _ rfl rfl _ _ HR.out ?_)
  go_ret
  exact ⟨v', rfl, FN.of_own (e := 34) (by simpa using HO.out), (Below.refl _ w).grown HG.out (Nat.le_refl _) (by intro k hk; simp [Value.ownBlock] at hk)⟩
end

section
theorem mem_compactUpTo (d : Array Int) : ∀ (m : Nat) (x : Int), x ∈ Lib.compactUpTo d m ↔ ∃ j, j < m ∧ d[j]! = x
  | 0, x => by simp [Lib.compactUpTo]
  | m + 1, x => by
    rw [Lib.compactUpTo_succ, List.mem_append, mem_compactUpTo d m x]
    constructor
    · rintro (⟨j, hj, e⟩ | h)
      · exact ⟨j, by omega, e⟩
      · cases hk : Lib.keeps d m
        · rw [hk] at h; simp at h
        · rw [hk] at h; simp at h; exact ⟨m, by omega, h.symm⟩
    · rintro ⟨j, hj, e⟩
      by_cases hjm : j = m
      · subst hjm
        cases hk : Lib.keeps d j
        · left
          have : ¬ (j = 0 ∨ d[j]! ≠ d[j - 1]!) := by simpa [Lib.keeps] using hk
          exact ⟨j - 1, by omega, by
            have h2 : d[j]! = d[j - 1]! := by
              by_cases h3 : d[j]! = d[j - 1]!
              · exact h3
              · exact absurd (.inr h3) this
            rw [← h2]; exact e⟩
        · right; simp [e]
      · exact .inl ⟨j, by omega, e⟩
theorem mem_compact (zs : List Int) (x : Int) : x ∈ Lib.compact zs ↔ x ∈ zs := by
  unfold Lib.compact
  rw [mem_compactUpTo]
  constructor
  · rintro ⟨j, hj, rfl⟩
    rw [getElem!_pos zs.toArray j (by simpa using hj)]
    simp
  · intro h
    obtain ⟨j, hj, rfl⟩ := List.getElem_of_mem h
    exact ⟨j, hj, by rw [getElem!_pos zs.toArray j (by simpa using hj)]; simp⟩
theorem mem_canon (zs : List Int) (x : Int) : x ∈ canon zs ↔ x ∈ zs := by
  unfold canon
  rw [mem_compact, List.mem_mergeSort]
theorem mem_outs (ts zs : List Int) (x : Int) : x ∈ outs ts zs ↔ x ∈ zs ∧ x ∉ ts := by
  unfold outs
  rw [List.mem_filter]
  simp
theorem contains_iff (zs : List Int) (x : Int) : zs.contains x = true ↔ x ∈ zs := by simp
theorem all_law (zs ts : List Int) : ((canon (foldOuts (canon ts) [zs])).length == 0) = ts.all (fun z => zs.contains z) := by
  rw [Bool.eq_iff_iff]
  have e : foldOuts (canon ts) [zs] = canon (outs zs (canon (canon ts))) := rfl
  rw [e]
  constructor
  · intro h
    have h0 : canon (canon (outs zs (canon (canon ts)))) = [] := List.eq_nil_of_length_eq_zero (by simpa using h)
    rw [List.all_eq_true]
    intro x hx
    rw [contains_iff]
    cases hc : zs.contains x
    · exfalso
      have : x ∈ canon (canon (outs zs (canon (canon ts)))) := by
        rw [mem_canon, mem_canon, mem_outs, mem_canon, mem_canon]
        exact ⟨hx, by simpa using hc⟩
      rw [h0] at this
      cases this
    · simpa using hc
  · intro h
    rw [List.all_eq_true] at h
    have h0 : canon (canon (outs zs (canon (canon ts)))) = [] := by
      rw [List.eq_nil_iff_forall_not_mem]
      intro x hx
      rw [mem_canon, mem_canon, mem_outs, mem_canon, mem_canon] at hx
      exact hx.2 ((contains_iff _ _).1 (h x hx.1))
    rw [h0]; rfl
end

section
theorem sorted_get {zs : List Int} (hs : zs.Pairwise (· ≤ ·)) {i j : Nat} (hij : i ≤ j) (hj : j < zs.length) : zs.toArray[i]! ≤ zs.toArray[j]! := by
  rw [getElem!_pos zs.toArray i (by simp; omega), getElem!_pos zs.toArray j (by simpa using hj)]
  simp only [List.getElem_toArray]
  rcases Nat.lt_or_ge i j with h | h
  · exact List.pairwise_iff_getElem.1 hs i j (by omega) hj h
  · obtain rfl : i = j := by omega
    exact Int.le_refl _
theorem compact_sorted (zs : List Int) (hs : zs.Pairwise (· ≤ ·)) : ∀ m, m ≤ zs.length → (Lib.compactUpTo zs.toArray m).Pairwise (· < ·)
  | 0, _ => by simp [Lib.compactUpTo]
  | m + 1, hm => by
    rw [Lib.compactUpTo_succ, List.pairwise_append]
    refine ⟨compact_sorted zs hs m (by omega), ?_, ?_⟩
    · split <;> simp
    · intro x hx y hy
      cases hk : Lib.keeps zs.toArray m
      · rw [hk] at hy; simp at hy
      · rw [hk] at hy
        obtain rfl : y = zs.toArray[m]! := by simpa using hy
        obtain ⟨j, hj, rfl⟩ := (mem_compactUpTo _ _ _).1 hx
        have hk2 : m = 0 ∨ zs.toArray[m]! ≠ zs.toArray[m - 1]! := by simpa [Lib.keeps] using hk
        have h1 := sorted_get hs (show j ≤ m - 1 by omega) (by omega)
        have h2 := sorted_get hs (show m - 1 ≤ m by omega) (by omega)
        rcases hk2 with h | h <;> omega
theorem canon_sorted (zs : List Int) : (canon zs).Pairwise (· < ·) := by
  refine compact_sorted _ ?_ _ (Nat.le_refl _)
  have := List.pairwise_mergeSort (le := fun x y : Int => decide (x ≤ y)) (by intro a b c; simp; omega) (by intro a b; simp; omega) zs
  exact this.imp (by intro a b h; simpa using h)
theorem sorted_ext : ∀ (a b : List Int), a.Pairwise (· < ·) → b.Pairwise (· < ·) → (∀ x, x ∈ a ↔ x ∈ b) → a = b
  | [], [], _, _, _ => rfl
  | [], y :: b, _, _, h => absurd ((h y).2 (by simp)) (by simp)
  | x :: a, [], _, _, h => absurd ((h x).1 (by simp)) (by simp)
  | x :: a, y :: b, ha, hb, h => by
    rw [List.pairwise_cons] at ha hb
    have e : x = y := by
      have h1 := (h x).1 (by simp)
      have h2 := (h y).2 (by simp)
      rw [List.mem_cons] at h1 h2
      rcases h1 with h1 | h1
      · exact h1
      · rcases h2 with h2 | h2
        · exact h2.symm
        · have := hb.1 x h1; have := ha.1 y h2; omega
    subst e
    rw [sorted_ext a b ha.2 hb.2 (fun z => by
      have hz := h z
      rw [List.mem_cons, List.mem_cons] at hz
      constructor
      · intro hm
        rcases hz.1 (.inr hm) with rfl | h2
        · exact absurd (ha.1 z hm) (by omega)
        · exact h2
      · intro hm
        rcases hz.2 (.inr hm) with rfl | h2
        · exact absurd (hb.1 z hm) (by omega)
        · exact h2)]
theorem canon_ext {a b : List Int} (h : ∀ x, x ∈ a ↔ x ∈ b) : canon a = canon b :=
  sorted_ext _ _ (canon_sorted a) (canon_sorted b) (fun x => by rw [mem_canon, mem_canon]; exact h x)
theorem canon_idem (a : List Int) : canon (canon a) = canon a := canon_ext (fun x => mem_canon a x)
theorem sorted_nodup {a : List Int} (h : a.Pairwise (· < ·)) : a.Nodup := h.imp (by intro x y hxy e; omega)
theorem nodup_len : ∀ (a b : List Int), a.Nodup → (∀ x ∈ a, x ∈ b) → a.length ≤ b.length
  | [], _, _, _ => by simp
  | x :: a, b, ha, h => by
    rw [List.nodup_cons] at ha
    have h1 := nodup_len a (b.erase x) ha.2 (fun y hy => (List.mem_erase_of_ne (fun e => ha.1 (by rw [← e]; exact hy))).2 (h y (by simp [hy])))
    have h2 := List.length_erase_of_mem (h x (by simp))
    have h3 : 0 < b.length := List.length_pos_of_mem (h x (by simp))
    simp only [List.length_cons]
    omega
theorem count_law (x y : List Int) : (canon (canon (x ++ y))).length = (canon x).length + (canon (canon (outs x y))).length := by
  rw [canon_idem, canon_idem]
  have hn : (canon x ++ canon (outs x y)).Nodup := by
    rw [List.nodup_append]
    refine ⟨sorted_nodup (canon_sorted _), sorted_nodup (canon_sorted _), fun a ha b hb e => ?_⟩
    subst e
    rw [mem_canon] at ha hb
    exact ((mem_outs _ _ _).1 hb).2 ha
  have h : ∀ a, a ∈ canon (x ++ y) ↔ a ∈ canon x ++ canon (outs x y) := by
    intro a
    rw [List.mem_append, mem_canon, mem_canon, mem_canon, mem_outs, List.mem_append]
    constructor
    · rintro (h | h)
      · exact .inl h
      · by_cases hx : a ∈ x
        · exact .inl hx
        · exact .inr ⟨h, hx⟩
    · rintro (h | h)
      · exact .inl h
      · exact .inr h.1
  have h1 := nodup_len _ _ (sorted_nodup (canon_sorted (x ++ y))) (fun a ha => (h a).1 ha)
  have h2 := nodup_len _ _ hn (fun a ha => (h a).2 ha)
  rw [List.length_append] at h1 h2
  omega
/-- With, either way round. -/
theorem with_law (x y : List Int) : canon (canon (x ++ y)) = canon (canon (y ++ x)) := by
  rw [canon_idem, canon_idem]
  exact canon_ext (fun a => by simp [or_comm])
theorem all_both (x y : List Int) : y.all (fun z => (canon (x ++ y)).contains z) = true := by
  rw [List.all_eq_true]
  intro z hz
  rw [contains_iff, mem_canon]
  exact List.mem_append_right _ hz
theorem rest_any (x y : List Int) : y.any (fun z => (canon (outs y (canon (x ++ y)))).contains z) = false := by
  rw [List.any_eq_false]
  intro z hz
  rw [contains_iff, mem_canon, mem_outs]
  exact fun h => h.2 hz
theorem rest_law (x y : List Int) : canon (canon (outs y (canon (x ++ y)))) = canon (canon (outs y x)) := by
  rw [canon_idem, canon_idem]
  refine canon_ext (fun a => ?_)
  rw [mem_outs, mem_outs, mem_canon, List.mem_append]
  constructor
  · rintro ⟨h | h, h2⟩
    · exact ⟨h, h2⟩
    · exact absurd h h2
  · rintro ⟨h, h2⟩
    exact ⟨.inl h, h2⟩
theorem canon_nil : canon [] = [] := by simp [canon, Lib.compact, Lib.compactUpTo]
theorem none_left (b : List Int) : (canon (canon (outs b b))).length = 0 := by
  have : outs b b = [] := by
    rw [List.eq_nil_iff_forall_not_mem]
    intro a ha
    exact ((mem_outs _ _ _).1 ha).2 ((mem_outs _ _ _).1 ha).1
  rw [this, canon_nil, canon_nil]; rfl
theorem two_law : (canon (canon [4, 9, 4])).length = 2 := by
  have : canon (canon [4, 9, 4]) = [4, 9] := by
    refine sorted_ext _ _ (canon_sorted _) (by decide) (fun x => ?_)
    rw [mem_canon, mem_canon]
    simp only [List.mem_cons, List.not_mem_nil, or_false]
    constructor
    · rintro (h | h | h) <;> simp [h]
    · rintro (h | h) <;> simp [h]
  rw [this]; rfl
end

section
open Go.RowKit

theorem take_snoc_eq {xs ys : List Int} {k : Nat} (h1 : k < xs.length) (h2 : k < ys.length) (h : xs.take k = ys.take k) (e : xs.getD k 0 = ys.getD k 0) : xs.take (k + 1) = ys.take (k + 1) := by
  rw [List.take_add_one, List.take_add_one, h, List.getElem?_eq_getElem h1, List.getElem?_eq_getElem h2]
  simp only [List.getD, List.getElem?_eq_getElem h1, List.getElem?_eq_getElem h2, Option.getD_some] at e
  rw [e]

set_option maxHeartbeats 2000000 in
set_option maxRecDepth 100000 in
theorem so_Equal (v u : Value) (xs ys : List Int) (w : World) (h : FS w v xs) (hu : FS w u ys) (hbig : xs.length ≤ 9223372036854775807) (hbig2 : ys.length ≤ 9223372036854775807) :
    Calls Tryd.prog 46 #[v, u] w fun e w' => e = .returned (.bool (decide (xs = ys))) ∧ ∃ n, w' = w.drewN n := by
  obtain ⟨p, c, rfl, hcap, hs⟩ := h
  obtain ⟨p2, c2, rfl, hcap2, hs2⟩ := hu
  have hA := Lib.hid hs
  have hB := Lib.hid hs2
  clear hs hs2
  by_cases hn : xs.length = ys.length
  · have HN := Lib.hid hn
    rw [← hn]
    clear hn
    go_enter Tryd.func46, Tryd.ntmps46
    go_wp2_with fail
    go_loopw [5, 13] (fun _ i wr => ∃ k m : Nat, k ≤ xs.length ∧ i = .int .i64 k ∧ wr = w.drewN m ∧ Hid (xs.take k = ys.take k)) (fun _ i _ => xs.length - (intOf i).toNat)
    case atStart => exact ⟨0, 0, Nat.zero_le _, rfl, rfl, rfl⟩
    case round =>
      obtain ⟨k, m, hk, rfl, rfl, HR⟩ := hrel
      by_cases hlt : k < xs.length
      · have hlt2 : k < ys.length := by have := HN.out; omega
        obtain ⟨b, off, rfl, hc⟩ := hA.out.resolve_left (by omega)
        obtain ⟨b2, off2, rfl, hc2⟩ := hB.out.resolve_left (by omega)
        have c1 := hc k hlt
        have c2' := hc2 k hlt2
        clear hc hc2
        generalize hx : xs.getD k 0 = x at c1
        generalize hy : ys.getD k 0 = y at c2'
        have HX := Lib.hid hx
        have HY := Lib.hid hy
        clear hx hy
        cases hq : (x == y)
        · have hfin := Lib.hid (show decide (xs = ys) = false by
            rw [decide_eq_false_iff_not]; rintro rfl
            rw [HX.out] at HY
            rw [HY.out] at hq; simp at hq)
          go_wp2_with fail
          go_quiet (fail)
          go_wp2_with fail
          go_ret
          exact ⟨by rw [hfin.out]; rfl, _, by rw [World.drewN_drewN]⟩
        · have he := Lib.hid (take_snoc_eq hlt hlt2 HR.out (by rw [HX.out, HY.out]; simpa using hq))
          go_wp2_with fail
          go_quiet (fail)
          go_wp2_with fail
          go_roundw
          case rel => exact ⟨k + 1, _, by omega, by go_num, rfl, he.out⟩
          case measure => simp [intOf]; omega
      · have hke : k = xs.length := by omega
        subst hke
        have hfin := Lib.hid (show decide (xs = ys) = true by
          have h1 := HR.out
          have h2 := HN.out
          rw [List.take_length, h2, List.take_length] at h1
          rw [h1]; simp)
        go_wp2_with fail
        go_ret
        exact ⟨by rw [hfin.out]; rfl, _, rfl⟩
  · have hfin := Lib.hid (show decide (xs = ys) = false by
      rw [decide_eq_false_iff_not]; rintro rfl; exact hn rfl)
    have hne : ((xs.length : Int) == (ys.length : Int)) = false := by
      rw [beq_eq_false_iff_ne]; omega
    go_enter Tryd.func46, Tryd.ntmps46
    go_wp2_with fail
    go_ret
    exact ⟨by rw [hfin.out]; rfl, 0, rfl⟩

theorem below_draws {B : Nat} {a w : World} (h : Below B a w) (n : Nat) : Below B a (w.drewN n) := ⟨h.os, h.tape, h.output, h.size, h.block⟩

set_option maxHeartbeats 1000000 in
theorem so_SetEqual (v u : Value) (xs ys : List Int) (w : World) (h : FS w v xs) (hu : FS w u ys) (hbig : xs.length * 2 ≤ 281474976710656) (hbig2 : ys.length * 2 ≤ 281474976710656) :
    Calls Tryd.prog 30 #[v, u] w fun e w' => e = .returned (.bool (decide (canon xs = canon ys))) ∧ Below w.heap.size w w' := by
  have hF := Lib.hid h
  have hU := Lib.hid hu
  clear h hu
  generalize hr : decide (canon xs = canon ys) = r
  have HR := Lib.hid hr
  clear hr
  have l1 := Lib.hid (Nat.le_trans (canon_le xs) (show xs.length ≤ 9223372036854775807 by omega))
  have l2 := Lib.hid (Nat.le_trans (canon_le ys) (show ys.length ≤ 9223372036854775807 by omega))
  go_enter Tryd.func30, Tryd.ntmps30
  go_wp2_with (go_at_call_of 25 v; refine (so_Of _ xs _ hF.out hbig).mono ?_; rintro e w1 ⟨v1, rfl, h1, b1⟩)
  have H1 := Lib.hid h1.fs
  have B1 := Lib.hid b1
  have hs1 := b1.size
  clear h1 b1
  go_wp2_with (go_at_call_of 25 u; refine (so_Of _ ys _ (hU.out.keep B1.out) hbig2).mono ?_; rintro e w2 ⟨v2, rfl, h2, b2⟩)
  have H2 := Lib.hid h2.fs
  have K1 := Lib.hid (H1.out.keep b2)
  have B2 := Lib.hid (B1.out.trans (b2.mono hs1))
  clear h2 b2
  go_wp2_with (go_at_call 46; refine (so_Equal _ _ _ _ _ K1.out H2.out l1.out l2.out).mono ?_; rw [HR.out]; rintro e w3 ⟨rfl, hw⟩; have B3 := Lib.hid (show Below w.heap.size w w3 by obtain ⟨n, rfl⟩ := hw; exact below_draws B2.out n); clear hw)
  go_wp2
  go_ret
  exact ⟨rfl, B3.out⟩

set_option maxHeartbeats 1000000 in
theorem so_Count (v : Value) (xs : List Int) (w : World) (h : FS w v xs) (hbig : xs.length * 2 ≤ 281474976710656) :
    Calls Tryd.prog 29 #[v] w fun e w' => e = .returned (.int .i64 ((canon xs).length : Nat)) ∧ Below w.heap.size w w' := by
  have hF := Lib.hid h
  clear h
  go_enter Tryd.func29, Tryd.ntmps29
  go_wp2_with (go_at_call 25; refine (so_Of _ xs _ hF.out hbig).mono ?_; rintro e w1 ⟨v1, rfl, ⟨p1, c1, rfl, -⟩, b1⟩; have B1 := Lib.hid b1; clear b1)
  go_ret
  exact ⟨rfl, B1.out⟩
end

section
open Go.RowKit

/-- What Concat has put together so far. -/
def CatS (B total : Nat) (w : World) (s : Value) (cur : List Int) : Prop :=
  (total = 0 ∧ s = .slice none 0 0 ∧ cur = []) ∨ ∃ g cap, s = .slice (some ⟨g, 0, none⟩) cur.length cap ∧ total ≤ cap ∧ w.ownsRow B 34 1 s cur.length (cur.map (Value.int .u16))
theorem CatS.fn {B total : Nat} {w : World} {s : Value} {cur : List Int} (h : CatS B total w s cur) : FN B w s cur := by
  rcases h with ⟨_, rfl, rfl⟩ | ⟨g, cap, rfl, _, h⟩
  · exact FN.nil _ _ _ _
  · exact FN.of_own (e := 34) h
theorem CatS.step {B total : Nat} {w : World} {s : Value} {cur gt : List Int} (h : CatS B total w s cur) (hB : B ≤ w.heap.size) (P : Option Addr) (C : Nat) (ty : TypeId)
    (hsrc : gt.length = 0 ∨ ∃ b off, P = some ⟨b, off, none⟩ ∧ ∀ j, j < gt.length → w.cell? ⟨b, off + j, none⟩ = some (.int .u16 (gt.getD j 0))) (hfit : cur.length + gt.length ≤ total) :
    ∃ v' w', (Builtin.append_ #[23, 23] ty #[s, .slice P gt.length C]).run Tryd.prog w = .ok v' w' ∧ CatS B total w' v' (cur ++ gt) ∧ Below B w w' := by
  obtain ⟨i0, hi, hz0, hz1, hz2⟩ := info_parts flag_info
  rcases h with ⟨h0, rfl, rfl⟩ | ⟨g, cap, rfl, hc, h⟩
  · have hg : gt = [] := List.eq_nil_of_length_eq_zero (by simp at hfit; omega)
    subst hg
    exact ⟨_, w, run_append_zero w B 23 ty 34 i0 1 Tryd.underlying23 hi _ 0 [] (World.ownsRow_nil _ _ _ _) P C, .inl ⟨h0, rfl, rfl⟩, Below.refl _ _⟩
  · obtain ⟨w', hrun, hown, hg⟩ := run_append_src_fits (P := Tryd.prog) w B 23 ty 34 i0 1 Tryd.underlying23 hi hz1 g cur.length cap _ h P gt.length C (gt.map (Value.int .u16)) (by simp) (FS.news hsrc _ (Below.refl _ w)) (by intro u hu; obtain ⟨x, _, rfl⟩ := List.mem_map.1 hu; rfl) (by omega)
    refine ⟨_, w', hrun, .inr ⟨g, cap, by rw [List.length_append], hc, ?_⟩, (Below.refl _ w).grown hg hB (fun k hk => (h.lt k (by simpa [Value.ownBlock] using hk)).1)⟩
    rw [List.length_append, List.map_append]
    exact hown

set_option maxHeartbeats 2000000 in
set_option maxRecDepth 100000 in
theorem so_Grow (n : Nat) (w : World) (hbig : n * 2 ≤ 281474976710656) :
    Calls Tryd.prog 55 #[.slice none 0 0, .int .i64 n] w fun e w' => ∃ v', e = .returned v' ∧ CatS w.heap.size n w' v' [] ∧ Below w.heap.size w w' := by
  obtain ⟨i0, hi, hz0, hz1, hz2⟩ := info_parts flag_info
  rcases Nat.eq_zero_or_pos n with h0 | h0
  · subst h0
    go_enter Tryd.func55, Tryd.ntmps55
    go_wp2
    go_ret
    exact ⟨_, rfl, .inl ⟨rfl, rfl, rfl⟩, Below.refl _ _⟩
  · have hr := Lib.hid (Lib.run_append_nil_zeros (P := Tryd.prog) w 23 3 23 34 i0 (.int .u16 0) .i64 .i64 Tryd.underlying23 Tryd.underlying3 hi hz0 n h0 (by omega) (by omega) (by rw [hz2]; omega))
    have hcm := Lib.hid (grownCap_le_maxLen w n 0 34 (by unfold maxLen; omega))
    have hcg := grownCap_ge w n 0 34
    generalize hcap : grownCap w n 0 34 = cap at *
    clear hcap
    go_enter Tryd.func55, Tryd.ntmps55
    go_wp2_with (at_builtin; refine Lib.wpList_append_run _ rfl _ _ _ _ rfl _ _ rfl rfl _ _ hr.out ?_)
    go_ret
    refine ⟨_, rfl, ?_, ?_⟩
    · have := World.ownsRow_made (base := w.heap.size) (e := 34) (size := 1) w.drew (Builtin.zeroCells (Value.int .u16 0).cells n ++ Builtin.zeroCells (Value.int .u16 0).cells (cap - n)) cap (Nat.le_refl _) hcm.out (by rw [Array.size_append, size_zeroCells, size_zeroCells, show (Value.int IntKind.u16 0).cells.size = 1 from rfl]; omega)
      exact .inr ⟨w.heap.size, cap, rfl, hcg, this⟩
    · exact ((Below.refl w.heap.size w).drew).alloc (Nat.le_refl _) _

/-- All the groups' flags. -/
def joinG (gs : List (Value × List Int)) : List Int := gs.flatMap (·.2)
theorem joinG_snoc (gs : List (Value × List Int)) (k : Nat) (h : k < gs.length) : joinG (gs.take (k + 1)) = joinG (gs.take k) ++ gs[k].2 := by
  unfold joinG
  rw [List.take_add_one, List.flatMap_append, List.getElem?_eq_getElem h]
  simp
theorem joinG_le (gs : List (Value × List Int)) (k : Nat) : (joinG (gs.take k)).length ≤ (joinG gs).length := by
  conv => rhs; rw [← List.take_append_drop k gs]
  unfold joinG
  rw [List.flatMap_append, List.length_append]
  omega

set_option maxHeartbeats 4000000 in
set_option maxRecDepth 100000 in
theorem so_Concat (g : Value) (gs : List (Value × List Int)) (w : World) (hg : GS w g gs) (hn : gs.length ≤ 4611686018427387904) (hbig : (joinG gs).length * 2 ≤ 281474976710656) :
    Calls Tryd.prog 41 #[g] w fun e w' => ∃ v', e = .returned v' ∧ FN w.heap.size w' v' (joinG gs) ∧ Below w.heap.size w w' := by
  obtain ⟨p, c, rfl, hs, hall⟩ := hg
  have hS := Lib.hid hs
  have hA := Lib.hid hall
  clear hs hall
  go_enter Tryd.func41, Tryd.ntmps41
  go_wp2
  go_loop [3, 5, 11] (fun s _ i => ∃ k : Nat, k ≤ gs.length ∧ i = .int .i64 k ∧ s = .int .i64 ((joinG (gs.take k)).length : Nat)) (fun _ _ i => gs.length - (intOf i).toNat)
  case atStart => exact ⟨0, Nat.zero_le _, rfl, rfl⟩
  case round =>
    obtain ⟨k, hk, rfl, rfl⟩ := hrel
    by_cases hlt : k < gs.length
    · obtain ⟨b, off, rfl, hc⟩ := hS.out.resolve_left (by omega)
      have c0 := hc k hlt
      have hm : gs[k] ∈ gs := List.getElem_mem hlt
      have hG := hA.out _ hm
      have hj := joinG_snoc gs k hlt
      have hle := joinG_le gs (k + 1)
      have hle0 := joinG_le gs k
      have hjl : (joinG (gs.take (k + 1))).length = (joinG (gs.take k)).length + gs[k].2.length := by rw [hj, List.length_append]
      have HJ := Lib.hid hjl
      clear hc hm hj hjl
      generalize hgk : gs[k] = gk at *
      obtain ⟨gv, gt⟩ := gk
      clear hgk
      dsimp only at c0 hG
      obtain ⟨P, C, rfl, -⟩ := hG
      have HL := HJ.out
      dsimp only at HL
      generalize ha : (joinG (gs.take k)).length = a at *
      generalize hb : (joinG (gs.take (k + 1))).length = b1 at *
      have HLL := Lib.hid HL
      clear HL HJ
      have hab : a + gt.length ≤ 140737488355328 := by have := HLL.out; omega
      have hpos : ¬ ((a : Int) + (gt.length : Int) < 0) := by omega
      go_wp2
      go_roundw
      case rel => exact ⟨k + 1, by omega, by go_num, by rw [hb, HLL.out]; go_num⟩
      case measure => simp [intOf]; omega
    · have hke : k = gs.length := by omega
      subst hke
      rw [List.take_length]
      go_wp2_with (go_at_call 55; refine (so_Grow _ _ hbig).mono ?_; rintro e w1 ⟨v1, rfl, h1, b1⟩; have H1 := Lib.hid h1; have B1 := Lib.hid b1; clear h1 b1)
      go_loopw [6, 8, 27] (fun s _ i wr => ∃ k : Nat, k ≤ gs.length ∧ i = .int .i64 k ∧ Hid (CatS w.heap.size (joinG gs).length wr s (joinG (gs.take k))) ∧ Hid (Below w.heap.size w wr)) (fun _ _ i _ => gs.length - (intOf i).toNat)
      case atStart => exact ⟨0, Nat.zero_le _, rfl, H1.out, B1.out⟩
      case round =>
        obtain ⟨k, hk, rfl, HO, HB⟩ := hrel
        by_cases hlt : k < gs.length
        · obtain ⟨b, off, rfl, hc⟩ := hS.out.resolve_left (by omega)
          have c0 := hc k hlt
          have hcell : wr.cell? ⟨b, off + k, none⟩ = some gs[k].1 := (HB.out.cell (World.block_lt_of_cell? w _ c0)).trans c0
          have hm : gs[k] ∈ gs := List.getElem_mem hlt
          have hG := (hA.out _ hm).keep HB.out
          have HJ := Lib.hid (joinG_snoc gs k hlt)
          have hle := joinG_le gs (k + 1)
          clear hc hm c0
          generalize hgk : gs[k] = gk at *
          obtain ⟨gv, gt⟩ := gk
          clear hgk
          dsimp only at hcell hG
          obtain ⟨P, C, rfl, hcap, hsrc⟩ := hG
          have HSR := Lib.hid hsrc
          clear hsrc
          have hlen : (joinG (gs.take k)).length + gt.length ≤ (joinG gs).length := by
            have := HJ.out
            dsimp only at this
            rw [this, List.length_append] at hle
            exact hle
          have hsz := HB.out.size
          obtain ⟨v', w2, hrun, hcat, hb2⟩ := HO.out.step hsz P C 23 HSR.out hlen
          have HR := Lib.hid hrun
          have HW := Lib.hid hcat
          have HG := Lib.hid (HB.out.trans hb2)
          clear hrun hcat hb2
          go_wp2_with (at_builtin; refine Lib.wpList_append_run _ rfl _ _ _ _ rfl _ _ rfl rfl _ _ HR.out ?_)
          go_roundw
          case rel =>
            refine ⟨k + 1, by omega, by go_num, ?_, HG.out⟩
            show CatS _ _ _ _ _
            have := HJ.out
            dsimp only at this
            rw [this]
            exact HW.out
          case measure => simp [intOf]; omega
        · have hke : k = gs.length := by omega
          subst hke
          rw [List.take_length] at HO
          go_wp2
          go_ret
          exact ⟨_, rfl, HO.out.fn, HB.out⟩

set_option maxHeartbeats 1000000 in
set_option maxRecDepth 100000 in
theorem so_With (v u : Value) (zs ts : List Int) (w : World) (h : FS w v zs) (hu : FS w u ts) (hbig : (zs.length + ts.length) * 2 ≤ 281474976710656) :
    Calls Tryd.prog 22 #[v, u] w fun e w' => ∃ v', e = .returned v' ∧ FN w.heap.size w' v' (canon (zs ++ ts)) ∧ Below w.heap.size w w' := by
  have hF := Lib.hid h
  have hU := Lib.hid hu
  obtain ⟨p, c, rfl, hcap, -⟩ := h
  obtain ⟨p2, c2, rfl, hcap2, -⟩ := hu
  have hg := Lib.hid (show GS (w.alloc (.cells #[.slice p zs.length c, .slice p2 ts.length c2] 23)) (.slice (some ⟨w.heap.size, 0, none⟩) 2 2) [(.slice p zs.length c, zs), (.slice p2 ts.length c2, ts)] from
    ⟨_, 2, rfl, .inr ⟨w.heap.size, 0, rfl, fun j hj => by
      have : j = 0 ∨ j = 1 := by simp at hj; omega
      rcases this with rfl | rfl <;> simp⟩, fun x hx => by
      have : x = (.slice p zs.length c, zs) ∨ x = (.slice p2 ts.length c2, ts) := by simpa using hx
      rcases this with rfl | rfl
      · exact hF.out.keep ((Below.refl _ _).alloc (Nat.le_refl _) _)
      · exact hU.out.keep ((Below.refl _ _).alloc (Nat.le_refl _) _)⟩)
  have hj := Lib.hid (show joinG [((Value.slice p zs.length c), zs), ((Value.slice p2 ts.length c2), ts)] = zs ++ ts by simp [joinG])
  have hjl := Lib.hid (show (joinG [((Value.slice p zs.length c), zs), ((Value.slice p2 ts.length c2), ts)]).length * 2 ≤ 281474976710656 by rw [hj.out, List.length_append]; exact hbig)
  go_enter Tryd.func22, Tryd.ntmps22
  go_wp2_with (go_at_call 41; refine (so_Concat _ _ _ hg.out (by simp) hjl.out).mono ?_; rw [hj.out]; rintro e w1 ⟨v1, rfl, h1, b1⟩; have H1 := Lib.hid h1.fs; have B1 := Lib.hid (((Below.refl w.heap.size w).alloc (Nat.le_refl _) _).trans (b1.mono (by simp))); clear h1 b1)
  have hs1 := B1.out.size
  go_wp2_with (go_at_call 25; refine (so_Of _ _ _ H1.out (by rw [List.length_append]; exact hbig)).mono ?_; rintro e w2 ⟨v2, rfl, h2, b2⟩; have H2 := Lib.hid (h2.mono hs1); have B2 := Lib.hid (B1.out.trans (b2.mono hs1)); clear h2 b2)
  go_wp2
  go_ret
  exact ⟨v2, rfl, H2.out, B2.out⟩
end
end Go.Proofs.YtgcnfebifopdnaaDoor
