/-
  slices.DeleteFunc over a row of flags, the function a set's Has; Without.
-/
import Derived.Test.YtgcnfebifopdnaaDoorRows
import Derived.Test.YtgcnfebifopdnaaDoorFL4
import Derived.Test.YtgcnfebifopdnaaDoorFL5
namespace Go.Proofs.YtgcnfebifopdnaaDoor
open Go.RowKit

theorem CW.set0 {w wr : World} {b off n : Nat} {dk : Array Int} (h : wr = CW w b off n dk) (i : Nat) (hi : i < dk.size) (x : Int) : wr.setCell ⟨b, off + i, none⟩ (.int .u16 x) = CW w b off n (dk.setIfInBounds i x) := by
  subst h
  exact Sort.putRow_set (Value.int .u16) (Sort.ahead w n) b off dk i x hi
theorem lay_size {α : Type} : ∀ (xs : List α) (d : Array α) (k : Nat), (Lib.lay d k xs).size = d.size
  | [], _, _ => rfl
  | x :: r, d, k => by rw [Lib.lay, lay_size r]; simp

/-- The flags that are not in ts. -/
def outs (ts zs : List Int) : List Int := zs.filter fun z => !ts.contains z
theorem outs_snoc (ts zs : List Int) (m : Nat) (hm : m < zs.length) : outs ts (zs.take (m + 1)) = outs ts (zs.take m) ++ if ts.contains (zs.getD m 0) then [] else [zs.getD m 0] := by
  unfold outs
  rw [List.take_add_one, List.filter_append]
  congr 1
  simp only [List.getD, List.getElem?_eq_getElem hm, Option.getD_some, Option.toList]
  cases h : ts.contains zs[m] <;> simp_all
theorem outs_all (ts zs : List Int) (m : Nat) (hm : m ≤ zs.length) (h : ∀ j, j < m → ts.contains (zs.getD j 0) = false) : outs ts (zs.take m) = zs.take m := by
  unfold outs
  rw [List.filter_eq_self]
  intro x hx
  obtain ⟨j, hj, rfl⟩ := List.getElem_of_mem hx
  have hj' : j < m := by simp at hj; omega
  have := h j hj'
  have e : zs.getD j 0 = zs[j]'(by omega) := by simp [List.getD, show j < zs.length by omega]
  rw [e] at this
  rw [List.getElem_take, this]; rfl

/-- m places have been looked at; what stays of them, k flags, lies at the row's head. -/
structure DelInv (ts zs : List Int) (m k : Nat) (dk : Array Int) : Prop where
  size : dk.size = zs.length
  len : (outs ts (zs.take m)).length = k
  lt : k < m
  le : m ≤ zs.length
  low : ∀ j, j < k → (outs ts (zs.take m))[j]? = some dk[j]!
  high : ∀ j, k ≤ j → dk[j]! = zs.getD j 0
theorem getD_bang (zs : List Int) (j : Nat) : zs.toArray[j]! = zs.getD j 0 := by
  by_cases h : j < zs.length
  · rw [getElem!_pos zs.toArray j (by simpa using h)]; simp [List.getD, h]
  · rw [getElem!_neg zs.toArray j (by simpa using h)]; simp [List.getD, show zs.length ≤ j by omega]
theorem DelInv.start {ts zs : List Int} {k : Nat} (hk : k < zs.length) (hin : ts.contains (zs.getD k 0) = true) (h : ∀ j, j < k → ts.contains (zs.getD j 0) = false) : DelInv ts zs (k + 1) k zs.toArray where
  size := by simp
  len := by rw [outs_snoc _ _ _ hk, hin, outs_all ts zs k (by omega) h]; simp [Nat.min_eq_left (Nat.le_of_lt hk)]
  lt := by omega
  le := by omega
  low := fun j hj => by
    rw [outs_snoc _ _ _ hk, hin, outs_all ts zs k (by omega) h, getD_bang]
    simp [hj, List.getD, show j < zs.length by omega]
  high := fun j _ => getD_bang zs j
theorem DelInv.skip {ts zs : List Int} {m k : Nat} {dk : Array Int} (h : DelInv ts zs m k dk) (hm : m < zs.length) (hin : ts.contains (zs.getD m 0) = true) : DelInv ts zs (m + 1) k dk where
  size := h.size
  len := by rw [outs_snoc _ _ _ hm, hin]; simpa using h.len
  lt := by have := h.lt; omega
  le := by omega
  low := fun j hj => by rw [outs_snoc _ _ _ hm, hin]; simpa using h.low j hj
  high := h.high
theorem DelInv.keep {ts zs : List Int} {m k : Nat} {dk : Array Int} (h : DelInv ts zs m k dk) (hm : m < zs.length) (hin : ts.contains (zs.getD m 0) = false) : DelInv ts zs (m + 1) (k + 1) (dk.setIfInBounds k (zs.getD m 0)) where
  size := by simpa using h.size
  len := by rw [outs_snoc _ _ _ hm, hin]; simp [h.len]
  lt := by have := h.lt; omega
  le := by omega
  low := fun j hj => by
    have hl := h.len
    have hs := h.size
    have hlt := h.lt
    rw [outs_snoc _ _ _ hm, hin]
    by_cases e : j = k
    · subst e
      rw [Sort.getElem!_set_same _ _ _ (by omega), List.getElem?_append_right (by omega), hl]
      simp
    · rw [Sort.getElem!_set_other _ _ _ _ e, List.getElem?_append_left (by omega)]
      exact h.low j (by omega)
  high := fun j hj => by rw [Sort.getElem!_set_other _ _ _ _ (by omega)]; exact h.high j (by omega)

set_option maxHeartbeats 4000000 in
set_option maxRecDepth 1000000 in
theorem so_DeleteFunc (B : Nat) (v u : Value) (zs ts : List Int) (w : World) (h : FN B w v zs) (hu : ∀ w', Below B w w' → FS w' u ts) (hbig : zs.length ≤ 4611686018427387904) (hbig2 : ts.length ≤ 4611686018427387904) :
    Calls Tryd.prog 42 #[v, .func (.func 27) #[u] #[]] w fun e w' => ∃ v', e = .returned v' ∧ FN B w' v' (outs ts zs) ∧ Below B w w' := by
  have HF := Lib.hid h.fs
  have HN := Lib.hid h
  have HU := Lib.hid hu
  obtain ⟨p, c, rfl, hc, hs⟩ := h
  have HS := Lib.hid hs
  clear hu hs
  by_cases hany : ∃ k, k < zs.length ∧ ts.contains (zs.getD k 0) = true ∧ ∀ j, j < k → ts.contains (zs.getD j 0) = false
  · obtain ⟨k, hk, hin, hne⟩ := hany
    have he := Lib.hid (fstIn_hit ts zs k hk hin hne)
    have HD := Lib.hid (DelInv.start hk hin hne)
    clear hin hne
    obtain ⟨b, off, rfl, hb, hH⟩ := HS.out.resolve_left (by omega)
    have HH := Lib.hid hH
    have hblk : b < w.heap.size := World.block_lt_of_cell? w _ (hH 0 (by simp; omega)).1
    clear hH
    have hk1 : ((k : Int) == -1) = false := by
      rw [beq_eq_false_iff_ne]; omega
    go_enter Tryd.func42, Tryd.ntmps42
    go_wp2_with (go_at_call 56; refine (so_IndexFuncS _ _ zs ts _ HF.out (HU.out w (Below.refl _ _)) (by omega) (by omega)).mono ?_; rw [he.out]; rintro e w' ⟨rfl, hw⟩; obtain rfl : w = w' := hw.symm)
    go_loopw [5, 6, 7] (fun i j _ wr => ∃ (kk m n : Nat) (dk : Array Int), i = .int .i64 kk ∧ j = .int .i64 m ∧ m ≤ zs.length ∧ Hid (wr = CW w b off n dk) ∧ Hid (DelInv ts zs m kk dk)) (fun _ j _ _ => zs.length - (intOf j).toNat)
    case atStart => exact ⟨k, k + 1, 0, zs.toArray, rfl, by go_num, by omega, CW.start 0 HH.out, HD.out⟩
    case round =>
      obtain ⟨kk, m, n, dk, rfl, rfl, hm, HW, HI⟩ := hrel
      have hkk := HI.out.lt
      have hds := HI.out.size
      have hHk : Sort.Holds (Value.int .u16) wr b off dk := by rw [HW.out]; exact CW.holds _ HH.out (by simpa using hds)
      have HHk := Lib.hid hHk
      clear hHk
      have HB := Lib.hid (show Below B w wr by rw [HW.out]; exact below_CW hb hblk)
      by_cases hlt : m < zs.length
      · obtain ⟨cm, -⟩ := HHk.out m (by omega)
        obtain ⟨ck, fk⟩ := HHk.out kk (by omega)
        rw [HI.out.high m (by omega)] at cm
        generalize hz : zs.getD m 0 = z at cm
        have HZ := Lib.hid hz
        clear hz
        generalize dk[kk]! = old at ck
        cases hq : ts.contains z
        · have HQ := Lib.hid hq
          clear hq
          go_wp2_with (go_at_call 27; refine (so_Has _ ts z _ (HU.out _ HB.out) (by omega)).mono ?_; rw [HQ.out]; rintro e w' ⟨rfl, rfl⟩)
          go_roundw
          case rel => exact ⟨kk + 1, m + 1, n, dk.setIfInBounds kk z, by go_num, by go_num, by omega, CW.set0 HW.out kk (by omega) z, by have := HI.out.keep hlt (by rw [HZ.out]; exact HQ.out); rwa [HZ.out] at this⟩
          case measure => simp [intOf]; omega
        · have HQ := Lib.hid hq
          clear hq
          go_wp2_with (go_at_call 27; refine (so_Has _ ts z _ (HU.out _ HB.out) (by omega)).mono ?_; rw [HQ.out]; rintro e w' ⟨rfl, rfl⟩)
          go_roundw
          case rel => exact ⟨kk, m + 1, n, dk, rfl, by go_num, by omega, HW.out, HI.out.skip hlt (by rw [HZ.out]; exact HQ.out)⟩
          case measure => simp [intOf]; omega
      · have hend : m = zs.length := by omega
        have hcl : ∀ ty, (Builtin.clear_ #[23] ty #[.slice (some ⟨b, off + kk, none⟩) (zs.length - kk) (c - kk)]).run Tryd.prog wr = .ok (.tuple #[]) (wr.setCells b (off + kk) (List.replicate (zs.length - kk) (.int .u16 0))) :=
          fun ty => Lib.run_clear_slice wr _ _ ty _ Tryd.underlying23 Tryd.zeroValue34 rfl rfl b (off + kk) _ _ (by omega) (fun j hj => by rw [show off + kk + j = off + (kk + j) by omega, (HHk.out (kk + j) (by omega)).1]; rfl) (fun j hj => by rw [show off + kk + j = off + (kk + j) by omega]; exact (HHk.out (kk + j) (by omega)).2)
        go_wp2
        go_ret
        have hI := HI.out
        rw [hend] at hI
        have hl := hI.len
        rw [List.take_length] at hl
        have hw : wr.setCells b (off + kk) (List.replicate (zs.length - kk) (.int .u16 0)) = CW w b off n (Lib.lay dk kk (List.replicate (zs.length - kk) 0)) := by
          have := Lib.putRow_setCells (Value.int .u16) (Sort.ahead w n) b off (List.replicate (zs.length - kk) (0 : Int)) dk kk (by simp; omega)
          rw [List.map_replicate] at this
          rw [HW.out]
          exact this
        rw [hw]
        have hsz := lay_size (List.replicate (zs.length - kk) (0 : Int)) dk kk
        refine ⟨_, rfl, ⟨_, c, by rw [hl]; rfl, by omega, .inr ⟨b, off, rfl, hb, fun j hj => ?_⟩⟩, below_CW hb hblk⟩
        have hj' : j < kk := by have : j < (outs ts zs).length := by simpa using hj
                                omega
        obtain ⟨h1, h2⟩ := CW.holds n HH.out (dk := Lib.lay dk kk (List.replicate (zs.length - kk) 0)) (by simp; omega) j (by omega)
        refine ⟨?_, h2⟩
        rw [h1]
        have h3 := hI.low j hj'
        rw [List.take_length] at h3
        obtain ⟨h5, h6⟩ := List.getElem?_eq_some_iff.1 h3
        rw [getElem!_pos (outs ts zs).toArray j (by simpa using h5)]
        have h7 : (Lib.lay dk kk (List.replicate (zs.length - kk) 0))[j]? = dk[j]? := by rw [Lib.lay_get? _ _ _ _ (by simp; omega), if_neg (by omega)]
        rw [getElem!_pos (Lib.lay dk kk (List.replicate (zs.length - kk) 0)) j (by omega)]
        rw [getElem!_pos dk j (by omega)] at h6
        rw [Array.getElem?_eq_getElem (by omega), Array.getElem?_eq_getElem (by omega)] at h7
        congr 1
        rw [Option.some.inj h7]
        simpa using h6.symm
  · have hne : ∀ m, m ≤ zs.length → ∀ j, j < m → ts.contains (zs.getD j 0) = false := by
      intro m
      induction m with
      | zero => intro _ j hj; omega
      | succ m ih =>
        intro hm j hj
        by_cases e : j = m
        · subst e
          cases h : ts.contains (zs.getD j 0)
          · rfl
          · exact absurd ⟨j, by omega, h, ih (by omega)⟩ hany
        · exact ih (by omega) j (by omega)
    have he := Lib.hid (fstIn_miss ts zs (hne zs.length (Nat.le_refl _)))
    have ho := Lib.hid (show outs ts zs = zs by have := outs_all ts zs zs.length (Nat.le_refl _) (hne zs.length (Nat.le_refl _)); rwa [List.take_length] at this)
    clear hany hne
    go_enter Tryd.func42, Tryd.ntmps42
    go_wp2_with (go_at_call 56; refine (so_IndexFuncS _ _ zs ts _ HF.out (HU.out w (Below.refl _ _)) (by omega) (by omega)).mono ?_; rw [he.out]; rintro e w' ⟨rfl, hw⟩; obtain rfl : w = w' := hw.symm)
    go_ret
    exact ⟨_, rfl, by rw [ho.out]; exact HN.out, Below.refl _ _⟩
end Go.Proofs.YtgcnfebifopdnaaDoor
