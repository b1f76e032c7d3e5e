/-
  slices.Compact over flags: what stands in the row behind it.
-/
import Derived.Test.YtgcnfebifopdnaaDoorRows
import Derived.Test.YtgcnfebifopdnaaDoorFLA
import Derived.Lib.SlicesCompact
import Derived.Deep.QuietTactic
import Derived.BigQuiet
namespace Go.Proofs.YtgcnfebifopdnaaDoor
open Go.RowKit

/-- The world where the row holds dk, so many draws on. -/
def CW (w : World) (b off n : Nat) (dk : Array Int) : World := Sort.putRow (Value.int .u16) (Sort.ahead w n) b off dk
theorem CW.store {w : World} {b off n : Nat} {dk : Array Int} (m i : Nat) (hi : i < dk.size) (x : Int) : ((CW w b off n dk).drewN m).setCell ⟨b, off + i, none⟩ (.int .u16 x) = CW w b off (n + m) (dk.setIfInBounds i x) := by
  unfold CW
  rw [putRow_drewN]
  exact Sort.putRow_set (Value.int .u16) (Sort.ahead w (n + m)) b off dk i x hi
theorem CW.more {w wr : World} {b off n : Nat} {dk : Array Int} (h : wr = CW w b off n dk) (m : Nat) : wr.drewN m = CW w b off (n + m) dk := by
  subst h
  exact putRow_drewN _ _ _ _ _ _ _
theorem CW.set {w wr : World} {b off n : Nat} {dk : Array Int} (h : wr = CW w b off n dk) (m i : Nat) (hi : i < dk.size) (x : Int) : (wr.drewN m).setCell ⟨b, off + i, none⟩ (.int .u16 x) = CW w b off (n + m) (dk.setIfInBounds i x) := by
  subst h
  exact CW.store m i hi x
theorem CW.set' {w wr : World} {b off n : Nat} {dk : Array Int} (h : wr = CW w b off n dk) (m i : Nat) (hi : i < dk.size) (x : Int) : (wr.setCell ⟨b, off + i, none⟩ (.int .u16 x)).drewN m = CW w b off (n + m) (dk.setIfInBounds i x) := CW.set h m i hi x
theorem CW.start {w : World} {b off : Nat} {d : Array Int} (n : Nat) (h : Sort.Holds (Value.int .u16) w b off d) : w.drewN n = CW w b off n d := (Sort.putRow_self _ _ _ _ _ (Sort.holds_ahead _ w n b off d h)).symm
theorem CW.holds {w : World} {b off : Nat} {d dk : Array Int} (n : Nat) (h : Sort.Holds (Value.int .u16) w b off d) (hs : dk.size = d.size) : Sort.Holds (Value.int .u16) (CW w b off n dk) b off dk := Sort.holds_putRow _ _ _ _ d dk (Sort.holds_ahead _ w n b off d h) hs

set_option maxHeartbeats 4000000 in
set_option maxRecDepth 1000000 in
theorem so_Compact_arr (b off c : Nat) (d : Array Int) (w : World) (hH : Sort.Holds (Value.int .u16) w b off d) (hsz : d.size ≤ 4611686018427387904) (hcap : d.size ≤ c) :
    Calls Tryd.prog 44 #[.slice (some ⟨b, off, none⟩) d.size c] w fun e w' =>
      ∃ (n : Nat) (dk : Array Int), e = .returned (.slice (some ⟨b, off, none⟩) (Lib.compactUpTo d d.size).length c) ∧ w' = CW w b off n dk ∧ dk.size = d.size ∧ ∀ j, j < (Lib.compactUpTo d d.size).length → (Lib.compactUpTo d d.size)[j]? = some dk[j]! := by
  have HH := Lib.hid hH
  have hall : ∀ n, (∀ j, j < d.size → Lib.keeps d j = true) → (Lib.compactUpTo d d.size).length = d.size ∧ w.drewN n = CW w b off n d ∧ ∀ j, j < (Lib.compactUpTo d d.size).length → (Lib.compactUpTo d d.size)[j]? = some d[j]! := by
    intro n hk
    have e : Lib.compactUpTo d d.size = d.toList := by rw [Lib.compactUpTo_all d _ hk, Lib.range_map_get]
    rw [e]
    exact ⟨by simp, CW.start n hH, fun j hj => by simp at hj; simp [hj, getElem!_pos]⟩
  have HA := Lib.hid hall
  clear hall hH
  by_cases h2 : d.size < 2
  · go_enter Tryd.func44, Tryd.ntmps44
    go_wp2
    go_ret
    obtain ⟨e1, e2, e3⟩ := HA.out 0 (fun j hj => Lib.keeps_lt_one d j (by omega))
    exact ⟨0, d, by rw [e1]; rfl, e2, rfl, e3⟩
  · go_enter Tryd.func44, Tryd.ntmps44
    go_wp2
    go_loopw [3] (fun i wr => ∃ k n : Nat, 1 ≤ k ∧ k ≤ d.size ∧ i = .int .i64 k ∧ wr = w.drewN n ∧ Hid (∀ j, j < k → Lib.keeps d j = true)) (fun i _ => d.size - (intOf i).toNat)
    case atStart => exact ⟨1, 0, Nat.le_refl _, by omega, rfl, rfl, Lib.keeps_lt_one d⟩
    case round =>
      obtain ⟨k, n, hk1, hk, rfl, rfl, HK⟩ := hrel
      by_cases hlt : k < d.size
      · obtain ⟨c1, -⟩ := HH.out k hlt
        obtain ⟨c0, -⟩ := HH.out (k - 1) (by omega)
        generalize hx : d[k]! = x at c1
        generalize hy : d[k - 1]! = y at c0
        have HX := Lib.hid hx
        have HY := Lib.hid hy
        clear hx hy
        cases hq : (x == y)
        · have hkp := Lib.hid (Lib.keeps_pos (d := d) (m := k) (by rw [HX.out, HY.out]; simpa using hq))
          go_wp2_with fail
          go_quiet (fail)
          go_wp2
          go_roundw
          case rel => exact ⟨k + 1, _, by omega, by omega, by go_num, rfl, fun j hj => (by
            by_cases e : j = k
            · subst e; exact hkp.out
            · exact HK.out j (by omega))⟩
          case measure => simp [intOf]; omega
        · have hkn := Lib.hid (Lib.keeps_neg (d := d) (m := k) (by omega) (by rw [HX.out, HY.out]; simpa using hq))
          go_wp2_with fail
          go_quiet (fail)
          go_wp2
          clear c0 c1
          go_loopw [3, 5] (fun i i2 wr => ∃ (kk k2 n2 : Nat) (dk : Array Int), i = .int .i64 kk ∧ i2 = .int .i64 k2 ∧ 1 ≤ k2 ∧ k + k2 ≤ d.size ∧ Hid (wr = CW w b off n2 dk) ∧ Hid (Lib.CompInv d (k + k2) kk dk)) (fun _ i2 _ => d.size - (k + (intOf i2).toNat))
          case atStart => exact ⟨k, 1, _, d, rfl, rfl, Nat.le_refl _, by omega, CW.start _ HH.out, Lib.CompInv.start HK.out hkn.out⟩
          case round =>
            obtain ⟨kk, k2, n2, dk, rfl, rfl, h1, hle, HW, HI⟩ := hrel
            have hkk := HI.out.lt
            have hds := HI.out.size
            have hHk : Sort.Holds (Value.int .u16) wr b off dk := by rw [HW.out]; exact CW.holds _ HH.out hds
            have HHk := Lib.hid hHk
            clear hHk
            by_cases hlt2 : k + k2 < d.size
            · obtain ⟨cm, -⟩ := HHk.out (k + k2) (by omega)
              obtain ⟨cp, -⟩ := HHk.out (k + k2 - 1) (by omega)
              obtain ⟨ck, fk⟩ := HHk.out kk (by omega)
              rw [HI.out.high (k + k2) (by omega), show off + (k + k2) = off + k + k2 by omega] at cm
              rw [HI.out.high (k + k2 - 1) (by omega), show off + (k + k2 - 1) = off + k + (k2 - 1) by omega] at cp
              generalize hu : d[k + k2]! = u at cm
              generalize hv : d[k + k2 - 1]! = v at cp
              generalize dk[kk]! = old at ck
              have HU := Lib.hid hu
              have HV := Lib.hid hv
              clear hu hv
              cases hq2 : (u == v)
              · have hkp := Lib.hid (Lib.keeps_pos (d := d) (m := k + k2) (by rw [HU.out, HV.out]; simpa using hq2))
                go_wp2_with fail
                go_quiet (fail)
                go_wp2
                go_roundw
                case rel => exact ⟨kk + 1, k2 + 1, _, dk.setIfInBounds kk u, by go_num, by go_num, by omega, by omega, CW.set' HW.out _ kk (by omega) u, by have := HI.out.keep hlt2 hkp.out; rwa [HU.out] at this⟩
                case measure => simp [intOf]; omega
              · have hkn2 := Lib.hid (Lib.keeps_neg (d := d) (m := k + k2) (by omega) (by rw [HU.out, HV.out]; simpa using hq2))
                go_wp2_with fail
                go_quiet (fail)
                go_wp2
                go_roundw
                case rel => exact ⟨kk, k2 + 1, _, dk, rfl, by go_num, by omega, by omega, CW.more HW.out _, HI.out.skip hkn2.out⟩
                case measure => simp [intOf]; omega
            · have hend : k + k2 = d.size := by omega
              have hcl : ∀ ty, (Builtin.clear_ #[22] ty #[.slice (some ⟨b, off + kk, none⟩) (d.size - kk) (c - kk)]).run Tryd.prog wr = .ok (.tuple #[]) (wr.setCells b (off + kk) (List.replicate (d.size - kk) (.int .u16 0))) :=
                fun ty => Lib.run_clear_slice wr _ _ ty _ Tryd.underlying22 Tryd.zeroValue34 rfl rfl b (off + kk) _ _ (by omega) (fun j hj => by rw [show off + kk + j = off + (kk + j) by omega, (HHk.out (kk + j) (by omega)).1]; rfl) (fun j hj => by rw [show off + kk + j = off + (kk + j) by omega]; exact (HHk.out (kk + j) (by omega)).2)
              go_wp2
              go_ret
              have hI := HI.out
              rw [hend] at hI
              refine ⟨n2, (Lib.compactUpTo d d.size ++ List.replicate (d.size - kk) 0).toArray, by rw [hI.len]; rfl, ?_, by have := hI.len; simp; omega, fun j hj => ?_⟩
              · rw [← hI.done 0, HW.out]
                have := Lib.putRow_setCells (Value.int .u16) (Sort.ahead w n2) b off (List.replicate (d.size - kk) (0 : Int)) dk kk (by simp; omega)
                rw [List.map_replicate] at this
                exact this
              · simp [hj, List.getElem?_append_left hj]
      · have hke : k = d.size := by omega
        subst hke
        go_wp2
        go_ret
        obtain ⟨e1, e2, e3⟩ := HA.out n HK.out
        exact ⟨n, d, by rw [e1]; rfl, e2, rfl, e3⟩
end Go.Proofs.YtgcnfebifopdnaaDoor
