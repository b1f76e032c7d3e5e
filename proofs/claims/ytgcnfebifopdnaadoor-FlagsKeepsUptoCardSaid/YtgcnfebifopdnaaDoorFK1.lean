/-
  Of, With, Without: what they answer is a row of one's own, its spare room too.
-/
import Derived.Test.YtgcnfebifopdnaaDoorRows
import Derived.Test.YtgcnfebifopdnaaDoorFR14
import Derived.Test.YtgcnfebifopdnaaDoorGB
namespace Go.Proofs.YtgcnfebifopdnaaDoor
open Go.RowKit

/-- A row of flags of one's own behind B. -/
def RW (B : Nat) (w : World) (v : Value) (zs : List Int) : Prop := w.ownsRow B 34 1 v zs.length (zs.map (Value.int .u16))
theorem RW.fn {B : Nat} {w : World} {v : Value} {zs : List Int} (h : RW B w v zs) : FN B w v zs := FN.of_own (e := 34) h
theorem RW.fs {B : Nat} {w : World} {v : Value} {zs : List Int} (h : RW B w v zs) : FS w v zs := h.fn.fs
theorem RW.mono {B B' : Nat} {w : World} {v : Value} {zs : List Int} (h : RW B w v zs) (hB : B' ≤ B) : RW B' w v zs := own_base h hB
theorem RW.nil (B : Nat) (w : World) : RW B w (.slice none 0 0) [] := World.ownsRow_nil _ _ _ _
theorem RW.cases {B : Nat} {w : World} {v : Value} {zs : List Int} (h : RW B w v zs) : (v = .slice none 0 0 ∧ zs = []) ∨ ∃ g c, v = .slice (some ⟨g, 0, none⟩) zs.length c ∧ B ≤ g ∧ g < w.heap.size := by
  rcases h.2 with ⟨hv, h0⟩ | ⟨g, c, cur, hv, hB, hg, _⟩
  · exact .inl ⟨hv, List.eq_nil_of_length_eq_zero h0⟩
  · refine .inr ⟨g, c, hv, hB, ?_⟩
    rcases Nat.lt_or_ge g w.heap.size with h' | h'
    · exact h'
    · rw [Array.getElem?_eq_none h'] at hg; cases hg

set_option maxHeartbeats 2000000 in
set_option maxRecDepth 100000 in
theorem so_CloneFO (v : Value) (zs : List Int) (w : World) (h : FS w v zs) (hbig : zs.length * 2 ≤ 281474976710656) :
    Calls Tryd.prog 40 #[v] w fun e w' => ∃ v', e = .returned v' ∧ RW w.heap.size w' v' zs ∧ Below w.heap.size w w' := by
  obtain ⟨p, c, rfl, hcap, hs⟩ := h
  obtain ⟨i0, hi, hz0, hz1, hz2⟩ := info_parts flag_info
  have qn : ∀ (w : World) (a : Option Addr) (n c n' c' : Nat), (binOp .eql 22 (.slice a n c) (.slice none n' c')).run Tryd.prog w = .ok (.bool a.isNone) w := fun w a n c n' c' => Lib.run_eql_slice_nil w _ _ a n c n' c' Tryd.underlying22
  have hS := Lib.hid hs
  clear hs
  cases p with
  | none =>
    have h0 : zs = [] := List.eq_nil_of_length_eq_zero (hS.out.resolve_right (by rintro ⟨b, off, hp, _⟩; cases hp))
    clear hS
    subst h0
    go_enter Tryd.func40, Tryd.ntmps40
    go_wp2
    go_ret
    exact ⟨_, rfl, RW.nil _ _, Below.refl _ _⟩
  | some ad =>
    have hr := run_append_new (P := Tryd.prog) (w.alloc (.cells #[] 34)) w.heap.size 22 22 34 i0 (.int .u16 0) 2 Tryd.underlying22 hi hz0 hz1 hz2 rfl w.heap.size (World.ownsRow_made w #[] 0 (Nat.le_refl _) (Nat.zero_le _) rfl) (by simp)
      (some ad) zs.length c (zs.map (Value.int .u16)) (by simp) (FS.news hS.out _ ((Below.refl _ w).alloc (Nat.le_refl _) _)) (by unfold maxLen; omega) hbig
    obtain ⟨v', w1, hrun, hown, hg⟩ := hr
    have HR := Lib.hid hrun
    have HO := Lib.hid hown
    have HG := Lib.hid hg
    clear hrun hown hg hS
    go_enter Tryd.func40, Tryd.ntmps40
    go_wp2_with (at_builtin; refine Lib.wpList_append_run _ rfl _ _ _ _ rfl _ _ rfl rfl _ _ HR.out ?_)
    go_ret
    refine ⟨v', rfl, HO.out, ?_⟩
    exact ((Below.refl _ w).alloc (Nat.le_refl _) _).trans (HG.out.mono (by simp))

/-- A row whose cells were written anew, and which was cut. -/
theorem own_turned {w : World} {B g c n m : Nat} {d : Array Int} {xs : List Value} (h : w.ownsRow B 34 1 (.slice (some ⟨g, 0, none⟩) n c) n xs) (hd : d.size = n) (k : Nat) (hk : k ≤ n) (os : Array Obj) :
    (Sort.grow (Sort.putRow (Value.int .u16) (Sort.ahead w m) g 0 d) os).ownsRow B 34 1 (.slice (some ⟨g, 0, none⟩) k c) k ((d.toList.take k).map (Value.int .u16)) := by
  rcases h.2 with ⟨hv, _⟩ | ⟨g', cap, cur, hv, hB, hg, hn, hm, hs, ht⟩
  · cases hv
  · cases hv
    have hlt : g < w.heap.size := by
      rcases Nat.lt_or_ge g w.heap.size with h' | h'
      · exact h'
      · rw [Array.getElem?_eq_none h'] at hg; cases hg
    refine ⟨by simp; omega, .inr ⟨g, c, Sort.putCells (Value.int .u16) 0 d cur, rfl, hB, ?_, by omega, hm, by simp [Sort.putCells, hs], ?_⟩⟩
    · rw [Sort.heap_grow_old _ _ (by simpa using hlt)]
      simp [Sort.putRow, Sort.mapBlock, Sort.ahead, Array.getElem?_modify, hg, Sort.onCells]
    · refine List.ext_getElem? (fun j => ?_)
      by_cases hj : j < k
      · rw [List.getElem?_take_of_lt (by omega), List.getElem?_map, List.getElem?_take_of_lt hj]
        have hjc : j < cur.size := by omega
        have hjd : j < d.size := by omega
        simp [Sort.putCells, hjc, hjd]
      · rw [List.getElem?_eq_none (by simp; omega), List.getElem?_eq_none (by simp; omega)]

theorem so_SortO (B : Nat) (v : Value) (zs : List Int) (w : World) (h : RW B w v zs) (hsz : zs.length < 4611686018427387904) :
    Calls Tryd.prog 43 #[v] w fun e w' => e = .returned (.tuple #[]) ∧ RW B w' v (zs.mergeSort fun x y => decide (x ≤ y)) ∧ Below B w w' := by
  have hl : (zs.mergeSort fun x y => decide (x ≤ y)).length = zs.length := by simp
  rcases h.cases with ⟨rfl, rfl⟩ | ⟨g, c, rfl, hB, hlt⟩
  · refine (so_Sort_int_nil none 0 w).mono ?_
    rintro e w' ⟨rfl, rfl⟩
    exact ⟨rfl, by simpa using RW.nil B _, Below.refl _ _⟩
  · by_cases h0 : zs.length = 0
    · have hz : zs = [] := List.eq_nil_of_length_eq_zero h0
      subst hz
      refine (so_Sort_int_nil _ c w).mono ?_
      rintro e w' ⟨rfl, rfl⟩
      exact ⟨rfl, by simpa using h, Below.refl _ _⟩
    · have hH : Sort.Holds (Value.int .u16) w g 0 zs.toArray := by
        obtain ⟨p, c', hv, _, h2⟩ := h.fn
        rcases h2 with h2 | ⟨b, off, hp, _, hH⟩
        · omega
        · cases hv; cases hp; exact hH
      refine (so_slices_Sort g 0 c zs w hH hlt hsz).mono ?_
      rintro e w' ⟨rfl, n, os, rfl⟩
      refine ⟨rfl, ?_, below_row _ _ _ _ _ _ _ _ hB hlt⟩
      have := own_turned (m := n) (d := (zs.mergeSort fun x y => decide (x ≤ y)).toArray) h (by simp) zs.length (Nat.le_refl _) os
      unfold RW
      rw [hl]
      rw [List.take_of_length_le (by simp)] at this
      exact this

theorem so_CompactO (B : Nat) (v : Value) (zs : List Int) (w : World) (h : RW B w v zs) (hsz : zs.length ≤ 4611686018427387904) :
    Calls Tryd.prog 44 #[v] w fun e w' => ∃ v', e = .returned v' ∧ RW B w' v' (Lib.compact zs) ∧ Below B w w' := by
  have he : ∀ (q : Option Addr) (c : Nat), zs = [] → v = .slice q 0 c → Calls Tryd.prog 44 #[.slice q 0 c] w fun e w' => ∃ v', e = .returned v' ∧ RW B w' v' (Lib.compact zs) ∧ Below B w w' := by
    intro q c h0 hv
    subst h0
    subst hv
    have HH := Lib.hid h
    clear h
    go_enter Tryd.func44, Tryd.ntmps44
    go_wp2
    go_ret
    exact ⟨_, rfl, HH.out, Below.refl _ _⟩
  rcases h.cases with ⟨rfl, h0⟩ | ⟨g, c, hv, hB, hlt⟩
  · exact he none 0 h0 rfl
  · by_cases h0 : zs.length = 0
    · have hz : zs = [] := List.eq_nil_of_length_eq_zero h0
      rw [h0] at hv
      have := he _ c hz hv
      rwa [← hv] at this
    · subst hv
      obtain ⟨hH, hcap⟩ : Sort.Holds (Value.int .u16) w g 0 zs.toArray ∧ zs.length ≤ c := by
        obtain ⟨p, c', hv, hc, h2⟩ := h.fn
        rcases h2 with h2 | ⟨b, off, hp, _, hH⟩
        · omega
        · cases hv; cases hp; exact ⟨hH, hc⟩
      have hC := so_Compact_arr g 0 c zs.toArray w hH (by simpa using hsz) (by simpa using hcap)
      rw [List.size_toArray] at hC
      refine hC.mono ?_
      rintro e w' ⟨n, dk, rfl, rfl, hs, hlow⟩
      have hle : (Lib.compactUpTo zs.toArray zs.length).length ≤ zs.length := by
        unfold Lib.compactUpTo
        rw [List.length_map]
        exact Nat.le_trans (List.length_filter_le _ _) (by simp)
      have hs' : dk.size = zs.length := by simpa using hs
      refine ⟨_, rfl, ?_, below_CW hB hlt⟩
      have h5 := own_turned (m := n) (d := dk) h hs' _ hle #[]
      rw [Sort.grow_empty] at h5
      have e : dk.toList.take (Lib.compactUpTo zs.toArray zs.length).length = Lib.compact zs := by
        refine List.ext_getElem? (fun j => ?_)
        by_cases hj : j < (Lib.compactUpTo zs.toArray zs.length).length
        · rw [List.getElem?_take_of_lt hj]
          have h6 : (Lib.compact zs)[j]? = some dk[j]! := hlow j hj
          have hjd : j < dk.size := by omega
          rw [h6, getElem!_pos dk j hjd]
          simp [hjd]
        · rw [List.getElem?_eq_none (by simp; omega), List.getElem?_eq_none (by show (Lib.compactUpTo zs.toArray zs.toArray.size).length ≤ j; simpa using hj)]
      rw [e] at h5
      exact h5

set_option maxHeartbeats 1000000 in
theorem so_OfO (v : Value) (zs : List Int) (w : World) (h : FS w v zs) (hbig : zs.length * 2 ≤ 281474976710656) :
    Calls Tryd.prog 25 #[v] w fun e w' => ∃ v', e = .returned v' ∧ RW w.heap.size w' v' (canon zs) ∧ Below w.heap.size w w' := by
  have hF := Lib.hid h
  obtain ⟨p, c, rfl, hcap, -⟩ := h
  go_enter Tryd.func25, Tryd.ntmps25
  go_wp2_with (go_at_call 40; refine (so_CloneFO _ zs _ hF.out hbig).mono ?_; rintro e w1 ⟨v1, rfl, h1, b1⟩)
  have H1 := Lib.hid h1
  have B1 := Lib.hid b1
  clear h1 b1
  go_wp2_with (go_at_call 43; refine (so_SortO w.heap.size _ zs _ H1.out (by omega)).mono ?_; rintro e w2 ⟨rfl, h2, b2⟩)
  have H2 := Lib.hid h2
  have B2 := Lib.hid b2
  clear h2 b2
  go_wp2_with (go_at_call 44; refine (so_CompactO w.heap.size _ _ _ H2.out (by simp; omega)).mono ?_; rintro e w3 ⟨v3, rfl, h3, b3⟩)
  have H3 := Lib.hid h3
  have B3 := Lib.hid b3
  clear h3 b3
  go_wp2
  go_ret
  exact ⟨v3, rfl, H3.out, B1.out.trans (B2.out.trans B3.out)⟩

set_option maxHeartbeats 2000000 in
set_option maxRecDepth 100000 in
theorem so_WithO (v u : Value) (zs ts : List Int) (w : World) (h : FS w v zs) (hu : FS w u ts) (hbig : (zs.length + ts.length) * 2 ≤ 281474976710656) :
    Calls Tryd.prog 22 #[v, u] w fun e w' => ∃ v', e = .returned v' ∧ RW w.heap.size w' v' (canon (zs ++ ts)) ∧ Below w.heap.size w w' := by
  have hF := Lib.hid h
  have hU := Lib.hid hu
  obtain ⟨p, c, rfl, hcap, -⟩ := h
  obtain ⟨p2, c2, rfl, hcap2, -⟩ := hu
  have hg := Lib.hid (show GS (w.alloc (.cells #[.slice p zs.length c, .slice p2 ts.length c2] 23)) (.slice (some ⟨w.heap.size, 0, none⟩) 2 2) [(.slice p zs.length c, zs), (.slice p2 ts.length c2, ts)] from
    ⟨_, 2, rfl, .inr ⟨w.heap.size, 0, rfl, fun j hj => by
      have : j = 0 ∨ j = 1 := by simp at hj; omega
      rcases this with rfl | rfl <;> simp⟩, fun x hx => by
      have : x = (.slice p zs.length c, zs) ∨ x = (.slice p2 ts.length c2, ts) := by simpa using hx
      rcases this with rfl | rfl
      · exact hF.out.keep ((Below.refl _ _).alloc (Nat.le_refl _) _)
      · exact hU.out.keep ((Below.refl _ _).alloc (Nat.le_refl _) _)⟩)
  have hj := Lib.hid (show joinG [((Value.slice p zs.length c), zs), ((Value.slice p2 ts.length c2), ts)] = zs ++ ts by simp [joinG])
  have hjl := Lib.hid (show (joinG [((Value.slice p zs.length c), zs), ((Value.slice p2 ts.length c2), ts)]).length * 2 ≤ 281474976710656 by rw [hj.out, List.length_append]; exact hbig)
  go_enter Tryd.func22, Tryd.ntmps22
  go_wp2_with (go_at_call 41; refine (so_Concat _ _ _ hg.out (by simp) hjl.out).mono ?_; rw [hj.out]; rintro e w1 ⟨v1, rfl, h1, b1⟩; have H1 := Lib.hid h1.fs; have B1 := Lib.hid (((Below.refl w.heap.size w).alloc (Nat.le_refl _) _).trans (b1.mono (by simp))); clear h1 b1)
  have hs1 := B1.out.size
  go_wp2_with (go_at_call 25; refine (so_OfO _ _ _ H1.out (by rw [List.length_append]; exact hbig)).mono ?_; rintro e w2 ⟨v2, rfl, h2, b2⟩; have H2 := Lib.hid (h2.mono hs1); have B2 := Lib.hid (B1.out.trans (b2.mono hs1)); clear h2 b2)
  go_wp2
  go_ret
  exact ⟨v2, rfl, H2.out, B2.out⟩

set_option maxHeartbeats 2000000 in
set_option maxRecDepth 100000 in
theorem so_WithoutO (v u : Value) (zs ts : List Int) (w : World) (h : FS w v zs) (hu : FS w u ts) (hbig : zs.length * 2 ≤ 281474976710656) (hbig2 : ts.length ≤ 4611686018427387904) :
    Calls Tryd.prog 24 #[v, u] w fun e w' => ∃ v', e = .returned v' ∧ RW w.heap.size w' v' (canon (outs ts zs)) ∧ Below w.heap.size w w' := by
  have hF := Lib.hid h
  have hU := Lib.hid hu
  have hol := outs_le ts zs
  clear h hu
  go_enter Tryd.func24, Tryd.ntmps24
  go_wp2_with (go_at_call 39; refine (so_CloneS _ zs _ hF.out hbig).mono ?_; rintro e w1 ⟨v1, rfl, h1, b1⟩)
  have H1 := Lib.hid h1
  have B1 := Lib.hid b1
  clear h1 b1
  go_wp2_with (go_at_call 42; refine (so_DeleteFunc w.heap.size _ _ zs ts _ H1.out (fun w' hb => hU.out.keep (B1.out.trans hb)) (by omega) hbig2).mono ?_; rintro e w2 ⟨v2, rfl, h2, b2⟩)
  have H2 := Lib.hid h2
  have B2 := Lib.hid (B1.out.trans b2)
  have hs2 := B2.out.size
  clear h2 b2
  go_wp2_with (go_at_call 25; refine (so_OfO _ _ _ H2.out.fs (by omega)).mono ?_; rintro e w3 ⟨v3, rfl, h3, b3⟩)
  have H3 := Lib.hid (h3.mono hs2)
  have B3 := Lib.hid (B2.out.trans (b3.mono hs2))
  clear h3 b3
  go_wp2
  go_ret
  exact ⟨v3, rfl, H3.out, B3.out⟩
end Go.Proofs.YtgcnfebifopdnaaDoor
