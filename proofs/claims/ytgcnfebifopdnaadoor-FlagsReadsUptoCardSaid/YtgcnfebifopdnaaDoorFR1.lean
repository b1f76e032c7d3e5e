/-
  The law's own helpers at the second seat: ints, is, same.
-/
import Derived.Test.YtgcnfebifopdnaaDoorRows
import Derived.Test.YtgcnfebifopdnaaDoorFLB
import Derived.Test.YtgcnfebifopdnaaDoorFL8
import Derived.Test.YtgcnfebifopdnaaDoorBase
import Derived.Deep.QuietTactic
import Derived.BigQuiet
namespace Go.Proofs.YtgcnfebifopdnaaDoor
open Go.RowKit

/-- In w the slice v reads as the ints zs. -/
def IS (w : World) (v : Value) (zs : List Int) : Prop :=
  ∃ (p : Option Addr) (c : Nat), v = .slice p zs.length c ∧ zs.length ≤ c ∧ (zs.length = 0 ∨ ∃ b off, p = some ⟨b, off, none⟩ ∧ ∀ j, j < zs.length → w.cell? ⟨b, off + j, none⟩ = some (.int .i64 (zs.getD j 0)))
theorem IS.keep {w w' : World} {v : Value} {zs : List Int} (h : IS w v zs) (hb : Below w.heap.size w w') : IS w' v zs := by
  obtain ⟨p, c, hv, hc, h⟩ := h
  refine ⟨p, c, hv, hc, h.imp id ?_⟩
  rintro ⟨b, off, hp, h2⟩
  refine ⟨b, off, hp, fun j hj => ?_⟩
  have h3 := h2 j hj
  exact (hb.cell (World.block_lt_of_cell? w _ h3)).trans h3
theorem IS.of_own {B e : Nat} {w : World} {v : Value} {zs : List Int} (h : w.ownsRow B e 1 v zs.length (zs.map (Value.int .i64))) : IS w v zs := by
  rcases h.2 with ⟨rfl, h0⟩ | ⟨g, cap, cur, rfl, hB, hg, hn, hm, hs, ht⟩
  · exact ⟨none, 0, by rw [h0], by omega, .inl h0⟩
  · refine ⟨_, cap, rfl, hn, .inr ⟨g, 0, rfl, fun j hj => ?_⟩⟩
    rw [Nat.mul_one] at ht
    have h1 : (cur.toList.take zs.length)[j]? = (zs.map (Value.int .i64))[j]? := by rw [ht]
    rw [List.getElem?_take_of_lt hj] at h1
    simp only [World.cell?, hg, Nat.zero_add]
    simp only [Option.isSome_none, Bool.false_eq_true, if_false]
    rw [← Array.getElem?_toList, h1]
    simp [hj, List.getD]
theorem int_info : (Tryd.prog.info? 3).map (fun i => (i.zero, i.size, i.bytes)) = some (some (.int .i64 0), 1, 8) := by kernel_rfl

set_option maxHeartbeats 2000000 in
set_option maxRecDepth 100000 in
theorem so_ints (v : Value) (zs : List Int) (w : World) (h : FS w v zs) (hbd : ∀ x ∈ zs, 0 ≤ x ∧ x ≤ 65535) (hbig : zs.length * 8 ≤ 140737488355328) :
    Calls Tryd.prog 18 #[v] w fun e w' => ∃ v', e = .returned v' ∧ IS w' v' zs ∧ Below w.heap.size w w' := by
  obtain ⟨i0, hi, hz0, hz1, hz2⟩ := info_parts int_info
  obtain ⟨p, c, rfl, hcap, hs⟩ := h
  have hS := Lib.hid hs
  have hD := Lib.hid hbd
  clear hs hbd
  go_enter Tryd.func18, Tryd.ntmps18
  go_wp2
  go_loopw [3, 5, 8] (fun s _ i wr => ∃ k : Nat, k ≤ zs.length ∧ i = .int .i64 k ∧ Hid (wr.ownsRow w.heap.size 3 1 s k ((zs.take k).map (Value.int .i64))) ∧ Hid (Below w.heap.size w wr)) (fun _ _ i _ => zs.length - (intOf i).toNat)
  case atStart => exact ⟨0, Nat.zero_le _, rfl, World.ownsRow_nil _ _ _ _, Below.refl _ _⟩
  case round =>
    obtain ⟨k, hk, rfl, HO, HB⟩ := hrel
    have hsz := HB.out.size
    by_cases hlt : k < zs.length
    · obtain ⟨b, off, rfl, hc⟩ := hS.out.resolve_left (by omega)
      have c0 := hc k hlt
      have hcell := (HB.out.cell (World.block_lt_of_cell? w _ c0)).trans c0
      have he : zs.getD k 0 = zs[k] := by simp [List.getD, hlt]
      rw [he] at hcell
      obtain ⟨z0, z1⟩ := hD.out zs[k] (List.getElem_mem hlt)
      have HM := Lib.hid (show (zs.take (k + 1)).map (Value.int .i64) = (zs.take k).map (Value.int .i64) ++ [Value.int .i64 zs[k]] by rw [List.take_add_one, List.getElem?_eq_getElem hlt, List.map_append]; rfl)
      clear hc c0 he
      generalize hz : zs[k] = z at *
      clear hz
      go_wp2_with (at_builtin; refine wpList_push1 rfl _ _ 27 rfl w.heap.size 3 i0 (.int .i64 0) 8 Tryd.underlying27 hi hz0 hz1 hz2 rfl _ k _ rfl HO.out _ rfl rfl ?c3 ?c4 hsz ?_)
      case c3 => unfold maxLen; omega
      case c4 => omega
      intro gg cap w2 hown hg
      have HO2 := Lib.hid hown
      have HB2 := Lib.hid (below_push HB.out HO.out hg (Nat.le_refl _) hsz)
      clear hown hg
      go_wp2
      go_roundw
      case rel => exact ⟨k + 1, by omega, by go_num, (by show World.ownsRow _ _ _ _ _ _ _; rw [HM.out, List.map_take]; exact HO2.out), HB2.out⟩
      case measure => simp [intOf]; omega
    · have hke : k = zs.length := by omega
      subst hke
      rw [List.take_length] at HO
      go_wp2
      go_ret
      exact ⟨_, rfl, IS.of_own (e := 3) HO.out, HB.out⟩
end Go.Proofs.YtgcnfebifopdnaaDoor
