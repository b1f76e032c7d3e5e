/-
 Parts of the proof: SWalkC4, SWalk13a, SWalkB12, SWalkB2, SWalkB3, SWalk13, SSort, FL0, FLA, FLB, Base, Base2, Base3.
-/
import Derived.Test.YtkdajhmlhjkcdaaGreatDoorRows
import Derived.Test.YtkdajhmlhjkcdaaGreatDoorM1
import Derived.Sort.Grow
import Derived.Sort.LotD3
import Derived.WalkKit
import Derived.Deep.LoopGhost
import Derived.BigQuiet
import Derived.CellFam
import Derived.BigCall
import Derived.BigGuard
import Derived.Sort.LotD4
import Derived.Sort.LotB
import Derived.Deep.Cut
import Derived.Sort.AssemblyPlain
import Derived.Below
import Derived.Lib.Slices
import Derived.Laws.AppendOwn
import Derived.OwnWalk
import Derived.WalkSpells
import Derived.WalkLawsBesides
import Derived.Lib.Hide
import Derived.Maps.AppendAt
import Derived.Deep.AppendLies
import Derived.RegionTactic
import Derived.Lib.AppendZeros
import Derived.Lib.SliceRun
import Derived.Laws.OwnMore
import Derived.Lib.Strings
import Derived.Lib.UnsafeStr
import Derived.Laws.BytesArg
import Derived.Deep.QuietTactic
set_option linter.unusedVariables false
set_option linter.unusedSimpArgs false
namespace Go.Proofs.YtkdajhmlhjkcdaaGreatDoor
open Go.RowKit Go.Sort
theorem Hid.mk' {p : Prop} (h : p) : Hid p := h
section
variable {α : Type} [Inhabited α] (lt : α → α → Bool)
theorem part_break (a i j : Nat) (dk : Array α) {i2 j2 : Nat} (hi2 : i2 = scanUp (fun x => lt x dk[a]!) dk j i) (hj2 : j2 = scanDown (fun x => !lt x dk[a]!) dk i2 j) (h : j2 < i2) : partLoop lt a i j dk = (j2, dk) := by
 subst hi2; subst hj2
 rw [partLoop_eq, if_pos h]
theorem part_go (a i j : Nat) (dk : Array α) {i2 j2 : Nat} (hi2 : i2 = scanUp (fun x => lt x dk[a]!) dk j i) (hj2 : j2 = scanDown (fun x => !lt x dk[a]!) dk i2 j) (h : ¬ i2 > j2) : partLoop lt a i j dk = partLoop lt a (i2 + 1) (j2 - 1) (swp dk i2 j2) := by
 subst hi2; subst hj2
 rw [partLoop_eq, if_neg h]
theorem part_scans_lt (a i j : Nat) (dk : Array α) (h0 : 0 < i) {i2 j2 : Nat} (hi2 : i2 = scanUp (fun x => lt x dk[a]!) dk j i) (hj2 : j2 = scanDown (fun x => !lt x dk[a]!) dk i2 j) (h : i2 ≤ j2) : i2 < j2 := by
 subst hi2; subst hj2
 obtain ⟨u1, _, _, u4⟩ := scanUp_spec (fun x => lt x dk[a]!) dk j _ i rfl
 obtain ⟨v1, _, _, v4⟩ := scanDown_spec (fun x => !lt x dk[a]!) dk (scanUp (fun x => lt x dk[a]!) dk j i) j
 rcases Nat.lt_or_ge (scanUp (fun x => lt x dk[a]!) dk j i) (scanDown (fun x => !lt x dk[a]!) dk (scanUp (fun x => lt x dk[a]!) dk j i) j) with h' | h'
 ·exact h'
 have e : scanDown (fun x => !lt x dk[a]!) dk (scanUp (fun x => lt x dk[a]!) dk j i) j = scanUp (fun x => lt x dk[a]!) dk j i := by omega
 have f1 := u4 (by omega)
 have f2 := v4 h (by omega)
 rw [e] at f2
 simp only [f1] at f2
 cases f2
theorem part_first_break (d : Array α) (a b pivot : Nat) {i j : Nat} {dk : Array α} {i2 j2 : Nat} (hi : i = a + 1) (hj : j = b - 1) (hdk : dk = swp d a pivot) (hi2 : i2 = scanUp (fun x => lt x dk[a]!) dk j i) (hj2 : j2 = scanDown (fun x => !lt x dk[a]!) dk i2 j) (h : j2 < i2) :
  partition lt d a b pivot = (j2, true, swp dk j2 a) := by
 subst hi; subst hj; subst hdk; subst hi2; subst hj2
 unfold partition
 simp only []
 rw [if_pos h]
theorem part_first_go (d : Array α) (a b pivot : Nat) {i j : Nat} {dk : Array α} {i2 j2 : Nat} (hi : i = a + 1) (hj : j = b - 1) (hdk : dk = swp d a pivot) (hi2 : i2 = scanUp (fun x => lt x dk[a]!) dk j i) (hj2 : j2 = scanDown (fun x => !lt x dk[a]!) dk i2 j) (h : ¬ i2 > j2) :
  partition lt d a b pivot = ((partLoop lt a (i2 + 1) (j2 - 1) (swp dk i2 j2)).1, false, swp (partLoop lt a (i2 + 1) (j2 - 1) (swp dk i2 j2)).2 (partLoop lt a (i2 + 1) (j2 - 1) (swp dk i2 j2)).1 a) := by
 subst hi; subst hj; subst hdk; subst hi2; subst hj2
 unfold partition
 simp only []
 rw [if_neg h]
end
set_option maxHeartbeats 12800000 in
set_option maxRecDepth 100000 in
theorem so_partition_int (blk off cap a b pivot : Nat) (d : Array Int) (w : World) (hH : Holds (Value.int .u16) w blk off d) (hap : a ≤ pivot) (hpb : pivot < b) (hb : b ≤ d.size) (hsz : d.size < 4611686018427387904) :
  Calls Tryz.prog 145 #[.slice (some ⟨blk, off, none⟩) d.size cap, .int .i64 a, .int .i64 b, .int .i64 pivot] w fun e w' =>
   e = .returned (.tuple #[.int .i64 (Sort.partition Sort.ltInt d a b pivot).1, .bool (Sort.partition Sort.ltInt d a b pivot).2.1]) ∧ ∃ n, w' = (putRow (Value.int .u16) w blk off (Sort.partition Sort.ltInt d a b pivot).2.2).drewN n := by
 have hla : a < d.size := by omega
 have hlp : pivot < d.size := by omega
 obtain ⟨G, hG⟩ : ∃ G : Nat → Int, ∀ j, G j = d[j]! := ⟨fun j => d[j]!, fun _ => rfl⟩
 have ca : w.cell? ⟨blk, off + a, none⟩ = some (.int .u16 (G a)) := by rw [hG]; exact (hH a hla).1
 have fa := (hH a hla).2
 have cp : w.cell? ⟨blk, off + pivot, none⟩ = some (.int .u16 (G pivot)) := by rw [hG]; exact (hH pivot hlp).1
 have fp := (hH pivot hlp).2
 obtain ⟨v', hy'⟩ := cell?_setCell_some (w := w) (p := ⟨blk, off + a, none⟩) (x := .int .u16 (G pivot)) (q := ⟨blk, off + pivot, none⟩) cp
 have hw : ((w.setCell ⟨blk, off + a, none⟩ (.int .u16 (G pivot))).setCell ⟨blk, off + pivot, none⟩ (.int .u16 (G a))).drew = (putRow (Value.int .u16) w blk off (Sort.swp d a pivot)).drewN 1 := by
  have e := swap_worldC (Value.int .u16) w blk off d 0 a pivot hla hlp
  rw [putRow_self _ w blk off d hH] at e
  rw [hG a, hG pivot]
  exact e
 have AH : Hid (Holds (Value.int .u16) w blk off d) := hH
 have HW0 := Hid.mk' hw
 clear hG hH hw
 go_enter Tryz.func145, Tryz.ntmps145
 go_wp2
 go_region
 go_wp2
 clear ca fa cp fp hy' v'
 have hw := HW0.out
 clear HW0
 generalize ((w.setCell ⟨blk, off + a, none⟩ (.int .u16 (G pivot))).setCell ⟨blk, off + pivot, none⟩ (.int .u16 (G a))).drew = W1 at hw ⊢
 obtain ⟨dk, hdk⟩ : ∃ dk, dk = Sort.swp d a pivot := ⟨_, rfl⟩
 obtain ⟨n, hn⟩ : ∃ n : Nat, n = 1 := ⟨_, rfl⟩
 rw [← hdk, ← hn] at hw
 clear hn
 have hs : dk.size = d.size := by rw [hdk, size_swp]
 have e1 : ((a : Int) + 1) = ((a + 1 : Nat) : Int) := by omega
 have e2 : ((b : Int) - 1) = ((b - 1 : Nat) : Int) := by omega
 rw [e1, e2]
 clear e1 e2
 obtain ⟨i, hi⟩ : ∃ i, i = a + 1 := ⟨_, rfl⟩
 obtain ⟨j, hj⟩ : ∃ j, j = b - 1 := ⟨_, rfl⟩
 rw [← hi, ← hj]
 have hai : a < i := by omega
 have hij : i ≤ j + 1 := by omega
 have hjb : j < b := by omega
 have HI := Hid.mk' hi
 have HJ := Hid.mk' hj
 have HDK := Hid.mk' hdk
 clear hi hj hdk
 have hHk : Holds (Value.int .u16) W1 blk off dk := by
  rw [hw]
  exact holds_putRow (Value.int .u16) w blk off d dk AH.out hs
 obtain ⟨Gk, hG⟩ : ∃ Gk : Nat → Int, ∀ t, Gk t = dk[t]! := ⟨fun t => dk[t]!, fun _ => rfl⟩
 have hc : ∀ t, t < d.size → W1.cell? ⟨blk, off + t, none⟩ = some (.int .u16 (Gk t)) := fun t ht => by rw [hG]; exact (hHk t (by omega)).1
 have hf : ∀ t, t < d.size → W1.frozen? ⟨blk, off + t, none⟩ = false := fun t ht => (hHk t (by omega)).2
 have AG : Hid (∀ t, Gk t = dk[t]!) := hG
 have AW : Hid (W1 = (putRow (Value.int .u16) w blk off dk).drewN n) := hw
 clear hG hw hHk
 go_loopw [10] (fun vi w1 => ∃ (i' n1 : Nat), vi = .int .i64 i' ∧ i ≤ i' ∧ i' ≤ j + 1 ∧ w1 = W1.drewN n1 ∧
   Hid (Sort.scanUp (fun x => Sort.ltInt x dk[a]!) dk j i' = Sort.scanUp (fun x => Sort.ltInt x dk[a]!) dk j i))
  (fun vi _ => j + 1 - (intOf vi).toNat)
 case atStart => exact ⟨i, 0, rfl, Nat.le_refl _, hij, rfl, rfl⟩
 case round =>
 obtain ⟨i', n1, rfl, hii, hij', hw1, hsc⟩ := hrel
 have hcw : ∀ t, t < d.size → wr.cell? ⟨blk, off + t, none⟩ = some (.int .u16 (Gk t)) := fun t ht => by rw [hw1]; exact hc t ht
 have HW1 : Hid (wr = W1.drewN n1) := hw1
 clear hw1
 by_cases hle : i' ≤ j
 ·go_wp2_with fail
  go_big_quiet (first | (go_at_call 143; refine Calls.quiet_of_same (so_cmp_Less_int _ _ _)))
  go_wp2
  ·
   have ht : Sort.ltInt (Gk i') (Gk a) = true := by assumption
   go_roundw
   case rel => exact ⟨i' + 1, n1 + nq, by go_num, by omega, by omega, by rw [HW1.out, World.drewN_drewN], (scanUp_go (fun x => Sort.ltInt x dk[a]!) dk j i' hle (by rw [← AG.out a, ← AG.out i']; exact ht)).symm.trans hsc.out⟩
   case measure => simp [intOf]; omega
  ·
   have ht : Sort.ltInt (Gk i') (Gk a) = false := by assumption
   have hi2 : Hid (i' = Sort.scanUp (fun x => Sort.ltInt x dk[a]!) dk j i) := (scanUp_end (fun x => Sort.ltInt x dk[a]!) dk j i' (Or.inr (by rw [← AG.out a, ← AG.out i']; exact ht))).symm.trans hsc.out
   clear ht
   have hw2 : wr.drewN nq = W1.drewN (n1 + nq) := by rw [HW1.out, World.drewN_drewN]
   clear hcw HW1 hsc
   go_loopw [11] (fun vj w2 => ∃ (j' n2 : Nat), vj = .int .i64 j' ∧ j' ≤ j ∧ i' ≤ j' + 1 ∧ w2 = W1.drewN n2 ∧
     Hid (Sort.scanDown (fun x => !Sort.ltInt x dk[a]!) dk i' j' = Sort.scanDown (fun x => !Sort.ltInt x dk[a]!) dk i' j))
    (fun vj _ => (intOf vj).toNat)
   case atStart => exact ⟨j, n1 + nq, rfl, Nat.le_refl _, hij', hw2, rfl⟩
   case round =>
   clear hw2
   obtain ⟨j', n2, rfl, hjj, hij2, hw2, hsd⟩ := hrel
   have hcw : ∀ t, t < d.size → wr.cell? ⟨blk, off + t, none⟩ = some (.int .u16 (Gk t)) := fun t ht => by rw [hw2]; exact hc t ht
   have HW2 : Hid (wr = W1.drewN n2) := hw2
   clear hw2
   by_cases hle2 : i' ≤ j'
   ·go_wp2_with fail
    go_big_quiet (first | (go_at_call 143; refine Calls.quiet_of_same (so_cmp_Less_int _ _ _)))
    go_wp2
    ·
     have ht : (!Sort.ltInt (Gk j') (Gk a)) = true := by assumption
     go_roundw
     case rel => exact ⟨j' - 1, n2 + nq, by go_num, by omega, by omega, by rw [HW2.out, World.drewN_drewN], (scanDown_go (fun x => !Sort.ltInt x dk[a]!) dk i' j' hle2 (by omega) (by rw [← AG.out a, ← AG.out j']; exact ht)).symm.trans hsd.out⟩
     case measure => simp [intOf]; omega
    ·
     have ht : (!Sort.ltInt (Gk j') (Gk a)) = false := by assumption
     have hj2 : Hid (j' = Sort.scanDown (fun x => !Sort.ltInt x dk[a]!) dk i' j) := (scanDown_end (fun x => !Sort.ltInt x dk[a]!) dk i' j' (Or.inr (by rw [← AG.out a, ← AG.out j']; exact ht))).symm.trans hsd.out
     clear hcw hsd ht
     have hw3 : wr.drewN nq = W1.drewN (n2 + nq) := by rw [HW2.out, World.drewN_drewN]
     generalize wr.drewN nq = W3 at hw3 ⊢
     have hc3 : ∀ t, t < d.size → W3.cell? ⟨blk, off + t, none⟩ = some (.int .u16 (Gk t)) := fun t ht => by rw [hw3]; exact hc t ht
     have hf3 : ∀ t, t < d.size → W3.frozen? ⟨blk, off + t, none⟩ = false := fun t ht => by rw [hw3]; exact hf t ht
     have HW3 : Hid (W3 = W1.drewN (n2 + nq)) := hw3
     clear hw3
     obtain ⟨v3, hy3⟩ := cell?_setCell_some (w := W3) (p := ⟨blk, off + i', none⟩) (x := .int .u16 (Gk j')) (q := ⟨blk, off + j', none⟩) (hc3 j' (by omega))
     have hlt3 := part_scans_lt Sort.ltInt a i j dk (by omega) hi2.out hj2.out hle2
     go_wp2
     go_region
     all_goals go_wp2
     obtain ⟨R, hR⟩ : ∃ R, R = Sort.partLoop Sort.ltInt a (i' + 1) (j' - 1) (Sort.swp dk i' j') := ⟨_, rfl⟩
     have HP : Hid (Sort.partition Sort.ltInt d a b pivot = (R.1, false, Sort.swp R.2 R.1 a)) := by rw [hR]; exact part_first_go Sort.ltInt d a b pivot HI.out HJ.out HDK.out hi2.out hj2.out (by omega)
     have hw0 : ((W3.setCell ⟨blk, off + i', none⟩ (.int .u16 (Gk j'))).setCell ⟨blk, off + j', none⟩ (.int .u16 (Gk i'))).drew = (putRow (Value.int .u16) w blk off (Sort.swp dk i' j')).drewN (n + (n2 + nq) + 1) := by
      rw [HW3.out, AW.out, World.drewN_drewN, AG.out i', AG.out j']
      exact swap_worldC (Value.int .u16) w blk off dk _ i' j' (by omega) (by omega)
     have HR : Hid (R = Sort.partLoop Sort.ltInt a (i' + 1) (j' - 1) (Sort.swp dk i' j')) := hR
     clear hR hc hf hc3 hf3 hy3 HW3 AW AG hi2 hj2
     go_loopw [10, 11] (fun vi vj wr => ∃ (i j n : Nat) (dk : Array Int), vi = .int .i64 i ∧ vj = .int .i64 j ∧ a < i ∧ i ≤ j + 1 ∧ j < b ∧ dk.size = d.size ∧ wr = (putRow (Value.int .u16) w blk off dk).drewN n ∧
       Sort.partLoop Sort.ltInt a i j dk = R)
      (fun vi vj _ => (intOf vj).toNat + 1 - (intOf vi).toNat)
     case atStart => exact ⟨i' + 1, j' - 1, _, Sort.swp dk i' j', by go_num, by go_num, by omega, by omega, by omega, by rw [size_swp]; exact hs, hw0, HR.out.symm⟩
     case round =>
     clear hw0 HR
     obtain ⟨i, j, n, dk, rfl, rfl, hai, hij, hjb, hs, hw, heq⟩ := hrel
     rename World => W1
     have AE : Hid (Sort.partLoop Sort.ltInt a i j dk = R) := heq
     clear heq
     have hHk : Holds (Value.int .u16) W1 blk off dk := by
      rw [hw]
      exact holds_putRow (Value.int .u16) w blk off d dk AH.out hs
     obtain ⟨Gk, hG⟩ : ∃ Gk : Nat → Int, ∀ t, Gk t = dk[t]! := ⟨fun t => dk[t]!, fun _ => rfl⟩
     have hc : ∀ t, t < d.size → W1.cell? ⟨blk, off + t, none⟩ = some (.int .u16 (Gk t)) := fun t ht => by rw [hG]; exact (hHk t (by omega)).1
     have hf : ∀ t, t < d.size → W1.frozen? ⟨blk, off + t, none⟩ = false := fun t ht => (hHk t (by omega)).2
     have AG : Hid (∀ t, Gk t = dk[t]!) := hG
     have AW : Hid (W1 = (putRow (Value.int .u16) w blk off dk).drewN n) := hw
     clear hG hw hHk
     go_wp2
     go_loopw [10] (fun vi w1 => ∃ (i' n1 : Nat), vi = .int .i64 i' ∧ i ≤ i' ∧ i' ≤ j + 1 ∧ w1 = W1.drewN n1 ∧
       Hid (Sort.scanUp (fun x => Sort.ltInt x dk[a]!) dk j i' = Sort.scanUp (fun x => Sort.ltInt x dk[a]!) dk j i))
      (fun vi _ => j + 1 - (intOf vi).toNat)
     case atStart => exact ⟨i, 0, rfl, Nat.le_refl _, hij, rfl, rfl⟩
     case round =>
     obtain ⟨i', n1, rfl, hii, hij', hw1, hsc⟩ := hrel
     have hcw : ∀ t, t < d.size → wr.cell? ⟨blk, off + t, none⟩ = some (.int .u16 (Gk t)) := fun t ht => by rw [hw1]; exact hc t ht
     have HW1 : Hid (wr = W1.drewN n1) := hw1
     clear hw1
     by_cases hle : i' ≤ j
     ·go_wp2_with fail
      go_big_quiet (first | (go_at_call 143; refine Calls.quiet_of_same (so_cmp_Less_int _ _ _)))
      go_wp2
      ·
       have ht : Sort.ltInt (Gk i') (Gk a) = true := by assumption
       go_roundw
       case rel => exact ⟨i' + 1, n1 + nq, by go_num, by omega, by omega, by rw [HW1.out, World.drewN_drewN], (scanUp_go (fun x => Sort.ltInt x dk[a]!) dk j i' hle (by rw [← AG.out a, ← AG.out i']; exact ht)).symm.trans hsc.out⟩
       case measure => simp [intOf]; omega
      ·
       have ht : Sort.ltInt (Gk i') (Gk a) = false := by assumption
       have hi2 : Hid (i' = Sort.scanUp (fun x => Sort.ltInt x dk[a]!) dk j i) := (scanUp_end (fun x => Sort.ltInt x dk[a]!) dk j i' (Or.inr (by rw [← AG.out a, ← AG.out i']; exact ht))).symm.trans hsc.out
       clear ht
       have hw2 : wr.drewN nq = W1.drewN (n1 + nq) := by rw [HW1.out, World.drewN_drewN]
       clear hcw HW1 hsc
       go_loopw [11] (fun vj w2 => ∃ (j' n2 : Nat), vj = .int .i64 j' ∧ j' ≤ j ∧ i' ≤ j' + 1 ∧ w2 = W1.drewN n2 ∧
         Hid (Sort.scanDown (fun x => !Sort.ltInt x dk[a]!) dk i' j' = Sort.scanDown (fun x => !Sort.ltInt x dk[a]!) dk i' j))
        (fun vj _ => (intOf vj).toNat)
       case atStart => exact ⟨j, n1 + nq, rfl, Nat.le_refl _, hij', hw2, rfl⟩
       case round =>
       clear hw2
       obtain ⟨j', n2, rfl, hjj, hij2, hw2, hsd⟩ := hrel
       have hcw : ∀ t, t < d.size → wr.cell? ⟨blk, off + t, none⟩ = some (.int .u16 (Gk t)) := fun t ht => by rw [hw2]; exact hc t ht
       have HW2 : Hid (wr = W1.drewN n2) := hw2
       clear hw2
       by_cases hle2 : i' ≤ j'
       ·go_wp2_with fail
        go_big_quiet (first | (go_at_call 143; refine Calls.quiet_of_same (so_cmp_Less_int _ _ _)))
        go_wp2
        ·
         have ht : (!Sort.ltInt (Gk j') (Gk a)) = true := by assumption
         go_roundw
         case rel => exact ⟨j' - 1, n2 + nq, by go_num, by omega, by omega, by rw [HW2.out, World.drewN_drewN], (scanDown_go (fun x => !Sort.ltInt x dk[a]!) dk i' j' hle2 (by omega) (by rw [← AG.out a, ← AG.out j']; exact ht)).symm.trans hsd.out⟩
         case measure => simp [intOf]; omega
        ·
         have ht : (!Sort.ltInt (Gk j') (Gk a)) = false := by assumption
         have hj2 : Hid (j' = Sort.scanDown (fun x => !Sort.ltInt x dk[a]!) dk i' j) := (scanDown_end (fun x => !Sort.ltInt x dk[a]!) dk i' j' (Or.inr (by rw [← AG.out a, ← AG.out j']; exact ht))).symm.trans hsd.out
         clear hcw hsd ht
         have hw3 : wr.drewN nq = W1.drewN (n2 + nq) := by rw [HW2.out, World.drewN_drewN]
         generalize wr.drewN nq = W3 at hw3 ⊢
         have hc3 : ∀ t, t < d.size → W3.cell? ⟨blk, off + t, none⟩ = some (.int .u16 (Gk t)) := fun t ht => by rw [hw3]; exact hc t ht
         have hf3 : ∀ t, t < d.size → W3.frozen? ⟨blk, off + t, none⟩ = false := fun t ht => by rw [hw3]; exact hf t ht
         have HW3 : Hid (W3 = W1.drewN (n2 + nq)) := hw3
         clear hw3
         obtain ⟨v3, hy3⟩ := cell?_setCell_some (w := W3) (p := ⟨blk, off + i', none⟩) (x := .int .u16 (Gk j')) (q := ⟨blk, off + j', none⟩) (hc3 j' (by omega))
         have hlt3 := part_scans_lt Sort.ltInt a i j dk (by omega) hi2.out hj2.out hle2
         go_wp2
         go_region
         all_goals go_wp2
         all_goals go_roundw
         case rel =>
          refine ⟨i' + 1, j' - 1, n + (n2 + nq) + 1, Sort.swp dk i' j', by go_num, by go_num, by omega, by omega, by omega, by rw [size_swp]; exact hs, ?_, ?_⟩
          ·rw [HW3.out, AW.out, World.drewN_drewN, AG.out i', AG.out j']
           exact swap_worldC (Value.int .u16) w blk off dk _ i' j' (by omega) (by omega)
          exact (part_go Sort.ltInt a i j dk hi2.out hj2.out (by omega)).symm.trans AE.out
         case measure => simp [intOf]; omega
       go_wp2_with fail
       go_big_quiet (first | (go_at_call 143; refine Calls.quiet_of_same (so_cmp_Less_int _ _ _)))
       have hj2 : Hid (j' = Sort.scanDown (fun x => !Sort.ltInt x dk[a]!) dk i' j) := (scanDown_end (fun x => !Sort.ltInt x dk[a]!) dk i' j' (Or.inl hle2)).symm.trans hsd.out
       clear hcw hsd
       have hw3 : wr.drewN nq = W1.drewN (n2 + nq) := by rw [HW2.out, World.drewN_drewN]
       generalize wr.drewN nq = W3 at hw3 ⊢
       have hc3 : ∀ t, t < d.size → W3.cell? ⟨blk, off + t, none⟩ = some (.int .u16 (Gk t)) := fun t ht => by rw [hw3]; exact hc t ht
       have hf3 : ∀ t, t < d.size → W3.frozen? ⟨blk, off + t, none⟩ = false := fun t ht => by rw [hw3]; exact hf t ht
       have HW3 : Hid (W3 = W1.drewN (n2 + nq)) := hw3
       clear hw3
       obtain ⟨v3, hy3⟩ := cell?_setCell_some (w := W3) (p := ⟨blk, off + j', none⟩) (x := .int .u16 (Gk a)) (q := ⟨blk, off + a, none⟩) (hc3 a (by omega))
       have hlj : j' < d.size := by omega
       go_wp2
       go_region
       all_goals go_wp2
       all_goals go_ret2
       have e : Sort.partition Sort.ltInt d a b pivot = (j', false, Sort.swp dk j' a) := by
        have e0 := (part_break Sort.ltInt a i j dk hi2.out hj2.out (by omega)).symm.trans AE.out
        rw [HP.out, ← e0]
       refine ⟨?_, n + (n2 + nq) + 1, ?_⟩
       ·rw [e]; rfl
       rw [e, HW3.out, AW.out, World.drewN_drewN, AG.out a, AG.out j']
       exact swap_worldC (Value.int .u16) w blk off dk _ j' a (by omega) (by omega)
     go_wp2_with fail
     go_big_quiet (first | (go_at_call 143; refine Calls.quiet_of_same (so_cmp_Less_int _ _ _)))
     go_wp2
     have hi2 : Hid (i' = Sort.scanUp (fun x => Sort.ltInt x dk[a]!) dk j i) := (scanUp_end (fun x => Sort.ltInt x dk[a]!) dk j i' (Or.inl hle)).symm.trans hsc.out
     have hw2 : wr.drewN nq = W1.drewN (n1 + nq) := by rw [HW1.out, World.drewN_drewN]
     clear hcw HW1 hsc
     go_loopw [11] (fun vj w2 => ∃ (j' n2 : Nat), vj = .int .i64 j' ∧ j' ≤ j ∧ i' ≤ j' + 1 ∧ w2 = W1.drewN n2 ∧
       Hid (Sort.scanDown (fun x => !Sort.ltInt x dk[a]!) dk i' j' = Sort.scanDown (fun x => !Sort.ltInt x dk[a]!) dk i' j))
      (fun vj _ => (intOf vj).toNat)
     case atStart => exact ⟨j, n1 + nq, rfl, Nat.le_refl _, hij', hw2, rfl⟩
     case round =>
     clear hw2
     obtain ⟨j', n2, rfl, hjj, hij2, hw2, hsd⟩ := hrel
     have hcw : ∀ t, t < d.size → wr.cell? ⟨blk, off + t, none⟩ = some (.int .u16 (Gk t)) := fun t ht => by rw [hw2]; exact hc t ht
     have HW2 : Hid (wr = W1.drewN n2) := hw2
     clear hw2
     by_cases hle2 : i' ≤ j'
     ·exfalso; omega
     go_wp2_with fail
     go_big_quiet (first | (go_at_call 143; refine Calls.quiet_of_same (so_cmp_Less_int _ _ _)))
     have hj2 : Hid (j' = Sort.scanDown (fun x => !Sort.ltInt x dk[a]!) dk i' j) := (scanDown_end (fun x => !Sort.ltInt x dk[a]!) dk i' j' (Or.inl hle2)).symm.trans hsd.out
     clear hcw hsd
     have hw3 : wr.drewN nq = W1.drewN (n2 + nq) := by rw [HW2.out, World.drewN_drewN]
     generalize wr.drewN nq = W3 at hw3 ⊢
     have hc3 : ∀ t, t < d.size → W3.cell? ⟨blk, off + t, none⟩ = some (.int .u16 (Gk t)) := fun t ht => by rw [hw3]; exact hc t ht
     have hf3 : ∀ t, t < d.size → W3.frozen? ⟨blk, off + t, none⟩ = false := fun t ht => by rw [hw3]; exact hf t ht
     have HW3 : Hid (W3 = W1.drewN (n2 + nq)) := hw3
     clear hw3
     obtain ⟨v3, hy3⟩ := cell?_setCell_some (w := W3) (p := ⟨blk, off + j', none⟩) (x := .int .u16 (Gk a)) (q := ⟨blk, off + a, none⟩) (hc3 a (by omega))
     have hlj : j' < d.size := by omega
     go_wp2
     go_region
     all_goals go_wp2
     all_goals go_ret2
     have e : Sort.partition Sort.ltInt d a b pivot = (j', false, Sort.swp dk j' a) := by
      have e0 := (part_break Sort.ltInt a i j dk hi2.out hj2.out (by omega)).symm.trans AE.out
      rw [HP.out, ← e0]
     refine ⟨?_, n + (n2 + nq) + 1, ?_⟩
     ·rw [e]; rfl
     rw [e, HW3.out, AW.out, World.drewN_drewN, AG.out a, AG.out j']
     exact swap_worldC (Value.int .u16) w blk off dk _ j' a (by omega) (by omega)
   go_wp2_with fail
   go_big_quiet (first | (go_at_call 143; refine Calls.quiet_of_same (so_cmp_Less_int _ _ _)))
   have hj2 : Hid (j' = Sort.scanDown (fun x => !Sort.ltInt x dk[a]!) dk i' j) := (scanDown_end (fun x => !Sort.ltInt x dk[a]!) dk i' j' (Or.inl hle2)).symm.trans hsd.out
   clear hcw hsd
   have hw3 : wr.drewN nq = W1.drewN (n2 + nq) := by rw [HW2.out, World.drewN_drewN]
   generalize wr.drewN nq = W3 at hw3 ⊢
   have hc3 : ∀ t, t < d.size → W3.cell? ⟨blk, off + t, none⟩ = some (.int .u16 (Gk t)) := fun t ht => by rw [hw3]; exact hc t ht
   have hf3 : ∀ t, t < d.size → W3.frozen? ⟨blk, off + t, none⟩ = false := fun t ht => by rw [hw3]; exact hf t ht
   have HW3 : Hid (W3 = W1.drewN (n2 + nq)) := hw3
   clear hw3
   obtain ⟨v3, hy3⟩ := cell?_setCell_some (w := W3) (p := ⟨blk, off + j', none⟩) (x := .int .u16 (Gk a)) (q := ⟨blk, off + a, none⟩) (hc3 a (by omega))
   have hlj : j' < d.size := by omega
   go_wp2
   go_region
   all_goals go_wp2
   all_goals go_ret2
   have e : Sort.partition Sort.ltInt d a b pivot = (j', true, Sort.swp dk j' a) := part_first_break Sort.ltInt d a b pivot HI.out HJ.out HDK.out hi2.out hj2.out (by omega)
   refine ⟨?_, n + (n2 + nq) + 1, ?_⟩
   ·rw [e]; rfl
   rw [e, HW3.out, AW.out, World.drewN_drewN, AG.out a, AG.out j']
   exact swap_worldC (Value.int .u16) w blk off dk _ j' a (by omega) (by omega)
 go_wp2_with fail
 go_big_quiet (first | (go_at_call 143; refine Calls.quiet_of_same (so_cmp_Less_int _ _ _)))
 go_wp2
 have hi2 : Hid (i' = Sort.scanUp (fun x => Sort.ltInt x dk[a]!) dk j i) := (scanUp_end (fun x => Sort.ltInt x dk[a]!) dk j i' (Or.inl hle)).symm.trans hsc.out
 have hw2 : wr.drewN nq = W1.drewN (n1 + nq) := by rw [HW1.out, World.drewN_drewN]
 clear hcw HW1 hsc
 go_loopw [11] (fun vj w2 => ∃ (j' n2 : Nat), vj = .int .i64 j' ∧ j' ≤ j ∧ i' ≤ j' + 1 ∧ w2 = W1.drewN n2 ∧
   Hid (Sort.scanDown (fun x => !Sort.ltInt x dk[a]!) dk i' j' = Sort.scanDown (fun x => !Sort.ltInt x dk[a]!) dk i' j))
  (fun vj _ => (intOf vj).toNat)
 case atStart => exact ⟨j, n1 + nq, rfl, Nat.le_refl _, hij', hw2, rfl⟩
 case round =>
 clear hw2
 obtain ⟨j', n2, rfl, hjj, hij2, hw2, hsd⟩ := hrel
 have hcw : ∀ t, t < d.size → wr.cell? ⟨blk, off + t, none⟩ = some (.int .u16 (Gk t)) := fun t ht => by rw [hw2]; exact hc t ht
 have HW2 : Hid (wr = W1.drewN n2) := hw2
 clear hw2
 by_cases hle2 : i' ≤ j'
 ·exfalso; omega
 go_wp2_with fail
 go_big_quiet (first | (go_at_call 143; refine Calls.quiet_of_same (so_cmp_Less_int _ _ _)))
 have hj2 : Hid (j' = Sort.scanDown (fun x => !Sort.ltInt x dk[a]!) dk i' j) := (scanDown_end (fun x => !Sort.ltInt x dk[a]!) dk i' j' (Or.inl hle2)).symm.trans hsd.out
 clear hcw hsd
 have hw3 : wr.drewN nq = W1.drewN (n2 + nq) := by rw [HW2.out, World.drewN_drewN]
 generalize wr.drewN nq = W3 at hw3 ⊢
 have hc3 : ∀ t, t < d.size → W3.cell? ⟨blk, off + t, none⟩ = some (.int .u16 (Gk t)) := fun t ht => by rw [hw3]; exact hc t ht
 have hf3 : ∀ t, t < d.size → W3.frozen? ⟨blk, off + t, none⟩ = false := fun t ht => by rw [hw3]; exact hf t ht
 have HW3 : Hid (W3 = W1.drewN (n2 + nq)) := hw3
 clear hw3
 obtain ⟨v3, hy3⟩ := cell?_setCell_some (w := W3) (p := ⟨blk, off + j', none⟩) (x := .int .u16 (Gk a)) (q := ⟨blk, off + a, none⟩) (hc3 a (by omega))
 have hlj : j' < d.size := by omega
 go_wp2
 go_region
 all_goals go_wp2
 all_goals go_ret2
 have e : Sort.partition Sort.ltInt d a b pivot = (j', true, Sort.swp dk j' a) := part_first_break Sort.ltInt d a b pivot HI.out HJ.out HDK.out hi2.out hj2.out (by omega)
 refine ⟨?_, n + (n2 + nq) + 1, ?_⟩
 ·rw [e]; rfl
 rw [e, HW3.out, AW.out, World.drewN_drewN, AG.out a, AG.out j']
 exact swap_worldC (Value.int .u16) w blk off dk _ j' a (by omega) (by omega)
theorem so_partitionOrdered_int (blk off cap a b pivot : Nat) (d : Array Int) (w : World) (hH : Holds (Value.int .u16) w blk off d) (hap : a ≤ pivot) (hpb : pivot < b) (hb : b ≤ d.size) (hsz : d.size < 4611686018427387904) :
  Calls Tryz.prog 145 #[.slice (some ⟨blk, off, none⟩) d.size cap, .int .i64 a, .int .i64 b, .int .i64 pivot] w fun e w' =>
   e = .returned (.tuple #[.int .i64 (Sort.partition Sort.ltInt d a b pivot).1, .bool (Sort.partition Sort.ltInt d a b pivot).2.1]) ∧ ∃ n, w' = putRow (Value.int .u16) (Sort.ahead w n) blk off (Sort.partition Sort.ltInt d a b pivot).2.2 :=
 (so_partition_int blk off cap a b pivot d w hH hap hpb hb hsz).mono fun _ _ ⟨he, n, hw⟩ => ⟨he, n, hw⟩
end Go.Proofs.YtkdajhmlhjkcdaaGreatDoor
namespace Go.Sort
variable {α : Type} [Inhabited α]
def At (enc : α → Value) (w : World) (blk off : Nat) (d : Array α) (wr : World) : Prop := ∃ n os, wr = grow (putRow enc (ahead w n) blk off d) os
section
variable {enc : α → Value} {w wr w1 : World} {blk off : Nat} {d d' d0 : Array α}
theorem At.refl (h : Holds enc w blk off d) : At enc w blk off d w := ⟨0, #[], by rw [grow_empty, ahead_zero, putRow_self enc w blk off d h]⟩
theorem At.holds (h : At enc w blk off d wr) (h0 : Holds enc w blk off d0) (hs : d.size = d0.size) (hb : blk < w.heap.size) : Holds enc wr blk off d ∧ blk < wr.heap.size := by
 obtain ⟨n, os, rfl⟩ := h
 exact ⟨holds_grow enc _ os blk off d (by simpa using hb) (holds_putRow enc _ blk off d0 d (holds_ahead enc w n blk off d0 h0) hs), by simp; omega⟩
theorem At.step (h : At enc w blk off d wr) (hb : blk < w.heap.size) (hs : d'.size = d.size) (h1 : ∃ m, w1 = putRow enc (ahead wr m) blk off d') : At enc w blk off d' w1 := by
 obtain ⟨n, os, rfl⟩ := h
 obtain ⟨m, rfl⟩ := h1
 exact ⟨n + m, os, grow_step enc w os n m blk off d d' hb hs⟩
theorem At.stepG (h : At enc w blk off d wr) (hb : blk < w.heap.size) (hs : d'.size = d.size) (h1 : ∃ m os', w1 = grow (putRow enc (ahead wr m) blk off d') os') : At enc w blk off d' w1 := by
 obtain ⟨n, os, rfl⟩ := h
 obtain ⟨m, os', rfl⟩ := h1
 exact ⟨n + m, os ++ os', grow_step_grow enc w os os' n m blk off d d' hb hs⟩
theorem At.same (h : At enc w blk off d wr) (h0 : Holds enc w blk off d0) (hs : d.size = d0.size) (hb : blk < w.heap.size) (h1 : ∃ m os', w1 = grow (ahead wr m) os') : At enc w blk off d w1 := by
 obtain ⟨m, os', rfl⟩ := h1
 refine h.stepG hb rfl ⟨m, os', ?_⟩
 rw [putRow_self enc (ahead wr m) blk off d (holds_ahead enc wr m blk off d (h.holds h0 hs hb).1)]
theorem At.ahead (h : At enc w blk off d wr) (m : Nat) : At enc w blk off d (ahead wr m) := by
 obtain ⟨n, os, rfl⟩ := h
 exact ⟨n + m, os, by rw [← ahead_ahead]; rfl⟩
end
section
variable (lt : α → α → Bool)
structure Rd (α : Type) where
 d1 : Array α
 lim : Nat
 c : Nat × Hint
 d2 : Array α
 pivot : Nat
 hint : Hint
 pi : Array α × Bool
def rd (d : Array α) (a b limit : Nat) (wb wp : Bool) : Rd α :=
 let d1 := if !wb then breakPatterns d a b else d
 let c := choosePivot lt d1 a b
 let d2 := if c.2 = .decreasing then reverseRange d1 a b else d1
 let hint := if c.2 = .decreasing then Hint.increasing else c.2
 { d1 := d1, lim := if !wb then limit - 1 else limit, c := c, d2 := d2, pivot := if c.2 = .decreasing then (b - 1) - (c.1 - a) else c.1, hint := hint,
   pi := if wb && wp && hint = .increasing then partialInsertionSort lt d2 a b else (d2, false) }
variable {lt} {d : Array α} {a b limit : Nat} {wb wp : Bool}
theorem pdq_unfold : pdq lt d a b limit wb wp =
  if b - a ≤ 12 then insertionSort lt d a b else
  if limit = 0 then heapSort lt d a b else
  if (rd lt d a b limit wb wp).pi.2 = true then (rd lt d a b limit wb wp).pi.1 else
  if (decide (a > 0) && !lt (rd lt d a b limit wb wp).pi.1[a - 1]! (rd lt d a b limit wb wp).pi.1[(rd lt d a b limit wb wp).pivot]!) = true then
   (if a < (partitionEqual lt (rd lt d a b limit wb wp).pi.1 a b (rd lt d a b limit wb wp).pivot).1 ∧ (partitionEqual lt (rd lt d a b limit wb wp).pi.1 a b (rd lt d a b limit wb wp).pivot).1 ≤ b then pdq lt (partitionEqual lt (rd lt d a b limit wb wp).pi.1 a b (rd lt d a b limit wb wp).pivot).2 (partitionEqual lt (rd lt d a b limit wb wp).pi.1 a b (rd lt d a b limit wb wp).pivot).1 b (rd lt d a b limit wb wp).lim wb wp else (partitionEqual lt (rd lt d a b limit wb wp).pi.1 a b (rd lt d a b limit wb wp).pivot).2)
  else
   (if a ≤ (partition lt (rd lt d a b limit wb wp).pi.1 a b (rd lt d a b limit wb wp).pivot).1 ∧ (partition lt (rd lt d a b limit wb wp).pi.1 a b (rd lt d a b limit wb wp).pivot).1 < b then
    (if (partition lt (rd lt d a b limit wb wp).pi.1 a b (rd lt d a b limit wb wp).pivot).1 - a < b - (partition lt (rd lt d a b limit wb wp).pi.1 a b (rd lt d a b limit wb wp).pivot).1 then
     pdq lt (pdq lt (partition lt (rd lt d a b limit wb wp).pi.1 a b (rd lt d a b limit wb wp).pivot).2.2 a (partition lt (rd lt d a b limit wb wp).pi.1 a b (rd lt d a b limit wb wp).pivot).1 (rd lt d a b limit wb wp).lim true true) ((partition lt (rd lt d a b limit wb wp).pi.1 a b (rd lt d a b limit wb wp).pivot).1 + 1) b (rd lt d a b limit wb wp).lim (decide ((partition lt (rd lt d a b limit wb wp).pi.1 a b (rd lt d a b limit wb wp).pivot).1 - a ≥ (b - a) / 8)) (partition lt (rd lt d a b limit wb wp).pi.1 a b (rd lt d a b limit wb wp).pivot).2.1
    else
     pdq lt (pdq lt (partition lt (rd lt d a b limit wb wp).pi.1 a b (rd lt d a b limit wb wp).pivot).2.2 ((partition lt (rd lt d a b limit wb wp).pi.1 a b (rd lt d a b limit wb wp).pivot).1 + 1) b (rd lt d a b limit wb wp).lim true true) a (partition lt (rd lt d a b limit wb wp).pi.1 a b (rd lt d a b limit wb wp).pivot).1 (rd lt d a b limit wb wp).lim (decide (b - (partition lt (rd lt d a b limit wb wp).pi.1 a b (rd lt d a b limit wb wp).pivot).1 ≥ (b - a) / 8)) (partition lt (rd lt d a b limit wb wp).pi.1 a b (rd lt d a b limit wb wp).pivot).2.1)
   else (partition lt (rd lt d a b limit wb wp).pi.1 a b (rd lt d a b limit wb wp).pivot).2.2) := by
 rw [pdq]
 rfl
theorem pdq_small (h : b - a ≤ 12) : pdq lt d a b limit wb wp = insertionSort lt d a b := by rw [pdq_unfold, if_pos h]
theorem pdq_heap (h : ¬ b - a ≤ 12) (h0 : limit = 0) : pdq lt d a b limit wb wp = heapSort lt d a b := by rw [pdq_unfold, if_neg h, if_pos h0]
theorem pdq_done (h : ¬ b - a ≤ 12) (h0 : ¬ limit = 0) (h1 : (rd lt d a b limit wb wp).pi.2 = true) : pdq lt d a b limit wb wp = (rd lt d a b limit wb wp).pi.1 := by rw [pdq_unfold, if_neg h, if_neg h0, if_pos h1]
theorem pdq_eq (h : ¬ b - a ≤ 12) (h0 : ¬ limit = 0) (h1 : (rd lt d a b limit wb wp).pi.2 = false) (h2 : (decide (a > 0) && !lt (rd lt d a b limit wb wp).pi.1[a - 1]! (rd lt d a b limit wb wp).pi.1[(rd lt d a b limit wb wp).pivot]!) = true) (h3 : a < (partitionEqual lt (rd lt d a b limit wb wp).pi.1 a b (rd lt d a b limit wb wp).pivot).1 ∧ (partitionEqual lt (rd lt d a b limit wb wp).pi.1 a b (rd lt d a b limit wb wp).pivot).1 ≤ b) :
  pdq lt d a b limit wb wp = pdq lt (partitionEqual lt (rd lt d a b limit wb wp).pi.1 a b (rd lt d a b limit wb wp).pivot).2 (partitionEqual lt (rd lt d a b limit wb wp).pi.1 a b (rd lt d a b limit wb wp).pivot).1 b (rd lt d a b limit wb wp).lim wb wp := by
 rw [pdq_unfold, if_neg h, if_neg h0, if_neg (by rw [h1]; exact Bool.false_ne_true), if_pos h2, if_pos h3]
theorem pdq_left (h : ¬ b - a ≤ 12) (h0 : ¬ limit = 0) (h1 : (rd lt d a b limit wb wp).pi.2 = false) (h2 : (decide (a > 0) && !lt (rd lt d a b limit wb wp).pi.1[a - 1]! (rd lt d a b limit wb wp).pi.1[(rd lt d a b limit wb wp).pivot]!) = false) (h3 : a ≤ (partition lt (rd lt d a b limit wb wp).pi.1 a b (rd lt d a b limit wb wp).pivot).1 ∧ (partition lt (rd lt d a b limit wb wp).pi.1 a b (rd lt d a b limit wb wp).pivot).1 < b) (h4 : (partition lt (rd lt d a b limit wb wp).pi.1 a b (rd lt d a b limit wb wp).pivot).1 - a < b - (partition lt (rd lt d a b limit wb wp).pi.1 a b (rd lt d a b limit wb wp).pivot).1) :
  pdq lt d a b limit wb wp = pdq lt (pdq lt (partition lt (rd lt d a b limit wb wp).pi.1 a b (rd lt d a b limit wb wp).pivot).2.2 a (partition lt (rd lt d a b limit wb wp).pi.1 a b (rd lt d a b limit wb wp).pivot).1 (rd lt d a b limit wb wp).lim true true) ((partition lt (rd lt d a b limit wb wp).pi.1 a b (rd lt d a b limit wb wp).pivot).1 + 1) b (rd lt d a b limit wb wp).lim (decide ((partition lt (rd lt d a b limit wb wp).pi.1 a b (rd lt d a b limit wb wp).pivot).1 - a ≥ (b - a) / 8)) (partition lt (rd lt d a b limit wb wp).pi.1 a b (rd lt d a b limit wb wp).pivot).2.1 := by
 rw [pdq_unfold, if_neg h, if_neg h0, if_neg (by rw [h1]; exact Bool.false_ne_true), if_neg (by rw [h2]; exact Bool.false_ne_true), if_pos h3, if_pos h4]
theorem pdq_right (h : ¬ b - a ≤ 12) (h0 : ¬ limit = 0) (h1 : (rd lt d a b limit wb wp).pi.2 = false) (h2 : (decide (a > 0) && !lt (rd lt d a b limit wb wp).pi.1[a - 1]! (rd lt d a b limit wb wp).pi.1[(rd lt d a b limit wb wp).pivot]!) = false) (h3 : a ≤ (partition lt (rd lt d a b limit wb wp).pi.1 a b (rd lt d a b limit wb wp).pivot).1 ∧ (partition lt (rd lt d a b limit wb wp).pi.1 a b (rd lt d a b limit wb wp).pivot).1 < b) (h4 : ¬ (partition lt (rd lt d a b limit wb wp).pi.1 a b (rd lt d a b limit wb wp).pivot).1 - a < b - (partition lt (rd lt d a b limit wb wp).pi.1 a b (rd lt d a b limit wb wp).pivot).1) :
  pdq lt d a b limit wb wp = pdq lt (pdq lt (partition lt (rd lt d a b limit wb wp).pi.1 a b (rd lt d a b limit wb wp).pivot).2.2 ((partition lt (rd lt d a b limit wb wp).pi.1 a b (rd lt d a b limit wb wp).pivot).1 + 1) b (rd lt d a b limit wb wp).lim true true) a (partition lt (rd lt d a b limit wb wp).pi.1 a b (rd lt d a b limit wb wp).pivot).1 (rd lt d a b limit wb wp).lim (decide (b - (partition lt (rd lt d a b limit wb wp).pi.1 a b (rd lt d a b limit wb wp).pivot).1 ≥ (b - a) / 8)) (partition lt (rd lt d a b limit wb wp).pi.1 a b (rd lt d a b limit wb wp).pivot).2.1 := by
 rw [pdq_unfold, if_neg h, if_neg h0, if_neg (by rw [h1]; exact Bool.false_ne_true), if_neg (by rw [h2]; exact Bool.false_ne_true), if_pos h3, if_neg h4]
theorem rd_dec (hh : (rd lt d a b limit wb wp).c.2 = .decreasing) :
 (rd lt d a b limit wb wp).d2 = reverseRange (rd lt d a b limit wb wp).d1 a b ∧ (rd lt d a b limit wb wp).pivot = (b - 1) - ((rd lt d a b limit wb wp).c.1 - a) ∧ (rd lt d a b limit wb wp).hint = .increasing := ⟨if_pos hh, if_pos hh, if_pos hh⟩
theorem rd_not (hh : (rd lt d a b limit wb wp).c.2 ≠ .decreasing) :
 (rd lt d a b limit wb wp).d2 = (rd lt d a b limit wb wp).d1 ∧ (rd lt d a b limit wb wp).pivot = (rd lt d a b limit wb wp).c.1 ∧ (rd lt d a b limit wb wp).hint = (rd lt d a b limit wb wp).c.2 := ⟨if_neg hh, if_neg hh, if_neg hh⟩
theorem rd_pi_yes (hc : (wb && wp && decide ((rd lt d a b limit wb wp).hint = .increasing)) = true) : (rd lt d a b limit wb wp).pi = partialInsertionSort lt (rd lt d a b limit wb wp).d2 a b := if_pos hc
theorem rd_pi_no (hc : (wb && wp && decide ((rd lt d a b limit wb wp).hint = .increasing)) = false) : (rd lt d a b limit wb wp).pi = ((rd lt d a b limit wb wp).d2, false) := if_neg (fun h => Bool.false_ne_true (hc.symm.trans h))
theorem rd_lim_le : (rd lt d a b limit wb wp).lim ≤ limit := by
 show (if (!wb) = true then limit - 1 else limit) ≤ limit
 split <;> omega
theorem rd_facts (h : SWO lt) (hpi : partialInsertionSort_stmt lt) (hrev : reverseRange_stmt α) (hab : a < b) (hb : b ≤ d.size) (hB : Below lt a b d) :
  (rd lt d a b limit wb wp).d1.size = d.size ∧ Below lt a b (rd lt d a b limit wb wp).d1 ∧ (a ≤ (rd lt d a b limit wb wp).c.1 ∧ (rd lt d a b limit wb wp).c.1 < b) ∧
  (rd lt d a b limit wb wp).d2.size = d.size ∧ Below lt a b (rd lt d a b limit wb wp).d2 ∧ (a ≤ (rd lt d a b limit wb wp).pivot ∧ (rd lt d a b limit wb wp).pivot < b) ∧
  (rd lt d a b limit wb wp).pi.1.size = d.size ∧ Below lt a b (rd lt d a b limit wb wp).pi.1 := by
 have p1 : PermIn a b d (rd lt d a b limit wb wp).d1 := step_break d (Nat.le_of_lt hab) hb ((!wb) = true)
 have s1 := p1.1
 have B1 := hB.perm hb p1
 have c1 : a ≤ (rd lt d a b limit wb wp).c.1 ∧ (rd lt d a b limit wb wp).c.1 < b := choosePivot_holds lt (rd lt d a b limit wb wp).d1 a b hab
 have p2 : PermIn a b (rd lt d a b limit wb wp).d1 (rd lt d a b limit wb wp).d2 := step_reverse hrev (rd lt d a b limit wb wp).d1 (Nat.le_of_lt hab) (by rw [s1]; exact hb) ((rd lt d a b limit wb wp).c.2 = .decreasing)
 have s2 := p2.1.trans s1
 have B2 := B1.perm (by rw [s1]; exact hb) p2
 have pv : a ≤ (rd lt d a b limit wb wp).pivot ∧ (rd lt d a b limit wb wp).pivot < b := pivot_range c1.1 c1.2 ((rd lt d a b limit wb wp).c.2 = .decreasing)
 have p3 : PermIn a b (rd lt d a b limit wb wp).d2 (rd lt d a b limit wb wp).pi.1 := (step_partial hpi h (rd lt d a b limit wb wp).d2 hab (by rw [s2]; exact hb) B2 ((wb && wp && decide ((rd lt d a b limit wb wp).hint = .increasing)) = true)).1
 exact ⟨s1, B1, c1, s2, B2, pv, p3.1.trans s2, B2.perm (by rw [s2]; exact hb) p3⟩
end
end Go.Sort
namespace Go.Proofs.YtkdajhmlhjkcdaaGreatDoor
open Go.Sort Go.RowKit
abbrev encI : Int → Value := fun x => Value.int .u16 x
theorem swap_world {α : Type} [Inhabited α] (enc : α → Value) {w wr : World} {n blk off : Nat} {dk : Array α} {i j : Nat} (hi : i < dk.size) (hj : j < dk.size) (hwr : wr = putRow enc (Sort.ahead w n) blk off dk)
  {x y : Value} (hx : x = enc dk[j]!) (hy : y = enc dk[i]!) : ((wr.setCell ⟨blk, off + i, none⟩ x).setCell ⟨blk, off + j, none⟩ y).drew = putRow enc (Sort.ahead w (n + 1)) blk off (swp dk i j) := by
 subst hwr; subst hx; subst hy
 rw [putRow_swp enc _ blk off dk i j hi hj, ← ahead_drew]
 rfl
set_option maxHeartbeats 1600000 in
set_option maxRecDepth 1000000 in
theorem so_reverseRange_int (blk off cap : Nat) (d : Array Int) (a b : Nat) (w : World) (hH : Holds encI w blk off d) (hab : a ≤ b) (hb : b ≤ d.size) (hsz : d.size < 4611686018427387904) :
  Calls Tryz.prog 141 #[.slice (some ⟨blk, off, none⟩) d.size cap, .int .i64 a, .int .i64 b] w fun e w' => e = .returned (.tuple #[]) ∧ ∃ n, w' = putRow encI (Sort.ahead w n) blk off (reverseRange d a b) := by
 go_enter Tryz.func141, Tryz.ntmps141
 go_wp2
 go_loopg [6, 7] (b - a) (fun k s6 s7 wr => ∃ (i jn : Nat) (jz : Int) (dk : Array Int) (n : Nat), s6 = .int .i64 i ∧ s7 = .int .i64 jz ∧ ((i : Int) < jz → jz = jn ∧ jn < d.size) ∧ (¬ (i : Int) < jz → ¬ i < jn) ∧ jn - i ≤ k ∧
  dk.size = d.size ∧ wr = putRow encI (Sort.ahead w n) blk off dk ∧ reverseLoop i jn dk = reverseLoop a (b - 1) d)
 case atStart => exact ⟨a, b - 1, (b : Int) - 1, d, 0, rfl, rfl, fun h => ⟨by omega, by omega⟩, fun h => by omega, by omega, rfl, (putRow_self encI w blk off d hH).symm, rfl⟩
 case round =>
 obtain ⟨i, jn, jz, dk, n, rfl, rfl, h1, h2, hk, hds, hwr, heq⟩ := hrel
 by_cases hlt : (i : Int) < jz
 ·obtain ⟨rfl, hjn⟩ := h1 hlt
  have hij : i < jn := by omega
  have hHk : Holds encI wr blk off dk := by rw [hwr]; exact holds_putRow encI _ blk off d dk (holds_ahead encI w n blk off d hH) hds
  obtain ⟨ci, fi⟩ := hHk i (by omega)
  obtain ⟨cj, fj⟩ := hHk jn (by omega)
  have A : Aside (wr = putRow encI (Sort.ahead w n) blk off dk) := hwr
  clear hwr hHk hH h1 h2
  go_wp2_with fail
  go_region
  go_wp2
  go_roundg (jn - 1 - (i + 1))
  case measure => omega
  case rel =>
  rw [reverseLoop, if_pos hij] at heq
  exact ⟨i + 1, jn - 1, (jn : Int) - 1, swp dk i jn, n + 1, by simp, rfl, fun h => ⟨by omega, by omega⟩, fun h => by omega, Nat.le_refl _, by rw [size_swp]; exact hds,
   swap_world encI (by omega) (by omega) A.out (by simp [encI, getElem!_pos, show jn < dk.size by omega]) rfl, heq⟩
 have hnot := h2 hlt
 go_wp2
 go_end0
 refine ⟨rfl, n, ?_⟩
 rw [reverseLoop, if_neg hnot] at heq
 rw [reverseRange, ← heq]
end Go.Proofs.YtkdajhmlhjkcdaaGreatDoor
namespace Go.Sort
variable {α : Type} [Inhabited α] (lt : α → α → Bool)
theorem sd_end {hi F root : Nat} (d : Array α) (h : hi ≤ 2 * root + 1) : siftDown lt hi F root d = d := by rw [siftDown, dif_pos h]
theorem sd_right_stop {hi F root : Nat} (d : Array α) (h1 : 2 * root + 2 < hi) (h2 : lt d[F + (2 * root + 1)]! d[F + (2 * root + 2)]! = true) (h3 : lt d[F + root]! d[F + (2 * root + 2)]! = false) : siftDown lt hi F root d = d := by
 rw [siftDown, dif_neg (by omega), show F + (2 * root + 1) + 1 = F + (2 * root + 2) by omega, h2, h3]
 simp [show 2 * root + 1 + 1 < hi by omega]
theorem sd_right_go {hi F root : Nat} (d : Array α) (h1 : 2 * root + 2 < hi) (h2 : lt d[F + (2 * root + 1)]! d[F + (2 * root + 2)]! = true) (h3 : lt d[F + root]! d[F + (2 * root + 2)]! = true) :
  siftDown lt hi F root d = siftDown lt hi F (2 * root + 2) (swp d (F + root) (F + (2 * root + 2))) := by
 rw [siftDown, dif_neg (by omega), show F + (2 * root + 1) + 1 = F + (2 * root + 2) by omega, h2, h3]
 simp [show 2 * root + 1 + 1 < hi by omega]
theorem sd_left_stop {hi F root : Nat} (d : Array α) (h0 : 2 * root + 1 < hi) (h1 : 2 * root + 2 < hi → lt d[F + (2 * root + 1)]! d[F + (2 * root + 2)]! = false) (h3 : lt d[F + root]! d[F + (2 * root + 1)]! = false) : siftDown lt hi F root d = d := by
 rw [siftDown, dif_neg (by omega), show F + (2 * root + 1) + 1 = F + (2 * root + 2) by omega, h3]
 by_cases h : 2 * root + 2 < hi
 ·simp [h1 h]
 simp [show ¬ 2 * root + 1 + 1 < hi by omega]
theorem sd_left_go {hi F root : Nat} (d : Array α) (h0 : 2 * root + 1 < hi) (h1 : 2 * root + 2 < hi → lt d[F + (2 * root + 1)]! d[F + (2 * root + 2)]! = false) (h3 : lt d[F + root]! d[F + (2 * root + 1)]! = true) :
  siftDown lt hi F root d = siftDown lt hi F (2 * root + 1) (swp d (F + root) (F + (2 * root + 1))) := by
 rw [siftDown, dif_neg (by omega), show F + (2 * root + 1) + 1 = F + (2 * root + 2) by omega, h3]
 by_cases h : 2 * root + 2 < hi
 ·simp [h1 h]
 simp [show ¬ 2 * root + 1 + 1 < hi by omega]
end Go.Sort
namespace Go.Proofs.YtkdajhmlhjkcdaaGreatDoor
open Go.Sort Go.RowKit
theorem drewN_world {α : Type} [Inhabited α] (enc : α → Value) {w wr : World} {n blk off : Nat} {dk : Array α} (hwr : wr = putRow enc (Sort.ahead w n) blk off dk) (m : Nat) : wr.drewN m = putRow enc (Sort.ahead w (n + m)) blk off dk := by
 subst hwr
 rw [← ahead_ahead]
 rfl
set_option maxHeartbeats 3200000 in
set_option maxRecDepth 1000000 in
theorem so_siftDown_int (blk off len cap : Nat) (d : Array Int) (hlen : d.size = len) (lo hi first : Nat) (w : World) (hH : Holds encI w blk off d) (hlo : lo ≤ hi) (hb : first + hi ≤ d.size) (hsz : d.size < 4611686018427387904) :
  Calls Tryz.prog 166 #[.slice (some ⟨blk, off, none⟩) len cap, .int .i64 lo, .int .i64 hi, .int .i64 first] w fun e w' => e = .returned (.tuple #[]) ∧ ∃ n, w' = putRow encI (Sort.ahead w n) blk off (siftDown ltInt hi first lo d) := by
 subst hlen
 go_enter Tryz.func166, Tryz.ntmps166
 go_wp2
 go_loopg [8] (hi - lo) (fun k s8 wr => ∃ (root : Nat) (dk : Array Int) (n : Nat), s8 = .int .i64 root ∧ root ≤ hi ∧ hi - root ≤ k ∧ dk.size = d.size ∧ wr = putRow encI (Sort.ahead w n) blk off dk ∧ siftDown ltInt hi first root dk = siftDown ltInt hi first lo d)
 case atStart => exact ⟨lo, d, 0, rfl, hlo, Nat.le_refl _, rfl, (putRow_self encI w blk off d hH).symm, rfl⟩
 case round =>
 obtain ⟨root, dk, n, rfl, hr, hk, hds, hwr, heq⟩ := hrel
 have hHk : Holds encI wr blk off dk := by rw [hwr]; exact holds_putRow encI _ blk off d dk (holds_ahead encI w n blk off d hH) hds
 have hcw : ∀ t, t < d.size → wr.cell? ⟨blk, off + t, none⟩ = some (.int .u16 dk[t]!) := fun t ht => (hHk t (by omega)).1
 have hfw : ∀ t, t < d.size → wr.frozen? ⟨blk, off + t, none⟩ = false := fun t ht => (hHk t (by omega)).2
 have A : Aside (wr = putRow encI (Sort.ahead w n) blk off dk) := hwr
 clear hwr hH hHk
 by_cases h0 : hi ≤ 2 * root + 1
 ·
  have h0z : (hi : Int) ≤ 2 * (root : Int) + 1 := by omega
  go_wp2
  go_end0
  refine ⟨rfl, n, ?_⟩
  rw [A.out, ← heq, sd_end ltInt dk h0]
 ·
  have h0z : ¬ ((hi : Int) ≤ 2 * (root : Int) + 1) := by omega
  by_cases h1 : 2 * root + 2 < hi
  ·have h1z : 2 * (root : Int) + 1 + 1 < (hi : Int) := by omega
   go_wp2_with fail
   go_big_quiet (first | (go_at_call 143; refine Calls.quiet_of_same (so_cmp_Less_int _ _ _)))
   go_wp2_with fail
   ·
    have hL : ltInt dk[first + 2 * root + 1]! dk[first + 2 * root + 2]! = true := by assumption
    revert nq; intro nq1
    have hcw2 : ∀ t, t < d.size → (wr.drewN nq1).cell? ⟨blk, off + t, none⟩ = some (.int .u16 dk[t]!) := hcw
    have hfw2 : ∀ t, t < d.size → (wr.drewN nq1).frozen? ⟨blk, off + t, none⟩ = false := hfw
    have A2 : Aside (wr.drewN nq1 = putRow encI (Sort.ahead w (n + nq1)) blk off dk) := drewN_world encI A.out nq1
    clear hcw hfw A
    generalize wr.drewN nq1 = wr2 at hcw2 hfw2 A2 ⊢
    go_big_quiet (first | (go_at_call 143; refine Calls.quiet_of_same (so_cmp_Less_int _ _ _)))
    go_wp2_with fail
    ·
     have hS : ltInt dk[first + root]! dk[first + 2 * root + 2]! = false := by
      have : (!ltInt dk[first + root]! dk[first + 2 * root + 2]!) = true := by assumption
      simpa using this
     (try simp only [Exit.inBlock, Exit.then]); refine bodyPost_ret (results_none rfl _ _ _) rfl ?_
     refine ⟨rfl, n + nq1 + nq, ?_⟩
     rw [drewN_world encI A2.out nq, ← heq, sd_right_stop ltInt dk h1 hL hS]
    ·
     have hG : ltInt dk[first + root]! dk[first + 2 * root + 2]! = true := by
      have : (!ltInt dk[first + root]! dk[first + 2 * root + 2]!) = false := by assumption
      simpa using this
     have hcw3 : ∀ t, t < d.size → (wr2.drewN nq).cell? ⟨blk, off + t, none⟩ = some (.int .u16 dk[t]!) := hcw2
     have hfw3 : ∀ t, t < d.size → (wr2.drewN nq).frozen? ⟨blk, off + t, none⟩ = false := hfw2
     have A3 : Aside (wr2.drewN nq = putRow encI (Sort.ahead w (n + nq1 + nq)) blk off dk) := drewN_world encI A2.out nq
     clear hcw2 hfw2 A2
     generalize wr2.drewN nq = wr3 at hcw3 hfw3 A3 ⊢
     go_region
     go_wp2
     go_roundg (hi - (2 * root + 2))
     case measure => omega
     case rel =>
     refine ⟨2 * root + 2, swp dk (first + root) (first + (2 * root + 1 + 1)), n + nq1 + nq + 1, by simp <;> omega, by omega, Nat.le_refl _, by rw [size_swp]; exact hds, swap_world encI (by omega) (by omega) A3.out rfl rfl, ?_⟩
     rw [← heq, sd_right_go ltInt dk h1 hL hG]
   ·
    have hL : ltInt dk[first + 2 * root + 1]! dk[first + 2 * root + 2]! = false := by assumption
    revert nq; intro nq1
    have hcw2 : ∀ t, t < d.size → (wr.drewN nq1).cell? ⟨blk, off + t, none⟩ = some (.int .u16 dk[t]!) := hcw
    have hfw2 : ∀ t, t < d.size → (wr.drewN nq1).frozen? ⟨blk, off + t, none⟩ = false := hfw
    have A2 : Aside (wr.drewN nq1 = putRow encI (Sort.ahead w (n + nq1)) blk off dk) := drewN_world encI A.out nq1
    clear hcw hfw A
    generalize wr.drewN nq1 = wr2 at hcw2 hfw2 A2 ⊢
    go_big_quiet (first | (go_at_call 143; refine Calls.quiet_of_same (so_cmp_Less_int _ _ _)))
    go_wp2_with fail
    ·
     have hS : ltInt dk[first + root]! dk[first + 2 * root + 1]! = false := by
      have : (!ltInt dk[first + root]! dk[first + 2 * root + 1]!) = true := by assumption
      simpa using this
     (try simp only [Exit.inBlock, Exit.then]); refine bodyPost_ret (results_none rfl _ _ _) rfl ?_
     refine ⟨rfl, n + nq1 + nq, ?_⟩
     rw [drewN_world encI A2.out nq, ← heq, sd_left_stop ltInt dk (by omega) (fun _ => hL) hS]
    ·
     have hG : ltInt dk[first + root]! dk[first + 2 * root + 1]! = true := by
      have : (!ltInt dk[first + root]! dk[first + 2 * root + 1]!) = false := by assumption
      simpa using this
     have hcw3 : ∀ t, t < d.size → (wr2.drewN nq).cell? ⟨blk, off + t, none⟩ = some (.int .u16 dk[t]!) := hcw2
     have hfw3 : ∀ t, t < d.size → (wr2.drewN nq).frozen? ⟨blk, off + t, none⟩ = false := hfw2
     have A3 : Aside (wr2.drewN nq = putRow encI (Sort.ahead w (n + nq1 + nq)) blk off dk) := drewN_world encI A2.out nq
     clear hcw2 hfw2 A2
     generalize wr2.drewN nq = wr3 at hcw3 hfw3 A3 ⊢
     go_region
     go_wp2
     go_roundg (hi - (2 * root + 1))
     case measure => omega
     case rel =>
     refine ⟨2 * root + 1, swp dk (first + root) (first + (2 * root + 1)), n + nq1 + nq + 1, by simp <;> omega, by omega, Nat.le_refl _, by rw [size_swp]; exact hds, swap_world encI (by omega) (by omega) A3.out rfl rfl, ?_⟩
     rw [← heq, sd_left_go ltInt dk (by omega) (fun _ => hL) hG]
  ·
   have h1z : decide (2 * (root : Int) + 1 + 1 < (hi : Int)) = false := decide_eq_false (by omega)
   go_wp2_with fail
   go_big_quiet (first | (go_at_call 143; refine Calls.quiet_of_same (so_cmp_Less_int _ _ _)))
   go_wp2_with fail
   revert nq; intro nq1
   have hcw2 : ∀ t, t < d.size → (wr.drewN nq1).cell? ⟨blk, off + t, none⟩ = some (.int .u16 dk[t]!) := hcw
   have hfw2 : ∀ t, t < d.size → (wr.drewN nq1).frozen? ⟨blk, off + t, none⟩ = false := hfw
   have A2 : Aside (wr.drewN nq1 = putRow encI (Sort.ahead w (n + nq1)) blk off dk) := drewN_world encI A.out nq1
   clear hcw hfw A
   generalize wr.drewN nq1 = wr2 at hcw2 hfw2 A2 ⊢
   go_big_quiet (first | (go_at_call 143; refine Calls.quiet_of_same (so_cmp_Less_int _ _ _)))
   go_wp2_with fail
   ·
    have hS : ltInt dk[first + root]! dk[first + 2 * root + 1]! = false := by
     have : (!ltInt dk[first + root]! dk[first + 2 * root + 1]!) = true := by assumption
     simpa using this
    (try simp only [Exit.inBlock, Exit.then]); refine bodyPost_ret (results_none rfl _ _ _) rfl ?_
    refine ⟨rfl, n + nq1 + nq, ?_⟩
    rw [drewN_world encI A2.out nq, ← heq, sd_left_stop ltInt dk (by omega) (fun h => absurd h h1) hS]
   ·
    have hG : ltInt dk[first + root]! dk[first + 2 * root + 1]! = true := by
     have : (!ltInt dk[first + root]! dk[first + 2 * root + 1]!) = false := by assumption
     simpa using this
    have hcw3 : ∀ t, t < d.size → (wr2.drewN nq).cell? ⟨blk, off + t, none⟩ = some (.int .u16 dk[t]!) := hcw2
    have hfw3 : ∀ t, t < d.size → (wr2.drewN nq).frozen? ⟨blk, off + t, none⟩ = false := hfw2
    have A3 : Aside (wr2.drewN nq = putRow encI (Sort.ahead w (n + nq1 + nq)) blk off dk) := drewN_world encI A2.out nq
    clear hcw2 hfw2 A2
    generalize wr2.drewN nq = wr3 at hcw3 hfw3 A3 ⊢
    go_region
    go_wp2
    go_roundg (hi - (2 * root + 1))
    case measure => omega
    case rel =>
    refine ⟨2 * root + 1, swp dk (first + root) (first + (2 * root + 1)), n + nq1 + nq + 1, by simp <;> omega, by omega, Nat.le_refl _, by rw [size_swp]; exact hds, swap_world encI (by omega) (by omega) A3.out rfl rfl, ?_⟩
    rw [← heq, sd_left_go ltInt dk (by omega) (fun h => absurd h h1) hG]
end Go.Proofs.YtkdajhmlhjkcdaaGreatDoor
namespace Go.Sort
variable {α : Type} [Inhabited α] (lt : α → α → Bool)
theorem size_siftDown (hi F : Nat) : ∀ (n root : Nat) (d : Array α), hi - root ≤ n → (siftDown lt hi F root d).size = d.size := by
 intro n
 induction n with
 | zero => intro root d h; rw [siftDown, dif_pos (by omega)]
 | succ n ih =>
  intro root d h
  rw [siftDown]
  split
  ·rfl
  split
  ·split
   ·rfl
   split
   ·rw [ih _ _ (by omega), size_swp]
   rfl
  split
  ·rfl
  rw [ih _ _ (by omega), size_swp]
end Go.Sort
namespace Go.Proofs.YtkdajhmlhjkcdaaGreatDoor
open Go.Sort Go.RowKit
theorem half_start {a b : Nat} (hab : a ≤ b) : ((b : Int) - (a : Int) - 1).tdiv 2 = (((b - a - 1) / 2 + 1 : Nat) : Int) - 1 := by
 by_cases h : a = b
 ·subst h
  have : ((a : Int) - (a : Int) - 1) = -1 := by omega
  rw [this]
  simp
 rw [Int.tdiv_eq_ediv_of_nonneg (by omega)]
 omega
set_option maxHeartbeats 3200000 in
set_option maxRecDepth 1000000 in
theorem so_heapSort_int (blk off len cap : Nat) (d : Array Int) (hlen : d.size = len) (a b : Nat) (w : World) (hH : Holds encI w blk off d) (hab : a ≤ b) (hb : b ≤ d.size) (hsz : d.size < 4611686018427387904) :
  Calls Tryz.prog 138 #[.slice (some ⟨blk, off, none⟩) len cap, .int .i64 a, .int .i64 b] w fun e w' => e = .returned (.tuple #[]) ∧ ∃ n, w' = putRow encI (Sort.ahead w n) blk off (heapSort ltInt d a b) := by
 subst hlen
 have ecast : ((b - a : Nat) : Int) = (b : Int) - (a : Int) := by omega
 go_enter Tryz.func138, Tryz.ntmps138
 go_wp2
 go_loopg [9] ((b - a - 1) / 2 + 1) (fun k s9 wr => s9 = .int .i64 ((k : Int) - 1) ∧ k ≤ (b - a - 1) / 2 + 1 ∧ ∃ (dk : Array Int) (n : Nat), dk.size = d.size ∧ wr = putRow encI (Sort.ahead w n) blk off dk ∧
  heapBuild ltInt (b - a) a k dk = heapBuild ltInt (b - a) a ((b - a - 1) / 2 + 1) d)
 case atStart => exact ⟨by rw [half_start hab], Nat.le_refl _, d, 0, rfl, (putRow_self encI w blk off d hH).symm, rfl⟩
 case round =>
 obtain ⟨rfl, hkk, dk, n, hds, hwr, heq⟩ := hrel
 have hHk : Holds encI wr blk off dk := by rw [hwr]; exact holds_putRow encI _ blk off d dk (holds_ahead encI w n blk off d hH) hds
 have A : Aside (wr = putRow encI (Sort.ahead w n) blk off dk) := hwr
 clear hwr
 cases gk with
 | zero =>
  have hB : dk = heapBuild ltInt (b - a) a ((b - a - 1) / 2 + 1) d := heq
  clear heq hHk hkk
  go_wp2
  go_loopg [10] (b - a) (fun k s10 wr2 => s10 = .int .i64 ((k : Int) - 1) ∧ k ≤ b - a ∧ ∃ (dj : Array Int) (n2 : Nat), dj.size = d.size ∧ wr2 = putRow encI (Sort.ahead w n2) blk off dj ∧ heapPop ltInt a k dj = heapPop ltInt a (b - a) dk)
  case atStart => exact ⟨by rw [ecast], Nat.le_refl _, dk, n, hds, A.out, rfl⟩
  case round =>
  obtain ⟨rfl, hkk, dj, n2, hdj, hwr2, heq2⟩ := hrel
  cases gk with
  | zero =>
   go_wp2
   go_end0
   refine ⟨rfl, n2, ?_⟩
   have e : dj = heapSort ltInt d a b := by rw [heapSort, ← hB, ← heq2]; rfl
   rw [← e]
  | succ k =>
   have hHj : Holds encI wr blk off dj := by rw [hwr2]; exact holds_putRow encI _ blk off d dj (holds_ahead encI w n2 blk off d hH) hdj
   have hcw : ∀ t, t < d.size → wr.cell? ⟨blk, off + t, none⟩ = some (.int .u16 dj[t]!) := fun t ht => (hHj t (by omega)).1
   have hfw : ∀ t, t < d.size → wr.frozen? ⟨blk, off + t, none⟩ = false := fun t ht => (hHj t (by omega)).2
   have A2 : Aside (wr = putRow encI (Sort.ahead w n2) blk off dj) := hwr2
   clear hwr2 hHj
   rcases Nat.eq_zero_or_pos k with hk0 | hkp
   ·subst hk0
    go_wp2_with fail
    go_region
    go_wp2_with fail
    rw [swap_world encI (i := a) (j := a) (by omega) (by omega) A2.out rfl rfl]
    refine (so_siftDown_int blk off d.size cap (swp dj a (a)) (by rw [size_swp]; exact hdj) 0 0 a _ (holds_putRow encI _ blk off d _ (holds_ahead encI w (n2 + 1) blk off d hH) (by rw [size_swp]; exact hdj)) (Nat.zero_le _) (by rw [size_swp]; omega) (by rw [size_swp]; omega)).mono ?_
    rintro e w1 ⟨rfl, m, hw1⟩
    go_wp2
    go_roundg 0
    case measure => omega
    case rel =>
    refine ⟨by simp, by omega, siftDown ltInt 0 a 0 (swp dj a (a)), n2 + 1 + m, by rw [size_siftDown ltInt _ _ _ _ _ (Nat.le_refl _), size_swp]; exact hdj, ?_, heq2⟩
    first
     | rw [hw1, putRow_ahead_putRow encI w (n2 + 1) m blk off _ _ (size_siftDown ltInt _ _ _ _ _ (Nat.le_refl _))]
     | rw [putRow_ahead_putRow encI w (n2 + 1) m blk off _ _ (size_siftDown ltInt _ _ _ _ _ (Nat.le_refl _))]
   skip
   go_wp2_with fail
   go_region
   go_wp2_with fail
   rw [swap_world encI (i := a) (j := a + k) (by omega) (by omega) A2.out rfl rfl]
   refine (so_siftDown_int blk off d.size cap (swp dj a (a + k)) (by rw [size_swp]; exact hdj) 0 k a _ (holds_putRow encI _ blk off d _ (holds_ahead encI w (n2 + 1) blk off d hH) (by rw [size_swp]; exact hdj)) (Nat.zero_le _) (by rw [size_swp]; omega) (by rw [size_swp]; omega)).mono ?_
   rintro e w1 ⟨rfl, m, hw1⟩
   go_wp2
   go_roundg k
   case measure => omega
   case rel =>
   refine ⟨by simp, by omega, siftDown ltInt k a 0 (swp dj a (a + k)), n2 + 1 + m, by rw [size_siftDown ltInt _ _ _ _ _ (Nat.le_refl _), size_swp]; exact hdj, ?_, heq2⟩
   first
    | rw [hw1, putRow_ahead_putRow encI w (n2 + 1) m blk off _ _ (size_siftDown ltInt _ _ _ _ _ (Nat.le_refl _))]
    | rw [putRow_ahead_putRow encI w (n2 + 1) m blk off _ _ (size_siftDown ltInt _ _ _ _ _ (Nat.le_refl _))]
 | succ k =>
  have hcall := so_siftDown_int blk off d.size cap dk hds k (b - a) a wr hHk (by omega) (by omega) (by omega)
  rw [ecast] at hcall
  go_wp2_with (go_at_call 166; refine hcall.mono ?_; rintro e w1 ⟨rfl, m, hw1⟩)
  go_roundg k
  case measure => omega
  case rel =>
  refine ⟨by simp, by omega, siftDown ltInt (b - a) a k dk, n + m, by rw [size_siftDown ltInt _ _ _ _ _ (Nat.le_refl _)]; exact hds, ?_, heq⟩
  rw [A.out, putRow_ahead_putRow encI w n m blk off dk _ (size_siftDown ltInt _ _ _ _ _ (Nat.le_refl _))]
end Go.Proofs.YtkdajhmlhjkcdaaGreatDoor
namespace Go.Proofs.YtkdajhmlhjkcdaaGreatDoor
open Go.Sort Go.RowKit
structure Callees13 : Prop where
 ins : ∀ (blk off cap a b : Nat) (d : Array Int) (w : World), Holds encI w blk off d → a ≤ b → b ≤ d.size → d.size < 4611686018427387904 →
  Calls Tryz.prog 137 #[.slice (some ⟨blk, off, none⟩) d.size cap, .int .i64 a, .int .i64 b] w fun e w' => e = .returned (.tuple #[]) ∧ ∃ n, w' = putRow encI (Sort.ahead w n) blk off (insertionSort ltInt d a b)
 brk : ∀ (blk off cap a b : Nat) (d : Array Int) (w : World), Holds encI w blk off d → blk < w.heap.size → a ≤ b → b ≤ d.size → d.size < 4611686018427387904 →
  Calls Tryz.prog 139 #[.slice (some ⟨blk, off, none⟩) d.size cap, .int .i64 a, .int .i64 b] w fun e w' => e = .returned (.tuple #[]) ∧ ∃ n os, w' = grow (putRow encI (Sort.ahead w n) blk off (breakPatterns d a b)) os
 piv : ∀ (blk off cap a b : Nat) (d : Array Int) (w : World), Holds encI w blk off d → blk < w.heap.size → a < b → b ≤ d.size → d.size < 4611686018427387904 →
  Calls Tryz.prog 140 #[.slice (some ⟨blk, off, none⟩) d.size cap, .int .i64 a, .int .i64 b] w fun e w' => e = .returned (.tuple #[.int .i64 (choosePivot ltInt d a b).1, .int .i64 (hintCode (choosePivot ltInt d a b).2)]) ∧ ∃ n os, w' = grow (Sort.ahead w n) os
 par : ∀ (blk off cap a b : Nat) (d : Array Int) (w : World), Holds encI w blk off d → a < b → b ≤ d.size → d.size < 4611686018427387904 →
  Calls Tryz.prog 142 #[.slice (some ⟨blk, off, none⟩) d.size cap, .int .i64 a, .int .i64 b] w fun e w' => e = .returned (.bool (partialInsertionSort ltInt d a b).2) ∧ ∃ n, w' = putRow encI (Sort.ahead w n) blk off (partialInsertionSort ltInt d a b).1
 peq : ∀ (blk off cap a b pivot : Nat) (d : Array Int) (w : World), Holds encI w blk off d → a ≤ pivot → pivot < b → b ≤ d.size → d.size < 4611686018427387904 →
  Calls Tryz.prog 144 #[.slice (some ⟨blk, off, none⟩) d.size cap, .int .i64 a, .int .i64 b, .int .i64 pivot] w fun e w' => e = .returned (.int .i64 (partitionEqual ltInt d a b pivot).1) ∧ ∃ n, w' = putRow encI (Sort.ahead w n) blk off (partitionEqual ltInt d a b pivot).2
 prt : ∀ (blk off cap a b pivot : Nat) (d : Array Int) (w : World), Holds encI w blk off d → a ≤ pivot → pivot < b → b ≤ d.size → d.size < 4611686018427387904 →
  Calls Tryz.prog 145 #[.slice (some ⟨blk, off, none⟩) d.size cap, .int .i64 a, .int .i64 b, .int .i64 pivot] w fun e w' => e = .returned (.tuple #[.int .i64 (partition ltInt d a b pivot).1, .bool (partition ltInt d a b pivot).2.1]) ∧ ∃ n, w' = putRow encI (Sort.ahead w n) blk off (partition ltInt d a b pivot).2.2
structure Plain13 : Prop where
 swo : SWO ltInt
 ins : insertionSort_stmt ltInt
 par : partialInsertionSort_stmt ltInt
 prt : partition_stmt ltInt
 peq : partitionEqual_stmt ltInt
 pdq : pdq_stmt ltInt
theorem hintCode_two {h : Hint} (e : hintCode h = 2) : h = .decreasing := by cases h <;> simp [hintCode] at e ⊢
theorem eighth {x y p q : Nat} (h1 : q ≤ p) (h2 : y ≤ x) : decide (((x : Int) - (y : Int)) / 8 ≤ (p : Int) - (q : Int)) = decide (p - q ≥ (x - y) / 8) :=
 decide_eq_decide.2 ⟨fun h => by omega, fun h => by omega⟩
set_option maxHeartbeats 6400000 in
set_option maxRecDepth 1000000 in
theorem so_pdqsort_int (C : Callees13) (S : Plain13) : ∀ (N blk off cap a b limit : Nat) (d : Array Int) (w : World), b - a < N → Holds encI w blk off d → blk < w.heap.size → a ≤ b → b ≤ d.size → d.size < 4611686018427387904 → limit < 4611686018427387904 → Below ltInt a b d →
  Calls Tryz.prog 115 #[.slice (some ⟨blk, off, none⟩) d.size cap, .int .i64 a, .int .i64 b, .int .i64 limit] w fun e w' => e = .returned (.tuple #[]) ∧ At encI w blk off (pdq ltInt d a b limit true true) w' := by
 intro N
 induction N with
 | zero => intro _ _ _ _ _ _ _ _ h; exact absurd h (Nat.not_lt_zero _)
 | succ N ih =>
  intro blk off cap a b limit d w hN hH hblk hab hb hsz hlimit hBel0
  go_enter Tryz.func115, Tryz.ntmps115
  go_wp2
  go_loopg [1, 2, 3, 8, 9] (b - a) (fun k s1 s2 s3 s8 s9 wr => ∃ (a' b' lim : Nat) (wb wp : Bool) (dk : Array Int), s1 = .int .i64 a' ∧ s2 = .int .i64 b' ∧ s3 = .int .i64 lim ∧ s8 = .bool wb ∧ s9 = .bool wp ∧
   a' ≤ b' ∧ b' ≤ d.size ∧ b' - a' ≤ k ∧ k ≤ b - a ∧ lim ≤ limit ∧ dk.size = d.size ∧ Below ltInt a' b' dk ∧ At encI w blk off dk wr ∧ pdq ltInt dk a' b' lim wb wp = pdq ltInt d a b limit true true)
  case atStart => exact ⟨a, b, limit, true, true, d, rfl, rfl, rfl, rfl, rfl, hab, hb, Nat.le_refl _, Nat.le_refl _, Nat.le_refl _, rfl, hBel0, At.refl hH, rfl⟩
  case round =>
  obtain ⟨a', b', lim, wb, wp, dk, rfl, rfl, rfl, rfl, rfl, hab', hb', hk, hkN, hlim, hds, hBel, hAt, heq⟩ := hrel
  obtain ⟨hHk, hblk'⟩ := hAt.holds hH hds hblk
  have A : Aside (pdq ltInt dk a' b' lim wb wp = pdq ltInt d a b limit true true) := heq
  clear heq
  by_cases h12 : b' - a' ≤ 12
  ·
   have h12z : (b' : Int) - (a' : Int) ≤ 12 := by omega
   have hc := C.ins blk off cap a' b' dk wr hHk hab' (by omega) (by omega)
   rw [hds] at hc
   go_wp2_with (go_at_call 137; refine hc.mono ?_; rintro e w1 ⟨rfl, hw1⟩)
   (try simp only [Exit.inBlock, Exit.then]); refine bodyPost_ret (results_none rfl _ _ _) rfl ?_
   refine ⟨rfl, ?_⟩
   rw [← A.out, pdq_small h12]
   exact hAt.step hblk (S.ins S.swo dk a' b' hab' (by omega)).1.1 hw1
  have h12z : ¬ ((b' : Int) - (a' : Int) ≤ 12) := by omega
  by_cases hl0 : lim = 0
  ·
   subst hl0
   have hc := so_heapSort_int blk off d.size cap dk hds a' b' wr hHk hab' (by omega) (by omega)
   go_wp2_with (go_at_call 138; refine hc.mono ?_; rintro e w1 ⟨rfl, hw1⟩)
   (try simp only [Exit.inBlock, Exit.then]); refine bodyPost_ret (results_none rfl _ _ _) rfl ?_
   refine ⟨rfl, ?_⟩
   rw [← A.out, pdq_heap h12 rfl]
   exact hAt.step hblk (heapSort_holds S.swo dk a' b' hab' (by omega)).1.1 hw1
  have hl0z : ¬ ((lim : Int) = 0) := by omega
  obtain ⟨s1, B1, hc1, s2, B2, hpv, s3, B3⟩ := rd_facts (limit := lim) (wb := wb) (wp := wp) S.swo S.par reverseRange_holds (show a' < b' by omega) (show b' ≤ dk.size by omega) hBel
  go_upto_if 35 with fail
  go_cut [3] from 19 (fun s3 wc => s3 = .int .i64 (rd ltInt dk a' b' lim wb wp).lim ∧ At encI w blk off (rd ltInt dk a' b' lim wb wp).d1 wc)
  case first =>
   cases wb
   ·have hc := C.brk blk off cap a' b' dk wr hHk hblk' hab' (by omega) (by omega)
    rw [hds] at hc
    go_wp2_with (go_at_call 139; refine hc.mono ?_; rintro e w1 ⟨rfl, hw1⟩)
    go_meet
    case rel =>
    refine ⟨?_, hAt.stepG hblk s1 hw1⟩
    show Value.int .i64 ((lim : Int) - 1) = Value.int .i64 ((lim - 1 : Nat) : Int)
    congr 1
    omega
   go_wp2_with fail
   go_meet
   case rel => exact ⟨rfl, hAt⟩
  case rest =>
  obtain ⟨rfl, hAt1⟩ := hcut
  obtain ⟨hH1, hblk1⟩ := hAt1.holds hH (s1.trans hds) hblk
  have hc17 : Calls Tryz.prog 140 #[.slice (some ⟨blk, off, none⟩) d.size cap, .int .i64 a', .int .i64 b'] wc fun e w' => e = .returned (.tuple #[.int .i64 (rd ltInt dk a' b' lim wb wp).c.1, .int .i64 (hintCode (rd ltInt dk a' b' lim wb wp).c.2)]) ∧ ∃ n os, w' = grow (Sort.ahead wc n) os := by
   have := C.piv blk off cap a' b' (rd ltInt dk a' b' lim wb wp).d1 wc hH1 hblk1 (by omega) (by omega) (by omega)
   rw [s1, hds] at this
   exact this
  go_upto_if 50 with (go_at_call 140; refine hc17.mono ?_; rintro e w2 ⟨rfl, hw2⟩)
  have hAt2 : At encI w blk off (rd ltInt dk a' b' lim wb wp).d1 w2 := hAt1.same hH (s1.trans hds) hblk hw2
  obtain ⟨hH2, hblk2⟩ := hAt2.holds hH (s1.trans hds) hblk
  go_cut [11, 12] from 19 (fun s11 s12 wc => s11 = .int .i64 (rd ltInt dk a' b' lim wb wp).pivot ∧ s12 = .int .i64 (hintCode (rd ltInt dk a' b' lim wb wp).hint) ∧ At encI w blk off (rd ltInt dk a' b' lim wb wp).d2 wc)
  case first =>
   by_cases hh : (rd ltInt dk a' b' lim wb wp).c.2 = .decreasing
   ·have hcode : hintCode (rd ltInt dk a' b' lim wb wp).c.2 = 2 := by rw [hh]; rfl
    obtain ⟨e2, epv, eht⟩ := rd_dec hh
    have hc18 := so_reverseRange_int blk off cap (rd ltInt dk a' b' lim wb wp).d1 a' b' w2 hH2 hab' (by omega) (by omega)
    rw [s1, hds] at hc18
    go_wp2_with (go_at_call 141; refine hc18.mono ?_; rintro e w3 ⟨rfl, hw3⟩)
    go_meet
    case rel =>
    refine ⟨?_, by rw [eht]; rfl, by rw [e2]; exact hAt2.step hblk (by rw [← e2, s2, s1]) hw3⟩
    rw [epv]
    congr 1
    omega
   have hcode : ¬ (hintCode (rd ltInt dk a' b' lim wb wp).c.2 = 2) := fun h => hh (hintCode_two h)
   obtain ⟨e2, epv, eht⟩ := rd_not hh
   go_wp2_with fail
   go_meet
   case rel => exact ⟨by rw [epv], by rw [eht], by rw [e2]; exact hAt2⟩
  case rest =>
  obtain ⟨rfl, rfl, hAt3⟩ := hcut
  obtain ⟨hH3, hblk3⟩ := hAt3.holds hH (s2.trans hds) hblk
  go_upto_region 15 with fail
  go_cut [12, 68] from 19 (fun s12 s68 wx => s12 = .int .i64 (hintCode (rd ltInt dk a' b' lim wb wp).hint) ∧ s68 = .bool (wb && wp && decide ((rd ltInt dk a' b' lim wb wp).hint = .increasing)) ∧ wx = wc)
  case first =>
   cases wb <;> cases wp <;> cases hh3 : (rd ltInt dk a' b' lim _ _).hint <;>
    (have hcode3 := congrArg hintCode hh3
     simp only [hintCode] at hcode3
     go_wp2_with fail
     go_meet
     exact ⟨by simp [hh3, hintCode], by simp [hh3, hintCode], rfl⟩)
  case rest =>
  obtain ⟨rfl, rfl, rfl⟩ := hcut
  go_upto_if 68 with fail
  go_cut [] from 19 (fun wx => (rd ltInt dk a' b' lim wb wp).pi.2 = false ∧ At encI w blk off (rd ltInt dk a' b' lim wb wp).pi.1 wx)
  case first =>
   cases h68 : (wb && wp && decide ((rd ltInt dk a' b' lim wb wp).hint = .increasing))
   ·have epi := rd_pi_no h68
    go_wp2_with fail
    go_meet
    case rel => exact ⟨by rw [epi], by rw [epi]; exact hAt3⟩
   have epi := rd_pi_yes h68
   have hc19 := C.par blk off cap a' b' (rd ltInt dk a' b' lim wb wp).d2 wc hH3 (by omega) (by omega) (by omega)
   rw [s2, hds, ← epi] at hc19
   go_wp2_with (go_at_call 142; refine hc19.mono ?_; rintro e w4 ⟨rfl, hw4⟩)
   all_goals first
    | (have hp2 : (rd ltInt dk a' b' lim wb wp).pi.2 = false := by rw [epi]; assumption
       go_meet
       exact ⟨hp2, hAt3.step hblk (by rw [s3, s2]) hw4⟩)
    | (have hp2 : (rd ltInt dk a' b' lim wb wp).pi.2 = true := by rw [epi]; assumption
       (try simp only [Exit.inBlock, Exit.then]); refine bodyPost_ret (results_none rfl _ _ _) rfl ?_
       refine ⟨rfl, ?_⟩
       rw [← A.out, pdq_done h12 hl0 hp2]
       exact hAt3.step hblk (by rw [s3, s2]) hw4)
  case rest =>
  obtain ⟨hp2, hAt5⟩ := hcut
  obtain ⟨hH5, hblk5⟩ := hAt5.holds hH (s3.trans hds) hblk
  have hcw : ∀ t, t < d.size → wc.cell? ⟨blk, off + t, none⟩ = some (.int .u16 (rd ltInt dk a' b' lim wb wp).pi.1[t]!) := fun t ht => (hH5 t (by omega)).1
  have hfw : ∀ t, t < d.size → wc.frozen? ⟨blk, off + t, none⟩ = false := fun t ht => (hH5 t (by omega)).2
  go_upto_region 17 with fail
  go_cut [87] from 19 (fun s87 wx => s87 = .bool (decide (a' > 0) && !ltInt (rd ltInt dk a' b' lim wb wp).pi.1[a' - 1]! (rd ltInt dk a' b' lim wb wp).pi.1[(rd ltInt dk a' b' lim wb wp).pivot]!) ∧ At encI w blk off (rd ltInt dk a' b' lim wb wp).pi.1 wx)
  case first =>
   rcases Nat.eq_zero_or_pos a' with ha0 | ha0
   ·have ha0z : decide ((a' : Int) > 0) = false := decide_eq_false (by omega)
    go_big_quiet (first | (go_at_call 143; refine Calls.quiet_of_same (so_cmp_Less_int _ _ _)))
    go_wp2_with fail
    go_meet
    case rel => exact ⟨by simp [ha0], hAt5.ahead nq⟩
   have ha0z : (a' : Int) > 0 := by omega
   go_big_quiet (first | (go_at_call 143; refine Calls.quiet_of_same (so_cmp_Less_int _ _ _)))
   go_wp2_with fail
   go_meet
   case rel => exact ⟨by simp [ha0], hAt5.ahead nq⟩
  case rest =>
  obtain ⟨rfl, hAt6⟩ := hcut
  obtain ⟨hH6, hblk6⟩ := hAt6.holds hH (s3.trans hds) hblk
  clear hcw hfw
  cases h87 : (decide (a' > 0) && !ltInt (rd ltInt dk a' b' lim wb wp).pi.1[a' - 1]! (rd ltInt dk a' b' lim wb wp).pi.1[(rd ltInt dk a' b' lim wb wp).pivot]!)
  ·
   obtain ⟨mid, ap, d4, hx⟩ : ∃ mid ap d4, partition ltInt (rd ltInt dk a' b' lim wb wp).pi.1 a' b' (rd ltInt dk a' b' lim wb wp).pivot = (mid, ap, d4) := ⟨(partition ltInt (rd ltInt dk a' b' lim wb wp).pi.1 a' b' (rd ltInt dk a' b' lim wb wp).pivot).1, (partition ltInt (rd ltInt dk a' b' lim wb wp).pi.1 a' b' (rd ltInt dk a' b' lim wb wp).pivot).2.1, (partition ltInt (rd ltInt dk a' b' lim wb wp).pi.1 a' b' (rd ltInt dk a' b' lim wb wp).pivot).2.2, rfl⟩
   obtain ⟨r1, r2, r3, r4, r5, r6, r7⟩ := round_part S.swo S.prt hpv.1 hpv.2 (show b' ≤ (rd ltInt dk a' b' lim wb wp).pi.1.size by omega) B3 hx
   have hc22 := C.prt blk off cap a' b' (rd ltInt dk a' b' lim wb wp).pivot (rd ltInt dk a' b' lim wb wp).pi.1 wc hH6 hpv.1 hpv.2 (by omega) (by omega)
   rw [s3, hds, hx] at hc22
   have X : Aside (partition ltInt (rd ltInt dk a' b' lim wb wp).pi.1 a' b' (rd ltInt dk a' b' lim wb wp).pivot = (mid, ap, d4)) := hx
   clear hx
   go_upto_if 113 with (go_at_call 145; refine hc22.mono ?_; rintro e w7 ⟨rfl, hw7⟩)
   have hx := X.out
   have hAt7 : At encI w blk off d4 w7 := hAt6.step hblk r3 hw7
   obtain ⟨hH7, hblk7⟩ := hAt7.holds hH (r3.trans (s3.trans hds)) hblk
   by_cases h4 : mid - a' < b' - mid
   ·have h4z : (mid : Int) - (a' : Int) < (b' : Int) - (mid : Int) := by omega
    have hih := ih blk off cap a' mid (rd ltInt dk a' b' lim wb wp).lim d4 w7 (by omega) hH7 hblk7 (by omega) (by omega) (by omega) (Nat.lt_of_le_of_lt (Nat.le_trans rd_lim_le hlim) hlimit) r4
    rw [r3, s3, hds] at hih
    obtain ⟨pL, sL⟩ := S.pdq S.swo d4 a' mid (rd ltInt dk a' b' lim wb wp).lim true true (by omega) (by omega) r4
    go_wp2_with (go_at_call 115; refine hih.mono ?_; rintro e w8 ⟨rfl, hw8⟩)
    go_roundg (b' - (mid + 1))
    case measure => omega
    case rel =>
    refine ⟨mid + 1, b', (rd ltInt dk a' b' lim wb wp).lim, decide (mid - a' ≥ (b' - a') / 8), ap, pdq ltInt d4 a' mid (rd ltInt dk a' b' lim wb wp).lim true true, by simp, rfl, rfl, ?_, rfl, by omega, by omega, Nat.le_refl _, by omega, Nat.le_trans rd_lim_le hlim, by rw [pL.1, r3, s3, hds], (r6 _ pL sL).1, hAt7.stepG hblk pL.1 hw8, ?_⟩
    ·exact congrArg Value.bool (eighth (by omega) (by omega))
    rw [← A.out, pdq_left h12 hl0 hp2 h87 (by rw [hx]; exact ⟨r1, r2⟩) (by rw [hx]; exact h4), hx]
   have h4z : ¬ ((mid : Int) - (a' : Int) < (b' : Int) - (mid : Int)) := by omega
   have hih := ih blk off cap (mid + 1) b' (rd ltInt dk a' b' lim wb wp).lim d4 w7 (by omega) hH7 hblk7 (by omega) (by omega) (by omega) (Nat.lt_of_le_of_lt (Nat.le_trans rd_lim_le hlim) hlimit) r5
   rw [r3, s3, hds] at hih
   obtain ⟨pL, sL⟩ := S.pdq S.swo d4 (mid + 1) b' (rd ltInt dk a' b' lim wb wp).lim true true (by omega) (by omega) r5
   go_wp2_with (go_at_call 115; refine hih.mono ?_; rintro e w8 ⟨rfl, hw8⟩)
   go_roundg (mid - a')
   case measure => omega
   case rel =>
   refine ⟨a', mid, (rd ltInt dk a' b' lim wb wp).lim, decide (b' - mid ≥ (b' - a') / 8), ap, pdq ltInt d4 (mid + 1) b' (rd ltInt dk a' b' lim wb wp).lim true true, rfl, rfl, rfl, ?_, rfl, by omega, by omega, Nat.le_refl _, by omega, Nat.le_trans rd_lim_le hlim, by rw [pL.1, r3, s3, hds], (r7 _ pL sL).1, hAt7.stepG hblk pL.1 hw8, ?_⟩
   ·exact congrArg Value.bool (eighth (by omega) (by omega))
   rw [← A.out, pdq_right h12 hl0 hp2 h87 (by rw [hx]; exact ⟨r1, r2⟩) (by rw [hx]; exact h4), hx]
  ·
   have h87' := h87
   simp only [Bool.and_eq_true, decide_eq_true_eq, Bool.not_eq_true'] at h87'
   obtain ⟨mid, d4, hx⟩ : ∃ mid d4, partitionEqual ltInt (rd ltInt dk a' b' lim wb wp).pi.1 a' b' (rd ltInt dk a' b' lim wb wp).pivot = (mid, d4) := ⟨(partitionEqual ltInt (rd ltInt dk a' b' lim wb wp).pi.1 a' b' (rd ltInt dk a' b' lim wb wp).pivot).1, (partitionEqual ltInt (rd ltInt dk a' b' lim wb wp).pi.1 a' b' (rd ltInt dk a' b' lim wb wp).pivot).2, rfl⟩
   obtain ⟨r1, r2, r3, r4, _⟩ := round_eq S.swo S.peq h87'.1 hpv.1 hpv.2 (show b' ≤ (rd ltInt dk a' b' lim wb wp).pi.1.size by omega) B3 h87'.2 hx
   have hc21 := C.peq blk off cap a' b' (rd ltInt dk a' b' lim wb wp).pivot (rd ltInt dk a' b' lim wb wp).pi.1 wc hH6 hpv.1 hpv.2 (by omega) (by omega)
   rw [s3, hds, hx] at hc21
   have X : Aside (partitionEqual ltInt (rd ltInt dk a' b' lim wb wp).pi.1 a' b' (rd ltInt dk a' b' lim wb wp).pivot = (mid, d4)) := hx
   clear hx
   go_wp2_with (go_at_call 144; refine hc21.mono ?_; rintro e w7 ⟨rfl, hw7⟩)
   go_roundg (b' - mid)
   case measure => omega
   case rel =>
   have hx := X.out
   exact ⟨mid, b', (rd ltInt dk a' b' lim wb wp).lim, wb, wp, d4, rfl, rfl, rfl, rfl, rfl, r2, hb', Nat.le_refl _, by omega, Nat.le_trans rd_lim_le hlim, by rw [r3, s3, hds], r4, hAt6.step hblk r3 hw7, by rw [← A.out, pdq_eq h12 hl0 hp2 h87 (by rw [hx]; exact ⟨r1, r2⟩), hx]⟩
end Go.Proofs.YtkdajhmlhjkcdaaGreatDoor
namespace Go.Proofs.YtkdajhmlhjkcdaaGreatDoor
open Go.Sort
theorem callees13 : Callees13 where
 ins := so_insertionSort_int
 brk := so_breakPatterns_int
 piv := so_choosePivot_int
 par := so_partialInsertionSort_int
 peq := so_partitionEqualOrdered_int
 prt := so_partitionOrdered_int
theorem plain13 : Plain13 where
 swo := swo_ltInt
 ins := insertionSort_holds
 par := partialInsertionSort_holds
 prt := partition_holds _
 peq := partitionEqual_holds _
 pdq := pdq_sorts _
theorem pdqWalkInt : pdqWalk_int := fun blk off cap a b limit d w hH hb hab hbd hsz hl hB =>
 so_pdqsort_int callees13 plain13 (b - a + 1) blk off cap a b limit d w (by omega) hH hb hab hbd hsz hl hB
theorem sort_int_eq (zs : List Int) : Sort.sort ltInt zs.toArray = (zs.mergeSort fun x y => decide (x ≤ y)).toArray := by
 rw [← sortInt zs]
theorem so_slices_Sort (blk off cap : Nat) (zs : List Int) (w : World) (hH : Holds (Value.int .u16) w blk off zs.toArray) (hblk : blk < w.heap.size) (hsz : zs.length < 4611686018427387904) :
  Calls Tryz.prog 88 #[.slice (some ⟨blk, off, none⟩) zs.length cap] w fun e w' =>
   e = .returned (.tuple #[]) ∧ ∃ n os, w' = grow (putRow (Value.int .u16) (Sort.ahead w n) blk off (zs.mergeSort fun x y => decide (x ≤ y)).toArray) os := by
 have h := so_Sort_int pdqWalkInt blk off cap zs.toArray w hH hblk (by simpa using hsz)
 rw [sort_int_eq] at h
 simpa using h
end Go.Proofs.YtkdajhmlhjkcdaaGreatDoor
namespace Go.Proofs.YtkdajhmlhjkcdaaGreatDoor
open Go.RowKit
def FS (w : World) (v : Value) (zs : List Int) : Prop :=
 ∃ (p : Option Addr) (c : Nat), v = .slice p zs.length c ∧ zs.length ≤ c ∧ (zs.length = 0 ∨ ∃ b off, p = some ⟨b, off, none⟩ ∧ ∀ j, j < zs.length → w.cell? ⟨b, off + j, none⟩ = some (.int .u16 (zs.getD j 0)))
def FN (B : Nat) (w : World) (v : Value) (zs : List Int) : Prop :=
 ∃ (p : Option Addr) (c : Nat), v = .slice p zs.length c ∧ zs.length ≤ c ∧ (zs.length = 0 ∨ ∃ b off, p = some ⟨b, off, none⟩ ∧ B ≤ b ∧ Sort.Holds (Value.int .u16) w b off zs.toArray)
theorem FS.keep {w w' : World} {v : Value} {zs : List Int} (h : FS w v zs) (hb : Below w.heap.size w w') : FS w' v zs := by
 obtain ⟨p, c, hv, hc, h⟩ := h
 refine ⟨p, c, hv, hc, h.imp id ?_⟩
 rintro ⟨b, off, hp, h2⟩
 refine ⟨b, off, hp, fun j hj => ?_⟩
 have h3 := h2 j hj
 exact (hb.cell (World.block_lt_of_cell? w _ h3)).trans h3
theorem FN.fs {B : Nat} {w : World} {v : Value} {zs : List Int} (h : FN B w v zs) : FS w v zs := by
 obtain ⟨p, c, hv, hc, h⟩ := h
 refine ⟨p, c, hv, hc, h.imp id ?_⟩
 rintro ⟨b, off, hp, _, h2⟩
 refine ⟨b, off, hp, fun j hj => ?_⟩
 have h3 := (h2 j (by simpa using hj)).1
 simpa [List.getD, hj] using h3
theorem FN.mono {B B' : Nat} {w : World} {v : Value} {zs : List Int} (h : FN B w v zs) (hB : B' ≤ B) : FN B' w v zs := by
 obtain ⟨p, c, hv, hc, h⟩ := h
 exact ⟨p, c, hv, hc, h.imp id (by rintro ⟨b, off, hp, h1, h2⟩; exact ⟨b, off, hp, by omega, h2⟩)⟩
theorem FN.nil (B : Nat) (w : World) (p : Option Addr) (c : Nat) : FN B w (.slice p 0 c) [] := ⟨p, c, rfl, Nat.zero_le _, .inl rfl⟩
theorem below_row {α : Type} [Inhabited α] (enc : α → Value) (w : World) (B n blk off : Nat) (d : Array α) (os : Array Obj) (hB : B ≤ blk) (hw : blk < w.heap.size) : Below B w (Sort.grow (Sort.putRow enc (Sort.ahead w n) blk off d) os) := by
 refine ⟨rfl, rfl, rfl, by simp, fun k hk => ?_⟩
 rw [Sort.heap_grow_old _ _ (by simp; omega)]
 have : blk ≠ k := by omega
 simp [Sort.putRow, Sort.mapBlock, Sort.ahead, Array.getElem?_modify, this]
theorem FN.of_own {B e : Nat} {w : World} {v : Value} {zs : List Int} (h : w.ownsRow B e 1 v zs.length (zs.map (Value.int .u16))) : FN B w v zs := by
 rcases h.2 with ⟨rfl, h0⟩ | ⟨g, cap, cur, rfl, hB, hg, hn, hm, hs, ht⟩
 ·exact ⟨none, 0, by rw [h0], by omega, .inl h0⟩
 refine ⟨_, cap, rfl, hn, .inr ⟨g, 0, rfl, hB, fun j hj => ?_⟩⟩
 have hj' : j < zs.length := by simpa using hj
 refine ⟨?_, by simp [World.frozen?, hg]⟩
 rw [Nat.mul_one] at ht
 have h1 : (cur.toList.take zs.length)[j]? = (zs.map (Value.int .u16))[j]? := by rw [ht]
 rw [List.getElem?_take_of_lt hj'] at h1
 simp only [World.cell?, hg, Nat.zero_add]
 simp only [Option.isSome_none, Bool.false_eq_true, if_false]
 rw [← Array.getElem?_toList, h1]
 simp [hj']
theorem flag_info : (Tryz.prog.info? 34).map (fun i => (i.zero, i.size, i.bytes)) = some (some (.int .u16 0), 1, 2) := by kernel_rfl
theorem so_Sort_FN (B : Nat) (v : Value) (zs : List Int) (w : World) (h : FN B w v zs) (hB : B ≤ w.heap.size) (hsz : zs.length < 4611686018427387904) :
  Calls Tryz.prog 88 #[v] w fun e w' => e = .returned (.tuple #[]) ∧ FN B w' v (zs.mergeSort fun x y => decide (x ≤ y)) ∧ Below B w w' := by
 obtain ⟨p, c, rfl, hc, h⟩ := h
 have hl : (zs.mergeSort fun x y => decide (x ≤ y)).length = zs.length := by simp
 rcases h with h | ⟨b, off, rfl, hb, hH⟩
 ·rw [h]
  refine (so_Sort_int_nil p c w).mono ?_
  rintro e w' ⟨rfl, rfl⟩
  exact ⟨rfl, ⟨p, c, by rw [hl, h], by omega, .inl (by omega)⟩, Below.refl _ _⟩
 by_cases h0 : zs.length = 0
 ·rw [h0]
  refine (so_Sort_int_nil _ c w).mono ?_
  rintro e w' ⟨rfl, rfl⟩
  exact ⟨rfl, ⟨_, c, by rw [hl, h0], by omega, .inl (by omega)⟩, Below.refl _ _⟩
 have hblk : b < w.heap.size := World.block_lt_of_cell? w _ (hH 0 (by simp; omega)).1
 refine (so_slices_Sort b off c zs w hH hblk hsz).mono ?_
 rintro e w' ⟨rfl, n, os, rfl⟩
 refine ⟨rfl, ⟨_, c, by rw [hl], by omega, .inr ⟨b, off, rfl, hb, ?_⟩⟩, below_row _ _ _ _ _ _ _ _ hb hblk⟩
 refine Sort.holds_grow _ _ _ _ _ _ (by simpa using hblk) ?_
 exact Sort.holds_putRow _ _ _ _ zs.toArray _ (Sort.holds_ahead _ _ _ _ _ _ hH) (by simp)
end Go.Proofs.YtkdajhmlhjkcdaaGreatDoor
namespace Go.Proofs.YtkdajhmlhjkcdaaGreatDoor
open Go.RowKit
theorem run_append_zero {P : Program} (w : World) (base : Nat) (t ty e : TypeId) (i : TypeInfo) (size : Nat) (ht : P.underlying t = some (.slice e)) (hi : P.info? e = some i)
  (v : Value) (n : Nat) (xs : List Value) (hown : w.ownsRow base e size v n xs) (A : Option Addr) (c : Nat) : (Builtin.append_ #[t, t] ty #[v, .slice A 0 c]).run P w = .ok v w := by
 rcases hown.2 with ⟨rfl, rfl⟩ | ⟨g, cap, cur, rfl, _, _, hnc, _⟩
 ·cases A <;> simp [Builtin.append_, run_underlying ht, sizeOf, typeInfo, hi, Builtin.lenOf, Builtin.firstCells, loadCells, loadCellsFrom]
 cases A <;> simp [Builtin.append_, run_underlying ht, sizeOf, typeInfo, hi, Builtin.lenOf, Builtin.firstCells, hnc, storeCells, loadCells, loadCellsFrom]
theorem run_append_src {P : Program} (w : World) (base : Nat) (t ty e : TypeId) (i : TypeInfo) (z : Value) (size bytes : Nat) (ht : P.underlying t = some (.slice e)) (hi : P.info? e = some i) (hz : i.zero = some z)
  (hsize : i.size = size) (hby : i.bytes = bytes) (hzs : z.cells.size = size) (hsz : 0 < size)
  (v : Value) (n : Nat) (xs : List Value) (hown : w.ownsRow base e size v n xs)
  (A : Option Addr) (m c : Nat) (news : List Value) (hl : news.length = m * size) (hr : m = 0 ∨ ∃ ad, A = some ad ∧ ∀ j u, news[j]? = some u → w.cell? (ad.add j) = some u) (h1 : ∀ u ∈ news, u.oneCell' = true)
  (h63 : n + m ≤ maxLen) (hbytes : (n + m) * bytes ≤ 140737488355328) (hbase : base ≤ w.heap.size) :
  ∃ v' w', (Builtin.append_ #[t, t] ty #[v, .slice A m c]).run P w = .ok v' w' ∧ w'.ownsRow base e size v' (n + m) (xs ++ news) ∧ w.grownBy w' v.ownBlock ∧ (v'.ownBlock = v.ownBlock ∨ v'.ownBlock = some w.heap.size) := by
 rcases Nat.eq_zero_or_pos m with h0 | h0
 ·subst h0
  have hn : news = [] := List.eq_nil_of_length_eq_zero (by simpa using hl)
  subst hn
  exact ⟨v, w, run_append_zero w base t ty e i size ht hi v n xs hown A c, by simpa using hown, World.grownBy.refl w _, .inl rfl⟩
 obtain ⟨ad, rfl, hc⟩ := hr.resolve_left (by omega)
 obtain ⟨v', w', hrun, h2, h3, _, h5⟩ := run_append_own_at (P := P) w base t ty e i z size bytes ht hi hz hsize hby hzs hsz v n xs hown ad m c news hl hc h1 h63 hbytes hbase
 exact ⟨v', w', hrun, h2, h3, h5⟩
theorem FS.news {w : World} {p : Option Addr} {zs : List Int} (hs : zs.length = 0 ∨ ∃ b off, p = some ⟨b, off, none⟩ ∧ ∀ j, j < zs.length → w.cell? ⟨b, off + j, none⟩ = some (.int .u16 (zs.getD j 0))) (w' : World) (hb : Below w.heap.size w w') :
  zs.length = 0 ∨ ∃ ad, p = some ad ∧ ∀ j u, (zs.map (Value.int .u16))[j]? = some u → w'.cell? (ad.add j) = some u := by
 refine hs.imp id ?_
 rintro ⟨b, off, rfl, hc⟩
 refine ⟨_, rfl, fun j u hj => ?_⟩
 have hlt : j < zs.length := by
  have := (List.getElem?_eq_some_iff.1 hj).1
  simpa using this
 have h1 := hc j hlt
 rw [Addr.add_lit]
 rw [(hb.cell (World.block_lt_of_cell? w _ h1)).trans h1]
 rw [← hj]
 simp [List.getD, hlt]
end Go.Proofs.YtkdajhmlhjkcdaaGreatDoor
namespace Go.Proofs.YtkdajhmlhjkcdaaGreatDoor
open Go.RowKit
theorem run_append_new {P : Program} (w : World) (base : Nat) (t ty e : TypeId) (i : TypeInfo) (z : Value) (bytes : Nat) (ht : P.underlying t = some (.slice e)) (hi : P.info? e = some i) (hz : i.zero = some z)
  (hsize : i.size = 1) (hby : i.bytes = bytes) (hzs : z.cells.size = 1) (g : Nat) (hown : w.ownsRow base e 1 (.slice (some ⟨g, 0, none⟩) 0 0) 0 []) (hbase : base ≤ w.heap.size)
  (A : Option Addr) (m c : Nat) (news : List Value) (hl : news.length = m) (hr : m = 0 ∨ ∃ ad, A = some ad ∧ ∀ j u, news[j]? = some u → w.cell? (ad.add j) = some u)
  (h63 : m ≤ maxLen) (hbytes : m * bytes ≤ 281474976710656) :
  ∃ v' w', (Builtin.append_ #[t, t] ty #[.slice (some ⟨g, 0, none⟩) 0 0, .slice A m c]).run P w = .ok v' w' ∧ w'.ownsRow base e 1 v' m news ∧ Below w.heap.size w w' := by
 rcases Nat.eq_zero_or_pos m with h0 | h0
 ·subst h0
  have hn : news = [] := List.eq_nil_of_length_eq_zero hl
  subst hn
  exact ⟨_, w, run_append_zero w base t ty e i 1 ht hi _ 0 [] hown A c, hown, Below.refl _ _⟩
 obtain ⟨ad, rfl, hc⟩ := hr.resolve_left (by omega)
 have hrun := run_append_grow (P := P) w t ty e i z ht hi hz ⟨g, 0, none⟩ 0 0 [] (by simp) (by simp) ad m c news (by rw [hsize]; omega) hc (by omega) (by simp only [maxLen] at h63; omega) (by rw [hby, Nat.zero_add, nextslicecap_zero h0]; exact hbytes)
 rw [Nat.zero_add] at hrun
 have hge := grownCap_ge w m 0 e
 refine ⟨_, _, hrun, ?_, ((Below.refl _ w).drew).alloc (Nat.le_refl _) _⟩
 refine ⟨by omega, .inr ⟨w.heap.size, _, _, rfl, hbase, heap_alloc_new w.drew _, hge, grownCap_le_maxLen w m 0 e h63, ?_, ?_⟩⟩
 ·simp [size_zeroCells, hzs, hl]; omega
 simp [hl]
end Go.Proofs.YtkdajhmlhjkcdaaGreatDoor
namespace Go.Proofs.YtkdajhmlhjkcdaaGreatDoor
open Go.RowKit
theorem ret_bool {a b : Bool} (h : a = b) : Ending.returned (.bool a) = .returned (.bool b) := by rw [h]
theorem ret_int {k : IntKind} {a b : Int} (h : a = b) : Ending.returned (.int k a) = .returned (.int k b) := by rw [h]
theorem ret_str {a b : ByteArray} (h : a = b) : Ending.returned (.string a) = .returned (.string b) := by rw [h]
theorem take_snoc (s : ByteArray) (k : Nat) (h : k < s.size) : s.data.toList.take (k + 1) = s.data.toList.take k ++ [s[k]] := by
 rw [List.take_succ_eq_append_getElem (by simpa using h)]; rfl
theorem drop_cons (s : ByteArray) (k : Nat) (h : k < s.size) : s.data.toList.drop k = s[k] :: s.data.toList.drop (k + 1) := by
 rw [List.drop_eq_getElem_cons (by simpa using h)]; rfl
theorem drop_all (s : ByteArray) : s.data.toList.drop s.size = [] := List.drop_of_length_le (by simp)
theorem head_at (s : ByteArray) (h : 0 < s.size) : s.data.toList.head? = some s[0] := by
 rw [List.head?_eq_getElem?, List.getElem?_eq_getElem (by simpa using h)]; rfl
theorem len_toList (s : ByteArray) : s.data.toList.length = s.size := by simp
theorem row_addr (g j : Nat) : (⟨g, 0, none⟩ : Addr).add j = ⟨g, j, none⟩ := by unfold Addr.add; split <;> simp_all
theorem grown_of_alloc {w w' : World} {o : Obj} {row : Option Nat} (h : (w.alloc o).grownBy w' row) : w.grownBy w' row :=
 ⟨h.os, h.tape, h.output, by have := h.size; simp at this; omega, fun k hk hr => (h.block k (by have := World.size_alloc w o; omega) hr).trans (Below.heap_alloc w o k hk)⟩
theorem wpList_push {P : Program} {ops : Array Oper} {rest : List Oper} {o : Oper} {a : Act} {Q : Exit → Act → World → Prop} {w : World} (hgd : o.guard = none) (s x : Operand) (t : TypeId)
  (ho : o.op = .call { callee := .builtin .append, args := #[s, x], argTypes := #[t, t] })
  (base : Nat) (e : TypeId) (i : TypeInfo) (z : Value) (size bytes : Nat) (ht : P.underlying t = some (.slice e)) (hi : P.info? e = some i) (hz : i.zero = some z)
  (hsize : i.size = size) (hby : i.bytes = bytes) (hzs : z.cells.size = size) (hsz : 0 < size)
  (v : Value) (n : Nat) (xs : List Value) (hs : a.eval s = v) (hown : w.ownsRow base e size v n xs)
  (us : Array Value) (hus : us.size = size) (h1 : ∀ u ∈ us.toList, u.oneCell' = true) (hx : a.eval x = .slice (some ⟨w.heap.size, 0, none⟩) 1 1)
  (h63 : n + 1 ≤ maxLen) (hbytes : (n + 1) * bytes ≤ 140737488355328) (hbase : base ≤ w.heap.size)
  (h : ∀ g cap w', w'.ownsRow base e size (.slice (some ⟨g, 0, none⟩) (n + 1) cap) (n + 1) (xs ++ us.toList) → w.grownBy w' v.ownBlock →
   wpList P ops Q rest (a.put o.dst (.slice (some ⟨g, 0, none⟩) (n + 1) cap)) w') : wpList P ops Q (o :: rest) a (w.alloc (.cells us e)) := by
 refine wpList_append_own _ hgd s x t ho base e i z size bytes ht hi hz hsize hby hzs hsz v n xs hs (hown.alloc _) ⟨w.heap.size, 0, none⟩ 1 1 us.toList hx (by simp [hus]) ?_ h1 h63 hbytes (by simp; omega) ?_
 ·intro j u hj
  rw [row_addr, cell_of_row (w.alloc (.cells us e)) w.heap.size j us e (0, 0) (heap_alloc_new w _)]
  simpa using hj
 intro v' w' hown' hgrow _
 rcases hown'.2 with ⟨_, h0⟩ | ⟨g, cap, cur, rfl, _⟩
 ·omega
 exact h g cap w' hown' (grown_of_alloc hgrow)
theorem wpList_push1 {P : Program} {ops : Array Oper} {rest : List Oper} {o : Oper} {a : Act} {Q : Exit → Act → World → Prop} {w : World} (hgd : o.guard = none) (s x : Operand) (t : TypeId)
  (ho : o.op = .call { callee := .builtin .append, args := #[s, x], argTypes := #[t, t] })
  (base : Nat) (e : TypeId) (i : TypeInfo) (z : Value) (bytes : Nat) (ht : P.underlying t = some (.slice e)) (hi : P.info? e = some i) (hz : i.zero = some z)
  (hsize : i.size = 1) (hby : i.bytes = bytes) (hzs : z.cells.size = 1)
  (v : Value) (n : Nat) (xs : List Value) (hs : a.eval s = v) (hown : w.ownsRow base e 1 v n xs)
  (u : Value) (h1 : u.oneCell' = true) (hx : a.eval x = .slice (some ⟨w.heap.size, 0, none⟩) 1 1)
  (h63 : n + 1 ≤ maxLen) (hbytes : (n + 1) * bytes ≤ 140737488355328) (hbase : base ≤ w.heap.size)
  (h : ∀ g cap w', w'.ownsRow base e 1 (.slice (some ⟨g, 0, none⟩) (n + 1) cap) (n + 1) (xs ++ [u]) → w.grownBy w' v.ownBlock →
   wpList P ops Q rest (a.put o.dst (.slice (some ⟨g, 0, none⟩) (n + 1) cap)) w') : wpList P ops Q (o :: rest) a (w.alloc (.cells #[u] e)) :=
 wpList_push hgd s x t ho base e i z 1 bytes ht hi hz hsize hby hzs (by decide) v n xs hs hown #[u] rfl (by intro y hy; simp at hy; subst hy; exact h1) hx h63 hbytes hbase h
theorem own_empty (w : World) (e size : Nat) : (w.alloc (.cells #[] e)).ownsRow w.heap.size e size (.slice (some ⟨w.heap.size, 0, none⟩) 0 0) 0 [] :=
 World.ownsRow_made w #[] 0 (Nat.le_refl _) (by unfold maxLen; omega) (by simp)
theorem own_laid (w : World) (e size n : Nat) (cs : Array Value) (hs : cs.size = n * size) (hn : n ≤ maxLen) : (w.alloc (.cells cs e)).ownsRow w.heap.size e size (.slice (some ⟨w.heap.size, 0, none⟩) n n) n cs.toList :=
 ⟨by simp [hs], .inr ⟨w.heap.size, n, cs, rfl, Nat.le_refl _, heap_alloc_new w _, Nat.le_refl _, hn, hs, List.take_of_length_le (by simp [hs])⟩⟩
theorem below_push {B : Nat} {w0 w w' : World} {v : Value} {base e size n : Nat} {xs : List Value} (hb : Below B w0 w) (hown : w.ownsRow base e size v n xs) (hg : w.grownBy w' v.ownBlock) (hB : B ≤ base) (hw : B ≤ w.heap.size) : Below B w0 w' :=
 hb.grown hg hw (fun k hk => Nat.le_trans hB (hown.lt k hk).1)
theorem run_string_of_own {P : Program} {w : World} {base e : Nat} {v : Value} {n : Nat} {l : List UInt8} (h : w.ownsRow base e 1 v n (Lib.byteCells l)) (src dst : TypeId)
  (hs : P.underlying src = some (.slice e)) (he : P.underlying e = some (.int .u8)) (hd : P.underlying dst = some .string) :
  (convert src dst v).run P w = .ok (.string ⟨l.toArray⟩) w := by
 have hl : l.length = n := by have := h.1; simpa [Lib.byteCells] using this
 rcases h.2 with ⟨rfl, rfl⟩ | ⟨g, cap, cur, rfl, _⟩
 ·have : l = [] := List.eq_nil_of_length_eq_zero hl
  subst this
  exact run_convert_bytes_nil w src e hs he 0 0 dst hd
 have hc := h.cells (g := g) rfl
 rw [run_convert_bytes_arg w src e hs he g 0 n cap (l.map fun b => (b.toNat : Int)) (by simpa using hl) ?_ dst hd]
 ·congr 2
  simp only [strOfNums, List.map_map]
  congr 2
  rw [show ((fun n : Int => UInt8.ofNat n.toNat) ∘ fun b : UInt8 => (b.toNat : Int)) = id from by funext b; simp]
  simp
 intro j hj
 have := hc j (.int .u8 ((l.map fun b => (b.toNat : Int)).getD j 0)) (by
  have hjl : j < l.length := by omega
  simp [Lib.byteCells, List.getD, List.getElem?_eq_getElem hjl])
 rw [row_addr] at this
 simpa using this
theorem grown_of_below {w w' : World} (h : Below w.heap.size w w') (row : Option Nat) : w.grownBy w' row := ⟨h.os, h.tape, h.output, h.size, fun k hk _ => h.block k hk⟩
theorem own_below {w w' : World} {B e size n : Nat} {v : Value} {xs : List Value} (h : w.ownsRow B e size v n xs) (hb : Below w.heap.size w w') : w'.ownsRow B e size v n xs :=
 h.kept (grown_of_below hb none) (by cases hv : v.ownBlock <;> simp)
theorem block_lt {w : World} {b : Nat} {o : Obj} (h : w.heap[b]? = some o) : b < w.heap.size := (Array.getElem?_eq_some_iff.1 h).1
def strV (ss : List ByteArray) : List Value := ss.map Value.string
theorem strV_get (ss : List ByteArray) (j : Nat) (hj : j < ss.length) : (strV ss)[j]? = some (.string ss[j]) := by simp [strV, hj]
theorem strV_snoc (ss : List ByteArray) (f : ByteArray) : strV ss ++ [Value.string f] = strV (ss ++ [f]) := by simp [strV]
end Go.Proofs.YtkdajhmlhjkcdaaGreatDoor
namespace Go.Proofs.YtkdajhmlhjkcdaaGreatDoor
open Go.RowKit
structure Own (w W : World) (e size : Nat) (v : Value) (n : Nat) (xs : List Value) : Prop where
 below : Below w.heap.size w W
 own : W.ownsRow w.heap.size e size v n xs
theorem Own.size {w W : World} {e size n : Nat} {v : Value} {xs : List Value} (h : Own w W e size v n xs) : w.heap.size ≤ W.heap.size := h.below.size
theorem Own.nil_ (w : World) (e size : Nat) : Own w w e size (.slice none 0 0) 0 [] := ⟨Below.refl _ _, World.ownsRow_nil _ _ _ _⟩
theorem Own.empty (w : World) (e size : Nat) : Own w (w.alloc (.cells #[] e)) e size (.slice (some ⟨w.heap.size, 0, none⟩) 0 0) 0 [] :=
 ⟨(Below.refl _ _).alloc (Nat.le_refl _) _, own_empty w e size⟩
theorem Own.call {w W W' : World} {e size n : Nat} {v : Value} {xs : List Value} (h : Own w W e size v n xs) (hb : Below W.heap.size W W') : Own w W' e size v n xs :=
 ⟨h.below.trans (hb.mono h.below.size), own_below h.own hb⟩
theorem Own.alloc {w W : World} {e size n : Nat} {v : Value} {xs : List Value} (h : Own w W e size v n xs) (o : Obj) : Own w (W.alloc o) e size v n xs :=
 ⟨h.below.alloc h.below.size _, h.own.alloc _⟩
theorem Own.drew {w W : World} {e size n : Nat} {v : Value} {xs : List Value} (h : Own w W e size v n xs) : Own w W.drew e size v n xs := ⟨h.below.drew, h.own⟩
theorem Own.drewN {w W : World} {e size n : Nat} {v : Value} {xs : List Value} (h : Own w W e size v n xs) (k : Nat) : Own w (W.drewN k) e size v n xs :=
 ⟨⟨h.below.os, h.below.tape, h.below.output, h.below.size, h.below.block⟩, h.own⟩
theorem Own.push {w W W' : World} {e size n m : Nat} {v v' : Value} {xs ys : List Value} (h : Own w W e size v n xs) (hown : W'.ownsRow w.heap.size e size v' m ys) (hg : W.grownBy W' v.ownBlock) : Own w W' e size v' m ys :=
 ⟨below_push h.below h.own hg (Nat.le_refl _) h.below.size, hown⟩
theorem Own.from_ {w0 w W : World} {e size n : Nat} {v : Value} {xs : List Value} (h : Own w W e size v n xs) (hb : Below w0.heap.size w0 w) : Own w0 W e size v n xs :=
 ⟨hb.trans (h.below.mono hb.size), h.own.1, by
  rcases h.own.2 with hn | ⟨g, cap, cur, hv, hg, r⟩
  ·exact .inl hn
  ·exact .inr ⟨g, cap, cur, hv, Nat.le_trans hb.size hg, r⟩⟩
theorem wpList_push1_at {P : Program} {ops : Array Oper} {rest : List Oper} {o : Oper} {a : Act} {Q : Exit → Act → World → Prop} {w : World} (hgd : o.guard = none) (s x : Operand) (t : TypeId)
  (ho : o.op = .call { callee := .builtin .append, args := #[s, x], argTypes := #[t, t] })
  (base : Nat) (e : TypeId) (i : TypeInfo) (z : Value) (bytes : Nat) (ht : P.underlying t = some (.slice e)) (hi : P.info? e = some i) (hz : i.zero = some z)
  (hsize : i.size = 1) (hby : i.bytes = bytes) (hzs : z.cells.size = 1)
  (v : Value) (n : Nat) (xs : List Value) (hs : a.eval s = v) (hown : w.ownsRow base e 1 v n xs)
  (u : Value) (h1 : u.oneCell' = true) (b : Nat) (hx : a.eval x = .slice (some ⟨b, 0, none⟩) 1 1) (hb : b = w.heap.size)
  (h63 : n + 1 ≤ maxLen) (hbytes : (n + 1) * bytes ≤ 140737488355328) (hbase : base ≤ w.heap.size)
  (h : ∀ g cap w', w'.ownsRow base e 1 (.slice (some ⟨g, 0, none⟩) (n + 1) cap) (n + 1) (xs ++ [u]) → w.grownBy w' v.ownBlock →
   wpList P ops Q rest (a.put o.dst (.slice (some ⟨g, 0, none⟩) (n + 1) cap)) w') : wpList P ops Q (o :: rest) a (w.alloc (.cells #[u] e)) := by
 subst hb
 exact wpList_push1 hgd s x t ho base e i z bytes ht hi hz hsize hby hzs v n xs hs hown u h1 hx h63 hbytes hbase h
theorem mk_inj (l m : List UInt8) : (⟨l.toArray⟩ : ByteArray) = ⟨m.toArray⟩ ↔ l = m :=
 ⟨fun h => by injection h with h; simpa using congrArg Array.toList h, fun h => by rw [h]⟩
theorem mk_eq_iff (l : List UInt8) (s : ByteArray) : (⟨l.toArray⟩ : ByteArray) = s ↔ l = s.toList := by
 rw [Lib.toList_data]
 obtain ⟨d⟩ := s
 obtain ⟨m⟩ := d
 exact mk_inj l m
theorem beq_str (s t : ByteArray) : (s.toList == t.toList) = decide (s = t) := by
 rw [Bool.eq_iff_iff, decide_eq_true_iff, beq_iff_eq, Lib.toList_data, Lib.toList_data]
 obtain ⟨⟨l⟩⟩ := s
 obtain ⟨⟨m⟩⟩ := t
 exact (mk_inj l m).symm
theorem notEmpty (s : ByteArray) (hp : 0 < s.size) : s.toList.isEmpty = false := by
 rw [Lib.toList_data]
 cases h : s.data.toList with
 | nil => have := len_toList s; rw [h] at this; simp at this; omega
 | cons a l => rfl
theorem isEmpty0 (s : ByteArray) (hp : s.size = 0) : s.data.toList = [] := by
 rw [← List.length_eq_zero_iff]; simpa using hp
theorem isEmpty1 (s : ByteArray) (hp : s.size = 0) : s.toList.isEmpty = true := by
 rw [Lib.toList_data, isEmpty0 s hp]; rfl
end Go.Proofs.YtkdajhmlhjkcdaaGreatDoor
namespace Go.Proofs.YtkdajhmlhjkcdaaGreatDoor
open Go.RowKit
def Rd (w : World) (size : Nat) (v : Value) (n : Nat) (xs : List Value) : Prop :=
 xs.length = n * size ∧ ∃ A cap, v = .slice A n cap ∧ n ≤ cap ∧ (n = 0 ∨ ∃ g o, A = some ⟨g, o, none⟩ ∧ ∀ j u, xs[j]? = some u → w.cell? ⟨g, o + j, none⟩ = some u)
theorem Rd.keep {w w' : World} {size n : Nat} {v : Value} {xs : List Value} (h : Rd w size v n xs) (hb : Below w.heap.size w w') : Rd w' size v n xs := by
 obtain ⟨h1, A, cap, hv, hc, h2⟩ := h
 refine ⟨h1, A, cap, hv, hc, ?_⟩
 rcases h2 with h2 | ⟨g, o, hA, h3⟩
 ·exact .inl h2
 refine .inr ⟨g, o, hA, fun j u hj => ?_⟩
 have h4 := h3 j u hj
 exact (hb.cell (World.block_lt_of_cell? w _ h4)).trans h4
theorem Rd.of_own {w : World} {B e size n : Nat} {v : Value} {xs : List Value} (h : w.ownsRow B e size v n xs) : Rd w size v n xs := by
 refine ⟨h.1, ?_⟩
 rcases h.2 with ⟨rfl, rfl⟩ | ⟨g, cap, cur, rfl, _, _, hn, _⟩
 ·exact ⟨none, 0, rfl, Nat.le_refl _, .inl rfl⟩
 refine ⟨_, cap, rfl, hn, .inr ⟨g, 0, rfl, fun j u hj => ?_⟩⟩
 have := h.cells (g := g) rfl j u hj
 rw [row_addr] at this
 rw [Nat.zero_add]; exact this
theorem below_drewN {B : Nat} {a w : World} (h : Below B a w) (n : Nat) : Below B a (w.drewN n) := ⟨h.os, h.tape, h.output, h.size, h.block⟩
end Go.Proofs.YtkdajhmlhjkcdaaGreatDoor
