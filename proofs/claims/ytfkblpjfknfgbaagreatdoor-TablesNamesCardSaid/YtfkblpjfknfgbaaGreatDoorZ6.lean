/-
  Parts of the proof: DC0, DC1, DC2, AC1, AC2, AC3, AC4, AC5, AC6.
-/
import Derived.Test.YtfkblpjfknfgbaaGreatDoorRows
import Derived.Test.YtfkblpjfknfgbaaGreatDoorZ4
import Derived.Test.YtfkblpjfknfgbaaGreatDoorZ3
import Derived.BigQuiet
import Derived.Test.YtfkblpjfknfgbaaGreatDoorZ5
import Derived.Test.YtfkblpjfknfgbaaGreatDoorZ1
import Derived.BigRegion
import Derived.Deep.QuietTactic
import Derived.Test.YtfkblpjfknfgbaaGreatDoorZ0
import Derived.ArgAppend
import Derived.Lib.SliceRun
import Derived.Deep.RegionLaw
set_option linter.unusedVariables false
set_option linter.unusedSimpArgs false
namespace Go.Proofs.YtfkblpjfknfgbaaGreatDoor
open Go.RowKit
abbrev En := ByteArray × List Int
def enFlags (F : Fl) (w : List UInt8) (rest : ByteArray) : Except Int En :=
  if (flagsR F rest).2 ≠ 0 then .error (flagsR F rest).2 else if (flagsR F rest).1.all (definedB F) = true then .ok (mkS w, (flagsR F rest).1) else .error 120
def enWord (F : Fl) (w rest : List UInt8) (cut : Bool) : Except Int En :=
  if w = [] ∨ fitAll (mkS w) = false then .error 21 else if 64 < w.length then .error 22 else if cut = false then .ok (mkS w, []) else enFlags F w (mkS rest)
def entR (F : Fl) (row : List ByteArray) : Except Int En :=
  if row.length ≠ 1 then .error 111 else match wordR (fieldAt row 0).data.toList with
    | (w, rest, cut, e) => if e ≠ 0 then .error e else enWord F w rest cut
def dgo (F : Fl) (count : Int) : Nat → List Row → Except (Int × Int) (List En)
  | _, [] => .ok []
  | i, (l, row) :: rest => if (i : Int) = count then .error (l, 116) else match entR F row with
    | .error c => .error (l, c)
    | .ok x => match dgo F count (i + 1) rest with
      | .error p => .error p
      | .ok xs => .ok (x :: xs)
def dicRows (F : Fl) (end_ : Int) : List Row → Except (Int × Int) (List En)
  | [] => .error (end_, 116)
  | (l, row) :: rest => if row.length ≠ 1 then .error (l, 111) else if numErr (fieldAt row 0).data.toList 8192 ≠ 0 then .error (l, 13)
    else match dgo F (numVal (fieldAt row 0).data.toList 8192) 0 rest with
      | .error p => .error p
      | .ok xs => if (xs.length : Int) < numVal (fieldAt row 0).data.toList 8192 then .error (end_, 116) else .ok xs
def dicR (F : Fl) (l : List UInt8) : Except (Int × Int) (List En) :=
  if 65536 < l.length then .error (0, 10) else dicRows F ((linesOf l).length + 1) (rowsOf (eachOf l))
theorem dgo_nil (F : Fl) (count : Int) (i : Nat) : dgo F count i [] = .ok [] := rfl
theorem dgo_many {F : Fl} {count : Int} {i : Nat} {l : Int} {row : List ByteArray} {rest : List Row} (h : (i : Int) = count) : dgo F count i ((l, row) :: rest) = .error (l, 116) := by rw [dgo, if_pos h]
theorem dgo_bad {F : Fl} {count : Int} {i : Nat} {l c : Int} {row : List ByteArray} {rest : List Row} (h : (i : Int) ≠ count) (he : entR F row = .error c) : dgo F count i ((l, row) :: rest) = .error (l, c) := by rw [dgo, if_neg h, he]
theorem dgo_ok {F : Fl} {count : Int} {i : Nat} {l : Int} {row : List ByteArray} {rest : List Row} {x : En} (h : (i : Int) ≠ count) (he : entR F row = .ok x) :
    dgo F count i ((l, row) :: rest) = match dgo F count (i + 1) rest with | .error p => .error p | .ok xs => .ok (x :: xs) := by rw [dgo, if_neg h, he]
def DLeft (F : Fl) (count : Int) (all : List Row) (i : Nat) (acc : List En) : Prop :=
  acc.length = i ∧ i ≤ all.length ∧ dgo F count 0 all = match dgo F count i (all.drop i) with | .error p => .error p | .ok xs => .ok (acc ++ xs)
theorem DLeft.start (F : Fl) (count : Int) (all : List Row) : DLeft F count all 0 [] := ⟨rfl, Nat.zero_le _, by
  rw [List.drop_zero]
  cases dgo F count 0 all <;> rfl⟩
theorem DLeft.many {F : Fl} {count : Int} {all : List Row} {i : Nat} {acc : List En} (h : DLeft F count all i acc) (hi : i < all.length) (hc : (i : Int) = count) : dgo F count 0 all = .error (all[i].1, 116) := by
  rw [h.2.2, List.drop_eq_getElem_cons hi, dgo_many hc]
theorem DLeft.bad {F : Fl} {count : Int} {all : List Row} {i : Nat} {acc : List En} (h : DLeft F count all i acc) (hi : i < all.length) (hc : (i : Int) ≠ count) {c : Int} (he : entR F all[i].2 = .error c) : dgo F count 0 all = .error (all[i].1, c) := by
  rw [h.2.2, List.drop_eq_getElem_cons hi, dgo_bad hc he]
theorem DLeft.more {F : Fl} {count : Int} {all : List Row} {i : Nat} {acc : List En} (h : DLeft F count all i acc) (hi : i < all.length) (hc : (i : Int) ≠ count) {x : En} (he : entR F all[i].2 = .ok x) : DLeft F count all (i + 1) (acc ++ [x]) := by
  refine ⟨by rw [List.length_append, h.1]; rfl, hi, ?_⟩
  rw [h.2.2, List.drop_eq_getElem_cons hi, dgo_ok hc he]
  cases dgo F count (i + 1) (all.drop (i + 1)) with
  | error p => rfl
  | ok xs => simp
theorem DLeft.done {F : Fl} {count : Int} {all : List Row} {acc : List En} (h : DLeft F count all all.length acc) : dgo F count 0 all = .ok acc := by
  rw [h.2.2, List.drop_length, dgo_nil]
  simp
theorem dgo_len {F : Fl} {count : Int} : ∀ (all : List Row) (i : Nat) (xs : List En), dgo F count i all = .ok xs → xs.length = all.length
  | [], i, xs, h => by rw [dgo_nil] at h; cases h; rfl
  | (l, row) :: rest, i, xs, h => by
    rw [dgo] at h
    split at h
    · cases h
    · split at h
      · cases h
      · split at h
        · cases h
        · rename_i ys hy
          cases h
          rw [List.length_cons, List.length_cons, dgo_len rest (i + 1) ys hy]
end Go.Proofs.YtfkblpjfknfgbaaGreatDoor
namespace Go.Proofs.YtfkblpjfknfgbaaGreatDoor
open Go.RowKit
set_option maxHeartbeats 1000000 in
theorem so_IndexL (v : Value) (zs : List Int) (x : Int) (w : World) (h : FS w v zs) (hbig : zs.length ≤ 9223372036854775807) :
    Calls Tryz.prog 123 #[v, .int .u16 x] w fun e w' => e = .returned (.int .i64 (Lib.idxOf zs x)) ∧ w' = w := by
  obtain ⟨p, c, rfl, hcap, hs⟩ := h
  have hS := Lib.hid hs
  clear hs
  go_enter Tryz.func123, Tryz.ntmps123
  go_wp2
  go_loop [5, 8] (fun _ i => ∃ k : Nat, k ≤ zs.length ∧ i = .int .i64 k ∧ ∀ j, j < k → zs.getD j 0 ≠ x) (fun _ i => zs.length - (intOf i).toNat)
  case atStart => exact ⟨0, Nat.zero_le _, rfl, fun j hj => absurd hj (Nat.not_lt_zero _)⟩
  case round =>
  obtain ⟨k, hk, rfl, hne⟩ := hrel
  have hN := Lib.hid hne
  clear hne
  by_cases hlt : k < zs.length
  · obtain ⟨b, off, rfl, hc⟩ := hS.out.resolve_left (by omega)
    have hcell := hc k hlt
    generalize hz : zs.getD k 0 = z at hcell
    clear hc
    cases hq : (x == z)
    · go_wp2
      go_roundw
      case rel =>
        refine ⟨k + 1, by omega, by go_num, fun j hj => ?_⟩
        by_cases e : j = k
        · subst e; rw [hz]; intro e; rw [e] at hq; simp at hq
        exact hN.out j (by omega)
      case measure => simp [intOf]; omega
    go_wp2
    go_ret
    have := Lib.idxOf_hit zs zs.length k x hlt (Nat.le_refl _) (by rw [hz]; exact (beq_iff_eq.1 hq).symm) hN.out
    rw [List.take_length] at this
    exact ⟨by rw [this]; rfl, rfl⟩
  have hke : k = zs.length := by omega
  subst hke
  go_wp2
  go_ret
  have := Lib.idxOf_miss zs zs.length x hN.out
  rw [List.take_length] at this
  exact ⟨by rw [this]; rfl, rfl⟩
theorem so_ContainsL (v : Value) (zs : List Int) (x : Int) (w : World) (h : FS w v zs) (hbig : zs.length ≤ 9223372036854775807) :
    Calls Tryz.prog 86 #[v, .int .u16 x] w fun e w' => e = .returned (.bool (zs.contains x)) ∧ w' = w := by
  have hb : zs.contains x = decide (0 ≤ Lib.idxOf zs x) := by
    rw [Bool.eq_iff_iff, decide_eq_true_eq, Lib.idxOf_nonneg_iff]
  have hbb := Lib.hid hb
  clear hb
  have hF := Lib.hid h
  obtain ⟨p, c, rfl, hcap, -⟩ := h
  go_enter Tryz.func86, Tryz.ntmps86
  go_wp2_with (go_at_call 123; refine (so_IndexL _ zs x _ hF.out hbig).mono ?_; rintro e w' ⟨rfl, rfl⟩)
  go_ret
  exact ⟨by rw [hbb.out]; rfl, rfl⟩
end Go.Proofs.YtfkblpjfknfgbaaGreatDoor
namespace Go.Proofs.YtfkblpjfknfgbaaGreatDoor
open Go.RowKit Go.Maps
set_option maxHeartbeats 1000000 in
theorem so_dfault (l c : Int) (w : World) : Calls Tryz.prog 48 #[.int .i64 l, .int .i64 c] w fun e w' => e = .returned (.agg #[.int .i64 2, .int .i64 l, .int .i64 c]) ∧ Below w.heap.size w w' := by
  go_enter Tryz.func48, Tryz.ntmps48
  go_wp2_with fail
  refine bodyPost_ret (v := .agg #[.int .i64 2, .int .i64 l, .int .i64 c]) (by simp [results, Tryz.results48, go_sem]; try rfl) rfl ?_
  exact ⟨rfl, (Below.refl _ _).alloc (Nat.le_refl _) _⟩
def headN (row : List ByteArray) : Int × Int := if row.length ≠ 1 then (0, 111) else (numVal (fieldAt row 0).data.toList 8192, numErr (fieldAt row 0).data.toList 8192)
set_option maxHeartbeats 2000000 in
set_option maxRecDepth 100000 in
theorem so_dhead (l : Int) (fv : Value) (row : List ByteArray) (w : World) (hr : Rd w 1 fv row.length (strV row)) (hs : ∀ j, (fieldAt row j).size ≤ 65536) (hn : row.length ≤ 9223372036854775807) :
    Calls Tryz.prog 49 #[.agg #[.int .i64 l, fv]] w fun e w' => e = .returned (.tuple #[.int .i64 (headN row).1, .int .i64 (headN row).2]) ∧ Below w.heap.size w w' := by
  obtain ⟨-, A, cp, rfl, hcap, hcells⟩ := hr
  have hb1 : Below w.heap.size w (w.alloc (.cells #[.int .i64 l, .slice A row.length cp] 133)) := (Below.refl _ _).alloc (Nat.le_refl _) _
  have HB1 := Lib.hid hb1
  by_cases h1 : row.length = 1
  · obtain ⟨g, o, rfl, hc⟩ := hcells.resolve_left (by omega)
    have hx : (strV row)[0]? = some (.string (fieldAt row 0)) := by
      match row, h1 with
      | [f], _ => rfl
    have c1 := hc 0 _ hx
    rw [Nat.add_zero] at c1
    have HC1 := Lib.hid ((hb1.cell (World.block_lt_of_cell? _ _ c1)).trans c1)
    have HX : Hid (headN row = (numVal (fieldAt row 0).data.toList 8192, numErr (fieldAt row 0).data.toList 8192)) := Lib.hid (by rw [headN, if_neg (by omega)])
    have HN : Hid (∀ W, Calls Tryz.prog 63 #[.string (fieldAt row 0), .int .i64 8192] W fun e W' => e = .returned (.tuple #[.int .i64 (numVal (fieldAt row 0).data.toList 8192), .int .i64 (numErr (fieldAt row 0).data.toList 8192)]) ∧ W = W') := Lib.hid (fun W => by
      have h2 := Number_any (fieldAt row 0) 8192 W (by have := hs 0; unfold maxLen; omega) (by omega) (by omega)
      unfold NumRet at h2
      exact h2)
    rw [h1] at HB1 HC1 hcap ⊢
    rw [HX.out]
    generalize fieldAt row 0 = f at *
    have d1 := HC1.out
    clear hcells hc hx c1 hb1 hs hn h1 HX
    go_enter Tryz.func49, Tryz.ntmps49
    go_wp2_with (go_at_call 63; refine (HN.out _).mono ?_; rintro e w2 ⟨rfl, rfl⟩)
    go_ret2
    exact ⟨rfl, HB1.out⟩
  have h1' : ((row.length : Int) != 1) = true := by rw [bne_iff_ne]; omega
  have HX : Hid (headN row = (0, 111)) := Lib.hid (by rw [headN, if_pos h1])
  rw [HX.out]
  clear hcells hb1 hs h1 HX
  go_enter Tryz.func49, Tryz.ntmps49
  go_wp2_with fail
  go_ret2
  exact ⟨rfl, HB1.out⟩
end Go.Proofs.YtfkblpjfknfgbaaGreatDoor
namespace Go.Proofs.YtfkblpjfknfgbaaGreatDoor
open Go.RowKit
theorem ws_get (X : Ws) (j : Nat) (hj : j < 4) : (#[Value.int .u64 (X 0 : Nat), Value.int .u64 (X 1 : Nat), Value.int .u64 (X 2 : Nat), Value.int .u64 (X 3 : Nat)] : Array Value)[j]? = some (.int .u64 (X j : Nat)) := by
  rcases j with _ | _ | _ | _ | j
  · rfl
  · rfl
  · rfl
  · rfl
  omega
theorem bit_has (x m : Nat) (hx : x < 18446744073709551616) : (bits .and .u64 ((x : Int) / 2 ^ m) 1 == 1) = x.testBit m := by
  have e : ((x : Int) / 2 ^ m) = ((x / 2 ^ m : Nat) : Int) := by simp
  have hl : x / 2 ^ m < 2 ^ 64 := Nat.lt_of_le_of_lt (Nat.div_le_self _ _) hx
  rw [e, show (1 : Int) = ((1 : Nat) : Int) from rfl, (bits_nat .u64 64 (by decide) wraps_u64 _ _ hl (by decide)).1, Nat.testBit_eq_decide_div_mod_eq, Nat.and_one_is_mod, Bool.eq_iff_iff]
  simp
  omega
theorem bit_put (x m : Nat) (hx : x < 18446744073709551616) (hm : m < 64) : bits .or .u64 (x : Int) ((2 ^ m : Nat) : Int) = ((x ||| 2 ^ m : Nat) : Int) :=
  (bits_nat .u64 64 (by decide) wraps_u64 _ _ hx (Nat.pow_lt_pow_right (by decide) hm)).2
theorem wrap_pow (m : Nat) (hm : m < 64) : IntKind.u64.wrap ((2 : Int) ^ m) = ((2 ^ m : Nat) : Int) := by
  have h1 : 2 ^ m < 2 ^ 64 := Nat.pow_lt_pow_right (by decide) hm
  have h2 : (2 : Int) ^ m = ((2 ^ m : Nat) : Int) := by simp
  rw [h2]
  generalize 2 ^ m = x at h1
  rw [IntKind.wrap_u64]
  omega
theorem bit_not (x : Nat) (hx : x < 18446744073709551616) : bits .xor .u64 IntKind.u64.max (x : Int) = ((18446744073709551615 - x : Nat) : Int) := by
  have e1 : IntKind.u64.max = ((18446744073709551615 : Nat) : Int) := by decide
  have e2 : (BitVec.ofInt 64 ((18446744073709551615 : Nat) : Int) ^^^ BitVec.ofInt 64 (x : Int)).toNat = 18446744073709551615 - x := by
    rw [BitVec.ofInt_natCast, BitVec.ofInt_natCast, show BitVec.ofNat 64 18446744073709551615 = BitVec.allOnes 64 by decide, BitVec.allOnes_xor, BitVec.toNat_not, BitVec.toNat_ofNat]
    omega
  rw [e1]
  show IntKind.u64.wrap (((BitVec.ofInt 64 _ ^^^ BitVec.ofInt 64 _).toNat : Nat) : Int) = _
  rw [e2, IntKind.wrap_u64]
  omega
set_option maxHeartbeats 1000000 in
theorem so_has (X : Ws) (p : UInt8 → Bool) (b : UInt8) (w : World) (h : HasP X p) :
    Calls Tryz.prog 221 #[clV X, .int .u8 b.toNat] w fun e w' => e = .returned (.bool (p b)) ∧ Below w.heap.size w w' := by
  have hb := b.toNat_lt
  have HP := Lib.hid h
  have hx := h.1 (b.toNat / 64)
  have hget := ws_get X (b.toNat / 64) (by omega)
  have hand : bits .and .u8 (b.toNat : Int) 63 = (b.toNat : Int) % 64 := u8_and63 _ (by omega) (by omega)
  clear h
  unfold clV
  go_enter Tryz.func221, Tryz.ntmps221
  go_wp2_with fail
  go_ret
  exact ⟨by rw [← HP.out.2 b, ← bit_has _ _ hx]; rfl, (Below.refl _ _).alloc (Nat.le_refl _) _⟩
def wsA (X : Ws) : Array Value := #[.int .u64 (X 0 : Nat), .int .u64 (X 1 : Nat), .int .u64 (X 2 : Nat), .int .u64 (X 3 : Nat)]
theorem wsA_put (X : Ws) (n : Nat) (hn : n < 256) : (wsA X).setIfInBounds (n / 64) (.int .u64 ((X (n / 64) ||| 2 ^ (n % 64) : Nat) : Int)) = wsA (put4 X n) := by
  have h4 : n / 64 < 4 := by omega
  obtain ⟨j, hj⟩ : ∃ j, n / 64 = j := ⟨_, rfl⟩
  unfold wsA put4
  rw [hj] at h4 ⊢
  rcases j with _ | _ | _ | _ | j
  · simp
  · simp
  · simp
  · simp
  omega
set_option maxHeartbeats 1000000 in
theorem so_put (X : Ws) (g : Nat) (c : UInt8) (w : World) (hx : X (c.toNat / 64) < 18446744073709551616) (h0 : w.heap[g]? = some (.cells (wsA X) 273 (0, 0))) :
    Calls Tryz.prog 187 #[.pointer (some ⟨g, 0, none⟩), .int .u8 c.toNat] w fun e w' => e = .returned (.tuple #[]) ∧ w'.heap[g]? = some (.cells (wsA (put4 X c.toNat)) 273 (0, 0)) ∧ Kept [g] w w' := by
  have hb := c.toNat_lt
  have hc : ∀ j, j < 4 → w.cell? ⟨g, j, none⟩ = some (.int .u64 (X j : Nat)) := fun j hj => by rw [Lib.cell_of_heap h0]; exact ws_get X j hj
  have hcell := hc (c.toNat / 64) (by omega)
  have hf := Lib.frozen_of_heap h0 (c.toNat / 64)
  have hand : bits .and .u8 (c.toNat : Int) 63 = (c.toNat : Int) % 64 := u8_and63 _ (by omega) (by omega)
  have H0 := Lib.hid h0
  have HX := Lib.hid hx
  clear hc h0 hx
  go_enter Tryz.func187, Tryz.ntmps187
  go_wp2_with fail
  go_region
  all_goals go_end0
  all_goals
    have hw : IntKind.u64.wrap (2 ^ (c.toNat % 64)) = ((2 ^ (c.toNat % 64) : Nat) : Int) := by
      exact wrap_pow _ (by omega)
    rw [hw, bit_put _ _ HX.out (by omega)]
    refine ⟨rfl, ?_, ?_⟩
    · rw [← wsA_put X c.toNat (by omega)]
      exact heap_setCell_same _ g _ _ _ _ H0.out
    exact ((Kept.refl [g] w).set g _ _ (.inl (by simp))).drew
set_option maxHeartbeats 1000000 in
theorem so_other (X : Ws) (p : UInt8 → Bool) (w : World) (h : HasP X p) :
    Calls Tryz.prog 186 #[clV X] w fun e w' => e = .returned (clV (not4 X)) ∧ Below w.heap.size w w' := by
  have HP := Lib.hid h
  clear h
  unfold clV
  go_enter Tryz.func186, Tryz.ntmps186
  go_wp2_with fail
  have e0 := bit_not (X 0) (HP.out.1 0)
  have e1 := bit_not (X 1) (HP.out.1 1)
  have e2 := bit_not (X 2) (HP.out.1 2)
  have e3 := bit_not (X 3) (HP.out.1 3)
  rw [e0, e1, e2, e3]
  refine bodyPost_ret (v := clV (not4 X)) (by simp [results, Tryz.results186, go_sem]; rfl) rfl ?_
  exact ⟨rfl, ((Below.refl _ _).alloc (Nat.le_refl _) _).alloc (by simp) _⟩
end Go.Proofs.YtfkblpjfknfgbaaGreatDoor
namespace Go.Proofs.YtfkblpjfknfgbaaGreatDoor
open Go.RowKit
theorem HasP.snocT {X : Ws} {s : ByteArray} {k : Nat} (h : HasP X (fun b => (s.data.toList.take k).contains b)) (hk : k < s.size) : HasP (put4 X s[k].toNat) (fun b => (s.data.toList.take (k + 1)).contains b) := by
  refine (h.put s[k]).ext (fun b => ?_)
  rw [take_snoc s k hk, Bool.eq_iff_iff]
  simp
  exact ⟨fun h => h.imp id Eq.symm, fun h => h.imp id Eq.symm⟩
theorem HasP.lt {X : Ws} {p : UInt8 → Bool} (h : HasP X p) (j : Nat) : X j < 18446744073709551616 := h.1 j
theorem ws_cells {w : World} {g : Nat} {X : Ws} (h : w.heap[g]? = some (.cells (wsA X) 273 (0, 0))) :
    w.cell? ⟨g, 0, none⟩ = some (.int .u64 (X 0 : Nat)) ∧ w.cell? ⟨g, 1, none⟩ = some (.int .u64 (X 1 : Nat)) ∧ w.cell? ⟨g, 2, none⟩ = some (.int .u64 (X 2 : Nat)) ∧ w.cell? ⟨g, 3, none⟩ = some (.int .u64 (X 3 : Nat)) := by
  refine ⟨?_, ?_, ?_, ?_⟩ <;> (rw [Lib.cell_of_heap h]; rfl)
set_option maxHeartbeats 2000000 in
set_option maxRecDepth 100000 in
theorem so_of (s : ByteArray) (w : World) (hs : s.size ≤ 1048576) :
    Calls Tryz.prog 219 #[.string s] w fun e w' => ∃ X, e = .returned (clV X) ∧ HasP X (fun b => s.data.toList.contains b) ∧ Below w.heap.size w w' := by
  go_enter Tryz.func219, Tryz.ntmps219
  go_wp2_with fail
  go_loopw [4, 7] (fun _ i wr => ∃ (k : Nat) (X : Ws), k ≤ s.size ∧ i = .int .i64 k ∧ Hid (HasP X (fun b => (s.data.toList.take k).contains b)) ∧ Hid (wr.heap[w.heap.size]? = some (.cells (wsA (fun _ => 0)) 273 (0, 0))) ∧ Hid (wr.heap[w.heap.size + 1]? = some (.cells (wsA X) 273 (0, 0))) ∧ Hid (Below w.heap.size w wr)) (fun _ i _ => s.size - (intOf i).toNat)
  case atStart =>
    refine ⟨0, fun _ => 0, Nat.zero_le _, rfl, HasP.none.ext (fun b => by simp), ?_, ?_, ?_⟩
    · exact (Below.heap_alloc _ _ w.heap.size (by simp)).trans (heap_alloc_new w _)
    · have := heap_alloc_new (w.alloc (.cells (wsA (fun _ => 0)) 273)) (.cells (wsA (fun _ => 0)) 273)
      rw [World.size_alloc] at this
      exact this
    exact ((Below.refl _ _).alloc (Nat.le_refl _) _).alloc (by simp) _
  case round =>
  obtain ⟨k, X, hk, rfl, HP, H0, H1, HB⟩ := hrel
  by_cases hlt : k < s.size
  · have HN := Lib.hid (HP.out.snocT hlt)
    go_wp2_with (go_at_call 187; refine (so_put X _ s[k] _ (HP.out.lt _) H1.out).mono ?_; rintro e w2 ⟨rfl, h1, h2⟩; have H1' := Lib.hid h1; have H0' := Lib.hid (h2.at H0.out (by simp)); have HB' := Lib.hid (HB.out.trans (h2.below HB.out.size (by intro x hx; simp at hx; omega))); clear h1 h2)
    go_roundw
    case rel => exact ⟨k + 1, _, by omega, by go_num, HN, H0', H1', HB'⟩
    case measure => simp [intOf]; omega
  obtain rfl : k = s.size := by omega
  obtain ⟨a0, a1, a2, a3⟩ := ws_cells H0.out
  obtain ⟨c0, c1, c2, c3⟩ := ws_cells H1.out
  have z := Lib.frozen_of_heap H0.out
  have z0 := z 0
  have z1 := z 1
  have z2 := z 2
  have z3 := z 3
  clear z
  go_wp2_with fail
  refine bodyPost_ret (v := clV X) (by simp [results, Tryz.results219, go_sem, a0, a1, a2, a3]; rfl) rfl ?_
  refine ⟨X, rfl, ?_, ?_⟩
  · have := HP.out
    rwa [List.take_of_length_le (by simp)] at this
  exact (((HB.out.setCell (Nat.le_refl _) _).setCell (Nat.le_refl _) _).setCell (Nat.le_refl _) _).setCell (Nat.le_refl _) _
theorem all_len : all256.length = 256 := by simp [all256]
theorem all_get (k : Nat) (h : k < 256) : all256[k]? = some (UInt8.ofNat k) := by simp [all256, h]
theorem all_take256 (p : UInt8 → Bool) (k : Nat) (h : k < 256) : (all256.take (k + 1)).filter p = (all256.take k).filter p ++ (if p (UInt8.ofNat k) = true then [UInt8.ofNat k] else []) := by
  rw [List.take_add_one, all_get k h, List.filter_append]
  congr 1
  by_cases hp : p (UInt8.ofNat k) = true <;> simp [hp]
theorem filter_le (p : UInt8 → Bool) (k : Nat) : ((all256.take k).filter p).length ≤ 256 := by
  have h1 := List.length_filter_le p (all256.take k)
  have h2 := List.length_take_le' k all256
  rw [all_len] at h2
  omega
set_option maxHeartbeats 2000000 in
set_option maxRecDepth 100000 in
theorem so_bytesC (X : Ws) (p : UInt8 → Bool) (w : World) (h : HasP X p) :
    Calls Tryz.prog 220 #[clV X] w fun e w' => ∃ v, e = .returned v ∧ Own w w' 5 1 v (all256.filter p).length (Lib.byteCells (all256.filter p)) := by
  obtain ⟨i0, hi, hz0, hz1, hz2⟩ := info_parts byte_info
  have HP := Lib.hid h
  clear h
  unfold clV
  go_enter Tryz.func220, Tryz.ntmps220
  go_wp2_with fail
  obtain ⟨w1, hw1⟩ : ∃ W, w.alloc (.cells (wsA X) 273) = W := ⟨_, rfl⟩
  have HB1 : Hid (Below w.heap.size w w1) := Lib.hid (by rw [← hw1]; exact (Below.refl _ _).alloc (Nat.le_refl _) _)
  have HX : Hid (w1.heap[w.heap.size]? = some (.cells (wsA X) 273 (0, 0))) := Lib.hid (by rw [← hw1]; exact heap_alloc_new w _)
  have hw1' : w.alloc (.cells #[.int .u64 (X 0 : Nat), .int .u64 (X 1 : Nat), .int .u64 (X 2 : Nat), .int .u64 (X 3 : Nat)] 273) = w1 := hw1
  rw [hw1']
  have hsz1 : w.heap.size < w1.heap.size := block_lt HX.out
  clear hw1 hw1'
  go_loopw [3, 4, 5] (fun v _ i wr => ∃ k : Nat, k ≤ 256 ∧ i = .int .i64 k ∧ Hid (Own w1 wr 5 1 v ((all256.take k).filter p).length (Lib.byteCells ((all256.take k).filter p)))) (fun _ _ i _ => 256 - (intOf i).toNat)
  case atStart => exact ⟨0, Nat.zero_le _, rfl, Own.nil_ _ _ _⟩
  case round =>
  obtain ⟨k, hk, rfl, HO⟩ := hrel
  have hszr := HO.out.size
  by_cases hlt : k < 256
  · have hbn : (UInt8.ofNat k).toNat = k := by simp; omega
    have HH : Hid (∀ W, Calls Tryz.prog 221 #[.agg #[.int .u64 (X 0 : Nat), .int .u64 (X 1 : Nat), .int .u64 (X 2 : Nat), .int .u64 (X 3 : Nat)], .int .u8 (k : Int)] W fun e w' => e = .returned (.bool (p (UInt8.ofNat k))) ∧ Below W.heap.size W w') := Lib.hid (fun W => by
      have := so_has X p (UInt8.ofNat k) W HP.out
      rwa [hbn] at this)
    have hx := (HO.out.below.block w.heap.size hsz1).trans HX.out
    obtain ⟨c0, c1, c2, c3⟩ := ws_cells hx
    have hwr : IntKind.u8.wrap (k : Int) = (k : Int) := by rw [IntKind.wrap_u8]; omega
    have hwm : (k : Int) % 256 = (k : Int) := by omega
    have HT := Lib.hid (all_take256 p k hlt)
    have HFl := Lib.hid (filter_le p k)
    clear hx hbn
    cases hq : p (UInt8.ofNat k)
    · rw [hq] at HH HT
      rw [if_neg (by simp), List.append_nil] at HT
      clear hq
      go_wp2_with (go_at_call 221; refine (HH.out _).mono ?_; rintro e w2 ⟨rfl, hb⟩; have HO2 := Lib.hid (HO.out.call hb); clear hb)
      go_roundw
      case rel => exact ⟨k + 1, by omega, by go_num, by rw [HT.out]; exact HO2⟩
      case measure => simp [intOf]; omega
    rw [hq] at HH HT
    rw [if_pos rfl] at HT
    clear hq
    go_wp2_with (first | (go_at_call 221; refine (HH.out _).mono ?_; rintro e w2 ⟨rfl, hb⟩; have HO2 := Lib.hid (HO.out.call hb); clear hb) | (at_builtin; refine wpList_push1 rfl _ _ 213 rfl w1.heap.size 5 i0 (.int .u8 0) 1 Tryz.underlying213 hi hz0 hz1 hz2 rfl _ _ _ rfl HO2.out.own _ rfl rfl (by have := HFl.out; unfold maxLen; omega) (by have := HFl.out; omega) HO2.out.size ?_; intro g cap w3 hown hg; have HO3 := Lib.hid (HO2.out.push hown hg); clear hown hg))
    go_roundw
    case rel =>
      refine ⟨k + 1, by omega, by go_num, ?_⟩
      have e : (UInt8.ofNat k).toNat = k := by simp; omega
      have := HO3.out
      rw [HT.out, ← bytes_snoc, List.length_append, e]
      exact this
    case measure => simp [intOf]; omega
  obtain rfl : k = 256 := by omega
  have HT : Hid (all256.take 256 = all256) := Lib.hid (List.take_of_length_le (by rw [all_len]; exact Nat.le_refl _))
  rw [HT.out] at HO
  go_wp2_with fail
  go_ret
  exact ⟨_, rfl, HO.out.from_ HB1.out⟩
end Go.Proofs.YtfkblpjfknfgbaaGreatDoor
namespace Go.Proofs.YtfkblpjfknfgbaaGreatDoor
open Go.RowKit
def close? (l : List UInt8) : Option Nat := l.findIdx? (fun c => c.toNat == 93)
theorem byte_eq93 (c : UInt8) : (c == 93) = (c.toNat == 93) := by
  rw [Bool.eq_iff_iff, beq_iff_eq, beq_iff_eq, ← UInt8.toNat_inj]; rfl
theorem index93 (l : List UInt8) : Lib.indexByte l 93 = match close? l with | none => -1 | some n => (n : Int) := by
  unfold close?
  induction l with
  | nil => rfl
  | cons b l ih =>
    rw [List.findIdx?_cons, Lib.indexByte, byte_eq93]
    cases hb : (b.toNat == 93)
    · rw [ih]
      cases List.findIdx? (fun c => c.toNat == 93) l <;> simp <;> omega
    simp
theorem close_lt {l : List UInt8} {n : Nat} (h : close? l = some n) : n < l.length := by
  unfold close? at h
  exact (List.findIdx?_eq_some_iff_findIdx_eq.1 h).1
theorem close_at {l : List UInt8} {n : Nat} (h : close? l = some n) : l.take (n + 1) = l.take n ++ [93] := by
  have hl := close_lt h
  have h1 := (List.findIdx?_eq_some_iff_getElem.1 h)
  obtain ⟨hlt, hp, -⟩ := h1
  rw [List.take_succ_eq_append_getElem hlt]
  congr 2
  rw [← UInt8.toNat_inj]
  simpa using hp
def badItem (l : List UInt8) (n : Nat) : Prop := n = 0 ∨ (n = 1 ∧ (l.getD 0 0).toNat = 94)
instance (l : List UInt8) (n : Nat) : Decidable (badItem l n) := inferInstanceAs (Decidable (_ ∨ _))
theorem adm_hat (l : List UInt8) (b : UInt8) (hl : l ≠ []) : admB (91 :: 94 :: (l ++ [93])) b = !(l.contains b) := by
  obtain ⟨a, l, rfl⟩ := List.exists_cons_of_ne_nil hl
  show (!((a :: (l ++ [93])).dropLast.contains b)) = _
  rw [← List.cons_append, List.dropLast_concat]
theorem adm_plain (c : UInt8) (l : List UInt8) (b : UInt8) (hc : c.toNat ≠ 94) : admB (91 :: c :: (l ++ [93])) b = (c :: l).contains b := by
  unfold admB
  simp only []
  rw [if_neg hc, ← List.cons_append, List.dropLast_concat]
theorem br_hat {l : List UInt8} {n : Nat} (hc : close? l = some n) {l1 : List UInt8} (h0 : l.take n = 94 :: l1) : (badItem l n ↔ l1 = []) ∧ (l1 ≠ [] → ∀ b, admB (91 :: l.take (n + 1)) b = !(l1.contains b)) := by
  have hl := close_lt hc
  have hlen : n = l1.length + 1 := by
    have := congrArg List.length h0
    rw [List.length_take] at this; simp at this; omega
  have hh : l.getD 0 0 = 94 := by
    rcases l with _ | ⟨c, l⟩
    · simp at hl
    rw [hlen] at h0; simp at h0; simp [h0.1]
  refine ⟨⟨fun h => ?_, fun h => ?_⟩, fun h b => ?_⟩
  · rcases h with h | ⟨h, _⟩
    · omega
    exact List.eq_nil_of_length_eq_zero (by omega)
  · exact .inr ⟨by rw [hlen, h]; rfl, by rw [hh]; rfl⟩
  rw [close_at hc, h0]; exact adm_hat l1 b h
theorem br_plain {l : List UInt8} {n : Nat} (hc : close? l = some n) (h : ∀ l1, l.take n ≠ 94 :: l1) : (badItem l n ↔ l.take n = []) ∧ (l.take n ≠ [] → ∀ b, admB (91 :: l.take (n + 1)) b = (l.take n).contains b) := by
  have hl := close_lt hc
  have hlen : (l.take n).length = n := by rw [List.length_take]; omega
  refine ⟨⟨fun hb => ?_, fun hb => .inl (by rw [hb] at hlen; exact hlen.symm)⟩, fun hne b => ?_⟩
  · rcases hb with hb | ⟨h1, h2⟩
    · rw [hb]; rfl
    exfalso
    rcases l with _ | ⟨c, l⟩
    · simp at hl
    refine h [] ?_
    rw [h1]
    simp at h2 ⊢
    rw [← UInt8.toNat_inj]; exact h2
  rw [close_at hc]
  obtain ⟨c, l1, h1⟩ := List.exists_cons_of_ne_nil hne
  rw [h1]
  exact adm_plain c l1 b (fun e => h l1 (by rw [h1]; congr 1; rw [← UInt8.toNat_inj]; exact e))
theorem pre94 {c : UInt8} {l : List UInt8} (h : Lib.hasPrefix (c :: l) [94] = true) : c = 94 := by
  unfold Lib.hasPrefix at h
  rw [List.isPrefixOf_cons_cons] at h
  have := (Bool.and_eq_true _ _ ▸ h).1
  exact (eq_of_beq this).symm
theorem str_nonempty (l : List UInt8) (h : l ≠ []) : (⟨l.toArray⟩ : ByteArray).toList.isEmpty = false := by
  rw [Lib.toList_data]
  cases l with
  | nil => exact absurd rfl h
  | cons a l => rfl
theorem so_ofA (s : ByteArray) (w : World) (hs : s.size ≤ 1048576) :
    Calls Tryz.prog 219 #[.string s] w fun e w' => ∃ X : Ws, e = .returned (.agg #[.int .u64 (X 0 : Nat), .int .u64 (X 1 : Nat), .int .u64 (X 2 : Nat), .int .u64 (X 3 : Nat)]) ∧ HasP X (fun b => s.data.toList.contains b) ∧ Below w.heap.size w w' := so_of s w hs
theorem so_otherA (X : Ws) (p : UInt8 → Bool) (w : World) (h : HasP X p) :
    Calls Tryz.prog 186 #[.agg #[.int .u64 (X 0 : Nat), .int .u64 (X 1 : Nat), .int .u64 (X 2 : Nat), .int .u64 (X 3 : Nat)]] w fun e w' => ∃ Y : Ws, e = .returned (.agg #[.int .u64 (Y 0 : Nat), .int .u64 (Y 1 : Nat), .int .u64 (Y 2 : Nat), .int .u64 (Y 3 : Nat)]) ∧ HasP Y (fun b => !p b) ∧ Below w.heap.size w w' :=
  (so_other X p w h).mono fun _ _ ⟨he, hb⟩ => ⟨not4 X, he, h.not, hb⟩
theorem zero_cells {w w2 : World} {X : Ws} (hb : Below (w.alloc (.cells (wsA X) 273)).heap.size (w.alloc (.cells (wsA X) 273)) w2) :
    w2.heap[w.heap.size]? = some (.cells (wsA X) 273 (0, 0)) ∧ w.heap.size < w2.heap.size := by
  have h := (hb.block w.heap.size (by simp)).trans (heap_alloc_new w _)
  exact ⟨h, block_lt h⟩
def BrP (l : List UInt8) (at_ : Nat) (w : World) (e : Ending) (w' : World) : Prop :=
  Below w.heap.size w w' ∧ match close? l with
    | none => ∃ (X : Ws) (i : Int), e = .returned (.tuple #[.agg #[.int .u64 (X 0 : Nat), .int .u64 (X 1 : Nat), .int .u64 (X 2 : Nat), .int .u64 (X 3 : Nat)], .int .i64 i, .bool false])
    | some n => if badItem l n then ∃ (X : Ws) (i : Int), e = .returned (.tuple #[.agg #[.int .u64 (X 0 : Nat), .int .u64 (X 1 : Nat), .int .u64 (X 2 : Nat), .int .u64 (X 3 : Nat)], .int .i64 i, .bool false])
      else ∃ X : Ws, e = .returned (.tuple #[.agg #[.int .u64 (X 0 : Nat), .int .u64 (X 1 : Nat), .int .u64 (X 2 : Nat), .int .u64 (X 3 : Nat)], .int .i64 ((at_ + n + 1 : Nat) : Int), .bool true]) ∧ HasP X (admB (91 :: l.take (n + 1)))
set_option maxHeartbeats 4000000 in
set_option maxRecDepth 100000 in
theorem so_bracket (s : ByteArray) (at_ : Nat) (w : World) (hs : s.size ≤ 1048576) (ha : at_ ≤ s.size) :
    Calls Tryz.prog 185 #[.string s, .int .i64 at_] w (BrP (s.data.toList.drop at_) at_ w) := by
  unfold BrP
  have HX := Lib.hid (fun W => Tryz.strings_IndexByte (s.extract at_ s.size) 93 W)
  have he : (s.extract at_ s.size).data.toList = s.data.toList.drop at_ := Lib.extract_to_end s at_
  rw [he] at HX
  rw [show (93 : Int).toNat.toUInt8 = 93 from rfl, index93] at HX
  cases hc : close? (s.data.toList.drop at_) with
  | none =>
    rw [hc] at HX
    dsimp only at HX ⊢
    clear hc he
    go_enter Tryz.func185, Tryz.ntmps185
    go_wp2_with (go_at_call 217; refine (HX.out _).mono ?_; rintro e w' ⟨rfl, rfl⟩)
    refine bodyPost_ret (v := .tuple #[clV (fun _ => 0), .int .i64 0, .bool false]) (by simp [results, Tryz.results185, go_sem]; rfl) rfl ?_
    exact ⟨(Below.refl _ _).alloc (Nat.le_refl _) _, fun _ => 0, 0, rfl⟩
  | some n =>
    rw [hc] at HX
    dsimp only at HX ⊢
    have hlt := close_lt hc
    rw [List.length_drop, len_toList] at hlt
    have hn1 : ¬ (n : Int) < 0 := by omega
    have hsum : IntKind.i64.wrap ((at_ : Int) + (n : Int)) = (at_ : Int) + (n : Int) := by rw [IntKind.wrap_i64]; omega
    have hx0 : (s.extract at_ (at_ + n)).data.toList = (s.data.toList.drop at_).take n := by rw [extract_mkS, mkS_data, Nat.add_sub_cancel_left]
    have HC := Lib.hid (fun W => Tryz.strings_CutPrefix (s.extract at_ (at_ + n)) ⟨#[94]⟩ W)
    rw [hx0] at HC
    have hmx : ((⟨#[94]⟩ : ByteArray).data.toList) = [94] := rfl
    rw [hmx] at HC
    have hle : at_ + n ≤ s.size := by omega
    by_cases hhat : ∃ l1, (s.data.toList.drop at_).take n = 94 :: l1
    · obtain ⟨l1, h0⟩ := hhat
      obtain ⟨hb1, hb2⟩ := br_hat hc h0
      rw [h0] at HC
      rw [show Lib.hasPrefix (94 :: l1) [94] = true by simp [Lib.hasPrefix], show Lib.trimPrefix (94 :: l1) [94] = l1 by simp [Lib.trimPrefix, Lib.hasPrefix]] at HC
      have HO := Lib.hid (fun W => so_ofA ⟨l1.toArray⟩ W (by show l1.toArray.size ≤ _; have := congrArg List.length h0; rw [List.length_take] at this; simp at this; simp; omega))
      have HB2 := Lib.hid hb2
      have HB1 := Lib.hid hb1
      have hnat : IntKind.i64.wrap ((at_ : Int) + (n : Int) + 1) = ((at_ + n + 1 : Nat) : Int) := by rw [IntKind.wrap_i64]; omega
      clear hb1 hb2 h0 hc he hx0 hmx
      by_cases hl1 : l1 = []
      · simp only [if_pos (HB1.out.2 hl1)]
        subst hl1
        go_enter Tryz.func185, Tryz.ntmps185
        go_wp2_with (first
          | (go_at_call 217; refine (HX.out _).mono ?_; rintro e w' ⟨rfl, rfl⟩)
          | (go_at_call 218; refine (HC.out _).mono ?_; rintro e w' ⟨rfl, rfl⟩)
          | (go_at_call 219; refine (HO.out _).mono ?_; rintro e w2 ⟨X, rfl, hX, hb⟩; have HXX := Lib.hid hX; have HBw := Lib.hid (((Below.refl _ w).alloc (Nat.le_refl _) _).trans (hb.mono (by simp))); obtain ⟨hz, hzl⟩ := zero_cells (X := fun _ => 0) hb; have HZ2 := Lib.hid hz; skip; clear hX hb hz))
        refine (so_otherA X _ _ HXX.out).mono ?_
        rintro e w3 ⟨Y, rfl, hY, hb3⟩
        have HY := Lib.hid hY
        have hsz2 : w2.heap.size < (w2.alloc (.cells (wsA X) 273)).heap.size := by simp
        have HZ3 : Hid (w3.heap[w.heap.size]? = some (.cells (wsA (fun _ => 0)) 273 (0, 0))) := Lib.hid ((hb3.block w.heap.size (Nat.lt_trans hzl hsz2)).trans ((Below.heap_alloc w2 _ w.heap.size hzl).trans HZ2.out))
        obtain ⟨hx3, hx3l⟩ := zero_cells (X := X) hb3
        have HX3 := Lib.hid hx3
        have HBz := Lib.hid ((HBw.out.alloc HBw.out.size (.cells (wsA X) 273)).trans (hb3.mono (Nat.le_trans HBw.out.size (Nat.le_of_lt hsz2))))
        obtain ⟨a0, a1, a2, a3⟩ := ws_cells HZ3.out
        have zz0 := Lib.frozen_of_heap HZ3.out 0
        have zz1 := Lib.frozen_of_heap HZ3.out 1
        have zz2 := Lib.frozen_of_heap HZ3.out 2
        have zz3 := Lib.frozen_of_heap HZ3.out 3
        obtain ⟨b0, b1, b2, b3⟩ := ws_cells HX3.out
        have yy0 := Lib.frozen_of_heap HX3.out 0
        have yy1 := Lib.frozen_of_heap HX3.out 1
        have yy2 := Lib.frozen_of_heap HX3.out 2
        have yy3 := Lib.frozen_of_heap HX3.out 3
        have ne1 : ¬ w.heap.size = w2.heap.size := Nat.ne_of_lt hzl
        have ne2 : ¬ w2.heap.size = w.heap.size := fun h => ne1 h.symm
        have hle2 := HBw.out.size
        clear hY hb3 hx3 hsz2
        go_wp2_with fail
        refine bodyPost_ret (v := .tuple #[clV Y, .int .i64 ((at_ + n + 1 : Nat) : Int), .bool false]) (by simp [results, Tryz.results185, go_sem, a0, a1, a2, a3, hzl]; first | rfl | exact ⟨rfl, hl1⟩) rfl ?_
        refine ⟨?_, Y, _, rfl⟩
        exact (((((((HBz.out.setCell hle2 _).setCell hle2 _).setCell hle2 _).setCell hle2 _).setCell (Nat.le_refl _) _).setCell (Nat.le_refl _) _).setCell (Nat.le_refl _) _).setCell (Nat.le_refl _) _
      simp only [if_neg (fun h => hl1 (HB1.out.1 h))]
      have hne := str_nonempty l1 hl1
      go_enter Tryz.func185, Tryz.ntmps185
      go_wp2_with (first
        | (go_at_call 217; refine (HX.out _).mono ?_; rintro e w' ⟨rfl, rfl⟩)
        | (go_at_call 218; refine (HC.out _).mono ?_; rintro e w' ⟨rfl, rfl⟩)
        | (go_at_call 219; refine (HO.out _).mono ?_; rintro e w2 ⟨X, rfl, hX, hb⟩; have HXX := Lib.hid hX; have HBw := Lib.hid (((Below.refl _ w).alloc (Nat.le_refl _) _).trans (hb.mono (by simp))); obtain ⟨hz, hzl⟩ := zero_cells (X := fun _ => 0) hb; have HZ2 := Lib.hid hz; skip; clear hX hb hz))
      refine (so_otherA X _ _ HXX.out).mono ?_
      rintro e w3 ⟨Y, rfl, hY, hb3⟩
      have HY := Lib.hid hY
      have hsz2 : w2.heap.size < (w2.alloc (.cells (wsA X) 273)).heap.size := by simp
      have HZ3 : Hid (w3.heap[w.heap.size]? = some (.cells (wsA (fun _ => 0)) 273 (0, 0))) := Lib.hid ((hb3.block w.heap.size (Nat.lt_trans hzl hsz2)).trans ((Below.heap_alloc w2 _ w.heap.size hzl).trans HZ2.out))
      obtain ⟨hx3, hx3l⟩ := zero_cells (X := X) hb3
      have HX3 := Lib.hid hx3
      have HBz := Lib.hid ((HBw.out.alloc HBw.out.size (.cells (wsA X) 273)).trans (hb3.mono (Nat.le_trans HBw.out.size (Nat.le_of_lt hsz2))))
      obtain ⟨a0, a1, a2, a3⟩ := ws_cells HZ3.out
      have zz0 := Lib.frozen_of_heap HZ3.out 0
      have zz1 := Lib.frozen_of_heap HZ3.out 1
      have zz2 := Lib.frozen_of_heap HZ3.out 2
      have zz3 := Lib.frozen_of_heap HZ3.out 3
      obtain ⟨b0, b1, b2, b3⟩ := ws_cells HX3.out
      have yy0 := Lib.frozen_of_heap HX3.out 0
      have yy1 := Lib.frozen_of_heap HX3.out 1
      have yy2 := Lib.frozen_of_heap HX3.out 2
      have yy3 := Lib.frozen_of_heap HX3.out 3
      have ne1 : ¬ w.heap.size = w2.heap.size := Nat.ne_of_lt hzl
      have ne2 : ¬ w2.heap.size = w.heap.size := fun h => ne1 h.symm
      have hle2 := HBw.out.size
      clear hY hb3 hx3 hsz2
      go_wp2_with fail
      refine bodyPost_ret (v := .tuple #[clV Y, .int .i64 ((at_ + n + 1 : Nat) : Int), .bool true]) (by simp [results, Tryz.results185, go_sem, a0, a1, a2, a3, hzl]; first | rfl | exact ⟨rfl, hl1⟩) rfl ?_
      refine ⟨?_, Y, rfl, HY.out.ext (fun b => (HB2.out hl1 b).symm)⟩
      exact (((((((HBz.out.setCell hle2 _).setCell hle2 _).setCell hle2 _).setCell hle2 _).setCell (Nat.le_refl _) _).setCell (Nat.le_refl _) _).setCell (Nat.le_refl _) _).setCell (Nat.le_refl _) _
    have hpl := br_plain hc (fun l1 h => hhat ⟨l1, h⟩)
    obtain ⟨hb1, hb2⟩ := hpl
    obtain ⟨l0, hl0⟩ : ∃ l0, (s.data.toList.drop at_).take n = l0 := ⟨_, rfl⟩
    rw [hl0] at HC hb1 hb2 hhat
    have hnp : Lib.hasPrefix l0 [94] = false := by
      cases hq : Lib.hasPrefix l0 [94]
      · rfl
      exfalso
      rcases l0 with _ | ⟨c0, l0⟩
      · simp [Lib.hasPrefix] at hq
      refine hhat ⟨l0, ?_⟩
      rw [pre94 hq]
    rw [hnp, show Lib.trimPrefix l0 [94] = l0 by rw [Lib.trimPrefix, hnp]; rfl] at HC
    have HO := Lib.hid (fun W => so_ofA ⟨l0.toArray⟩ W (by have h1 := congrArg List.length hl0; rw [List.length_take, List.length_drop, len_toList] at h1; show l0.toArray.size ≤ 1048576; rw [List.size_toArray]; omega))
    have HB2 := Lib.hid hb2
    have HB1 := Lib.hid hb1
    have hnat : IntKind.i64.wrap ((at_ : Int) + (n : Int) + 1) = ((at_ + n + 1 : Nat) : Int) := by rw [IntKind.wrap_i64]; omega
    clear hb1 hb2 hl0 hc he hx0 hmx hnp hhat
    by_cases hl1 : l0 = []
    · simp only [if_pos (HB1.out.2 hl1)]
      subst hl1
      go_enter Tryz.func185, Tryz.ntmps185
      go_wp2_with (first
        | (go_at_call 217; refine (HX.out _).mono ?_; rintro e w' ⟨rfl, rfl⟩)
        | (go_at_call 218; refine (HC.out _).mono ?_; rintro e w' ⟨rfl, rfl⟩)
        | (go_at_call 219; refine (HO.out _).mono ?_; rintro e w2 ⟨X, rfl, hX, hb⟩; have HXX := Lib.hid hX; have HBw := Lib.hid (((Below.refl _ w).alloc (Nat.le_refl _) _).trans (hb.mono (by simp))); obtain ⟨hz, hzl⟩ := zero_cells (X := fun _ => 0) hb; have HZ2 := Lib.hid hz; obtain ⟨a0, a1, a2, a3⟩ := ws_cells HZ2.out; have zz0 := Lib.frozen_of_heap HZ2.out 0; have zz1 := Lib.frozen_of_heap HZ2.out 1; have zz2 := Lib.frozen_of_heap HZ2.out 2; have zz3 := Lib.frozen_of_heap HZ2.out 3; have ne1 : ¬ w.heap.size = w2.heap.size := Nat.ne_of_lt hzl; have ne2 : ¬ w2.heap.size = w.heap.size := fun h => ne1 h.symm; clear hX hb hz))
      refine bodyPost_ret (v := .tuple #[clV X, .int .i64 ((at_ + n + 1 : Nat) : Int), .bool false]) (by simp [results, Tryz.results185, go_sem, a0, a1, a2, a3, hzl]; first | rfl | exact ⟨rfl, hl1⟩) rfl ?_
      refine ⟨?_, X, _, rfl⟩
      exact ((((HBw.out.setCell (Nat.le_refl _) _).setCell (Nat.le_refl _) _).setCell (Nat.le_refl _) _).setCell (Nat.le_refl _) _).alloc (Nat.le_of_lt (by simp [World.setCell]; exact hzl)) _
    simp only [if_neg (fun h => hl1 (HB1.out.1 h))]
    have hne := str_nonempty l0 hl1
    go_enter Tryz.func185, Tryz.ntmps185
    go_wp2_with (first
      | (go_at_call 217; refine (HX.out _).mono ?_; rintro e w' ⟨rfl, rfl⟩)
      | (go_at_call 218; refine (HC.out _).mono ?_; rintro e w' ⟨rfl, rfl⟩)
      | (go_at_call 219; refine (HO.out _).mono ?_; rintro e w2 ⟨X, rfl, hX, hb⟩; have HXX := Lib.hid hX; have HBw := Lib.hid (((Below.refl _ w).alloc (Nat.le_refl _) _).trans (hb.mono (by simp))); obtain ⟨hz, hzl⟩ := zero_cells (X := fun _ => 0) hb; have HZ2 := Lib.hid hz; obtain ⟨a0, a1, a2, a3⟩ := ws_cells HZ2.out; have zz0 := Lib.frozen_of_heap HZ2.out 0; have zz1 := Lib.frozen_of_heap HZ2.out 1; have zz2 := Lib.frozen_of_heap HZ2.out 2; have zz3 := Lib.frozen_of_heap HZ2.out 3; have ne1 : ¬ w.heap.size = w2.heap.size := Nat.ne_of_lt hzl; have ne2 : ¬ w2.heap.size = w.heap.size := fun h => ne1 h.symm; clear hX hb hz))
    refine bodyPost_ret (v := .tuple #[clV X, .int .i64 ((at_ + n + 1 : Nat) : Int), .bool true]) (by simp [results, Tryz.results185, go_sem, a0, a1, a2, a3, hzl]; first | rfl | exact ⟨rfl, hl1⟩) rfl ?_
    refine ⟨?_, X, rfl, HXX.out.ext (fun b => (HB2.out hl1 b).symm)⟩
    exact ((((HBw.out.setCell (Nat.le_refl _) _).setCell (Nat.le_refl _) _).setCell (Nat.le_refl _) _).setCell (Nat.le_refl _) _).alloc (Nat.le_of_lt (by simp [World.setCell]; exact hzl)) _
end Go.Proofs.YtfkblpjfknfgbaaGreatDoor
namespace Go.Proofs.YtfkblpjfknfgbaaGreatDoor
open Go.RowKit
theorem items_fuel : ∀ (n : Nat) (l : List UInt8), l.length ≤ n → itemsGo n l = itemsGo l.length l
  | 0, l, h => by rw [List.eq_nil_of_length_eq_zero (Nat.le_zero.1 h)]; rfl
  | n + 1, [], _ => by simp [itemsGo]
  | n + 1, b :: l, h => by
    have hl : l.length ≤ n := by simpa using h
    rw [List.length_cons, itemsGo, itemsGo, items_fuel n l hl]
    by_cases hb : b.toNat = 91
    · rw [if_pos hb, if_pos hb]
      cases List.findIdx? (fun c => c.toNat == 93) l with
      | none => rfl
      | some k =>
        dsimp only
        rw [items_fuel n (l.drop (k + 1)) (by rw [List.length_drop]; omega), items_fuel l.length (l.drop (k + 1)) (by rw [List.length_drop]; omega)]
    · rw [if_neg hb, if_neg hb]
def itemsF (l : List UInt8) : Except Int (List (List UInt8)) := itemsGo l.length l
def aheadI (ts : List (List UInt8)) : Except Int (List (List UInt8)) → Except Int (List (List UInt8))
  | .error c => .error c
  | .ok us => .ok (ts ++ us)
theorem itemsF_nil : itemsF [] = .ok [] := rfl
theorem itemsF_none (b : UInt8) (l : List UInt8) (hb : b.toNat = 91) (hc : close? l = none) : itemsF (b :: l) = .error 41 := by
  unfold close? at hc
  rw [itemsF, List.length_cons, itemsGo, if_pos hb, hc]
theorem itemsF_bad (b : UInt8) (l : List UInt8) (n : Nat) (hb : b.toNat = 91) (hc : close? l = some n) (h : badItem l n) : itemsF (b :: l) = .error 41 := by
  unfold close? at hc
  unfold badItem at h
  rw [itemsF, List.length_cons, itemsGo, if_pos hb, hc]
  dsimp only
  rw [if_pos h]
theorem itemsF_item (b : UInt8) (l : List UInt8) (n : Nat) (hb : b.toNat = 91) (hc : close? l = some n) (h : ¬ badItem l n) : itemsF (b :: l) = aheadI [b :: l.take (n + 1)] (itemsF (l.drop (n + 1))) := by
  unfold close? at hc
  unfold badItem at h
  rw [itemsF, List.length_cons, itemsGo, if_pos hb, hc]
  dsimp only
  rw [if_neg h, items_fuel l.length (l.drop (n + 1)) (by rw [List.length_drop]; omega)]
  unfold itemsF aheadI
  cases itemsGo (l.drop (n + 1)).length (l.drop (n + 1)) <;> rfl
theorem itemsF_one (b : UInt8) (l : List UInt8) (hb : b.toNat ≠ 91) : itemsF (b :: l) = aheadI [[b]] (itemsF l) := by
  rw [itemsF, List.length_cons, itemsGo, if_neg hb]
  unfold itemsF aheadI
  cases itemsGo l.length l <;> rfl
theorem aheadI_app (ts : List (List UInt8)) (t : List UInt8) (r : Except Int (List (List UInt8))) : aheadI ts (aheadI [t] r) = aheadI (ts ++ [t]) r := by
  cases r <;> simp [aheadI]
def CSt (l : List UInt8) (k : Nat) (ts : List (List UInt8)) : Prop := aheadI ts (itemsF (l.drop k)) = itemsF l ∧ ts.length ≤ k
def PatW (Xs : List Ws) (ts : List (List UInt8)) : Prop := Xs.length = ts.length ∧ ∀ (j : Nat) X t, Xs[j]? = some X → ts[j]? = some t → HasP X (admB t)
theorem PatW.snoc {Xs : List Ws} {ts : List (List UInt8)} {X : Ws} {t : List UInt8} (h : PatW Xs ts) (hx : HasP X (admB t)) : PatW (Xs ++ [X]) (ts ++ [t]) := by
  refine ⟨by simp [h.1], fun j Y u hY hu => ?_⟩
  by_cases hj : j < Xs.length
  · rw [List.getElem?_append_left hj] at hY
    rw [List.getElem?_append_left (by rw [← h.1]; exact hj)] at hu
    exact h.2 j Y u hY hu
  rw [List.getElem?_append_right (by omega)] at hY
  rw [List.getElem?_append_right (by rw [← h.1]; omega)] at hu
  rw [← h.1] at hu
  rcases hd : j - Xs.length with _ | d
  · rw [hd] at hY hu; simp at hY hu; subst hY hu; exact hx
  rw [hd] at hY; simp at hY
def wsCells (Xs : List Ws) : List Value := Xs.flatMap fun X => [.int .u64 (X 0 : Nat), .int .u64 (X 1 : Nat), .int .u64 (X 2 : Nat), .int .u64 (X 3 : Nat)]
theorem wsCells_snoc (Xs : List Ws) (X : Ws) : wsCells Xs ++ [Value.int .u64 (X 0 : Nat), .int .u64 (X 1 : Nat), .int .u64 (X 2 : Nat), .int .u64 (X 3 : Nat)] = wsCells (Xs ++ [X]) := by simp [wsCells]
theorem adm_one (c : UInt8) (hc : c.toNat ≠ 46) (b : UInt8) : (false || c == b) = admB [c] b := by
  have : (c.toNat == 46) = false := by rw [beq_eq_false_iff_ne]; exact hc
  simp [admB, this]
theorem adm_dot (c : UInt8) (hc : c.toNat = 46) (b : UInt8) : (!false) = admB [c] b := by simp [admB, hc]
def CondP (l : List UInt8) (w : World) (e : Ending) (w' : World) : Prop :=
  Below w.heap.size w w' ∧ match condR l with
    | .error c => e = .returned (.tuple #[.agg #[.slice none 0 0], .int .i64 c])
    | .ok ts => ∃ v n Xs, e = .returned (.tuple #[.agg #[v], .int .i64 0]) ∧ n = ts.length ∧ PatW Xs ts ∧ w'.ownsRow w.heap.size 273 4 v n (wsCells Xs)
theorem class_info : (Tryz.prog.info? 273).map (fun i => (i.zero, i.size, i.bytes)) = some (some (.agg #[.int .u64 0, .int .u64 0, .int .u64 0, .int .u64 0]), 4, 32) := by kernel_rfl
structure CMem (w wr : World) (v : Value) (Xs : List Ws) : Prop where
  below : Below w.heap.size w wr
  ans : wr.heap[w.heap.size]? = some (.cells #[.slice none 0 0] 246 (0, 0))
  pat : wr.heap[w.heap.size + 1]? = some (.cells #[v] 246 (0, 0))
  row : wr.ownsRow w.heap.size 273 4 v Xs.length (wsCells Xs)
theorem CMem.later {w wr w' : World} {v : Value} {Xs : List Ws} (h : CMem w wr v Xs) (hb : Below wr.heap.size wr w') : CMem w w' v Xs :=
  ⟨h.below.trans (hb.mono h.below.size), (hb.block _ (block_lt h.ans)).trans h.ans, (hb.block _ (block_lt h.pat)).trans h.pat, own_below h.row hb⟩
theorem CMem.push {w wr w1 : World} {v v' : Value} {Xs : List Ws} {X : Ws} (h : CMem w wr v Xs) (hown : w1.ownsRow w.heap.size 273 4 v' (Xs.length + 1) (wsCells Xs ++ [.int .u64 (X 0 : Nat), .int .u64 (X 1 : Nat), .int .u64 (X 2 : Nat), .int .u64 (X 3 : Nat)])) (hg : wr.grownBy w1 v.ownBlock) :
    CMem w (w1.setCell ⟨w.heap.size + 1, 0, none⟩ v') v' (Xs ++ [X]) := by
  have hne : ∀ b cur fr, wr.heap[b]? = some (.cells cur 246 fr) → some b ≠ v.ownBlock := by
    intro b cur fr hb e
    rcases h.row.2 with ⟨rfl, _⟩ | ⟨g, cap, c2, rfl, _, hgb, _⟩
    · simp [Value.ownBlock] at e
    have : b = g := by simpa [Value.ownBlock] using e
    subst this
    rw [hb] at hgb; cases hgb
  have h1 := (hg.block _ (block_lt h.ans) (hne _ _ _ h.ans)).trans h.ans
  have h2 := (hg.block _ (block_lt h.pat) (hne _ _ _ h.pat)).trans h.pat
  have hv : ∀ g, v'.ownBlock = some g → g ≠ w.heap.size + 1 := by
    intro g hgv e
    subst e
    rcases hown.2 with ⟨rfl, _⟩ | ⟨g', cap, c2, rfl, _, hgb, _⟩
    · simp [Value.ownBlock] at hgv
    have : g' = w.heap.size + 1 := by simpa [Value.ownBlock] using hgv
    subst this
    rw [h2] at hgb; cases hgb
  refine ⟨(h.below.grown hg h.below.size (fun k hk => (h.row.lt k hk).1)).setCell (by simp) _, ?_, ?_, ?_⟩
  · rw [Go.heap_setCell_other _ ⟨w.heap.size + 1, 0, none⟩ w.heap.size _ (by simp)]; exact h1
  · exact heap_setCell_same w1 _ 0 #[v] _ v' h2
  have := ((Kept.refl [w.heap.size + 1] w1).set (w.heap.size + 1) 0 v' (.inl (by simp))).own hown (fun g hgv => by simpa using hv g hgv)
  rw [wsCells_snoc] at this
  simpa using this
theorem wpList_push_at {P : Program} {ops : Array Oper} {rest : List Oper} {o : Oper} {a : Act} {Q : Exit → Act → World → Prop} {w : World} (hgd : o.guard = none) (s x : Operand) (t : TypeId)
    (ho : o.op = .call { callee := .builtin .append, args := #[s, x], argTypes := #[t, t] })
    (base : Nat) (e : TypeId) (i : TypeInfo) (z : Value) (size bytes : Nat) (ht : P.underlying t = some (.slice e)) (hi : P.info? e = some i) (hz : i.zero = some z)
    (hsize : i.size = size) (hby : i.bytes = bytes) (hzs : z.cells.size = size) (hsz : 0 < size)
    (v : Value) (n : Nat) (xs : List Value) (hs : a.eval s = v) (hown : w.ownsRow base e size v n xs)
    (us : Array Value) (hus : us.size = size) (h1 : ∀ u ∈ us.toList, u.oneCell' = true) (b : Nat) (hx : a.eval x = .slice (some ⟨b, 0, none⟩) 1 1) (hb : b = w.heap.size)
    (h63 : n + 1 ≤ maxLen) (hbytes : (n + 1) * bytes ≤ 140737488355328) (hbase : base ≤ w.heap.size)
    (h : ∀ g cap w', w'.ownsRow base e size (.slice (some ⟨g, 0, none⟩) (n + 1) cap) (n + 1) (xs ++ us.toList) → w.grownBy w' v.ownBlock →
      wpList P ops Q rest (a.put o.dst (.slice (some ⟨g, 0, none⟩) (n + 1) cap)) w') : wpList P ops Q (o :: rest) a (w.alloc (.cells us e)) := by
  subst hb
  exact wpList_push hgd s x t ho base e i z size bytes ht hi hz hsize hby hzs hsz v n xs hs hown us hus h1 hx h63 hbytes hbase h
theorem own_sl {w : World} {B e size n : Nat} {v : Value} {xs : List Value} (h : w.ownsRow B e size v n xs) : ∃ A cap, v = .slice A n cap := by
  rcases h.2 with ⟨rfl, rfl⟩ | ⟨g, cap, cur, rfl, _⟩
  · exact ⟨_, _, rfl⟩
  exact ⟨_, _, rfl⟩
theorem CMem.overNew {w wr w2 : World} {v : Value} {Xs : List Ws} {o : Obj} (h : CMem w wr v Xs) (hk : Kept [wr.heap.size] (wr.alloc o) w2) : CMem w w2 v Xs := by
  have ha := h.later ((Below.refl _ wr).alloc (Nat.le_refl _) o)
  have hw : w.heap.size ≤ wr.heap.size := h.below.size
  refine ⟨ha.below.trans (hk.below (by simp; omega) (fun x hx => by simp at hx; omega)), hk.at ha.ans (by simp; exact Nat.ne_of_lt (block_lt h.ans)), hk.at ha.pat (by simp; exact Nat.ne_of_lt (block_lt h.pat)), hk.own ha.row (fun g hg hm => ?_)⟩
  simp at hm
  subst hm
  have := (h.row.lt _ hg).2
  omega
theorem CMem.ans_cell {w wr : World} {v : Value} {Xs : List Ws} (h : CMem w wr v Xs) : wr.cell? ⟨w.heap.size, 0, none⟩ = some (.slice none 0 0) ∧ wr.frozen? ⟨w.heap.size, 0, none⟩ = false := ⟨by rw [Lib.cell_of_heap h.ans]; rfl, Lib.frozen_of_heap h.ans 0⟩
theorem CMem.row_ans {w wr : World} {v : Value} {Xs : List Ws} (h : CMem w wr v Xs) (u : Value) : (wr.setCell ⟨w.heap.size, 0, none⟩ u).ownsRow w.heap.size 273 4 v Xs.length (wsCells Xs) := by
  refine ((Kept.refl [w.heap.size] wr).set w.heap.size 0 u (.inl (by simp))).own h.row (fun g hg hm => ?_)
  simp at hm
  subst hm
  rcases h.row.2 with ⟨rfl, _⟩ | ⟨g', cap, c2, rfl, _, hgb, _⟩
  · simp [Value.ownBlock] at hg
  have : g' = w.heap.size := by simpa [Value.ownBlock] using hg
  subst this
  have := h.ans; rw [hgb] at this; cases this
theorem CMem.pat_cell {w wr : World} {v : Value} {Xs : List Ws} (h : CMem w wr v Xs) : wr.cell? ⟨w.heap.size + 1, 0, none⟩ = some v := by rw [Lib.cell_of_heap h.pat]; rfl
end Go.Proofs.YtfkblpjfknfgbaaGreatDoor
namespace Go.Proofs.YtfkblpjfknfgbaaGreatDoor
open Go.RowKit
theorem CMem.pat_grown {w wr w1 : World} {v : Value} {Xs : List Ws} (h : CMem w wr v Xs) (hg : wr.grownBy w1 v.ownBlock) : w1.cell? ⟨w.heap.size + 1, 0, none⟩ = some v ∧ w1.frozen? ⟨w.heap.size + 1, 0, none⟩ = false := by
  have h2 : w1.heap[w.heap.size + 1]? = some (.cells #[v] 246 (0, 0)) := (hg.block _ (block_lt h.pat) (fun e => by
    rcases h.row.2 with ⟨rfl, _⟩ | ⟨g, cap, c2, rfl, _, hgb, _⟩
    · simp [Value.ownBlock] at e
    have : w.heap.size + 1 = g := by simpa [Value.ownBlock] using e
    subst this
    have := h.pat; rw [hgb] at this; cases this)).trans h.pat
  exact ⟨by rw [Lib.cell_of_heap h2]; rfl, Lib.frozen_of_heap h2 0⟩
theorem condR_eq (s : ByteArray) (h0 : s.size ≠ 0) (h1 : s.size ≤ 512) (h2 : s.data.toList ≠ [46]) : condR s.data.toList = match itemsF s.data.toList with | .error c => .error c | .ok ts => if 16 < ts.length then .error 42 else .ok ts := by
  have hl := len_toList s
  unfold condR
  rw [if_neg (by omega), if_neg h2]
  rfl
set_option maxHeartbeats 8000000 in
set_option maxRecDepth 100000 in
theorem so_condRead (s : ByteArray) (w : World) :
    Calls Tryz.prog 152 #[.string s] w (CondP s.data.toList w) := by
  obtain ⟨i0, hi, hz0, hz1, hz2⟩ := info_parts class_info
  by_cases h0 : s.size = 0
  · have hse : s = ⟨#[]⟩ := by apply ByteArray.ext; exact Array.eq_empty_of_size_eq_zero h0
    subst hse
    go_enter Tryz.func152, Tryz.ntmps152
    go_wp2_with fail
    refine bodyPost_ret (v := .tuple #[.agg #[.slice none 0 0], .int .i64 40]) (by simp [results, Tryz.results152, go_sem]; try rfl) rfl ?_
    exact ⟨((Below.refl _ _).alloc (Nat.le_refl _) _), rfl⟩
  have hne := notEmpty s (by omega)
  by_cases h1 : s.size ≤ 512
  · have hgt : decide ((512 : Int) < (s.size : Int)) = false := by rw [decide_eq_false_iff_not]; omega
    by_cases h2 : s.data.toList = [46]
    · have hse : s = ⟨#[46]⟩ := by
        obtain ⟨⟨l⟩⟩ := s
        have : l = [46] := h2
        rw [this]
      subst hse
      go_enter Tryz.func152, Tryz.ntmps152
      go_wp2_with fail
      refine bodyPost_ret (v := .tuple #[.agg #[.slice none 0 0], .int .i64 0]) (by simp [results, Tryz.results152, go_sem]; try rfl) rfl ?_
      exact ⟨((Below.refl _ _).alloc (Nat.le_refl _) _), _, 0, [], rfl, rfl, ⟨rfl, fun j X t hX => by simp at hX⟩, World.ownsRow_nil _ _ _ _⟩
    have hnd : (s.toList == [46]) = false := by rw [beq_eq_false_iff_ne, Lib.toList_data]; exact h2
    have HCR := Lib.hid (condR_eq s h0 h1 h2)
    clear h2
    go_enter Tryz.func152, Tryz.ntmps152
    go_wp2_with fail
    go_loopw [5] (fun x wr => ∃ (k : Nat) (ts : List (List UInt8)) (Xs : List Ws) (v : Value), k ≤ s.size ∧ x = .int .i64 k ∧ Hid (CSt s.data.toList k ts) ∧ Hid (PatW Xs ts) ∧ Hid (CMem w wr v Xs)) (fun x _ => s.size - (intOf x).toNat)
    case atStart =>
      refine ⟨0, [], [], .slice none 0 0, Nat.zero_le _, rfl, ⟨by simp [aheadI]; cases itemsF s.data.toList <;> rfl, Nat.le_refl _⟩, ⟨rfl, fun j X t hX => by simp at hX⟩, ⟨((Below.refl _ _).alloc (Nat.le_refl _) _).alloc (by simp) _, ?_, ?_, World.ownsRow_nil _ _ _ _⟩⟩
      · exact (Below.heap_alloc _ _ w.heap.size (by simp)).trans (heap_alloc_new w _)
      have := heap_alloc_new (w.alloc (.cells #[.slice none 0 0] 246)) (.cells #[.slice none 0 0] 246)
      rw [World.size_alloc] at this
      exact this
    case round =>
    obtain ⟨k, ts, Xs, v, hk, rfl, HS, HP, HC⟩ := hrel
    obtain ⟨VA, vc, rfl⟩ := own_sl HC.out.row
    by_cases hlt : k < s.size
    · have hdr := drop_cons s k hlt
      by_cases hb : s[k].toNat = 91
      · have e1 : ((s[k].toNat : Int) == 91) = true := by rw [hb]; rfl
        have hb91 : s[k] = 91 := by rw [← UInt8.toNat_inj]; exact hb
        have HBr : Hid (∀ W, Calls Tryz.prog 185 #[.string s, .int .i64 ((k : Int) + 1)] W (BrP (s.data.toList.drop (k + 1)) (k + 1) W)) := Lib.hid (fun W => so_bracket s (k + 1) W (by omega) (by omega))
        have HLx : Hid (Xs.length ≤ k) := Lib.hid (by have h3 := HS.out.2; have h4 := HP.out.1; omega)
        have HA0 := Lib.hid (show aheadI ts (itemsF (s[k] :: s.data.toList.drop (k + 1))) = itemsF s.data.toList by rw [← hdr]; exact HS.out.1)
        clear hdr
        unfold BrP at HBr
        have hpn : w.heap.size + 1 < wr.heap.size := block_lt HC.out.pat
        have ne1 : ¬ wr.heap.size = w.heap.size + 1 := by omega
        have ne2 : ¬ w.heap.size + 1 = wr.heap.size := by omega
        have ne3 : ¬ wr.heap.size = w.heap.size := by omega
        have ne4 : ¬ w.heap.size = wr.heap.size := by omega
        cases hc : close? (s.data.toList.drop (k + 1)) with
        | none =>
          have HRe : Hid (condR s.data.toList = .error 41) := Lib.hid (by rw [HCR.out, ← HA0.out, itemsF_none _ _ hb hc]; rfl)
          simp only [hc] at HBr
          clear hc hb hb91
          go_wp2_with (first
            | (go_at_call 185; refine (HBr.out _).mono ?_; rintro e w2 ⟨hb2, Y, i', rfl⟩; have HCx := Lib.hid (HC.out.overNew (((((Kept.of_below hb2).set wr.heap.size 0 (.int .u64 (Y 0 : Nat)) (.inl (by simp))).set wr.heap.size 1 (.int .u64 (Y 1 : Nat)) (.inl (by simp))).set wr.heap.size 2 (.int .u64 (Y 2 : Nat)) (.inl (by simp))).set wr.heap.size 3 (.int .u64 (Y 3 : Nat)) (.inl (by simp)))); obtain ⟨hz2, -⟩ := zero_cells (X := fun _ => 0) hb2; obtain ⟨a0, a1, a2, a3⟩ := ws_cells hz2; have zz0 := Lib.frozen_of_heap hz2 0; have zz1 := Lib.frozen_of_heap hz2 1; have zz2 := Lib.frozen_of_heap hz2 2; have zz3 := Lib.frozen_of_heap hz2 3; have q0 := (HC.out.overNew (Kept.of_below hb2)).ans_cell.1; have qz := (HC.out.overNew (Kept.of_below hb2)).ans_cell.2; clear hb2 hz2))
          refine bodyPost_ret (v := .tuple #[.agg #[.slice none 0 0], .int .i64 41]) (by simp [results, Tryz.results152, go_sem, q0, ne1, ne2, ne3, ne4]) rfl ?_
          rw [CondP, HRe.out]
          exact ⟨HCx.out.below.setCell (Nat.le_refl _) _, rfl⟩
        | some n =>
          simp only [hc] at HBr
          by_cases hbi : badItem (s.data.toList.drop (k + 1)) n
          · have HRe : Hid (condR s.data.toList = .error 41) := Lib.hid (by rw [HCR.out, ← HA0.out, itemsF_bad _ _ n hb hc hbi]; rfl)
            simp only [if_pos hbi] at HBr
            clear hc hb hb91 hbi
            go_wp2_with (first
              | (go_at_call 185; refine (HBr.out _).mono ?_; rintro e w2 ⟨hb2, Y, i', rfl⟩; have HCx := Lib.hid (HC.out.overNew (((((Kept.of_below hb2).set wr.heap.size 0 (.int .u64 (Y 0 : Nat)) (.inl (by simp))).set wr.heap.size 1 (.int .u64 (Y 1 : Nat)) (.inl (by simp))).set wr.heap.size 2 (.int .u64 (Y 2 : Nat)) (.inl (by simp))).set wr.heap.size 3 (.int .u64 (Y 3 : Nat)) (.inl (by simp)))); obtain ⟨hz2, -⟩ := zero_cells (X := fun _ => 0) hb2; obtain ⟨a0, a1, a2, a3⟩ := ws_cells hz2; have zz0 := Lib.frozen_of_heap hz2 0; have zz1 := Lib.frozen_of_heap hz2 1; have zz2 := Lib.frozen_of_heap hz2 2; have zz3 := Lib.frozen_of_heap hz2 3; have q0 := (HC.out.overNew (Kept.of_below hb2)).ans_cell.1; have qz := (HC.out.overNew (Kept.of_below hb2)).ans_cell.2; clear hb2 hz2))
            refine bodyPost_ret (v := .tuple #[.agg #[.slice none 0 0], .int .i64 41]) (by simp [results, Tryz.results152, go_sem, q0, ne1, ne2, ne3, ne4]) rfl ?_
            rw [CondP, HRe.out]
            exact ⟨HCx.out.below.setCell (Nat.le_refl _) _, rfl⟩
          have hlt2 := close_lt hc
          rw [List.length_drop, len_toList] at hlt2
          have HS2 : Hid (CSt s.data.toList (k + 1 + n + 1) (ts ++ [s[k] :: (s.data.toList.drop (k + 1)).take (n + 1)])) := Lib.hid ⟨by
            have h3 := HA0.out
            rw [itemsF_item _ _ n hb hc hbi, aheadI_app, List.drop_drop] at h3
            exact h3, by have := HS.out.2; simp; omega⟩
          simp only [if_neg hbi] at HBr
          rw [hb91] at HS2
          clear hc hb hb91 hbi
          go_wp2_with (first
            | (go_at_call 185; refine (HBr.out _).mono ?_; rintro e w2 ⟨hb2, Y, rfl, hY⟩; have HY := Lib.hid hY; have HCx := Lib.hid (HC.out.overNew (((((Kept.of_below hb2).set wr.heap.size 0 (.int .u64 (Y 0 : Nat)) (.inl (by simp))).set wr.heap.size 1 (.int .u64 (Y 1 : Nat)) (.inl (by simp))).set wr.heap.size 2 (.int .u64 (Y 2 : Nat)) (.inl (by simp))).set wr.heap.size 3 (.int .u64 (Y 3 : Nat)) (.inl (by simp)))); obtain ⟨hz2, -⟩ := zero_cells (X := fun _ => 0) hb2; obtain ⟨a0, a1, a2, a3⟩ := ws_cells hz2; have zz0 := Lib.frozen_of_heap hz2 0; have zz1 := Lib.frozen_of_heap hz2 1; have zz2 := Lib.frozen_of_heap hz2 2; have zz3 := Lib.frozen_of_heap hz2 3; have p0 := (HC.out.overNew (Kept.of_below hb2)).pat_cell; clear hb2 hY hz2)
            | (at_builtin; refine wpList_push_at rfl _ _ 244 rfl w.heap.size 273 i0 (.agg #[.int .u64 0, .int .u64 0, .int .u64 0, .int .u64 0]) 4 32 Tryz.underlying244 hi hz0 hz1 hz2 rfl (by decide) (.slice VA Xs.length vc) Xs.length (wsCells Xs) rfl HCx.out.row #[.int .u64 (Y 0 : Nat), .int .u64 (Y 1 : Nat), .int .u64 (Y 2 : Nat), .int .u64 (Y 3 : Nat)] rfl (by intro x hx; simp at hx; rcases hx with rfl | rfl | rfl | rfl <;> rfl) _ rfl (by simp [World.setCell]) (by have := HLx.out; unfold maxLen; omega) (by have := HLx.out; omega) HCx.out.below.size ?_; intro g' cap' w9 hown hg; have HCy := Lib.hid (HCx.out.push hown hg); have hpat9 := HCx.out.pat_grown hg; have c9 := hpat9.1; have z9 := hpat9.2; clear hown hg hpat9))
          go_roundw
          case rel => exact ⟨k + 1 + n + 1, _, _, _, by omega, by go_num, HS2, Lib.hid (HP.out.snoc HY.out), HCy⟩
          case measure => simp [intOf]; omega
      have e1 : ((s[k].toNat : Int) == 91) = false := by rw [beq_eq_false_iff_ne]; omega
      have HS2 : Hid (CSt s.data.toList (k + 1) (ts ++ [[s[k]]])) := Lib.hid ⟨by rw [← HS.out.1, hdr, itemsF_one _ _ hb, aheadI_app], by have := HS.out.2; simp; omega⟩
      clear hdr hb
      by_cases hd : s[k].toNat = 46
      · have e2 : ((s[k].toNat : Int) == 46) = true := by rw [hd]; rfl
        have HQ := Lib.hid (adm_dot s[k] hd)
        clear hd
        have HLx : Hid (Xs.length ≤ k) := Lib.hid (by have h3 := HS.out.2; have h4 := HP.out.1; omega)
        have hpn : w.heap.size + 1 < wr.heap.size := block_lt HC.out.pat
        have ne1 : ¬ wr.heap.size = w.heap.size + 1 := by omega
        have ne2 : ¬ w.heap.size + 1 = wr.heap.size := by omega
        have HOt : Hid (∀ W, Calls Tryz.prog 186 #[.agg #[.int .u64 0, .int .u64 0, .int .u64 0, .int .u64 0]] W fun e w' => ∃ Y : Ws, e = .returned (.agg #[.int .u64 (Y 0 : Nat), .int .u64 (Y 1 : Nat), .int .u64 (Y 2 : Nat), .int .u64 (Y 3 : Nat)]) ∧ HasP Y (fun b => !false) ∧ Below W.heap.size W w') := Lib.hid (fun W => so_otherA (fun _ => 0) (fun _ => false) W HasP.none)
        go_wp2_with (first
          | (go_at_call 186; refine (HOt.out _).mono ?_; rintro e w2 ⟨Y, rfl, hY, hb2⟩; have HY := Lib.hid (hY.ext HQ.out); have HCx := Lib.hid (HC.out.overNew (((((Kept.of_below hb2).set wr.heap.size 0 (.int .u64 (Y 0 : Nat)) (.inl (by simp))).set wr.heap.size 1 (.int .u64 (Y 1 : Nat)) (.inl (by simp))).set wr.heap.size 2 (.int .u64 (Y 2 : Nat)) (.inl (by simp))).set wr.heap.size 3 (.int .u64 (Y 3 : Nat)) (.inl (by simp)))); obtain ⟨hz2, -⟩ := zero_cells (X := fun _ => 0) hb2; obtain ⟨a0, a1, a2, a3⟩ := ws_cells hz2; have zz0 := Lib.frozen_of_heap hz2 0; have zz1 := Lib.frozen_of_heap hz2 1; have zz2 := Lib.frozen_of_heap hz2 2; have zz3 := Lib.frozen_of_heap hz2 3; have p0 := (HC.out.overNew (Kept.of_below hb2)).pat_cell; clear hb2 hY hz2)
          | (at_builtin; refine wpList_push_at rfl _ _ 244 rfl w.heap.size 273 i0 (.agg #[.int .u64 0, .int .u64 0, .int .u64 0, .int .u64 0]) 4 32 Tryz.underlying244 hi hz0 hz1 hz2 rfl (by decide) (.slice VA Xs.length vc) Xs.length (wsCells Xs) rfl HCx.out.row #[.int .u64 (Y 0 : Nat), .int .u64 (Y 1 : Nat), .int .u64 (Y 2 : Nat), .int .u64 (Y 3 : Nat)] rfl (by intro x hx; simp at hx; rcases hx with rfl | rfl | rfl | rfl <;> rfl) _ rfl (by simp [World.setCell]) (by have := HLx.out; unfold maxLen; omega) (by have := HLx.out; omega) HCx.out.below.size ?_; intro g' cap' w9 hown hg; have HCy := Lib.hid (HCx.out.push hown hg); have hpat9 := HCx.out.pat_grown hg; have c9 := hpat9.1; have z9 := hpat9.2; clear hown hg hpat9))
        go_roundw
        case rel => exact ⟨k + 1, _, _, _, by omega, by go_num, HS2, Lib.hid (HP.out.snoc HY.out), HCy⟩
        case measure => simp [intOf]; omega
      have e2 : ((s[k].toNat : Int) == 46) = false := by rw [beq_eq_false_iff_ne]; omega
      have HQ := Lib.hid (adm_one s[k] hd)
      clear hd
      have HLx : Hid (Xs.length ≤ k) := Lib.hid (by have h3 := HS.out.2; have h4 := HP.out.1; omega)
      have HPut := Lib.hid (so_put (fun _ => 0) wr.heap.size s[k] (wr.alloc (.cells (wsA (fun _ => 0)) 273)) (by decide) (heap_alloc_new wr _))
      go_wp2_with (first
        | (go_at_call 187; refine HPut.out.mono ?_; rintro e w2 ⟨rfl, h1, h2⟩; obtain ⟨Y, hY⟩ : ∃ Y, put4 (fun _ => 0) s[k].toNat = Y := ⟨_, rfl⟩; have HY : Hid (HasP Y (admB [s[k]])) := Lib.hid (by rw [← hY]; exact (HasP.none.put s[k]).ext HQ.out); rw [hY] at h1; have HCx := Lib.hid (HC.out.overNew h2); obtain ⟨b0, b1, b2, b3⟩ := ws_cells h1; have p0 := HCx.out.pat_cell; clear h1 h2 hY)
        | (at_builtin; refine wpList_push_at rfl _ _ 244 rfl w.heap.size 273 i0 (.agg #[.int .u64 0, .int .u64 0, .int .u64 0, .int .u64 0]) 4 32 Tryz.underlying244 hi hz0 hz1 hz2 rfl (by decide) (.slice VA Xs.length vc) Xs.length (wsCells Xs) rfl HCx.out.row #[.int .u64 (Y 0 : Nat), .int .u64 (Y 1 : Nat), .int .u64 (Y 2 : Nat), .int .u64 (Y 3 : Nat)] rfl (by intro x hx; simp at hx; rcases hx with rfl | rfl | rfl | rfl <;> rfl) _ rfl (by simp [World.setCell]) (by have := HLx.out; unfold maxLen; omega) (by have := HLx.out; omega) HCx.out.below.size ?_; intro g' cap' w9 hown hg; have HCy := Lib.hid (HCx.out.push hown hg); have hpat9 := HCx.out.pat_grown hg; have c9 := hpat9.1; have z9 := hpat9.2; clear hown hg hpat9))
      go_roundw
      case rel => exact ⟨k + 1, _, _, _, by omega, by go_num, HS2, Lib.hid (HP.out.snoc HY.out), HCy⟩
      case measure => simp [intOf]; omega
    obtain rfl : k = s.size := by omega
    have hit : itemsF s.data.toList = .ok ts := by rw [← HS.out.1, drop_all, itemsF_nil]; simp [aheadI]
    have hcr := HCR.out
    rw [hit] at hcr
    dsimp only at hcr
    have hxl := HP.out.1
    have p0 := HC.out.pat_cell
    obtain ⟨q0, qz⟩ := HC.out.ans_cell
    have ne1 : ¬ w.heap.size = w.heap.size + 1 := by omega
    by_cases h16 : 16 < ts.length
    · rw [if_pos h16] at hcr
      have HRe := Lib.hid hcr
      have hgt16 : decide ((16 : Int) < (Xs.length : Int)) = true := by rw [decide_eq_true_iff]; omega
      clear hcr hit hxl h16
      go_wp2_with fail
      refine bodyPost_ret (v := .tuple #[.agg #[.slice none 0 0], .int .i64 42]) (by simp [results, Tryz.results152, go_sem, q0]) rfl ?_
      rw [CondP, HRe.out]
      exact ⟨HC.out.below.setCell (Nat.le_refl _) _, rfl⟩
    rw [if_neg h16] at hcr
    have HRe := Lib.hid hcr
    have HXl := Lib.hid hxl
    have hgt16 : decide ((16 : Int) < (Xs.length : Int)) = false := by rw [decide_eq_false_iff_not]; omega
    clear hcr hit hxl h16
    go_wp2_with fail
    refine bodyPost_ret (v := .tuple #[.agg #[.slice VA Xs.length vc], .int .i64 0]) (by simp [results, Tryz.results152, go_sem, q0]) rfl ?_
    rw [CondP, HRe.out]
    exact ⟨HC.out.below.setCell (Nat.le_refl _) _, _, Xs.length, Xs, rfl, HXl.out, HP.out, HC.out.row_ans _⟩
  have hgt : decide ((512 : Int) < (s.size : Int)) = true := by rw [decide_eq_true_iff]; omega
  have HR : Hid (condR s.data.toList = .error 40) := Lib.hid (by unfold condR; rw [if_pos (.inr (by rw [len_toList]; omega))])
  go_enter Tryz.func152, Tryz.ntmps152
  go_wp2_with fail
  refine bodyPost_ret (v := .tuple #[.agg #[.slice none 0 0], .int .i64 40]) (by simp [results, Tryz.results152, go_sem]; try rfl) rfl ?_
  unfold CondP
  rw [HR.out]
  exact ⟨((Below.refl _ _).alloc (Nat.le_refl _) _), rfl⟩
end Go.Proofs.YtfkblpjfknfgbaaGreatDoor
namespace Go.Proofs.YtfkblpjfknfgbaaGreatDoor
open Go.RowKit
theorem set_kept1 (w : World) (b j : Nat) (x : Value) : Kept [b] w (w.setCell ⟨b, j, none⟩ x) := (Kept.refl [b] w).set b j x (.inl (by simp))
theorem step_run_append {P : Program} {w w' : World} {ops : Array Oper} {o : Oper} {a : Act} {K : Act → World → Prop} {Q : Exit → Act → World → Prop} {E : Prop} (hgd : o.guard = none) (s x : Operand) (t : TypeId)
    (ho : o.op = .call { callee := .builtin .append, args := #[s, x], argTypes := #[t, t] }) (v u r : Value) (hs : a.eval s = v) (hx : a.eval x = u)
    (hrun : (Builtin.append_ #[t, t] o.type #[v, u]).run P w = .ok r w') (h : K (a.put o.dst r) w') :
    if Region.wanted o (yielded ops a.tmps) = true then Oper.wp P o a w K Q else E := by
  have hw : Region.wanted o (yielded ops a.tmps) = true := by simp [Region.wanted, hgd]
  rw [if_pos hw]
  unfold Oper.wp execOp
  simp only [ho, resolve, invoke, builtin, Sem.run_bind, Sem.run_pure, Result.andThen_ok, List.map_toArray, List.map_cons, List.map_nil, hs, hx, hrun]
  exact h
def ixB (l : List UInt8) (c : UInt8) : Int := match l.findIdx? (· == c) with | some k => (k : Int) | none => -1
theorem ixB_hit (l : List UInt8) (c : UInt8) (k : Nat) (hk : k < l.length) (h : l[k] = c) (hn : ∀ j (hj : j < k), l[j]'(Nat.lt_trans hj hk) ≠ c) : ixB l c = k := by
  have : l.findIdx? (· == c) = some k := by
    rw [List.findIdx?_eq_some_iff_getElem]
    exact ⟨hk, by simp [h], fun j hj => by simpa using hn j hj⟩
  unfold ixB
  rw [this]
theorem ixB_miss (l : List UInt8) (c : UInt8) (hn : ∀ j (hj : j < l.length), l[j] ≠ c) : ixB l c = -1 := by
  have : l.findIdx? (· == c) = none := by
    rw [List.findIdx?_eq_none_iff]
    intro x hx
    obtain ⟨j, hj, rfl⟩ := List.getElem_of_mem hx
    simpa using hn j hj
  unfold ixB
  rw [this]
set_option maxHeartbeats 2000000 in
set_option maxRecDepth 100000 in
theorem so_IndexB (v : Value) (l : List UInt8) (c : UInt8) (w : World) (h : Rd w 1 v l.length (Lib.byteCells l)) (hl : l.length ≤ 1048576) :
    Calls Tryz.prog 222 #[v, .int .u8 c.toNat] w fun e w' => e = .returned (.int .i64 (ixB l c)) ∧ w = w' := by
  obtain ⟨-, A, cp, rfl, hcap, hs⟩ := h
  have hS := Lib.hid hs
  clear hs
  go_enter Tryz.func222, Tryz.ntmps222
  go_wp2_with fail
  go_loop [5, 8] (fun _ i => ∃ k : Nat, k ≤ l.length ∧ i = .int .i64 k ∧ Hid (∀ j (hj : j < l.length), j < k → l[j] ≠ c)) (fun _ i => l.length - (intOf i).toNat)
  case atStart => exact ⟨0, Nat.zero_le _, rfl, fun j _ hj => absurd hj (Nat.not_lt_zero _)⟩
  case round =>
  obtain ⟨k, hk, rfl, HN⟩ := hrel
  by_cases hlt : k < l.length
  · obtain ⟨b, off, rfl, hc⟩ := hS.out.resolve_left (by omega)
    have hcell := hc k (.int .u8 (l[k].toNat : Int)) (by simp [Lib.byteCells, hlt])
    clear hc
    by_cases he : l[k] = c
    · have e1 : ((c.toNat : Int) == (l[k].toNat : Int)) = true := by rw [he]; simp
      have HR := Lib.hid (ixB_hit l c k hlt he (fun j hj => HN.out j _ hj))
      clear he
      go_wp2_with fail
      go_ret
      exact ⟨ret_int HR.out.symm, rfl⟩
    have e1 : ((c.toNat : Int) == (l[k].toNat : Int)) = false := by
      rw [beq_eq_false_iff_ne]; intro e; exact he (by rw [← UInt8.toNat_inj]; omega)
    have HN2 : Hid (∀ j (hj : j < l.length), j < k + 1 → l[j] ≠ c) := Lib.hid (fun j hj hj2 => by
      by_cases e : j = k
      · subst e; exact he
      exact HN.out j hj (by omega))
    clear he
    go_wp2_with fail
    go_round
    case rel => exact ⟨k + 1, by omega, by go_num, HN2⟩
    case measure => simp [intOf]; omega
  have HR := Lib.hid (ixB_miss l c (fun j hj => HN.out j hj (by omega)))
  have hke : k = l.length := by omega
  subst hke
  go_wp2_with fail
  go_ret
  exact ⟨ret_int HR.out.symm, rfl⟩
def layV (cur : Array Value) (o : Nat) : List Value → Array Value
  | [] => cur
  | x :: r => layV (cur.setIfInBounds o x) (o + 1) r
theorem layV_size : ∀ (vs : List Value) (cur : Array Value) (o : Nat), (layV cur o vs).size = cur.size
  | [], _, _ => rfl
  | x :: r, cur, o => by rw [layV, layV_size r]; simp
theorem heap_setCells {e : Nat} (g : Nat) : ∀ (vs : List Value) (o : Nat) (w : World) (cur : Array Value), w.heap[g]? = some (.cells cur e (0, 0)) → (w.setCells g o vs).heap[g]? = some (.cells (layV cur o vs) e (0, 0))
  | [], _, _, _, h => h
  | x :: r, o, w, cur, h => heap_setCells g r (o + 1) (w.setCell ⟨g, o, none⟩ x) _ (heap_setCell_same w g o cur e x h)
theorem layV_get : ∀ (vs : List Value) (cur : Array Value) (o j : Nat), o + vs.length ≤ cur.size → (layV cur o vs)[j]? = if o ≤ j ∧ j < o + vs.length then vs[j - o]? else cur[j]?
  | [], cur, o, j, _ => by rw [layV, if_neg (by rintro ⟨h1, h2⟩; simp at h2; omega)]
  | x :: r, cur, o, j, h => by
    have hl : (x :: r).length = r.length + 1 := rfl
    rw [layV, layV_get r _ _ _ (by simp; simp at h; omega)]
    by_cases e : j = o
    · subst e
      rw [if_neg (by omega), if_pos (by omega), Nat.sub_self]
      rw [Array.getElem?_setIfInBounds_self_of_lt (by omega)]; rfl
    · by_cases c : o + 1 ≤ j ∧ j < o + 1 + r.length
      · rw [if_pos c, if_pos (by omega), show j - o = (j - (o + 1)) + 1 by omega, List.getElem?_cons_succ]
      · rw [if_neg c, if_neg (by omega), Array.getElem?_setIfInBounds_ne (by omega)]
theorem kept_setCells (g : Nat) : ∀ (vs : List Value) (o : Nat) (w : World), Kept [g] w (w.setCells g o vs)
  | [], _, w => Kept.refl _ w
  | x :: r, o, w => (set_kept1 w g o x).trans (kept_setCells g r (o + 1) _)
theorem own_deleted {w0 w : World} {g cap : Nat} {l : List UInt8} {k : Nat} (h : Own w0 w 5 1 (.slice (some ⟨g, 0, none⟩) l.length cap) l.length (Lib.byteCells l)) (hk : k < l.length) (z : Value) :
    Own w0 ((w.setCells g k (Lib.byteCells (l.drop (k + 1)))).setCells g (l.length - 1) [z]) 5 1 (.slice (some ⟨g, 0, none⟩) (l.length - 1) cap) (l.length - 1) (Lib.byteCells (l.take k ++ l.drop (k + 1))) := by
  have hlen : (l.take k ++ l.drop (k + 1)).length = l.length - 1 := by simp; omega
  have hbl : ∀ x : List UInt8, (Lib.byteCells x).length = x.length := fun x => by simp [Lib.byteCells]
  rcases h.own.2 with ⟨hv, _⟩ | ⟨g', cap', cur, hv, hg, hb, hn, hm, hs, ht⟩
  · cases hv
  cases hv
  have hd : (Lib.byteCells (l.drop (k + 1))).length = l.length - (k + 1) := by rw [hbl]; simp
  have h1 := heap_setCells g (Lib.byteCells (l.drop (k + 1))) k w cur hb
  have h2 := heap_setCells g [z] (l.length - 1) _ _ h1
  refine ⟨h.below.trans (((kept_setCells g _ _ _).trans (kept_setCells g _ _ _)).below h.below.size (fun x hx => by simp at hx; subst hx; exact hg)), ?_⟩
  refine ⟨by rw [hbl, hlen]; omega, .inr ⟨g, cap, _, rfl, hg, h2, by omega, hm, by rw [layV_size, layV_size]; exact hs, ?_⟩⟩
  rw [Nat.mul_one] at ht hs ⊢
  apply List.ext_getElem?
  intro j
  by_cases hj : j < l.length - 1
  · rw [List.getElem?_take_of_lt hj, Array.getElem?_toList, layV_get _ _ _ _ (by rw [layV_size]; simp; omega), if_neg (by simp; omega), layV_get _ _ _ _ (by rw [hd]; omega), hd]
    have hget : ∀ i, i < l.length → cur[i]? = (Lib.byteCells l)[i]? := fun i hi => by
      rw [← ht, List.getElem?_take_of_lt hi, Array.getElem?_toList]
    by_cases hjk : j < k
    · rw [if_neg (by omega), hget j (by omega)]
      simp only [Lib.byteCells, List.map_append]
      rw [List.getElem?_append_left (by simp; omega)]
      simp [List.getElem?_take, hjk]
    rw [if_pos (by omega)]
    simp only [Lib.byteCells, List.map_append]
    rw [List.getElem?_append_right (by simp; omega)]
    simp only [List.length_map, List.length_take, Nat.min_eq_left (Nat.le_of_lt hk)]
  rw [List.getElem?_eq_none (by simp; omega), List.getElem?_eq_none (by rw [hbl, hlen]; omega)]
theorem zero_u8 (w : World) : (zeroValue 5).run Tryz.prog w = .ok (.int .u8 0) w := by kernel_rfl
def DelP (w0 : World) (g cap : Nat) (r : List UInt8) (e : Ending) (w' : World) : Prop := ∃ n, n = r.length ∧ e = .returned (.slice (some ⟨g, 0, none⟩) n cap) ∧ Own w0 w' 5 1 (.slice (some ⟨g, 0, none⟩) n cap) n (Lib.byteCells r)
set_option maxHeartbeats 4000000 in
set_option maxRecDepth 100000 in
theorem so_DeleteB (w0 w : World) (g cap : Nat) (l : List UInt8) (k : Nat) (ho : Own w0 w 5 1 (.slice (some ⟨g, 0, none⟩) l.length cap) l.length (Lib.byteCells l)) (hk : k < l.length) (hl : l.length ≤ 1048576) :
    Calls Tryz.prog 223 #[.slice (some ⟨g, 0, none⟩) l.length cap, .int .i64 (k : Int), .int .i64 ((k : Int) + 1)] w (DelP w0 g cap (l.take k ++ l.drop (k + 1))) := by
  have hnl : l.length - 1 = (l.take k ++ l.drop (k + 1)).length := by simp; omega
  have HNL := Lib.hid hnl
  clear hnl
  have HOD := Lib.hid (own_deleted ho.drew hk (.int .u8 0))
  obtain ⟨i0, hi, hz0, hz1, hz2⟩ := info_parts byte_info
  have hcells : ∀ j, j < l.length → w.cell? ⟨g, j, none⟩ = (Lib.byteCells l)[j]? ∧ w.frozen? ⟨g, j, none⟩ = false := fun j hj => by
    rcases ho.own.2 with ⟨hv, _⟩ | ⟨g', cap', cur, hv, hg, hb, hn, hm, hs, ht⟩
    · cases hv
    cases hv
    refine ⟨?_, Lib.frozen_of_heap hb j⟩
    rw [cell_of_row _ g j cur _ (0, 0) hb, ← ht, List.getElem?_take_of_lt (by omega), Array.getElem?_toList]
  have hcap : l.length ≤ cap ∧ cap ≤ maxLen := by
    rcases ho.own.2 with ⟨hv, _⟩ | ⟨g', cap', cur, hv, hg, hb, hn, hm, hs, ht⟩
    · cases hv
    cases hv; exact ⟨hn, hm⟩
  have hcap2 := hcap.1
  have hcap3 := hcap.2
  unfold maxLen at hcap3
  have hne : ((k : Int) == (k : Int) + 1) = false := by rw [beq_eq_false_iff_ne]; omega
  have HBk : Hid (∀ W : World, Kept [g] w.drew W → (∃ o vs, W = w.drew.setCells g o vs) → ∀ ty, (Builtin.clear_ #[213] ty #[.slice (some ⟨g, l.length - 1, none⟩) (l.length - (l.length - 1)) (cap - (l.length - 1))]).run Tryz.prog W = .ok (.tuple #[]) (W.setCells g (l.length - 1) [.int .u8 0])) := Lib.hid (by
    rintro W - ⟨o, vs, rfl⟩ ty
    rcases ho.own.2 with ⟨hv, _⟩ | ⟨g', cap', cur, hv, hg, hb, hn, hm, hs, ht⟩
    · cases hv
    cases hv
    have h1 := heap_setCells g vs o w.drew cur hb
    have h2 := Lib.run_clear_slice (P := Tryz.prog) (w.drew.setCells g o vs) 213 5 ty (.int .u8 0) Tryz.underlying213 zero_u8 rfl rfl g (l.length - 1) (l.length - (l.length - 1)) (cap - (l.length - 1)) (by omega)
      (fun j hj => by
        rw [cell_of_row _ g _ _ _ (0, 0) h1]
        rw [Array.getElem?_eq_getElem (by rw [layV_size]; omega)]; rfl)
      (fun j hj => Lib.frozen_of_heap h1 _)
    rw [show List.replicate (l.length - (l.length - 1)) (Value.int .u8 0) = [.int .u8 0] by rw [show l.length - (l.length - 1) = 1 by omega]; rfl] at h2
    exact h2)
  have HC := Lib.hid hcells
  clear hcells hcap ho
  have hbl : ∀ x : List UInt8, (Lib.byteCells x).length = x.length := fun x => by simp [Lib.byteCells]
  by_cases hlast : k + 1 < l.length
  · have HR : Hid (∀ ty, (Builtin.append_ #[213, 213] ty #[.slice (some ⟨g, 0, none⟩) k cap, .slice (some ⟨g, k + 1, none⟩) (l.length - (k + 1)) (cap - (k + 1))]).run Tryz.prog w.drew = .ok (.slice (some ⟨g, 0, none⟩) (l.length - 1) cap) (w.drew.setCells g k (Lib.byteCells (l.drop (k + 1))))) := Lib.hid (fun ty => by
      have h1 := run_append_room_cells (P := Tryz.prog) w.drew 213 ty 5 i0 Tryz.underlying213 hi g 0 k cap ⟨g, k + 1, none⟩ (l.length - (k + 1)) (cap - (k + 1)) (Lib.byteCells (l.drop (k + 1))) (by rw [hz1, hbl]; simp) (by
          intro j u hj
          have hjl : j < l.length - (k + 1) := by
            rcases Nat.lt_or_ge j (l.length - (k + 1)) with h | h
            · exact h
            · rw [List.getElem?_eq_none (by rw [hbl]; simp; omega)] at hj; cases hj
          rw [Addr.add_lit]
          have h3 := (HC.out (k + 1 + j) (by omega)).1
          have h4 : (Lib.byteCells l)[k + 1 + j]? = some u := by
            rw [← hj]; simp [Lib.byteCells, List.getElem?_drop]
          rw [h4] at h3
          exact h3) (by intro u hu; unfold Lib.byteCells at hu; obtain ⟨x, _, rfl⟩ := List.mem_map.1 hu; rfl) (by omega)
        (fun j hj => by
          rw [hz1, hbl, List.length_drop] at *
          have h3 := (HC.out (k + j) (by omega)).1
          show (w.cell? _).isSome = true
          rw [Nat.zero_add, Nat.mul_one, h3]
          simp [Lib.byteCells]; omega)
        (fun j hj => by
          rw [hbl, List.length_drop] at hj
          show w.frozen? _ = false
          rw [hz1, Nat.zero_add, Nat.mul_one]; exact (HC.out (k + j) (by omega)).2)
      rw [hz1, Nat.zero_add, Nat.mul_one, show k + (l.length - (k + 1)) = l.length - 1 by omega] at h1
      exact h1)
    have hcc : ¬ cap = k + 1 := by omega
    have hkc : k ≤ cap := by omega
    have hki : (0 : Int) ≤ (k : Int) + 1 := by omega
    have hkl : (k : Int) + 1 ≤ (l.length : Int) := by omega
    go_enter Tryz.func223, Tryz.ntmps223
    go_wp2_with fail
    have hcl := HBk.out (w.drew.setCells g k (Lib.byteCells (l.drop (k + 1)))) (kept_setCells g _ _ _) ⟨_, _, rfl⟩
    go_region_law (refine step_run_append (by rfl) _ _ 213 (by rfl) _ _ _ rfl rfl (HR.out _) ?_)
    go_wp2_with fail
    go_ret
    exact ⟨_, HNL.out, rfl, HOD.out⟩
  have hk1 : k + 1 = l.length := by omega
  have hd : l.drop (k + 1) = [] := List.drop_of_length_le (by omega)
  have HR : Hid (∀ A c ty, (Builtin.append_ #[213, 213] ty #[.slice (some ⟨g, 0, none⟩) k cap, .slice A 0 c]).run Tryz.prog w.drew = .ok (.slice (some ⟨g, 0, none⟩) (l.length - 1) cap) w.drew) := Lib.hid (fun A c ty => by
    rw [show l.length - 1 = k by omega]
    have hkc : k ≤ cap := by omega
    cases A <;> simp [Builtin.append_, run_underlying Tryz.underlying213, sizeOf, typeInfo, hi, Builtin.lenOf, Builtin.firstCells, hkc, storeCells, loadCells, loadCellsFrom])
  have hcl := HBk.out w.drew (Kept.refl _ _) ⟨0, [], rfl⟩
  have hod : Own w0 (w.drew.setCells g (l.length - 1) [.int .u8 0]) 5 1 (.slice (some ⟨g, 0, none⟩) (l.length - 1) cap) (l.length - 1) (Lib.byteCells (l.take k ++ l.drop (k + 1))) := by
    have h := HOD.out
    rw [show w.drew.setCells g k (Lib.byteCells (l.drop (k + 1))) = w.drew by rw [hd]; rfl] at h
    exact h
  have HO2 := Lib.hid hod
  clear hod
  have hkc : k ≤ cap := by omega
  have hki : (0 : Int) ≤ (k : Int) + 1 := by omega
  have hkl : (k : Int) + 1 ≤ (l.length : Int) := by omega
  have hz : l.length - (k + 1) = 0 := by omega
  clear hd hlast
  clear hk1
  go_enter Tryz.func223, Tryz.ntmps223
  go_wp2_with fail
  go_region_law (refine step_run_append (by rfl) _ _ 213 (by rfl) _ _ _ rfl rfl (HR.out _ _ _) ?_)
  go_wp2_with fail
  all_goals go_ret
  all_goals refine ⟨_, HNL.out, rfl, ?_⟩
  all_goals first
    | exact HO2.out
    | (have e : cap = k + 1 := by assumption
       have h2 := HO2.out
       rw [e] at h2
       exact h2)
end Go.Proofs.YtfkblpjfknfgbaaGreatDoor
