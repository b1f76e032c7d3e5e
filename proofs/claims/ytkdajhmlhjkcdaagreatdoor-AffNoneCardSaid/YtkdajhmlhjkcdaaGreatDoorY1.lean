/-
  Parts of the proof: AL3, AL4, AL5, AL6, AL7, AL9, FLOpen.
-/
import Derived.BigQuiet
import Derived.Test.YtkdajhmlhjkcdaaGreatDoorRows
import Derived.Test.YtkdajhmlhjkcdaaGreatDoorZ10
import Derived.Test.YtkdajhmlhjkcdaaGreatDoorZ13
import Derived.WalkLawsBesides
import Derived.Test.YtkdajhmlhjkcdaaGreatDoorZ1
import Derived.Test.YtkdajhmlhjkcdaaGreatDoorZ2
import Derived.ChangeSlices
import Derived.SizedLaws
set_option linter.unusedVariables false
set_option linter.unusedSimpArgs false
namespace Go.Proofs.YtkdajhmlhjkcdaaGreatDoor
open Go.RowKit Go.Maps
def AffR (w : World) (F : Fl) (a : AV) : Prop := Rd w 2 a.reps F.reps.length (repCells F.reps) ∧ (∃ us : List Value, Rd w 1 a.als F.als.length us ∧ us.length = F.als.length ∧ ∀ (k : Nat) u b, us[k]? = some u → F.als[k]? = some b → FS w u b) ∧
  Rd w 5 a.cls F.cls.length (clsCells F.cls) ∧ ∃ rs : List (Rl × Value), rs.map (·.1) = F.rls ∧ Rd w 7 a.rls rs.length (rlsCells rs) ∧ ∀ r ∈ rs, FS w r.2 r.1.next
theorem AffN.rd {B : Nat} {w : World} {F : Fl} {a : AV} (h : AffN B w F a) : AffR w F a := by
  obtain ⟨us, h1, h2, h3⟩ := h.als
  obtain ⟨rs, h4, h5, h6⟩ := h.rls
  exact ⟨Rd.of_own h.reps, ⟨us, Rd.of_own h1, h2, fun k u b hu hb => (h3 k u b hu hb).fs⟩, Rd.of_own h.cls, rs, h4, Rd.of_own h5, fun r hr => (h6 r hr).fs⟩
end Go.Proofs.YtkdajhmlhjkcdaaGreatDoor
namespace Go.Proofs.YtkdajhmlhjkcdaaGreatDoor
open Go.RowKit Go.Maps
theorem Rd.at_ {w : World} {size n : Nat} {v : Value} {xs : List Value} (h : Rd w size v n xs) (hn : 0 < n) : ∃ g o cap, v = .slice (some ⟨g, o, none⟩) n cap ∧ ∀ j u, xs[j]? = some u → w.cell? ⟨g, o + j, none⟩ = some u := by
  obtain ⟨-, A, cap, rfl, -, h2⟩ := h
  obtain ⟨g, o, rfl, h3⟩ := h2.resolve_left (by omega)
  exact ⟨g, o, cap, rfl, h3⟩
end Go.Proofs.YtkdajhmlhjkcdaaGreatDoor
namespace Go.Proofs.YtkdajhmlhjkcdaaGreatDoor
open Go.RowKit Go.Maps
abbrev wakeT : ByteArray := ⟨#[83, 70, 88, 32, 65, 32, 89, 32, 49, 10, 83, 70, 88, 32, 65, 32, 121, 32, 105, 101, 115, 32, 91, 94, 97, 101, 105, 111, 117, 93, 121, 10]⟩
abbrev tIES : ByteArray := ⟨#[105, 101, 115]⟩
abbrev tCND : ByteArray := ⟨#[91, 94, 97, 101, 105, 111, 117, 93, 121]⟩
theorem wake_rows : rowsOf (eachOf wakeT.data.toList) = [(1, [kSFX, ⟨#[65]⟩, ⟨#[89]⟩, ⟨#[49]⟩]), (2, [kSFX, ⟨#[65]⟩, ⟨#[121]⟩, tIES, tCND])] := by kernel_rfl
theorem wake_lines : (linesOf wakeT.data.toList).length = 2 := by kernel_rfl
def wakeC : Cl := ⟨65, 2, true, 0, 1⟩
theorem wake_piece : pieceR true ⟨#[121]⟩ = .ok ⟨#[121]⟩ := by
  unfold pieceR
  rw [if_neg (by rintro ⟨-, h⟩; revert h; decide)]
  have hw : wordR (⟨#[121]⟩ : ByteArray).data.toList = ([121], [], false, 0) := by
    unfold wordR
    rw [wgo_more _ _ _ (by decide) (by decide), wgo_nil]
    rfl
  rw [hw]
  rfl
theorem wake_rule (F : Fl) : ∃ cond, ruleR F wakeC 2 [kSFX, ⟨#[65]⟩, ⟨#[121]⟩, tIES, tCND] = .ok ⟨2, 65, true, ⟨#[121]⟩, tIES, cond, [], 2⟩ := by
  unfold ruleR
  rw [if_neg (by simp)]
  have h2 : fieldAt [kSFX, ⟨#[65]⟩, ⟨#[121]⟩, tIES, tCND] 2 = ⟨#[121]⟩ := rfl
  have h3 : fieldAt [kSFX, ⟨#[65]⟩, ⟨#[121]⟩, tIES, tCND] 3 = tIES := rfl
  rw [h2, h3, wake_piece]
  have hw : wordR tIES.data.toList = ([105, 101, 115], [], false, 0) := by
    unfold wordR
    rw [wgo_more _ _ _ (by decide) (by decide), wgo_more _ _ _ (by decide) (by decide), wgo_more _ _ _ (by decide) (by decide), wgo_nil]
    rfl
  have ha : addR [105, 101, 115] = .ok tIES := by kernel_rfl
  obtain ⟨x, hx⟩ : ∃ x, condOf [kSFX, ⟨#[65]⟩, ⟨#[121]⟩, tIES, tCND] = .ok x := by
    have h : (match condOf [kSFX, ⟨#[65]⟩, ⟨#[121]⟩, tIES, tCND] with | .ok _ => true | .error _ => false) = true := by kernel_rfl
    cases hc : condOf [kSFX, ⟨#[65]⟩, ⟨#[121]⟩, tIES, tCND] with
    | error e => rw [hc] at h; cases h
    | ok x => exact ⟨x, rfl⟩
  refine ⟨x, ?_⟩
  dsimp only
  rw [hw]
  dsimp only
  rw [if_neg (by decide), ha]
  have hn : nextR F wakeC.kind [] false = .ok [] := rfl
  dsimp only
  rw [hn, hx]
  rfl
theorem wake_aff : ∃ r, affR wakeT.data.toList = .ok ⟨1, ⟨#[]⟩, ⟨#[]⟩, 0, 0, 0, 0, 0, 3, [], [], [wakeC], [r]⟩ ∧ r.add = tIES := by
  obtain ⟨cond, hc⟩ := wake_rule { fl0 with cls := [wakeC] }
  refine ⟨_, ?_, show (⟨2, 65, true, ⟨#[121]⟩, tIES, cond, [], 2⟩ : Rl).add = tIES from rfl⟩
  rw [affR_small _ (by decide), wake_rows, wake_lines]
  have hk : keyN (fieldAt [kSFX, ⟨#[65]⟩, ⟨#[89]⟩, ⟨#[49]⟩] 0) = 12 := by kernel_rfl
  have hfr : freshR fl0 ⟨#[65]⟩ = .ok 65 := by kernel_rfl
  have hne : numErr (⟨#[49]⟩ : ByteArray).data.toList 1024 = 0 := by kernel_rfl
  have hnv : numVal (⟨#[49]⟩ : ByteArray).data.toList 1024 = 1 := by kernel_rfl
  have hcl : classR 3 ⟨fl0, [(2, [kSFX, ⟨#[65]⟩, ⟨#[121]⟩, tIES, tCND])], [], 1⟩ [kSFX, ⟨#[65]⟩, ⟨#[89]⟩, ⟨#[49]⟩] = .ok ⟨{ { fl0 with cls := [wakeC] } with rls := [⟨2, 65, true, ⟨#[121]⟩, tIES, cond, [], 2⟩] }, [], [], 2⟩ := by
    unfold classR
    have h1 : fieldAt [kSFX, ⟨#[65]⟩, ⟨#[89]⟩, ⟨#[49]⟩] 1 = ⟨#[65]⟩ := rfl
    have h2 : fieldAt [kSFX, ⟨#[65]⟩, ⟨#[89]⟩, ⟨#[49]⟩] 2 = ⟨#[89]⟩ := rfl
    have h3 : fieldAt [kSFX, ⟨#[65]⟩, ⟨#[89]⟩, ⟨#[49]⟩] 3 = ⟨#[49]⟩ := rfl
    have h0 : fieldAt [kSFX, ⟨#[65]⟩, ⟨#[89]⟩, ⟨#[49]⟩] 0 = kSFX := rfl
    rw [h1, h2, h3, h0, hfr]
    dsimp only
    rw [if_neg (by simp), hne, hnv, if_neg (by decide), if_neg (by decide)]
    show groupR 3 _ (ruleIn wakeC) 1 ⟨{ fl0 with cls := [wakeC] }, [(2, [kSFX, ⟨#[65]⟩, ⟨#[121]⟩, tIES, tCND])], [], 1⟩ = _
    rw [groupR]
    dsimp only
    rw [if_pos (by decide)]
    unfold ruleIn
    rw [hc]
    rfl
  have hst : stepR 3 ⟨fl0, [(1, [kSFX, ⟨#[65]⟩, ⟨#[89]⟩, ⟨#[49]⟩]), (2, [kSFX, ⟨#[65]⟩, ⟨#[121]⟩, tIES, tCND])], [], 0⟩ 1 [kSFX, ⟨#[65]⟩, ⟨#[89]⟩, ⟨#[49]⟩] [(2, [kSFX, ⟨#[65]⟩, ⟨#[121]⟩, tIES, tCND])] = .ok ⟨{ { fl0 with cls := [wakeC] } with rls := [⟨2, 65, true, ⟨#[121]⟩, tIES, cond, [], 2⟩] }, [], [kSFX], 2⟩ := by
    unfold stepR
    rw [hk, if_neg (by decide), if_neg (by decide), if_neg (by decide)]
    have hh : headR 3 ⟨fl0, [(2, [kSFX, ⟨#[65]⟩, ⟨#[121]⟩, tIES, tCND])], [], 1⟩ [kSFX, ⟨#[65]⟩, ⟨#[89]⟩, ⟨#[49]⟩] 12 = _ := hcl
    rw [hh]
    rfl
  show affEnd (readGo 3 2 ⟨fl0, [(1, [kSFX, ⟨#[65]⟩, ⟨#[89]⟩, ⟨#[49]⟩]), (2, [kSFX, ⟨#[65]⟩, ⟨#[121]⟩, tIES, tCND])], [], 0⟩) = _
  rw [readGo]
  dsimp only
  rw [hst]
  rfl
end Go.Proofs.YtkdajhmlhjkcdaaGreatDoor
namespace Go.Proofs.YtkdajhmlhjkcdaaGreatDoor
open Go.RowKit Go.Maps
theorem one_of_map {rs : List (Rl × Value)} {r : Rl} (h : rs.map (·.1) = [r]) : ∃ u, rs = [(r, u)] := by
  match rs, h with
  | [x], h => exact ⟨x.2, by simp at h; rw [← h]⟩
set_option maxHeartbeats 4000000 in
set_option maxRecDepth 100000 in
theorem so_wakes (m0 : Int) (w : World) (h0 : 0 < w.heap.size) (hm : w.cell? ⟨0, 0, none⟩ = some (.int .i64 m0)) :
    Calls Tryz.prog 14 #[] w fun e w' => e = .returned (.bool true) ∧ Below w.heap.size w w' := by
  obtain ⟨r, hr, hra⟩ := wake_aff
  have HR := so_affRead wakeT m0 w h0 hm
  unfold ReadP at HR
  rw [hr] at HR
  dsimp only at HR
  have HRd := Lib.hid HR
  have HRa := Lib.hid hra
  clear HR hr hra hm h0
  go_enter Tryz.func14, Tryz.ntmps14
  go_upto_region 4 with (go_at_call 12; refine HRd.out.mono ?_; rintro e w1 ⟨hb1, fb, rfl, hf, hok, hfb⟩; have HB1 := Lib.hid hb1; have HF1 := Lib.hid hf; have HOk := Lib.hid hok; clear hb1 hf hok hfb)
  go_upto_region 5 with (go_at_call 16; refine (so_Affixes fb _ _ (HF1.out.keep ((Below.refl _ _).alloc (Nat.le_refl _) _)) HOk.out).mono ?_; rintro e w2 ⟨a, rfl, hn, hb2⟩; have HB2 : Hid (Below w.heap.size w w2) := Lib.hid (HB1.out.trans ((((Below.refl _ _).alloc (Nat.le_refl _) _).trans (hb2.mono (by simp))).mono HB1.out.size)); obtain ⟨vr, va, vc, vl⟩ := a; obtain ⟨⟨-, Ar, kr, rfl, -⟩, ⟨us, ⟨-, Aa, ka, rfl, -⟩, -⟩, hcl, rs, hm, hrl, -⟩ := hn.rd; obtain ⟨u, rfl⟩ := one_of_map hm; obtain ⟨gl, ol, kl, rfl, hc⟩ := hrl.at_ (by simp); have d4 : w2.cell? ⟨gl, ol + 4, none⟩ = some (.string r.add) := hc 4 _ rfl; rw [HRa.out] at d4; have hgl := World.block_lt_of_cell? _ _ d4; obtain ⟨-, Ac, kc, rfl, -⟩ := hcl; clear hn hm hrl hc hb2; unfold affV affA)
  go_wp2_with fail
  go_ret
  exact ⟨rfl, HB2.out.alloc HB2.out.size _⟩
end Go.Proofs.YtkdajhmlhjkcdaaGreatDoor
namespace Go.Proofs.YtkdajhmlhjkcdaaGreatDoor
open Go.RowKit Go.Maps
set_option maxHeartbeats 2000000 in
set_option maxRecDepth 100000 in
theorem so_ClassNil (x : Int) (w : World) : Calls Tryz.prog 18 #[.pointer none, .int .u16 x] w fun e w' => e = .returned (clsP none) ∧ Below w.heap.size w w' := by
  go_enter Tryz.func18, Tryz.ntmps18
  go_wp2_with fail
  refine bodyPost_ret (v := .tuple #[.agg #[.int .u16 0, .int .i64 0, .bool false, .int .i64 0, .int .i64 0], .bool false]) (by simp [results, Tryz.results18, go_sem]; try rfl) rfl ?_
  exact ⟨rfl, (Below.refl _ _).alloc (Nat.le_refl _) _⟩
set_option maxHeartbeats 2000000 in
set_option maxRecDepth 100000 in
theorem so_FlagsNil (s : ByteArray) (w : World) : Calls Tryz.prog 21 #[.pointer none, .string s] w fun e w' => e = .returned (.tuple #[.slice none 0 0, .int .i64 1]) ∧ Below w.heap.size w w' := by
  go_enter Tryz.func21, Tryz.ntmps21
  go_wp2_with fail
  refine bodyPost_ret (v := .tuple #[.slice none 0 0, .int .i64 1]) (by simp [results, Tryz.results21, go_sem]; try rfl) rfl ?_
  first
    | exact ⟨rfl, Below.refl _ _⟩
    | exact ⟨rfl, (Below.refl _ _).alloc (Nat.le_refl _) _⟩
    | exact ⟨rfl, ((Below.refl _ _).alloc (Nat.le_refl _) _).setCell (by simp) _⟩
    | exact ⟨rfl, (((Below.refl _ _).alloc (Nat.le_refl _) _).setCell (by simp) _).setCell (by simp) _⟩
end Go.Proofs.YtkdajhmlhjkcdaaGreatDoor
namespace Go.Proofs.YtkdajhmlhjkcdaaGreatDoor
open Go.RowKit Go.Maps
abbrev noAff : Value := .agg #[.int .i64 0, .string ⟨#[]⟩, .string ⟨#[]⟩, .int .u16 0, .int .u16 0, .int .u16 0, .int .u16 0, .int .u16 0, .int .i64 0, .slice none 0 0, .slice none 0 0, .slice none 0 0, .slice none 0 0]
set_option maxHeartbeats 2000000 in
set_option maxRecDepth 100000 in
theorem so_WriteNil (p : Option Addr) (n c : Nat) (w : World) : Calls Tryz.prog 30 #[.pointer none, .slice p n c] w fun e w' => e = .returned (.tuple #[.string ⟨#[]⟩, .int .i64 1]) ∧ Below w.heap.size w w' := by
  go_enter Tryz.func30, Tryz.ntmps30
  go_wp2_with fail
  refine bodyPost_ret (v := .tuple #[.string ⟨#[]⟩, .int .i64 1]) (by simp [results, Tryz.results30, go_sem]; try rfl) rfl ?_
  first
    | exact ⟨rfl, Below.refl _ _⟩
    | exact ⟨rfl, (Below.refl _ _).alloc (Nat.le_refl _) _⟩
    | exact ⟨rfl, ((Below.refl _ _).alloc (Nat.le_refl _) _).alloc (by simp) _⟩
set_option maxHeartbeats 2000000 in
set_option maxRecDepth 100000 in
theorem so_AffixesNil (w : World) : Calls Tryz.prog 16 #[.pointer none] w fun e w' => e = .returned noAff ∧ Below w.heap.size w w' := by
  go_enter Tryz.func16, Tryz.ntmps16
  go_wp2_with fail
  refine bodyPost_ret (v := noAff) (by simp [results, Tryz.results16, go_sem, noAff]; try rfl) rfl ?_
  exact ⟨rfl, (Below.refl _ _).alloc (Nat.le_refl _) _⟩
set_option maxHeartbeats 4000000 in
set_option maxRecDepth 100000 in
theorem so_equalNil (w : World) : Calls Tryz.prog 27 #[noAff, noAff] w fun e w' => e = .returned (.bool true) ∧ Below w.heap.size w w' := by
  have qs : ∀ w : World, (binOp .neq 35 (.agg #[.int .u16 0, .int .u16 0, .int .u16 0, .int .u16 0, .int .u16 0]) (.agg #[.int .u16 0, .int .u16 0, .int .u16 0, .int .u16 0, .int .u16 0])).run Tryz.prog w = .ok (.bool false) w := fun _ => by kernel_rfl
  go_enter Tryz.func27, Tryz.ntmps27
  go_wp2_with fail
  go_loopw [5, 81] (fun _ x wr => x = .int .i64 ((0 : Nat) : Int) ∧ Hid (Below w.heap.size w wr) ∧ wr.cell? ⟨w.heap.size, 10, none⟩ = some (.slice none 0 0) ∧ wr.cell? ⟨w.heap.size, 11, none⟩ = some (.slice none 0 0) ∧ wr.cell? ⟨w.heap.size, 12, none⟩ = some (.slice none 0 0)) (fun _ _ _ => 0)
  case atStart => exact ⟨rfl, Lib.hid (((Below.refl _ _).alloc (Nat.le_refl _) _).alloc (by simp) _), by go_simp, by go_simp, by go_simp⟩
  case round =>
  obtain ⟨rfl, HB, c10, c11, c12⟩ := hrel
  go_wp2_with fail
  go_loopw [6, 99] (fun _ x wr => x = .int .i64 ((0 : Nat) : Int) ∧ Hid (Below w.heap.size w wr) ∧ wr.cell? ⟨w.heap.size, 11, none⟩ = some (.slice none 0 0) ∧ wr.cell? ⟨w.heap.size, 12, none⟩ = some (.slice none 0 0)) (fun _ _ _ => 0)
  case atStart => exact ⟨rfl, HB, c11, c12⟩
  case round =>
  obtain ⟨rfl, HB, c11, c12⟩ := hrel
  go_wp2_with fail
  go_loopw [7, 119] (fun _ x wr => x = .int .i64 ((0 : Nat) : Int) ∧ Hid (Below w.heap.size w wr) ∧ wr.cell? ⟨w.heap.size, 12, none⟩ = some (.slice none 0 0)) (fun _ _ _ => 0)
  case atStart => exact ⟨rfl, HB, c12⟩
  case round =>
  obtain ⟨rfl, HB, c12⟩ := hrel
  go_wp2_with fail
  go_loopw [8, 9, 10, 137] (fun _ _ _ x wr => x = .int .i64 ((0 : Nat) : Int) ∧ Hid (Below w.heap.size w wr)) (fun _ _ _ _ _ => 0)
  case atStart => exact ⟨rfl, HB⟩
  case round =>
  obtain ⟨rfl, HB⟩ := hrel
  go_wp2_with fail
  go_ret
  exact ⟨rfl, HB.out⟩
set_option maxHeartbeats 4000000 in
set_option maxRecDepth 100000 in
theorem affNone_walk (s : ByteArray) (v : Value) (zs : List Int) (m0 : Int) (w : World) (h0 : 0 < w.heap.size) (hm : w.cell? ⟨0, 0, none⟩ = some (.int .i64 m0)) (hf : FS w v zs) (hbd : ∀ x ∈ zs, 0 ≤ x ∧ x ≤ 65535) (hbig : zs.length ≤ 9223372036854775807) :
    Calls Tryz.prog 10 #[.string s, v] w fun e w' => e = .returned (.bool true) ∧ Below w.heap.size w w' := by
  have HW : Hid (∀ W, Below w.heap.size w W → Calls Tryz.prog 14 #[] W fun e w' => e = .returned (.bool true) ∧ Below W.heap.size W w') := Lib.hid (fun W hW => so_wakes m0 W (Nat.lt_of_lt_of_le h0 hW.size) ((hW.cell (World.block_lt_of_cell? _ _ hm)).trans hm))
  obtain ⟨p, c, rfl, hcap, hs⟩ := hf
  have HS := Lib.hid hs
  clear h0 hm hs hbd
  go_enter Tryz.func10, Tryz.ntmps10
  go_wp2_with fail
  refine (so_FlagsNil s w).mono ?_
  rintro e w1 ⟨rfl, hb1⟩
  have HB1 := Lib.hid hb1
  clear hb1
  go_wp2_with fail
  refine (so_WriteNil p zs.length c w1).mono ?_
  rintro e w2 ⟨rfl, hb2⟩
  have HB2 := Lib.hid (HB1.out.trans (hb2.mono HB1.out.size))
  clear hb2
  go_wp2_with fail
  go_loopw [11, 13, 28] (fun _ _ x wr => ∃ k : Nat, k ≤ zs.length ∧ x = .int .i64 k ∧ Hid (Below w.heap.size w wr)) (fun _ _ x _ => zs.length - (intOf x).toNat)
  case atStart => exact ⟨0, Nat.zero_le _, rfl, HB2⟩
  case round =>
  obtain ⟨k, hk, rfl, HBk⟩ := hrel
  clear HB1 HB2
  by_cases hlt : k < zs.length
  · obtain ⟨b, off, rfl, hc⟩ := HS.out.resolve_left (by omega)
    have c1 := hc k hlt
    have d1 := (HBk.out.cell (World.block_lt_of_cell? _ _ c1)).trans c1
    clear hc c1
    generalize zs.getD k 0 = x at *
    have hcn := so_ClassNil x wr
    unfold clsP clsV noCl at hcn
    dsimp only [Option.getD_none, Option.isSome_none] at hcn
    have HCn := Lib.hid hcn
    clear hcn
    go_wp2_with fail
    refine HCn.out.mono ?_
    rintro e w5 ⟨rfl, hb5⟩
    have HB5 := Lib.hid (HBk.out.trans (hb5.mono HBk.out.size))
    clear hb5
    go_wp2_with fail
    go_roundw
    case rel => exact ⟨k + 1, by omega, by go_num, Lib.hid (HB5.out.alloc HB5.out.size _)⟩
    case measure => simp [intOf]; omega
  obtain rfl : k = zs.length := by omega
  go_wp2_with fail
  refine (HW.out _ HBk.out).mono ?_
  rintro e w6 ⟨rfl, hb6⟩
  have HB6 := Lib.hid (HBk.out.trans (hb6.mono HBk.out.size))
  clear hb6
  go_wp2_with fail
  refine (so_AffixesNil w6).mono ?_
  rintro e w7 ⟨rfl, hb7⟩
  have HB7 := Lib.hid (HB6.out.trans (hb7.mono HB6.out.size))
  clear hb7
  go_wp2_with fail
  refine (so_equalNil w7).mono ?_
  rintro e w8 ⟨rfl, hb8⟩
  have HB8 := Lib.hid (HB7.out.trans (hb8.mono HB7.out.size))
  clear hb8
  go_wp2_with fail
  go_ret
  exact ⟨by simp, HB8.out⟩
theorem affNone_sh (s : ByteArray) (v : Value) (zs : List Int) (W : World) (h : W.ShapedOpen Tryz.prog) (hf : FS W v zs) (hbd : ∀ x ∈ zs, 0 ≤ x ∧ x ≤ 65535) (hbig : zs.length * 2 ≤ 140737488351232) :
    Calls Tryz.prog 10 #[.string s, v] W fun e w' => e = .returned (.bool true) ∧ Below W.heap.size W w' := by
  obtain ⟨m, hm⟩ := maxLen_of W h
  exact affNone_walk s v zs m W (Nat.lt_of_le_of_lt (Nat.zero_le _) (World.block_lt_of_cell? _ _ hm)) hm hf hbd (by omega)
end Go.Proofs.YtkdajhmlhjkcdaaGreatDoor
namespace Go.Proofs.YtkdajhmlhjkcdaaGreatDoor
open Go.ChangeShapes Go.WideShapes Go.ChangeAt Go.RowKit
theorem addr_plain {w : World} {a : Addr} {v : Value} (h : w.cell? a = some v) : a = ⟨a.block, a.off, none⟩ := by
  obtain ⟨b, o, sp⟩ := a
  cases sp with
  | none => rfl
  | some s =>
    simp [World.cell?] at h
    split at h <;> simp at h
theorem addr_add (g o j : Nat) : (⟨g, o, none⟩ : Addr).add j = ⟨g, o + j, none⟩ := by unfold Addr.add; split <;> simp_all
theorem cells_flag : Tryz.prog.cellsOf 34 = 1 := by kernel_rfl
theorem bytes_flag : Tryz.prog.bytesOf 34 = 2 := by kernel_rfl
set_option maxRecDepth 100000 in
theorem open_flags_ {H : Type} {enc : TypeId × Value → H} {W : World} {base : Nat} {v : Value} {d : DataW H} {p : List MemPlace} (hval : Value.okWide Tryz.prog W .any base 44 v)
    (h : DataW.Trod enc Tryz.prog W 0 (fun _ => true) true 44 v d p) :
    ∃ zs : List Int, FS W v zs ∧ (zs = [] ∨ ∃ es sp : List (DataW H), d = .slice es sp ∧ es.length = zs.length) ∧ ∀ x ∈ zs, 0 ≤ x ∧ x ≤ 65535 := by
  obtain ⟨a0, len, cap, rfl⟩ := okWide_slice Tryz.underlying44 hval
  obtain ⟨fuel, hf⟩ := h
  rcases open_ints Tryz.underlying44 Tryz.underlying34 cells_flag hf with ⟨hcs, hx⟩ | ⟨a, len', cap', zs, hcs, _, hl, hm, hz, hx, hcell, hws⟩
  · simp only [Value.cells, List.cons.injEq, and_true, Value.slice.injEq] at hcs
    obtain ⟨rfl, rfl, rfl⟩ := hcs
    exact ⟨[], ⟨none, 0, rfl, Nat.le_refl _, .inl rfl⟩, .inl rfl, by simp⟩
  simp only [Value.cells, List.cons.injEq, and_true, Value.slice.injEq] at hcs
  obtain ⟨rfl, rfl, rfl⟩ := hcs
  simp only [if_true] at hz
  have hd : d = .slice (lits .u16 (zs.take len)) (lits .u16 (zs.drop len)) := (Prod.mk.inj hx).1
  have hlen : (zs.take len).length = len := by rw [List.length_take]; omega
  refine ⟨zs.take len, ⟨some a, cap, by rw [hlen], by omega, ?_⟩, .inr ⟨_, _, hd, by simp [lits]⟩, fun x hx => ?_⟩
  · rcases Nat.eq_zero_or_pos len with h0 | h0
    · exact .inl (by omega)
    right
    have c0 := hcell 0 (by omega)
    have e0 : a.add 0 = a := by simp [Addr.add]
    rw [e0] at c0
    have ha := addr_plain c0
    refine ⟨a.block, a.off, by rw [← ha], fun j hj => ?_⟩
    have hjl : j < len := by omega
    have cj := hcell j (by omega)
    rw [ha, addr_add] at cj
    rw [cj]
    simp [List.getD, hjl]
  have := hws x (List.mem_of_mem_take hx)
  simp [Lit.wf, IntKind.min, IntKind.max, IntKind.signed, IntKind.bits] at this
  omega
set_option maxRecDepth 100000 in
theorem flags_reach {H : Type} {ts : List TypeId} {ds : List (DataW H)} {zs : List Int} {d : DataW H} (hsz : (DataW.weightsEach Tryz.prog ts ds).all (· ≤ reachBytes) = true) {j : Nat} (ht : ts[j]? = some 44) (hd : ds[j]? = some d)
    (h : zs = [] ∨ ∃ es sp : List (DataW H), d = .slice es sp ∧ es.length = zs.length) : zs.length * 2 ≤ 140737488351232 := by
  rcases h with rfl | ⟨es, sp, rfl, hl⟩
  · simp
  have := sized_slice hsz ht hd Tryz.underlying44
  rw [bytes_flag] at this
  simp [reachBytes] at this
  omega
end Go.Proofs.YtkdajhmlhjkcdaaGreatDoor
