/-
  Parts of the proof: Frame, Split2, Split3A, Rows3, AL3, AL4, AL5, AL6, AP1, AP3, AL10, AL11, AL12, AL13, App, AP4.
-/
import Derived.Test.YtkdajhmlhjkcdaaGreatDoorRows
import Derived.WalkKit
import Derived.ProofKit
import Derived.OpenShut
import Derived.SizedLaws
import Derived.HandedShaped
import Derived.JoinedCond
import Derived.Test.YtkdajhmlhjkcdaaGreatDoorZ1
import Derived.Test.YtkdajhmlhjkcdaaGreatDoorZ2
import Derived.Test.YtkdajhmlhjkcdaaGreatDoorZ4
import Derived.Test.YtkdajhmlhjkcdaaGreatDoorZ3
import Derived.BigQuiet
import Derived.Test.YtkdajhmlhjkcdaaGreatDoorZ10
import Derived.Test.YtkdajhmlhjkcdaaGreatDoorZ9
import Derived.Test.YtkdajhmlhjkcdaaGreatDoorZ8
import Derived.Test.YtkdajhmlhjkcdaaGreatDoorZ5
import Derived.Test.YtkdajhmlhjkcdaaGreatDoorZ7
import Derived.Test.YtkdajhmlhjkcdaaGreatDoorZ6
import Derived.WalkLawsBesides
import Derived.Maps.AppendAt
import Derived.Deep.AppendLies
import Derived.RegionTactic
import Derived.OwnWalk
set_option linter.unusedVariables false
set_option linter.unusedSimpArgs false
namespace Go.Proofs.YtkdajhmlhjkcdaaGreatDoor
open Go.ChangeShapes Go.WideShapes Go.ChangeAt Go.RowKit
open Go.ChangeMaps (open_string shut_string)
theorem int_bounds {n : Int} (h : (Lit.int .i64 n).wf = true) : -9223372036854775808 ≤ n ∧ n ≤ 9223372036854775807 := by
  simp [Lit.wf, IntKind.min, IntKind.max, IntKind.signed, IntKind.bits] at h; omega
end Go.Proofs.YtkdajhmlhjkcdaaGreatDoor
namespace Go.Proofs.YtkdajhmlhjkcdaaGreatDoor
open Go.RowKit
theorem ended_nil : ended [] = [] := by unfold ended Lib.trimSuffix Lib.hasSuffix; rfl
end Go.Proofs.YtkdajhmlhjkcdaaGreatDoor
namespace Go.Proofs.YtkdajhmlhjkcdaaGreatDoor
open Go.RowKit
def splitS (s : ByteArray) : List ByteArray := if 65536 < s.size then [] else (linesOf s.data.toList).map mkS
set_option maxHeartbeats 1000000 in
theorem Split01_any (s : ByteArray) (w : World) :
    Calls Tryz.prog 24 #[.string s] w fun e W' => ∃ v, e = .returned (.tuple #[v, .int .i64 (codeS s)]) ∧ Own w W' 9 1 v (splitS s).length (strV (splitS s)) := by
  by_cases hbig : 65536 < s.size
  · have HE : Hid (splitS s = []) := Lib.hid (if_pos hbig)
    go_enter Tryz.func24, Tryz.ntmps24
    go_wp2_with fail
    go_ret2
    exact ⟨.slice none 0 0, by simp [codeS, hbig], by rw [HE.out]; exact Own.nil_ _ _ _⟩
  have HE : Hid (splitS s = (linesOf s.data.toList).map mkS) := Lib.hid (if_neg hbig)
  go_enter Tryz.func24, Tryz.ntmps24
  go_wp2_with fail
  refine (Lines01_any s _ (by omega)).mono ?_
  rintro e w2 ⟨v2, rfl, o2⟩
  have O2 := Lib.hid o2
  clear o2
  go_wp2_with fail
  go_ret2
  exact ⟨v2, by simp [codeS, hbig], by rw [HE.out, List.length_map]; exact O2.out⟩
end Go.Proofs.YtkdajhmlhjkcdaaGreatDoor
namespace Go.Proofs.YtkdajhmlhjkcdaaGreatDoor
open Go.RowKit
theorem linesFrom_each : ∀ (n : Nat) (t : List UInt8), ∀ l ∈ linesFrom n t, l.length ≤ t.length
  | 0, t, l, hl => by simp [linesFrom] at hl
  | n + 1, t, l, hl => by
    simp only [linesFrom] at hl
    split at hl
    · cases hl
    · rename_i ht
      rcases List.mem_cons.1 hl with rfl | h
      · exact Nat.le_trans (ended_le _) (cut_fst_le t)
      · have h1 := linesFrom_each n _ l h
        have h2 := cut_lt t ht
        omega
end Go.Proofs.YtkdajhmlhjkcdaaGreatDoor
namespace Go.Proofs.YtkdajhmlhjkcdaaGreatDoor
open Go.RowKit Go.Maps
def AffR (w : World) (F : Fl) (a : AV) : Prop := Rd w 2 a.reps F.reps.length (repCells F.reps) ∧ (∃ us : List Value, Rd w 1 a.als F.als.length us ∧ us.length = F.als.length ∧ ∀ (k : Nat) u b, us[k]? = some u → F.als[k]? = some b → FS w u b) ∧
  Rd w 5 a.cls F.cls.length (clsCells F.cls) ∧ ∃ rs : List (Rl × Value), rs.map (·.1) = F.rls ∧ Rd w 7 a.rls rs.length (rlsCells rs) ∧ ∀ r ∈ rs, FS w r.2 r.1.next
theorem AffN.rd {B : Nat} {w : World} {F : Fl} {a : AV} (h : AffN B w F a) : AffR w F a := by
  obtain ⟨us, h1, h2, h3⟩ := h.als
  obtain ⟨rs, h4, h5, h6⟩ := h.rls
  exact ⟨Rd.of_own h.reps, ⟨us, Rd.of_own h1, h2, fun k u b hu hb => (h3 k u b hu hb).fs⟩, Rd.of_own h.cls, rs, h4, Rd.of_own h5, fun r hr => (h6 r hr).fs⟩
theorem AffR.keep {w w' : World} {F : Fl} {a : AV} (h : AffR w F a) (hb : Below w.heap.size w w') : AffR w' F a := by
  obtain ⟨h0, ⟨us, h1, h2, h3⟩, h4, rs, h5, h6, h7⟩ := h
  exact ⟨h0.keep hb, ⟨us, h1.keep hb, h2, fun k u b hu hb' => (h3 k u b hu hb').keep hb⟩, h4.keep hb, rs, h5, h6.keep hb, fun r hr => (h7 r hr).keep hb⟩
set_option maxHeartbeats 2000000 in
set_option maxRecDepth 100000 in
theorem so_lsame (v u : Value) (zs : List Int) (w : World) (h : FS w v zs) (hu : IS w u zs) (hb : ∀ x ∈ zs, 0 ≤ x ∧ x ≤ 65535) (hbig : zs.length ≤ 1048576) :
    Calls Tryz.prog 23 #[v, u] w fun e w' => e = .returned (.bool true) ∧ ∃ n, w' = w.drewN n := by
  obtain ⟨p, c, rfl, hcap, hs⟩ := h
  obtain ⟨p2, c2, rfl, hcap2, hs2⟩ := hu
  have hA := Lib.hid hs
  have hB := Lib.hid hs2
  have hBd := Lib.hid hb
  clear hs hs2 hb
  go_enter Tryz.func23, Tryz.ntmps23
  go_wp2_with fail
  go_loopw [5, 13] (fun _ i wr => ∃ k m : Nat, k ≤ zs.length ∧ i = .int .i64 k ∧ wr = w.drewN m) (fun _ i _ => zs.length - (intOf i).toNat)
  case atStart => exact ⟨0, 0, Nat.zero_le _, rfl, rfl⟩
  case round =>
  obtain ⟨k, m, hk, rfl, rfl⟩ := hrel
  by_cases hlt : k < zs.length
  · obtain ⟨b, off, rfl, hc⟩ := hA.out.resolve_left (by omega)
    obtain ⟨b2, off2, rfl, hc2⟩ := hB.out.resolve_left (by omega)
    have c1 := hc k hlt
    have c2' := hc2 k hlt
    clear hc hc2
    have he : zs.getD k 0 = zs[k] := by simp [List.getD, hlt]
    obtain ⟨x0, x1⟩ := hBd.out zs[k] (List.getElem_mem hlt)
    rw [he] at c1 c2'
    generalize zs[k] = x at *
    have hwx : IntKind.i64.wrap x = x := by rw [IntKind.wrap_i64]; omega
    clear he
    go_wp2_with fail
    go_quiet (fail)
    go_wp2_with fail
    go_roundw
    case rel => exact ⟨k + 1, _, by omega, by go_num, rfl⟩
    case measure => simp [intOf]; omega
  obtain rfl : k = zs.length := by omega
  go_wp2_with fail
  go_ret
  exact ⟨rfl, _, rfl⟩
end Go.Proofs.YtkdajhmlhjkcdaaGreatDoor
namespace Go.Proofs.YtkdajhmlhjkcdaaGreatDoor
open Go.RowKit Go.Maps
theorem rep_at : ∀ (rs : List (ByteArray × ByteArray)) (k : Nat) (hk : k < rs.length), (repCells rs)[k * 2]? = some (.string rs[k].1) ∧ (repCells rs)[k * 2 + 1]? = some (.string rs[k].2)
  | [], _, hk => absurd hk (Nat.not_lt_zero _)
  | c :: r, 0, _ => ⟨rfl, rfl⟩
  | c :: r, k + 1, hk => by
    have := rep_at r k (by simpa using hk)
    have e : repCells (c :: r) = [.string c.1, .string c.2] ++ repCells r := by simp [repCells]
    have key : ∀ j, (repCells (c :: r))[(k + 1) * 2 + j]? = (repCells r)[k * 2 + j]? := fun j => by
      rw [e, List.getElem?_append_right (by simp; omega)]
      congr 1
      simp; omega
    exact ⟨(key 0).trans this.1, (key 1).trans this.2⟩
theorem Rd.at_ {w : World} {size n : Nat} {v : Value} {xs : List Value} (h : Rd w size v n xs) (hn : 0 < n) : ∃ g o cap, v = .slice (some ⟨g, o, none⟩) n cap ∧ ∀ j u, xs[j]? = some u → w.cell? ⟨g, o + j, none⟩ = some u := by
  obtain ⟨-, A, cap, rfl, -, h2⟩ := h
  obtain ⟨g, o, rfl, h3⟩ := h2.resolve_left (by omega)
  exact ⟨g, o, cap, rfl, h3⟩
end Go.Proofs.YtkdajhmlhjkcdaaGreatDoor
namespace Go.Proofs.YtkdajhmlhjkcdaaGreatDoor
open Go.RowKit Go.Maps
abbrev wakeT : ByteArray := ⟨#[83, 70, 88, 32, 65, 32, 89, 32, 49, 10, 83, 70, 88, 32, 65, 32, 121, 32, 105, 101, 115, 32, 91, 94, 97, 101, 105, 111, 117, 93, 121, 10]⟩
abbrev tIES : ByteArray := ⟨#[105, 101, 115]⟩
abbrev tCND : ByteArray := ⟨#[91, 94, 97, 101, 105, 111, 117, 93, 121]⟩
theorem wake_rows : rowsOf (eachOf wakeT.data.toList) = [(1, [kSFX, ⟨#[65]⟩, ⟨#[89]⟩, ⟨#[49]⟩]), (2, [kSFX, ⟨#[65]⟩, ⟨#[121]⟩, tIES, tCND])] := by kernel_rfl
theorem wake_lines : (linesOf wakeT.data.toList).length = 2 := by kernel_rfl
def wakeC : Cl := ⟨65, 2, true, 0, 1⟩
theorem wake_piece : pieceR true ⟨#[121]⟩ = .ok ⟨#[121]⟩ := by
  unfold pieceR
  rw [if_neg (by rintro ⟨-, h⟩; revert h; decide)]
  have hw : wordR (⟨#[121]⟩ : ByteArray).data.toList = ([121], [], false, 0) := by
    unfold wordR
    rw [wgo_more _ _ _ (by decide) (by decide), wgo_nil]
    rfl
  rw [hw]
  rfl
theorem wake_rule (F : Fl) : ∃ cond, ruleR F wakeC 2 [kSFX, ⟨#[65]⟩, ⟨#[121]⟩, tIES, tCND] = .ok ⟨2, 65, true, ⟨#[121]⟩, tIES, cond, [], 2⟩ := by
  unfold ruleR
  rw [if_neg (by simp)]
  have h2 : fieldAt [kSFX, ⟨#[65]⟩, ⟨#[121]⟩, tIES, tCND] 2 = ⟨#[121]⟩ := rfl
  have h3 : fieldAt [kSFX, ⟨#[65]⟩, ⟨#[121]⟩, tIES, tCND] 3 = tIES := rfl
  rw [h2, h3, wake_piece]
  have hw : wordR tIES.data.toList = ([105, 101, 115], [], false, 0) := by
    unfold wordR
    rw [wgo_more _ _ _ (by decide) (by decide), wgo_more _ _ _ (by decide) (by decide), wgo_more _ _ _ (by decide) (by decide), wgo_nil]
    rfl
  have ha : addR [105, 101, 115] = .ok tIES := by kernel_rfl
  obtain ⟨x, hx⟩ : ∃ x, condOf [kSFX, ⟨#[65]⟩, ⟨#[121]⟩, tIES, tCND] = .ok x := by
    have h : (match condOf [kSFX, ⟨#[65]⟩, ⟨#[121]⟩, tIES, tCND] with | .ok _ => true | .error _ => false) = true := by kernel_rfl
    cases hc : condOf [kSFX, ⟨#[65]⟩, ⟨#[121]⟩, tIES, tCND] with
    | error e => rw [hc] at h; cases h
    | ok x => exact ⟨x, rfl⟩
  refine ⟨x, ?_⟩
  dsimp only
  rw [hw]
  dsimp only
  rw [if_neg (by decide), ha]
  have hn : nextR F wakeC.kind [] false = .ok [] := rfl
  dsimp only
  rw [hn, hx]
  rfl
theorem wake_aff : ∃ r, affR wakeT.data.toList = .ok ⟨1, ⟨#[]⟩, ⟨#[]⟩, 0, 0, 0, 0, 0, 3, [], [], [wakeC], [r]⟩ ∧ r.add = tIES := by
  obtain ⟨cond, hc⟩ := wake_rule { fl0 with cls := [wakeC] }
  refine ⟨_, ?_, show (⟨2, 65, true, ⟨#[121]⟩, tIES, cond, [], 2⟩ : Rl).add = tIES from rfl⟩
  rw [affR_small _ (by decide), wake_rows, wake_lines]
  have hk : keyN (fieldAt [kSFX, ⟨#[65]⟩, ⟨#[89]⟩, ⟨#[49]⟩] 0) = 12 := by kernel_rfl
  have hfr : freshR fl0 ⟨#[65]⟩ = .ok 65 := by kernel_rfl
  have hne : numErr (⟨#[49]⟩ : ByteArray).data.toList 1024 = 0 := by kernel_rfl
  have hnv : numVal (⟨#[49]⟩ : ByteArray).data.toList 1024 = 1 := by kernel_rfl
  have hcl : classR 3 ⟨fl0, [(2, [kSFX, ⟨#[65]⟩, ⟨#[121]⟩, tIES, tCND])], [], 1⟩ [kSFX, ⟨#[65]⟩, ⟨#[89]⟩, ⟨#[49]⟩] = .ok ⟨{ { fl0 with cls := [wakeC] } with rls := [⟨2, 65, true, ⟨#[121]⟩, tIES, cond, [], 2⟩] }, [], [], 2⟩ := by
    unfold classR
    have h1 : fieldAt [kSFX, ⟨#[65]⟩, ⟨#[89]⟩, ⟨#[49]⟩] 1 = ⟨#[65]⟩ := rfl
    have h2 : fieldAt [kSFX, ⟨#[65]⟩, ⟨#[89]⟩, ⟨#[49]⟩] 2 = ⟨#[89]⟩ := rfl
    have h3 : fieldAt [kSFX, ⟨#[65]⟩, ⟨#[89]⟩, ⟨#[49]⟩] 3 = ⟨#[49]⟩ := rfl
    have h0 : fieldAt [kSFX, ⟨#[65]⟩, ⟨#[89]⟩, ⟨#[49]⟩] 0 = kSFX := rfl
    rw [h1, h2, h3, h0, hfr]
    dsimp only
    rw [if_neg (by simp), hne, hnv, if_neg (by decide), if_neg (by decide)]
    show groupR 3 _ (ruleIn wakeC) 1 ⟨{ fl0 with cls := [wakeC] }, [(2, [kSFX, ⟨#[65]⟩, ⟨#[121]⟩, tIES, tCND])], [], 1⟩ = _
    rw [groupR]
    dsimp only
    rw [if_pos (by decide)]
    unfold ruleIn
    rw [hc]
    rfl
  have hst : stepR 3 ⟨fl0, [(1, [kSFX, ⟨#[65]⟩, ⟨#[89]⟩, ⟨#[49]⟩]), (2, [kSFX, ⟨#[65]⟩, ⟨#[121]⟩, tIES, tCND])], [], 0⟩ 1 [kSFX, ⟨#[65]⟩, ⟨#[89]⟩, ⟨#[49]⟩] [(2, [kSFX, ⟨#[65]⟩, ⟨#[121]⟩, tIES, tCND])] = .ok ⟨{ { fl0 with cls := [wakeC] } with rls := [⟨2, 65, true, ⟨#[121]⟩, tIES, cond, [], 2⟩] }, [], [kSFX], 2⟩ := by
    unfold stepR
    rw [hk, if_neg (by decide), if_neg (by decide), if_neg (by decide)]
    have hh : headR 3 ⟨fl0, [(2, [kSFX, ⟨#[65]⟩, ⟨#[121]⟩, tIES, tCND])], [], 1⟩ [kSFX, ⟨#[65]⟩, ⟨#[89]⟩, ⟨#[49]⟩] 12 = _ := hcl
    rw [hh]
    rfl
  show affEnd (readGo 3 2 ⟨fl0, [(1, [kSFX, ⟨#[65]⟩, ⟨#[89]⟩, ⟨#[49]⟩]), (2, [kSFX, ⟨#[65]⟩, ⟨#[121]⟩, tIES, tCND])], [], 0⟩) = _
  rw [readGo]
  dsimp only
  rw [hst]
  rfl
end Go.Proofs.YtkdajhmlhjkcdaaGreatDoor
namespace Go.Proofs.YtkdajhmlhjkcdaaGreatDoor
open Go.RowKit Go.Maps
theorem one_of_map {rs : List (Rl × Value)} {r : Rl} (h : rs.map (·.1) = [r]) : ∃ u, rs = [(r, u)] := by
  match rs, h with
  | [x], h => exact ⟨x.2, by simp at h; rw [← h]⟩
set_option maxHeartbeats 4000000 in
set_option maxRecDepth 100000 in
theorem so_wakes (m0 : Int) (w : World) (h0 : 0 < w.heap.size) (hm : w.cell? ⟨0, 0, none⟩ = some (.int .i64 m0)) :
    Calls Tryz.prog 14 #[] w fun e w' => e = .returned (.bool true) ∧ Below w.heap.size w w' := by
  obtain ⟨r, hr, hra⟩ := wake_aff
  have HR := so_affRead wakeT m0 w h0 hm
  unfold ReadP at HR
  rw [hr] at HR
  dsimp only at HR
  have HRd := Lib.hid HR
  have HRa := Lib.hid hra
  clear HR hr hra hm h0
  go_enter Tryz.func14, Tryz.ntmps14
  go_upto_region 4 with (go_at_call 12; refine HRd.out.mono ?_; rintro e w1 ⟨hb1, fb, rfl, hf, hok, hfb⟩; have HB1 := Lib.hid hb1; have HF1 := Lib.hid hf; have HOk := Lib.hid hok; clear hb1 hf hok hfb)
  go_upto_region 5 with (go_at_call 16; refine (so_Affixes fb _ _ (HF1.out.keep ((Below.refl _ _).alloc (Nat.le_refl _) _)) HOk.out).mono ?_; rintro e w2 ⟨a, rfl, hn, hb2⟩; have HB2 : Hid (Below w.heap.size w w2) := Lib.hid (HB1.out.trans ((((Below.refl _ _).alloc (Nat.le_refl _) _).trans (hb2.mono (by simp))).mono HB1.out.size)); obtain ⟨vr, va, vc, vl⟩ := a; obtain ⟨⟨-, Ar, kr, rfl, -⟩, ⟨us, ⟨-, Aa, ka, rfl, -⟩, -⟩, hcl, rs, hm, hrl, -⟩ := hn.rd; obtain ⟨u, rfl⟩ := one_of_map hm; obtain ⟨gl, ol, kl, rfl, hc⟩ := hrl.at_ (by simp); have d4 : w2.cell? ⟨gl, ol + 4, none⟩ = some (.string r.add) := hc 4 _ rfl; rw [HRa.out] at d4; have hgl := World.block_lt_of_cell? _ _ d4; obtain ⟨-, Ac, kc, rfl, -⟩ := hcl; clear hn hm hrl hc hb2; unfold affV affA)
  go_wp2_with fail
  go_ret
  exact ⟨rfl, HB2.out.alloc HB2.out.size _⟩
end Go.Proofs.YtkdajhmlhjkcdaaGreatDoor
namespace Go.Proofs.YtkdajhmlhjkcdaaGreatDoor
open Go.RowKit
def shR (σ : Int → Int) (r : Row) : Row := (σ r.1, r.2)
def shRl (σ : Int → Int) (r : Rl) : Rl := { r with line := σ r.line }
def shF (σ : Int → Int) (F : Fl) : Fl := { F with rls := F.rls.map (shRl σ) }
def shS (σ : Int → Int) (S : Sx) : Sx := ⟨shF σ S.fl, S.rows.map (shR σ), S.heads, σ S.line⟩
def shX (σ : Int → Int) : RX → RX
  | .error e => .error (σ e.1, e.2)
  | .ok S => .ok (shS σ S)
def shI (σ : Int → Int) : Except Int Fl → Except Int Fl
  | .error e => .error e
  | .ok F => .ok (shF σ F)
theorem goesB_sh (σ : Int → Int) (F : Fl) : goesB (shF σ F) = goesB F := rfl
theorem rep_sh (σ : Int → Int) (F : Fl) (l l' : Int) (row : List ByteArray) : repR_ (shF σ F) l' row = shI σ (repR_ F l row) := by
  unfold repR_
  by_cases h : row.length ≠ 3
  · rw [if_pos h, if_pos h]; rfl
  rw [if_neg h, if_neg h]
  cases pieceR false (fieldAt row 1) with
  | error c => rfl
  | ok a => cases pieceR true (fieldAt row 2) with
    | error c => rfl
    | ok b => rfl
theorem alias_sh (σ : Int → Int) (F : Fl) (l l' : Int) (row : List ByteArray) : aliasR (shF σ F) l' row = shI σ (aliasR F l row) := by
  unfold aliasR
  by_cases h : row.length ≠ 2
  · rw [if_pos h, if_pos h]; rfl
  rw [if_neg h, if_neg h]
  show (if (readF F.kind _).2 ≠ 0 then _ else _) = _
  by_cases h2 : (readF F.kind (fieldAt row 1).data.toList).2 ≠ 0
  · rw [if_pos h2, if_pos h2]; rfl
  rw [if_neg h2, if_neg h2]; rfl
theorem nextR_sh (σ : Int → Int) (F : Fl) (k : Int) (r : List UInt8) (c : Bool) : nextR (shF σ F) k r c = nextR F k r c := rfl
theorem ruleR_sh (σ : Int → Int) (F : Fl) (c : Cl) (l : Int) (row : List ByteArray) : ruleR (shF σ F) c l row = ruleR F c l row := by
  unfold ruleR
  simp only [nextR_sh]
theorem ruleR_line (σ : Int → Int) (F : Fl) (c : Cl) (l : Int) (row : List ByteArray) : ruleR F c (σ l) row = match ruleR F c l row with
    | .error e => .error e
    | .ok r => .ok (shRl σ r) := by
  unfold ruleR
  by_cases h : row.length ≠ 4 ∧ row.length ≠ 5
  · rw [if_pos h, if_pos h]
  rw [if_neg h, if_neg h]
  cases pieceR true (fieldAt row 2) with
  | error e => rfl
  | ok strip =>
    obtain ⟨⟨w, rest, cut, e⟩, hw⟩ : ∃ x, wordR (fieldAt row 3).data.toList = x := ⟨_, rfl⟩
    rw [hw]
    dsimp only
    by_cases he : e ≠ 0
    · rw [if_pos he, if_pos he]
    rw [if_neg he, if_neg he]
    cases addR w with
    | error e => rfl
    | ok add => cases nextR F c.kind rest cut with
      | error e => rfl
      | ok next => cases condOf row with
        | error e => rfl
        | ok cond => rfl
theorem ruleIn_sh (σ : Int → Int) (c : Cl) (F : Fl) (l : Int) (row : List ByteArray) : ruleIn c (shF σ F) (σ l) row = shI σ (ruleIn c F l row) := by
  unfold ruleIn
  rw [ruleR_sh, ruleR_line]
  cases ruleR F c l row with
  | error e => rfl
  | ok r =>
    show Except.ok _ = Except.ok _
    simp [shF]
theorem group_sh (σ : Int → Int) (end_ : Int) (ok : List ByteArray → Bool) (inn : Fl → Int → List ByteArray → Except Int Fl) (hin : ∀ F l row, inn (shF σ F) (σ l) row = shI σ (inn F l row)) : ∀ (n : Nat) (S : Sx), groupR (σ end_) ok inn n (shS σ S) = shX σ (groupR end_ ok inn n S)
  | 0, S => rfl
  | n + 1, S => by
    obtain ⟨fl, rows, heads, line⟩ := S
    cases rows with
    | nil => rfl
    | cons r rest =>
      obtain ⟨l, row⟩ := r
      show (if ok row = true then (match inn (shF σ fl) (σ l) row with
        | .error c => .error (σ l, c)
        | .ok F => groupR (σ end_) ok inn n ⟨F, rest.map (shR σ), heads, σ l⟩) else .error (σ l, 116)) = shX σ (if ok row = true then (match inn fl l row with
        | .error c => .error (l, c)
        | .ok F => groupR end_ ok inn n ⟨F, rest, heads, l⟩) else .error (l, 116))
      by_cases h : ok row = true
      · rw [if_pos h, if_pos h, hin]
        cases inn fl l row with
        | error c => rfl
        | ok F => exact group_sh σ end_ ok inn hin n ⟨F, rest, heads, l⟩
      · rw [if_neg h, if_neg h]; rfl
theorem onFl_sh (σ : Int → Int) (S : Sx) (x y : Except Int Fl) (h : y = shI σ x) : onFl (σ S.line) (shS σ S) y = shX σ (onFl S.line S x) := by
  subst h
  cases x <;> rfl
theorem class_sh (σ : Int → Int) (end_ : Int) (S : Sx) (row : List ByteArray) : classR (σ end_) (shS σ S) row = shX σ (classR end_ S row) := by
  unfold classR
  have hlen : (shS σ S).fl.rls.length = S.fl.rls.length := List.length_map _
  have hfr : freshR (shS σ S).fl (fieldAt row 1) = freshR S.fl (fieldAt row 1) := rfl
  rw [hfr, hlen]
  cases freshR S.fl (fieldAt row 1) with
  | error e => rfl
  | ok f =>
    dsimp only
    by_cases h1 : fieldAt row 2 ≠ ⟨#[89]⟩ ∧ fieldAt row 2 ≠ ⟨#[78]⟩
    · rw [if_pos h1, if_pos h1]; rfl
    rw [if_neg h1, if_neg h1]
    by_cases h2 : numErr (fieldAt row 3).data.toList 1024 ≠ 0
    · rw [if_pos h2, if_pos h2]; rfl
    rw [if_neg h2, if_neg h2]
    by_cases h3 : 1024 < (S.fl.rls.length : Int) + numVal (fieldAt row 3).data.toList 1024
    · rw [if_pos h3, if_pos h3]; rfl
    rw [if_neg h3, if_neg h3]
    exact group_sh σ end_ _ _ (ruleIn_sh σ _) _ { S with fl := { S.fl with cls := S.fl.cls ++ [_] } }
theorem head_sh (σ : Int → Int) (end_ : Int) (S : Sx) (row : List ByteArray) (k : Nat) : headR (σ end_) (shS σ S) row k = shX σ (headR end_ S row k) := by
  unfold headR
  by_cases h0 : k = 0
  · rw [if_pos h0, if_pos h0]
    refine onFl_sh σ S _ _ ?_
    unfold kindR
    show (if S.heads.any _ = true then _ else _) = _
    by_cases h : S.heads.any (fun h => lateN (keyN h)) = true
    · rw [if_pos h, if_pos h]; rfl
    rw [if_neg h, if_neg h]
    by_cases h : kindOf (fieldAt row 1) = 0
    · rw [if_pos h, if_pos h]; rfl
    rw [if_neg h, if_neg h]; rfl
  rw [if_neg h0, if_neg h0]
  by_cases h1 : k = 1
  · rw [if_pos h1, if_pos h1]
    refine onFl_sh σ S _ _ ?_
    unfold setR
    by_cases h : fitAll (fieldAt row 1) = false
    · rw [if_pos h, if_pos h]; rfl
    rw [if_neg h, if_neg h]; rfl
  rw [if_neg h1, if_neg h1]
  by_cases h2 : k = 2
  · rw [if_pos h2, if_pos h2]
    refine onFl_sh σ S _ _ ?_
    unfold tryR
    by_cases h : (lettersS (fieldAt row 1)).2 ≠ 0
    · rw [if_pos h, if_pos h]; rfl
    rw [if_neg h, if_neg h]; rfl
  rw [if_neg h2, if_neg h2]
  by_cases h3 : k < 8
  · rw [if_pos h3, if_pos h3]
    refine onFl_sh σ S _ _ ?_
    unfold specialR
    have hfr : freshR (shS σ S).fl (fieldAt row 1) = freshR S.fl (fieldAt row 1) := rfl
    rw [hfr]
    cases freshR S.fl (fieldAt row 1) with
    | error e => rfl
    | ok f =>
      show Except.ok (setSp (shF σ S.fl) (k - 3) f) = Except.ok (shF σ (setSp S.fl (k - 3) f))
      rcases hk : k - 3 with _ | _ | _ | _ | j <;> rfl
  rw [if_neg h3, if_neg h3]
  by_cases h4 : k = 8
  · rw [if_pos h4, if_pos h4]
    refine onFl_sh σ S _ _ ?_
    unfold leastR
    by_cases h : numErr (fieldAt row 1).data.toList 64 ≠ 0 ∨ numVal (fieldAt row 1).data.toList 64 = 0
    · rw [if_pos h, if_pos h]; rfl
    rw [if_neg h, if_neg h]; rfl
  rw [if_neg h4, if_neg h4]
  by_cases h5 : k = 9
  · rw [if_pos h5, if_pos h5]
    unfold repsG
    by_cases h : numErr (fieldAt row 1).data.toList 256 ≠ 0
    · rw [if_pos h, if_pos h]; rfl
    rw [if_neg h, if_neg h]
    exact group_sh σ end_ _ _ (fun F l row => rep_sh σ F l _ row) _ S
  rw [if_neg h5, if_neg h5]
  by_cases h6 : k = 10
  · rw [if_pos h6, if_pos h6]
    unfold aliasG
    show (if S.heads.contains kPFX = true ∨ S.heads.contains kSFX = true then _ else _) = _
    by_cases h : S.heads.contains kPFX = true ∨ S.heads.contains kSFX = true
    · rw [if_pos h, if_pos h]; rfl
    rw [if_neg h, if_neg h]
    by_cases h : numErr (fieldAt row 1).data.toList 1024 ≠ 0
    · rw [if_pos h, if_pos h]; rfl
    rw [if_neg h, if_neg h]
    exact group_sh σ end_ _ _ (fun F l row => alias_sh σ F l _ row) _ S
  rw [if_neg h6, if_neg h6]
  exact class_sh σ end_ S row
theorem step_sh (σ : Int → Int) (end_ : Int) (S : Sx) (l : Int) (row : List ByteArray) (rest : List Row) : stepR (σ end_) (shS σ S) (σ l) row (rest.map (shR σ)) = shX σ (stepR end_ S l row rest) := by
  unfold stepR
  by_cases h1 : keyN (fieldAt row 0) = 13
  · rw [if_pos h1, if_pos h1]; rfl
  rw [if_neg h1, if_neg h1]
  by_cases h2 : row.length ≠ widthN (keyN (fieldAt row 0))
  · rw [if_pos h2, if_pos h2]; rfl
  rw [if_neg h2, if_neg h2]
  show (if widthN (keyN (fieldAt row 0)) = 2 ∧ S.heads.contains (fieldAt row 0) = true then _ else _) = _
  by_cases h3 : widthN (keyN (fieldAt row 0)) = 2 ∧ S.heads.contains (fieldAt row 0) = true
  · rw [if_pos h3, if_pos h3]; rfl
  rw [if_neg h3, if_neg h3]
  have h := head_sh σ end_ { S with rows := rest, line := l } row (keyN (fieldAt row 0))
  have e : shS σ { S with rows := rest, line := l } = { shS σ S with rows := rest.map (shR σ), line := σ l } := rfl
  rw [e] at h
  rw [h]
  cases headR end_ { S with rows := rest, line := l } row (keyN (fieldAt row 0)) <;> rfl
theorem read_sh (σ : Int → Int) (end_ : Int) : ∀ (n : Nat) (S : Sx), readGo (σ end_) n (shS σ S) = shX σ (readGo end_ n S)
  | 0, S => rfl
  | n + 1, S => by
    obtain ⟨fl, rows, heads, line⟩ := S
    cases rows with
    | nil => rfl
    | cons r rest =>
      obtain ⟨l, row⟩ := r
      have h := step_sh σ end_ ⟨fl, (l, row) :: rest, heads, line⟩ l row rest
      show (match stepR (σ end_) (shS σ ⟨fl, (l, row) :: rest, heads, line⟩) (σ l) row (rest.map (shR σ)) with
        | .error e => .error e
        | .ok S' => readGo (σ end_) n S') = shX σ (match stepR end_ ⟨fl, (l, row) :: rest, heads, line⟩ l row rest with
        | .error e => .error e
        | .ok S' => readGo end_ n S')
      rw [h]
      cases stepR end_ ⟨fl, (l, row) :: rest, heads, line⟩ l row rest with
      | error e => rfl
      | ok S' => exact read_sh σ end_ n S'
theorem check_sh (σ : Int → Int) (F : Fl) : checkE (shF σ F) = (checkE F).map σ := by
  unfold checkE
  rw [goesB_sh]
  show ((F.rls.map (shRl σ)).find? _).map _ = _
  rw [List.find?_map]
  have : ((fun r : Rl => !(r.next.all (goesB F))) ∘ shRl σ) = (fun r : Rl => !(r.next.all (goesB F))) := rfl
  rw [this]
  cases F.rls.find? (fun r => !(r.next.all (goesB F))) <;> rfl
end Go.Proofs.YtkdajhmlhjkcdaaGreatDoor
namespace Go.Proofs.YtkdajhmlhjkcdaaGreatDoor
open Go.RowKit
abbrev mark3 : List UInt8 := [239, 187, 191]
def jn (L : List (List UInt8)) : List UInt8 := L.flatMap (fun l => l ++ [13, 10])
theorem jn_cons (l : List UInt8) (L : List (List UInt8)) : jn (l :: L) = l ++ 13 :: 10 :: jn L := by simp [jn]
theorem rgo_run : ∀ (l r cur : List UInt8), (10 : UInt8) ∉ l → rgo (l ++ r) cur = rgo r (cur ++ l)
  | [], r, cur, _ => by simp
  | b :: l, r, cur, h => by
    have hb : b ≠ 10 := fun e => h (by simp [e])
    have hl : (10 : UInt8) ∉ l := fun e => h (by simp [e])
    rw [List.cons_append, rgo_more b (l ++ r) cur hb, rgo_run l r (cur ++ [b]) hl]
    simp
theorem rgo_line (l r : List UInt8) (h : (10 : UInt8) ∉ l) : rgo (l ++ 13 :: 10 :: r) [] = l :: rgo r [] := by
  rw [rgo_run l _ _ h, List.nil_append, rgo_more 13 _ _ (by decide), rgo_brk, ended_some, if_pos rfl]
theorem rgo_jn : ∀ (L : List (List UInt8)) (t : List UInt8), (∀ l ∈ L, (10 : UInt8) ∉ l) → rgo (jn L ++ t) [] = L ++ rgo t []
  | [], t, _ => rfl
  | l :: L, t, h => by
    rw [jn_cons]
    have e : l ++ 13 :: 10 :: jn L ++ t = l ++ 13 :: 10 :: (jn L ++ t) := by simp
    rw [e, rgo_line l _ (h l (by simp)), rgo_jn L t (fun x hx => h x (by simp [hx]))]
    rfl
theorem ended_no {l : List UInt8} (h : (10 : UInt8) ∉ l) : (10 : UInt8) ∉ ended l := by
  rcases List.eq_nil_or_concat l with rfl | ⟨m, a, rfl⟩
  · rw [ended_nil]; simp
  rw [List.concat_eq_append] at h ⊢
  rw [ended_some]
  split
  · exact fun e => h (by simp [e])
  exact h
theorem rgo_no : ∀ (l cur : List UInt8), (10 : UInt8) ∉ cur → ∀ x ∈ rgo l cur, (10 : UInt8) ∉ x
  | [], cur, h, x, hx => by
    rw [rgo] at hx
    split at hx
    · cases hx
    · simp at hx; subst hx; exact ended_no h
  | b :: r, cur, h, x, hx => by
    rw [rgo] at hx
    split at hx
    · rcases List.mem_cons.1 hx with rfl | hx
      · exact ended_no h
      · exact rgo_no r [] (by simp) x hx
    · rename_i hb
      exact rgo_no r (cur ++ [b]) (by
        intro e
        rcases List.mem_append.1 e with e | e
        · exact h e
        · simp at e; exact hb e.symm) x hx
theorem linesOf_no (t : List UInt8) : ∀ l ∈ linesOf t, (10 : UInt8) ∉ l := by
  rw [← rgo_lines]; exact rgo_no _ _ (by simp)
theorem unmarked_no {t : List UInt8} (h : Lib.hasPrefix t mark3 = false) : unmarked t = t := by
  unfold unmarked Lib.trimPrefix
  rw [h]; rfl
theorem mark_ext' (l r : List UInt8) (c : UInt8) (h : Lib.hasPrefix l mark3 = false) (hc : c = 10 ∨ c = 13) : Lib.hasPrefix (l ++ c :: r) mark3 = false := by
  unfold Lib.hasPrefix mark3 at *
  match l with
  | [] => rcases hc with rfl | rfl <;> simp [List.isPrefixOf]
  | [a] => rcases hc with rfl | rfl <;> simp [List.isPrefixOf]
  | [a, b] => rcases hc with rfl | rfl <;> simp [List.isPrefixOf]
  | a :: b :: d :: l => simpa [List.isPrefixOf] using h
theorem mark_of {l r : List UInt8} (h : Lib.hasPrefix (l ++ r) mark3 = false) : Lib.hasPrefix l mark3 = false := by
  cases hx : Lib.hasPrefix l mark3
  · rfl
  unfold Lib.hasPrefix at hx h
  rw [List.isPrefixOf_iff_prefix] at hx
  have : mark3.isPrefixOf (l ++ r) = true := List.isPrefixOf_iff_prefix.2 (hx.trans (List.prefix_append l r))
  rw [this] at h; cases h
theorem jn_mark {l : List UInt8} {L : List (List UInt8)} {t : List UInt8} (h : Lib.hasPrefix l mark3 = false) : Lib.hasPrefix (jn (l :: L) ++ t) mark3 = false := by
  rw [jn_cons]
  have e : l ++ 13 :: 10 :: jn L ++ t = l ++ 13 :: (10 :: (jn L ++ t)) := by simp
  rw [e]
  exact mark_ext' _ _ _ h (.inr rfl)
theorem jn_first {l : List UInt8} {L : List (List UInt8)} (h : Lib.hasPrefix (jn (l :: L)) mark3 = false) : Lib.hasPrefix l mark3 = false := by
  rw [jn_cons] at h; exact mark_of h
theorem numbered_append : ∀ (n : Nat) (A B : List (List UInt8)), numbered n (A ++ B) = numbered n A ++ numbered (n + A.length) B
  | n, [], B => rfl
  | n, a :: A, B => by
    rw [List.cons_append, numbered, numbered_append (n + 1) A B, numbered, List.cons_append, List.length_cons]
    congr 3
    omega
theorem rowsOf_append (A B : List (Int × ByteArray)) : rowsOf (A ++ B) = rowsOf A ++ rowsOf B := by simp [rowsOf]
theorem rowOf_line {n : Int} {l : ByteArray} : ∀ r ∈ rowOf n l, r.1 = n := by
  intro r hr
  unfold rowOf at hr
  split at hr
  · cases hr
  simp at hr; subst hr; rfl
theorem rows_line {n : Nat} {L : List (List UInt8)} : ∀ r ∈ rowsOf (numbered n L), (n : Int) ≤ r.1 ∧ r.1 < (n : Int) + L.length := by
  intro r hr
  unfold rowsOf at hr
  obtain ⟨x, hx, hr⟩ := List.mem_flatMap.1 hr
  have := numbered_at n L x hx
  rw [rowOf_line r hr]; exact this
theorem rowOf_shift (σ : Int → Int) (n m : Int) (l : ByteArray) (h : σ n = m) : rowOf m l = (rowOf n l).map (shR σ) := by
  unfold rowOf
  split
  · rfl
  simp [shR, h]
theorem rows_shift (σ : Int → Int) (k : Nat) : ∀ (n : Nat) (L : List (List UInt8)), (∀ i : Nat, n ≤ i → i < n + L.length → σ i = i + k) → rowsOf (numbered (n + k) L) = (rowsOf (numbered n L)).map (shR σ)
  | n, [], _ => rfl
  | n, l :: L, h => by
    have ih := rows_shift σ k (n + 1) L (fun i h1 h2 => h i (by omega) (by rw [List.length_cons]; omega))
    have e : n + k + 1 = n + 1 + k := by omega
    have e1 : rowsOf (numbered (n + k) (l :: L)) = rowOf ((n + k : Nat) : Int) (clamp (mkS l)) ++ rowsOf (numbered (n + k + 1) L) := by rw [numbered]; simp [rowsOf]
    have e2 : rowsOf (numbered n (l :: L)) = rowOf (n : Int) (clamp (mkS l)) ++ rowsOf (numbered (n + 1) L) := by rw [numbered]; simp [rowsOf]
    rw [e1, e2, e, ih, List.map_append, rowOf_shift σ n ((n + k : Nat) : Int) _ (by rw [h n (by omega) (by rw [List.length_cons]; omega)]; omega)]
def affL (L : List (List UInt8)) : Except (Int × Int) Fl := affEnd (readGo (L.length + 1) (rowsOf (numbered 1 L)).length ⟨fl0, rowsOf (numbered 1 L), [], 0⟩)
theorem affR_lines {t : List UInt8} (h : t.length ≤ 65536) : affR t = affL (linesOf t) := by
  rw [affR_small t (by omega), affL, eachOf, if_neg (by omega)]
theorem affR_jn {L : List (List UInt8)} {t : List UInt8} (hL : ∀ l ∈ L, (10 : UInt8) ∉ l) (hn : (jn L ++ t).length ≤ 65536) (hm : Lib.hasPrefix (jn L ++ t) mark3 = false) : affR (jn L ++ t) = affL (L ++ rgo t []) := by
  rw [affR_lines hn, ← rgo_lines, unmarked_no hm, rgo_jn L t hL]
def SaidAs (σ : Int → Int) : Except (Int × Int) Fl → Except (Int × Int) Fl → Prop
  | .error (l, c), b => b = .error (σ l, c)
  | .ok F, b => b = .ok (shF σ F)
theorem affEnd_sh (σ : Int → Int) (x : RX) : SaidAs σ (affEnd x) (affEnd (shX σ x)) := by
  cases x with
  | error e => exact rfl
  | ok S =>
    show SaidAs σ (match checkE S.fl with
      | some line => .error (line, 118)
      | none => .ok S.fl) (match checkE (shF σ S.fl) with
      | some line => .error (line, 118)
      | none => .ok (shF σ S.fl))
    rw [check_sh]
    cases checkE S.fl <;> exact rfl
theorem rowOf_empty (n : Int) : rowOf n (clamp (mkS [])) = [] := by
  unfold rowOf; rw [if_pos]; rfl
theorem rowOf_blank (n : Int) : rowOf n (clamp (mkS [32, 9])) = [] := by
  unfold rowOf; rw [if_pos]; rfl
theorem fgo_head : ∀ (l : List UInt8) (b : UInt8) (d : List UInt8), ∃ m r, fgo l (some (b :: d)) = (b :: m) :: r
  | [], b, d => ⟨d, [], rfl⟩
  | x :: l, b, d => by
    rw [fgo]
    split
    · exact ⟨d, _, rfl⟩
    · exact fgo_head l b (d ++ [x])
theorem rowOf_note (n : Int) (l : List UInt8) : rowOf n (clamp (mkS (35 :: l))) = [] := by
  unfold clamp
  split
  · unfold rowOf
    rw [if_pos]
    obtain ⟨m, r, hm⟩ := fgo_head l 35 []
    have e : fieldsS (mkS (35 :: l)) = mkS (35 :: m) :: r.map mkS := by
      unfold fieldsS fieldsOf
      show (fgo (35 :: l) none).map mkS = _
      rw [fgo, if_neg (by decide), hm]
      rfl
    rw [e, keptS, List.takeWhile_cons_of_neg]
    simp [sharp]
    rfl
  exact rowOf_empty n
def more3 (L : List (List UInt8)) (k : Nat) (note : List UInt8) : List (List UInt8) := L.take k ++ [[], 35 :: note, [32, 9]] ++ L.drop k
def sig3 (k : Nat) (x : Int) : Int := if (k : Int) < x then x + 3 else x
theorem rows_more (L : List (List UInt8)) (k : Nat) (hk : k ≤ L.length) (note : List UInt8) : rowsOf (numbered 1 (more3 L k note)) = (rowsOf (numbered 1 L)).map (shR (sig3 k)) := by
  have hl : (L.take k).length = k := by rw [List.length_take]; omega
  unfold more3
  rw [List.append_assoc, numbered_append, rowsOf_append, hl, numbered_append, rowsOf_append]
  have e0 : rowsOf (numbered (1 + k) [[], 35 :: note, [32, 9]]) = [] := by
    simp only [numbered, rowsOf, List.flatMap_cons, List.flatMap_nil, rowOf_empty, rowOf_note, rowOf_blank, List.append_nil]
  rw [e0, List.nil_append]
  have e1 : rowsOf (numbered 1 L) = rowsOf (numbered 1 (L.take k)) ++ rowsOf (numbered (1 + k) (L.drop k)) := by
    have := numbered_append 1 (L.take k) (L.drop k)
    rw [List.take_append_drop, hl] at this
    rw [this, rowsOf_append]
  rw [e1, List.map_append]
  congr 1
  · have := rows_shift (sig3 k) 0 1 (L.take k) (fun i h1 h2 => by unfold sig3; rw [if_neg (by omega)]; omega)
    rwa [Nat.add_zero] at this
  have := rows_shift (sig3 k) 3 (1 + k) (L.drop k) (fun i h1 h2 => by unfold sig3; rw [if_pos (by omega)]; omega)
  exact this
theorem more_len (L : List (List UInt8)) (k : Nat) (hk : k ≤ L.length) (note : List UInt8) : (more3 L k note).length = L.length + 3 := by
  unfold more3
  simp
  omega
theorem affL_more (L : List (List UInt8)) (k : Nat) (hk : k ≤ L.length) (note : List UInt8) : SaidAs (sig3 k) (affL L) (affL (more3 L k note)) := by
  have e : affL (more3 L k note) = affEnd (shX (sig3 k) (readGo (L.length + 1) (rowsOf (numbered 1 L)).length ⟨fl0, rowsOf (numbered 1 L), [], 0⟩)) := by
    rw [← read_sh]
    unfold affL
    rw [more_len L k hk, rows_more L k hk]
    have h1 : sig3 k (L.length + 1) = ((L.length + 3 : Nat) : Int) + 1 := by unfold sig3; rw [if_pos (by omega)]; omega
    have h2 : shS (sig3 k) ⟨fl0, rowsOf (numbered 1 L), [], 0⟩ = ⟨fl0, (rowsOf (numbered 1 L)).map (shR (sig3 k)), [], 0⟩ := by
      show Sx.mk fl0 _ _ (sig3 k 0) = _
      have : sig3 k 0 = 0 := by unfold sig3; rw [if_neg (by omega)]
      rw [this]
    rw [h1, h2, List.length_map]
  rw [e]
  exact affEnd_sh _ _
end Go.Proofs.YtkdajhmlhjkcdaaGreatDoor
namespace Go.Proofs.YtkdajhmlhjkcdaaGreatDoor
open Go.RowKit Go.Maps
theorem mkS_app (a b : List UInt8) : mkS a ++ mkS b = mkS (a ++ b) := by simp [mkS, ByteArray.ext_iff]
theorem jn_snoc (L : List (List UInt8)) (l : List UInt8) : jn (L ++ [l]) = jn L ++ (l ++ [13, 10]) := by simp [jn]
theorem jn_take_le (L : List (List UInt8)) (k : Nat) : (jn (L.take k)).length ≤ (jn L).length := by
  conv => rhs; rw [← List.take_append_drop k L]
  unfold jn
  rw [List.flatMap_append, List.length_append]; omega
set_option maxHeartbeats 2000000 in
set_option maxRecDepth 100000 in
theorem so_joined (v : Value) (L : List (List UInt8)) (w : World) (h : Rd w 1 v L.length (strV (L.map mkS))) (hn : L.length ≤ 140737488351232) (hj : (jn L).length ≤ 281474976710656) :
    Calls Tryz.prog 26 #[v] w fun e w' => e = .returned (.string (mkS (jn L))) ∧ w = w' := by
  obtain ⟨-, A, cap, rfl, hcap, hc⟩ := h
  have HC := Lib.hid hc
  clear hc
  go_enter Tryz.func26, Tryz.ntmps26
  go_wp2_with fail
  go_loop [3, 5, 8] (fun s _ x => ∃ k : Nat, k ≤ L.length ∧ x = .int .i64 k ∧ s = .string (mkS (jn (L.take k)))) (fun _ _ x => L.length - (intOf x).toNat)
  case atStart => exact ⟨0, Nat.zero_le _, rfl, rfl⟩
  case round =>
  obtain ⟨k, hk, rfl, rfl⟩ := hrel
  by_cases hlt : k < L.length
  · obtain ⟨g, o, rfl, hc⟩ := HC.out.resolve_left (by omega)
    have d : w.cell? ⟨g, o + k, none⟩ = some (.string (mkS L[k])) := hc k _ (by simp [strV, hlt])
    clear hc
    have HE : Hid (mkS (jn (L.take k)) ++ (mkS L[k] ++ (⟨#[13, 10]⟩ : ByteArray)) = mkS (jn (L.take (k + 1)))) := Lib.hid (by
      have e : (⟨#[13, 10]⟩ : ByteArray) = mkS [13, 10] := rfl
      rw [e, mkS_app, mkS_app, List.take_add_one, List.getElem?_eq_getElem hlt]
      rw [Option.toList_some, jn_snoc])
    obtain ⟨T1, hT1⟩ : ∃ T, mkS L[k] ++ (⟨#[13, 10]⟩ : ByteArray) = T := ⟨_, rfl⟩
    obtain ⟨T2, hT2⟩ : ∃ T, mkS (jn (L.take k)) ++ T1 = T := ⟨_, rfl⟩
    have HE2 : Hid (T2 = mkS (jn (L.take (k + 1)))) := Lib.hid (by rw [← hT2, ← hT1]; exact HE.out)
    have hz2 : T2.size ≤ 281474976710656 := by
      rw [HE2.out, mkS_size]
      exact Nat.le_trans (jn_take_le L (k + 1)) hj
    have hz1 : T1.size ≤ 281474976710656 := by
      rw [← hT2, ByteArray.size_append] at hz2; omega
    have hz3 : (mkS L[k]).size + 2 ≤ 9223372036854775807 := by
      rw [← hT1, ByteArray.size_append] at hz1
      have : (⟨#[13, 10]⟩ : ByteArray).size = 2 := rfl
      omega
    have hz4 : (mkS (jn (L.take k))).size + T1.size ≤ 9223372036854775807 := by
      rw [← hT2, ByteArray.size_append] at hz2; omega
    go_wp2_with fail
    go_round
    case rel => exact ⟨k + 1, by omega, by go_num, by rw [HE2.out]⟩
    case measure => simp [intOf]; omega
  obtain rfl : k = L.length := by omega
  rw [List.take_length]
  go_wp2_with fail
  go_ret
  exact ⟨rfl, rfl⟩
end Go.Proofs.YtkdajhmlhjkcdaaGreatDoor
namespace Go.Proofs.YtkdajhmlhjkcdaaGreatDoor
open Go.RowKit Go.Maps
theorem jn_len (b : Nat) : ∀ (L : List (List UInt8)), (∀ l ∈ L, l.length ≤ b) → (jn L).length ≤ L.length * (b + 2)
  | [], _ => by simp [jn]
  | l :: L, h => by
    have h1 := h l (by simp)
    have h2 := jn_len b L (fun x hx => h x (by simp [hx]))
    rw [jn_cons, List.length_append, List.length_cons, List.length_cons, List.length_cons, Nat.add_mul]
    omega
theorem Rd.lines_take {w : World} {A : Option Addr} {cap n : Nat} {L : List (List UInt8)} (h : Rd w 1 (.slice A n cap) n (strV (L.map mkS))) (hn : L.length = n) (k : Nat) (hk : k ≤ n) : Rd w 1 (.slice A k cap) (L.take k).length (strV ((L.take k).map mkS)) := by
  obtain ⟨-, A', cap', hv, hcap, h2⟩ := h
  cases hv
  have hl : (L.take k).length = k := by rw [List.length_take]; omega
  rw [hl]
  refine ⟨by simp [strV]; omega, A, cap, rfl, by omega, ?_⟩
  rcases Nat.eq_zero_or_pos k with h0 | h0
  · exact .inl h0
  obtain ⟨g, o, hA, h3⟩ := h2.resolve_left (by omega)
  refine .inr ⟨g, o, hA, fun j u hj => h3 j u ?_⟩
  have hlt : j < k := by
    have := (List.getElem?_eq_some_iff.1 hj).1
    simp [strV] at this
    omega
  rw [← hj]
  simp [strV, List.getElem?_map, List.getElem?_take, hlt]
theorem affR_jn0 {L : List (List UInt8)} (hL : ∀ l ∈ L, (10 : UInt8) ∉ l) (hn : (jn L).length ≤ 65536) (hm : Lib.hasPrefix (jn L) mark3 = false) : affR (jn L) = affL L := by
  have h := affR_jn (L := L) (t := []) hL (by rw [List.append_nil]; exact hn) (by rw [List.append_nil]; exact hm)
  rw [List.append_nil] at h
  rw [h, rgo, if_pos rfl, List.append_nil]
end Go.Proofs.YtkdajhmlhjkcdaaGreatDoor
namespace Go.Proofs.YtkdajhmlhjkcdaaGreatDoor
open Go.RowKit Go.Maps
theorem spec_neq (a b c d e : Int) (w : World) : (binOp .neq 35 (.agg #[.int .u16 a, .int .u16 b, .int .u16 c, .int .u16 d, .int .u16 e]) (.agg #[.int .u16 a, .int .u16 b, .int .u16 c, .int .u16 d, .int .u16 e])).run Tryz.prog w = .ok (.bool false) w := by
  have h : (Op.equalIn 10000 35 (.agg #[.int .u16 a, .int .u16 b, .int .u16 c, .int .u16 d, .int .u16 e]) (.agg #[.int .u16 a, .int .u16 b, .int .u16 c, .int .u16 d, .int .u16 e])).run Tryz.prog w = .ok true w := by
    rw [Op.equalIn]
    have e5 : List.range' 0 5 = [0, 1, 2, 3, 4] := by decide
    simp [go_sem, e5]
  rw [run_neq_struct, h]; rfl
theorem lint_info : (Tryz.prog.info? 3).map (fun i => (i.zero, i.size, i.bytes)) = some (some (.int .i64 0), 1, 8) := by kernel_rfl
set_option maxHeartbeats 2000000 in
set_option maxRecDepth 100000 in
theorem so_lints (v : Value) (zs : List Int) (w : World) (h : FS w v zs) (hbd : ∀ x ∈ zs, 0 ≤ x ∧ x ≤ 65535) (hbig : zs.length * 8 ≤ 140737488355328) :
    Calls Tryz.prog 29 #[v] w fun e w' => ∃ v', e = .returned v' ∧ IS w' v' zs ∧ Below w.heap.size w w' := by
  obtain ⟨i0, hi, hz0, hz1, hz2⟩ := info_parts lint_info
  obtain ⟨p, c, rfl, hcap, hs⟩ := h
  have hS := Lib.hid hs
  have hD := Lib.hid hbd
  clear hs hbd
  go_enter Tryz.func29, Tryz.ntmps29
  go_wp2_with fail
  go_loopw [3, 5, 8] (fun s _ i wr => ∃ k : Nat, k ≤ zs.length ∧ i = .int .i64 k ∧ Hid (wr.ownsRow w.heap.size 3 1 s k ((zs.take k).map (Value.int .i64))) ∧ Hid (Below w.heap.size w wr)) (fun _ _ i _ => zs.length - (intOf i).toNat)
  case atStart => exact ⟨0, Nat.zero_le _, rfl, World.ownsRow_nil _ _ _ _, Below.refl _ _⟩
  case round =>
  obtain ⟨k, hk, rfl, HO, HB⟩ := hrel
  have hsz := HB.out.size
  by_cases hlt : k < zs.length
  · obtain ⟨b, off, rfl, hc⟩ := hS.out.resolve_left (by omega)
    have c0 := hc k hlt
    have hcell := (HB.out.cell (World.block_lt_of_cell? w _ c0)).trans c0
    have he : zs.getD k 0 = zs[k] := by simp [List.getD, hlt]
    rw [he] at hcell
    obtain ⟨z0, z1⟩ := hD.out zs[k] (List.getElem_mem hlt)
    have HM := Lib.hid (show (zs.take (k + 1)).map (Value.int .i64) = (zs.take k).map (Value.int .i64) ++ [Value.int .i64 zs[k]] by rw [List.take_add_one, List.getElem?_eq_getElem hlt, List.map_append]; rfl)
    clear hc c0 he
    generalize hz : zs[k] = z at *
    clear hz
    go_wp2_with (at_builtin; refine wpList_push1 rfl _ _ 60 rfl w.heap.size 3 i0 (.int .i64 0) 8 Tryz.underlying60 hi hz0 hz1 hz2 rfl _ k _ rfl HO.out _ rfl rfl ?c3 ?c4 hsz ?_)
    case c3 => unfold maxLen; omega
    case c4 => omega
    intro gg cap w2 hown hg
    have HO2 := Lib.hid hown
    have HB2 := Lib.hid (below_push HB.out HO.out hg (Nat.le_refl _) hsz)
    clear hown hg
    go_wp2_with fail
    go_roundw
    case rel => exact ⟨k + 1, by omega, by go_num, (by show World.ownsRow _ _ _ _ _ _ _; rw [HM.out, List.map_take]; exact HO2.out), HB2.out⟩
    case measure => simp [intOf]; omega
  have hke : k = zs.length := by omega
  subst hke
  rw [List.take_length] at HO
  go_wp2_with fail
  go_ret
  exact ⟨_, rfl, IS.of_own (e := 3) HO.out, HB.out⟩
end Go.Proofs.YtkdajhmlhjkcdaaGreatDoor
namespace Go.Proofs.YtkdajhmlhjkcdaaGreatDoor
open Go.RowKit Go.Maps
def RuC (W : World) (g : Nat) (r : Rl) (X : Value) : Prop := W.cell? ⟨g, 0, none⟩ = some (.int .i64 r.kind) ∧ W.cell? ⟨g, 1, none⟩ = some (.int .u16 r.flag) ∧ W.cell? ⟨g, 2, none⟩ = some (.bool r.cross) ∧ W.cell? ⟨g, 3, none⟩ = some (.string r.strip) ∧ W.cell? ⟨g, 4, none⟩ = some (.string r.add) ∧ W.cell? ⟨g, 5, none⟩ = some (.string r.cond) ∧ W.cell? ⟨g, 6, none⟩ = some (X)
theorem keepc {w w' : World} {a : Addr} {v : Value} (h : Below w.heap.size w w') (hc : w.cell? a = some v) : w'.cell? a = some v := (h.cell (World.block_lt_of_cell? _ _ hc)).trans hc
theorem RuC.keep {w w' : World} {g : Nat} {r : Rl} {X : Value} (h : RuC w g r X) (hb : Below w.heap.size w w') : RuC w' g r X := by
  obtain ⟨c0, c1, c2, c3, c4, c5, c6⟩ := h
  exact ⟨keepc hb c0, keepc hb c1, keepc hb c2, keepc hb c3, keepc hb c4, keepc hb c5, keepc hb c6⟩
theorem two_rules (w : World) (r : Rl) (X Y : Value) (t : TypeId) : RuC ((w.alloc (.cells #[.int .i64 r.kind, .int .u16 r.flag, .bool r.cross, .string r.strip, .string r.add, .string r.cond, X] t)).alloc (.cells #[.int .i64 r.kind, .int .u16 r.flag, .bool r.cross, .string r.strip, .string r.add, .string r.cond, Y] t)).drew w.heap.size r X ∧ RuC ((w.alloc (.cells #[.int .i64 r.kind, .int .u16 r.flag, .bool r.cross, .string r.strip, .string r.add, .string r.cond, X] t)).alloc (.cells #[.int .i64 r.kind, .int .u16 r.flag, .bool r.cross, .string r.strip, .string r.add, .string r.cond, Y] t)).drew (w.heap.size + 1) r Y := by
  have h1 := heap_alloc_new w (.cells #[.int .i64 r.kind, .int .u16 r.flag, .bool r.cross, .string r.strip, .string r.add, .string r.cond, X] t)
  have h2 := heap_alloc_new (w.alloc (.cells #[.int .i64 r.kind, .int .u16 r.flag, .bool r.cross, .string r.strip, .string r.add, .string r.cond, X] t)) (.cells #[.int .i64 r.kind, .int .u16 r.flag, .bool r.cross, .string r.strip, .string r.add, .string r.cond, Y] t)
  have h3 := (((Below.refl _ (w.alloc (.cells #[.int .i64 r.kind, .int .u16 r.flag, .bool r.cross, .string r.strip, .string r.add, .string r.cond, X] t))).alloc (Nat.le_refl _) (.cells #[.int .i64 r.kind, .int .u16 r.flag, .bool r.cross, .string r.strip, .string r.add, .string r.cond, Y] t)).block _ (block_lt h1)).trans h1
  have hs : (w.alloc (.cells #[.int .i64 r.kind, .int .u16 r.flag, .bool r.cross, .string r.strip, .string r.add, .string r.cond, X] t)).heap.size = w.heap.size + 1 := by simp
  rw [hs] at h2
  have k1 := fun j => Lib.cell_of_heap (w := ((w.alloc (.cells #[.int .i64 r.kind, .int .u16 r.flag, .bool r.cross, .string r.strip, .string r.add, .string r.cond, X] t)).alloc (.cells #[.int .i64 r.kind, .int .u16 r.flag, .bool r.cross, .string r.strip, .string r.add, .string r.cond, Y] t)).drew) h3 j
  have k2 := fun j => Lib.cell_of_heap (w := ((w.alloc (.cells #[.int .i64 r.kind, .int .u16 r.flag, .bool r.cross, .string r.strip, .string r.add, .string r.cond, X] t)).alloc (.cells #[.int .i64 r.kind, .int .u16 r.flag, .bool r.cross, .string r.strip, .string r.add, .string r.cond, Y] t)).drew) h2 j
  exact ⟨⟨k1 0, k1 1, k1 2, k1 3, k1 4, k1 5, k1 6⟩, ⟨k2 0, k2 1, k2 2, k2 3, k2 4, k2 5, k2 6⟩⟩
set_option maxHeartbeats 8000000 in
set_option maxRecDepth 100000 in
theorem so_equal (F : Fl) (a b : AV) (w : World) (ha : AffR w F a) (hb : AffR w F b) (hok : FlOk F) :
    Calls Tryz.prog 27 #[affV F a, affV F b] w fun e w' => e = .returned (.bool true) ∧ Below w.heap.size w w' := by
  have HK : Hid (∀ W, Below ((w.alloc (.cells (affA F a) 41)).alloc (.cells (affA F b) 41)).heap.size ((w.alloc (.cells (affA F a) 41)).alloc (.cells (affA F b) 41)) W → ∀ j, W.cell? ⟨w.heap.size, j, none⟩ = (affA F a)[j]? ∧ W.cell? ⟨w.heap.size + 1, j, none⟩ = (affA F b)[j]?) := Lib.hid (fun W hW j => by
    have h1 := heap_alloc_new w (.cells (affA F a) 41)
    have h2 := heap_alloc_new (w.alloc (.cells (affA F a) 41)) (.cells (affA F b) 41)
    have h3 := (((Below.refl _ (w.alloc (.cells (affA F a) 41))).alloc (Nat.le_refl _) (.cells (affA F b) 41)).block _ (block_lt h1)).trans h1
    have hs : (w.alloc (.cells (affA F a) 41)).heap.size = w.heap.size + 1 := by simp
    rw [hs] at h2
    exact ⟨Lib.cell_of_heap ((hW.block _ (block_lt h3)).trans h3) j, Lib.cell_of_heap ((hW.block _ (block_lt h2)).trans h2) j⟩)
  have HB1 : Hid (Below w.heap.size w ((w.alloc (.cells (affA F a) 41)).alloc (.cells (affA F b) 41))) := Lib.hid (((Below.refl _ _).alloc (Nat.le_refl _) _).alloc (by simp) _)
  obtain ⟨vr, va, vc, vl⟩ := a
  obtain ⟨ur, ua, uc, ul⟩ := b
  obtain ⟨a1, a2, a3, a4⟩ := ha
  obtain ⟨q1, q2, q3, q4⟩ := hb
  dsimp only at a1 a2 a3 a4 q1 q2 q3 q4
  have HR1 := Lib.hid a1
  have HR2 := Lib.hid a2
  have HR3 := Lib.hid a3
  have HR4 := Lib.hid a4
  have HQ1 := Lib.hid q1
  have HQ2 := Lib.hid q2
  have HQ3 := Lib.hid q3
  have HQ4 := Lib.hid q4
  obtain ⟨rs, hrs, a4, -⟩ := a4
  obtain ⟨qs, hqs, q4, -⟩ := q4
  have hrn : rs.length = F.rls.length := by rw [← hrs]; simp
  have hqn : qs.length = F.rls.length := by rw [← hqs]; simp
  obtain ⟨us, a2, -⟩ := a2
  obtain ⟨ps, q2, -⟩ := q2
  obtain ⟨-, Ar, kr, rfl, -⟩ := a1
  obtain ⟨-, Aa, ka, rfl, -⟩ := a2
  obtain ⟨-, Ac, kc, rfl, -⟩ := a3
  obtain ⟨-, Al, kl, rfl, -⟩ := a4
  obtain ⟨-, Br, br, rfl, -⟩ := q1
  obtain ⟨-, Ba, ba, rfl, -⟩ := q2
  obtain ⟨-, Bc, bc, rfl, -⟩ := q3
  obtain ⟨-, Bl, bl, rfl, -⟩ := q4
  rw [hrn] at HK HB1 HR4 ⊢
  rw [hqn] at HK HB1 HQ4 ⊢
  have HOk := Lib.hid hok
  obtain ⟨n1, hn1⟩ : ∃ n, F.reps.length = n := ⟨_, rfl⟩
  obtain ⟨n2, hn2⟩ : ∃ n, F.als.length = n := ⟨_, rfl⟩
  obtain ⟨n3, hn3⟩ : ∃ n, F.cls.length = n := ⟨_, rfl⟩
  obtain ⟨n4, hn4⟩ : ∃ n, F.rls.length = n := ⟨_, rfl⟩
  have hb1 : n1 ≤ 65536 := by rw [← hn1]; exact hok.reps
  have hb2 : n2 ≤ 65536 := by rw [← hn2]; exact hok.als
  have hb3 : n3 ≤ 65536 := by rw [← hn3]; exact hok.cls
  have hb4 : n4 ≤ 65536 := by rw [← hn4]; exact hok.rls
  rw [hn1, hn2, hn3, hn4] at HK HB1 ⊢
  rw [hn1] at HR1 HQ1
  rw [hn2] at HR2 HQ2
  rw [hn3] at HR3 HQ3
  rw [hn4] at HR4 HQ4
  have HN1 := Lib.hid hn1
  have HN2 := Lib.hid hn2
  have HN3 := Lib.hid hn3
  have HN4 := Lib.hid hn4
  unfold affV affA at *
  obtain ⟨w1, hw1⟩ : ∃ W, (w.alloc (.cells #[.int .i64 F.kind, .string F.charset, .string F.tryT, .int .u16 F.s0, .int .u16 F.s1, .int .u16 F.s2, .int .u16 F.s3, .int .u16 F.s4, .int .i64 F.least, .slice Ar n1 kr, .slice Aa n2 ka, .slice Ac n3 kc, .slice Al n4 kl] 41)).alloc (.cells #[.int .i64 F.kind, .string F.charset, .string F.tryT, .int .u16 F.s0, .int .u16 F.s1, .int .u16 F.s2, .int .u16 F.s3, .int .u16 F.s4, .int .i64 F.least, .slice Br n1 br, .slice Ba n2 ba, .slice Bc n3 bc, .slice Bl n4 bl] 41) = W := ⟨_, rfl⟩
  rw [hw1] at HK HB1
  have HW1 := Lib.hid hw1
  clear hok hrs hqs hrn hqn hn1 hn2 hn3 hn4 hw1
  have qsp := spec_neq F.s0 F.s1 F.s2 F.s3 F.s4
  go_enter Tryz.func27, Tryz.ntmps27
  go_upto_region 1 with fail
  rw [HW1.out]
  have s0 := HK.out w1 (Below.refl _ _) 0
  have s1 := HK.out w1 (Below.refl _ _) 1
  have s2 := HK.out w1 (Below.refl _ _) 2
  have s3 := HK.out w1 (Below.refl _ _) 3
  have s4 := HK.out w1 (Below.refl _ _) 4
  have s5 := HK.out w1 (Below.refl _ _) 5
  have s6 := HK.out w1 (Below.refl _ _) 6
  have s7 := HK.out w1 (Below.refl _ _) 7
  have s8 := HK.out w1 (Below.refl _ _) 8
  have s9 := HK.out w1 (Below.refl _ _) 9
  have s10 := HK.out w1 (Below.refl _ _) 10
  have s11 := HK.out w1 (Below.refl _ _) 11
  have s12 := HK.out w1 (Below.refl _ _) 12
  simp only [List.getElem?_toArray, List.getElem?_cons_zero, List.getElem?_cons_succ] at s0 s1 s2 s3 s4 s5 s6 s7 s8 s9 s10 s11 s12
  obtain ⟨s0, t0⟩ := s0
  obtain ⟨s1, t1⟩ := s1
  obtain ⟨s2, t2⟩ := s2
  obtain ⟨s3, t3⟩ := s3
  obtain ⟨s4, t4⟩ := s4
  obtain ⟨s5, t5⟩ := s5
  obtain ⟨s6, t6⟩ := s6
  obtain ⟨s7, t7⟩ := s7
  obtain ⟨s8, t8⟩ := s8
  obtain ⟨s9, t9⟩ := s9
  obtain ⟨s10, t10⟩ := s10
  obtain ⟨s11, t11⟩ := s11
  obtain ⟨s12, t12⟩ := s12
  go_wp2_with fail
  clear s0 s1 s2 s3 s4 s5 s6 s7 s8 s9 s10 s11 s12 t0 t1 t2 t3 t4 t5 t6 t7 t8 t9 t10 t11 t12 qsp
  go_loopw [5, 81] (fun _ x wr => ∃ k : Nat, k ≤ n1 ∧ x = .int .i64 k ∧ Hid (Below w1.heap.size w1 wr)) (fun _ x _ => n1 - (intOf x).toNat)
  case atStart => exact ⟨0, Nat.zero_le _, rfl, Lib.hid (Below.refl _ _)⟩
  case round =>
  obtain ⟨k, hk, rfl, HBz⟩ := hrel
  by_cases hlt : k < n1
  · have hk1 : k < F.reps.length := by rw [HN1.out]; exact hlt
    obtain ⟨g1, o1, cp1, hv1, hc1⟩ := HR1.out.at_ (by omega)
    obtain ⟨g2, o2, cp2, hv2, hc2⟩ := HQ1.out.at_ (by omega)
    cases hv1
    cases hv2
    obtain ⟨y0, y1⟩ := rep_at F.reps k hk1
    have HBw := HB1.out.trans (HBz.out.mono HB1.out.size)
    have d0 := (HBw.cell (World.block_lt_of_cell? _ _ (hc1 _ _ y0))).trans (hc1 _ _ y0)
    have d1 := (HBw.cell (World.block_lt_of_cell? _ _ (hc1 _ _ y1))).trans (hc1 _ _ y1)
    have f0 := (HBw.cell (World.block_lt_of_cell? _ _ (hc2 _ _ y0))).trans (hc2 _ _ y0)
    have f1 := (HBw.cell (World.block_lt_of_cell? _ _ (hc2 _ _ y1))).trans (hc2 _ _ y1)
    rw [← Nat.add_assoc] at d1 f1
    have s9 := HK.out wr HBz.out 9
    simp only [List.getElem?_toArray, List.getElem?_cons_zero, List.getElem?_cons_succ] at s9
    obtain ⟨s9, t9⟩ := s9
    have hkn : (k : Int) < (n1 : Int) := by omega
    clear hc1 hc2 y0 y1 HBw
    generalize F.reps[k] = p at *
    go_wp2_with fail
    go_quiet (fail)
    go_wp2_with fail
    go_roundw
    case rel => exact ⟨k + 1, by omega, by go_num, Lib.hid (below_drewN HBz.out _)⟩
    case measure => simp [intOf]; omega
  obtain rfl : k = n1 := by omega
  have s10 := (HK.out wr HBz.out 10).1
  simp only [List.getElem?_toArray, List.getElem?_cons_zero, List.getElem?_cons_succ] at s10
  go_wp2_with fail
  clear s10
  go_loopw [6, 99] (fun _ x wr => ∃ k : Nat, k ≤ n2 ∧ x = .int .i64 k ∧ Hid (Below w1.heap.size w1 wr)) (fun _ x _ => n2 - (intOf x).toNat)
  case atStart => exact ⟨0, Nat.zero_le _, rfl, HBz⟩
  case round =>
  obtain ⟨j, hj, rfl, HBy⟩ := hrel
  clear HBz
  by_cases hlt : j < n2
  · have hj1 : j < F.als.length := by rw [HN2.out]; exact hlt
    obtain ⟨us, hr1, hl1, hf1⟩ := HR2.out
    obtain ⟨ps, hr2, hl2, hf2⟩ := HQ2.out
    obtain ⟨g1, o1, cp1, hv1, hc1⟩ := hr1.at_ (by omega)
    obtain ⟨g2, o2, cp2, hv2, hc2⟩ := hr2.at_ (by omega)
    cases hv1
    cases hv2
    have gu : us[j]? = some us[j] := List.getElem?_eq_getElem (by omega)
    have gp : ps[j]? = some ps[j] := List.getElem?_eq_getElem (by omega)
    have ga : F.als[j]? = some F.als[j] := List.getElem?_eq_getElem hj1
    have HBw := HB1.out.trans (HBy.out.mono HB1.out.size)
    have d0 := (HBw.cell (World.block_lt_of_cell? _ _ (hc1 _ _ gu))).trans (hc1 _ _ gu)
    have f0 := (HBw.cell (World.block_lt_of_cell? _ _ (hc2 _ _ gp))).trans (hc2 _ _ gp)
    have k1 := hf1 j _ _ gu ga
    have k2 := hf2 j _ _ gp ga
    have hbz := HOk.out.sets F.als[j] (List.getElem_mem hj1)
    have hbn := canon_len hbz.1 hbz.2
    have HIn : Hid (∀ W, Below wr.heap.size wr W → Calls Tryz.prog 29 #[ps[j]] W fun e w' => ∃ v', e = .returned v' ∧ IS w' v' F.als[j] ∧ Below W.heap.size W w') := Lib.hid (fun W hW => by
      have hz := HBw.trans (hW.mono HBw.size)
      exact so_lints _ F.als[j] W (k2.keep hz) hbz.2 (by omega))
    have HSm : Hid (∀ W v', Below wr.heap.size wr W → IS W v' F.als[j] → Calls Tryz.prog 23 #[us[j], v'] W fun e w' => e = .returned (.bool true) ∧ ∃ n, w' = W.drewN n) := Lib.hid (fun W v' hW hI => by
      have hz := HBw.trans (hW.mono HBw.size)
      exact so_lsame _ _ F.als[j] W (k1.keep hz) hI hbz.2 (by omega))
    obtain ⟨uj, huj⟩ : ∃ x, us[j] = x := ⟨_, rfl⟩
    obtain ⟨pj, hpj⟩ : ∃ x, ps[j] = x := ⟨_, rfl⟩
    rw [huj] at d0 k1 HSm
    rw [hpj] at f0 k2 HIn
    obtain ⟨pa, ca, rfl, -⟩ := k1
    obtain ⟨pb, cb, rfl, -⟩ := k2
    have hD := World.block_lt_of_cell? _ _ d0
    have hF := World.block_lt_of_cell? _ _ f0
    have HS : Hid (∀ W, Below wr.heap.size wr W → W.cell? ⟨w.heap.size, 10, none⟩ = some (.slice (some ⟨g1, o1, none⟩) n2 ka) ∧ W.cell? ⟨w.heap.size + 1, 10, none⟩ = some (.slice (some ⟨g2, o2, none⟩) n2 ba) ∧ W.cell? ⟨g1, o1 + j, none⟩ = some (.slice pa F.als[j].length ca) ∧ W.cell? ⟨g2, o2 + j, none⟩ = some (.slice pb F.als[j].length cb)) := Lib.hid (fun W hW => by
      have hz := HK.out W (HBy.out.trans (hW.mono HBy.out.size)) 10
      exact ⟨hz.1, hz.2, (hW.cell hD).trans d0, (hW.cell hF).trans f0⟩)
    have hjn : (j : Int) < (n2 : Int) := by omega
    have HFn : Hid (∀ W, Below wr.heap.size wr W → Below w1.heap.size w1 W) := Lib.hid (fun W hW => HBy.out.trans (hW.mono HBy.out.size))
    obtain ⟨z, hzz⟩ : ∃ z, F.als[j] = z := ⟨_, rfl⟩
    rw [hzz] at HS HSm HIn
    obtain ⟨ln, hln⟩ : ∃ n, z.length = n := ⟨_, rfl⟩
    rw [hln] at HS HSm HIn
    clear hr1 hl1 hf1 hr2 hl2 hf2 hc1 hc2 gu gp ga HBw d0 f0 hbz hbn huj hpj hD hF hln hzz us ps
    go_upto_region 14 with fail
    go_cut [114] from 102 to 114 (fun p W => p = .bool false ∧ Hid (Below w1.heap.size w1 W))
    case first =>
      refine wp_region_held_drew (S := fun W => W.cell? ⟨w.heap.size, 10, none⟩ = some (.slice (some ⟨g1, o1, none⟩) n2 ka) ∧ W.cell? ⟨w.heap.size + 1, 10, none⟩ = some (.slice (some ⟨g2, o2, none⟩) n2 ba) ∧ W.cell? ⟨g1, o1 + j, none⟩ = some (.slice pa ln ca) ∧ W.cell? ⟨g2, o2 + j, none⟩ = some (.slice pb ln cb)) (by kernel_rfl) ?_ (fun hHeld => ?_)
      · exact HS.out _ drew_below
      refine tkH 0 (some 102) ?_ ?_ hHeld ?_; rotate_left; focus (intro w hSw; (try dsimp only at hSw); go_simp; try with_reducible rfl); try simp only [put_norm]
      refine tkH 1 (some 103) ?_ ?_ hHeld ?_; rotate_left; focus (intro w hSw; (try dsimp only at hSw); go_simp; try with_reducible rfl); try simp only [put_norm]
      refine tkH 2 (some 104) ?_ ?_ hHeld ?_; rotate_left; focus (intro w hSw; (try dsimp only at hSw); go_simp; try with_reducible rfl); try simp only [put_norm]
      refine tkH 3 (some 105) ?_ ?_ hHeld ?_; rotate_left; focus (intro w hSw; (try dsimp only at hSw); go_simp; try with_reducible rfl); try simp only [put_norm]
      refine tkH 4 (some 106) ?_ ?_ hHeld ?_; rotate_left; focus (intro w hSw; (try dsimp only at hSw); go_simp; try with_reducible rfl); try simp only [put_norm]
      refine tkH 5 (some 107) ?_ ?_ hHeld ?_; rotate_left; focus (intro w hSw; (try dsimp only at hSw); go_simp; try with_reducible rfl); try simp only [put_norm]
      refine tkH 6 (some 108) ?_ ?_ hHeld ?_; rotate_left; focus (intro w hSw; (try dsimp only at hSw); go_simp; try with_reducible rfl); try simp only [put_norm]
      refine tkH 7 (some 109) ?_ ?_ hHeld ?_; rotate_left; focus (intro w hSw; (try dsimp only at hSw); go_simp; try with_reducible rfl); try simp only [put_norm]
      refine tkH 8 (some 110) ?_ ?_ hHeld ?_; rotate_left; focus (intro w hSw; (try dsimp only at hSw); go_simp; try with_reducible rfl); try simp only [put_norm]
      refine tkH 9 (some 111) ?_ ?_ hHeld ?_; rotate_left; focus (intro w hSw; (try dsimp only at hSw); go_simp; try with_reducible rfl); try simp only [put_norm]
      refine rdy1 10 (fun K hK => ?_)
      go_simp
      refine (HIn.out _ drew_below).mono ?_
      rintro e w7 ⟨v7, rfl, his, hb7⟩
      have HB7 : Hid (Below wr.heap.size wr w7) := Lib.hid ((drew_below (w := wr)).trans hb7)
      have HI7 := Lib.hid his
      clear his hb7
      refine hK.out _ _ ?_ (fun hHeld => ?_)
      · exact HS.out _ HB7.out
      clear hK K
      refine rdy1 11 (fun K hK => ?_)
      go_simp
      refine (HSm.out _ v7 HB7.out HI7.out).mono ?_
      rintro e w8 ⟨rfl, n8, hw8⟩
      have HB8 : Hid (Below wr.heap.size wr w8) := Lib.hid (by rw [hw8]; exact below_drewN HB7.out _)
      clear hw8
      refine hK.out _ _ ?_ (fun hHeld => ?_)
      · exact HS.out _ HB8.out
      clear hK K
      refine tkH 12 (some 114) ?_ ?_ hHeld ?_; rotate_left; focus (intro w hSw; (try dsimp only at hSw); go_simp; try with_reducible rfl); try simp only [put_norm]
      refine wpAnyH_done (by kernel_rfl) ?_ _
      go_wp2_with fail
      all_goals go_meet
      all_goals exact ⟨rfl, Lib.hid (HFn.out _ HB8.out)⟩
    case rest =>
    obtain ⟨rfl, HB9⟩ := hcut
    go_wp2_with fail
    go_roundw
    case rel => exact ⟨j + 1, by omega, by go_num, HB9⟩
    case measure => simp [intOf]; omega
  obtain rfl : j = n2 := by omega
  have s11 := (HK.out wr HBy.out 11).1
  simp only [List.getElem?_toArray, List.getElem?_cons_zero, List.getElem?_cons_succ] at s11
  go_wp2_with fail
  clear s11
  go_loopw [7, 119] (fun _ x wr => ∃ k : Nat, k ≤ n3 ∧ x = .int .i64 k ∧ Hid (Below w1.heap.size w1 wr)) (fun _ x _ => n3 - (intOf x).toNat)
  case atStart => exact ⟨0, Nat.zero_le _, rfl, HBy⟩
  case round =>
  obtain ⟨m, hm, rfl, HBx⟩ := hrel
  clear HBy
  by_cases hlt : m < n3
  · have hm1 : m < F.cls.length := by rw [HN3.out]; exact hlt
    obtain ⟨g1, o1, cp1, hv1, hc1⟩ := HR3.out.at_ (by omega)
    obtain ⟨g2, o2, cp2, hv2, hc2⟩ := HQ3.out.at_ (by omega)
    cases hv1
    cases hv2
    obtain ⟨y0, y1, y2, y3, y4⟩ := cls_at F.cls m hm1
    have HBw := HB1.out.trans (HBx.out.mono HB1.out.size)
    have HP1 : ∀ (jj : Nat) u, (clsCells F.cls)[jj]? = some u → wr.cell? ⟨g1, o1 + jj, none⟩ = some u := fun jj u h => (HBw.cell (World.block_lt_of_cell? _ _ (hc1 _ _ h))).trans (hc1 _ _ h)
    have HP2 : ∀ (jj : Nat) u, (clsCells F.cls)[jj]? = some u → wr.cell? ⟨g2, o2 + jj, none⟩ = some u := fun jj u h => (HBw.cell (World.block_lt_of_cell? _ _ (hc2 _ _ h))).trans (hc2 _ _ h)
    have d0 := HP1 _ _ y0
    have d1 := HP1 _ _ y1
    have d2 := HP1 _ _ y2
    have d3 := HP1 _ _ y3
    have d4 := HP1 _ _ y4
    have f0 := HP2 _ _ y0
    have f1 := HP2 _ _ y1
    have f2 := HP2 _ _ y2
    have f3 := HP2 _ _ y3
    have f4 := HP2 _ _ y4
    rw [← Nat.add_assoc] at d1 d2 d3 d4 f1 f2 f3 f4
    have s11 := HK.out wr HBx.out 11
    simp only [List.getElem?_toArray, List.getElem?_cons_zero, List.getElem?_cons_succ] at s11
    obtain ⟨s11, t11⟩ := s11
    have hmn : (m : Int) < (n3 : Int) := by omega
    clear hc1 hc2 y0 y1 y2 y3 y4 HBw HP1 HP2
    generalize F.cls[m] = c at *
    go_wp2_with fail
    go_quiet (fail)
    go_wp2_with fail
    go_roundw
    case rel => exact ⟨m + 1, by omega, by go_num, Lib.hid (below_drewN HBx.out _)⟩
    case measure => simp [intOf]; omega
  obtain rfl : m = n3 := by omega
  have s12 := (HK.out wr HBx.out 12).1
  simp only [List.getElem?_toArray, List.getElem?_cons_zero, List.getElem?_cons_succ] at s12
  go_wp2_with fail
  clear s12
  go_loopw [8, 9, 10, 137] (fun _ _ _ x wr => ∃ k : Nat, k ≤ n4 ∧ x = .int .i64 k ∧ Hid (Below w1.heap.size w1 wr)) (fun _ _ _ x _ => n4 - (intOf x).toNat)
  case atStart => exact ⟨0, Nat.zero_le _, rfl, HBx⟩
  case round =>
  obtain ⟨q, hq, rfl, HBv⟩ := hrel
  clear HBx
  by_cases hlt : q < n4
  · obtain ⟨rs, hr1, hr2, hr3⟩ := HR4.out
    obtain ⟨qs, hq1, hq2, hq3⟩ := HQ4.out
    have hqF : q < F.rls.length := by rw [HN4.out]; exact hlt
    have hq5 : q < rs.length := by have h := congrArg List.length hr1; rw [List.length_map] at h; omega
    have hq6 : q < qs.length := by have h := congrArg List.length hq1; rw [List.length_map] at h; omega
    have e1 : rs[q].1 = F.rls[q] := by simp [← hr1]
    have e2 : qs[q].1 = F.rls[q] := by simp [← hq1]
    obtain ⟨g1, o1, cp1, hv1, hc1⟩ := hr2.at_ (by omega)
    obtain ⟨g2, o2, cp2, hv2, hc2⟩ := hq2.at_ (by omega)
    have l1 : rs.length = n4 := by have h := congrArg List.length hr1; rw [List.length_map, HN4.out] at h; exact h
    have l2 : qs.length = n4 := by have h := congrArg List.length hq1; rw [List.length_map, HN4.out] at h; exact h
    rw [l1] at hv1
    rw [l2] at hv2
    clear l1 l2
    cases hv1
    cases hv2
    obtain ⟨y0, y1, y2, y3, y4, y5, y6⟩ := rls_at rs q hq5
    obtain ⟨z0, z1, z2, z3, z4, z5, z6⟩ := rls_at qs q hq6
    have HBw := HB1.out.trans (HBv.out.mono HB1.out.size)
    have k1 := hr3 _ (List.getElem_mem hq5)
    have k2 := hq3 _ (List.getElem_mem hq6)
    rw [e1] at k1 y0 y1 y2 y3 y4 y5
    rw [e2] at k2 z0 z1 z2 z3 z4 z5
    have hnx := HOk.out.nexts F.rls[q] (List.getElem_mem hqF)
    have hnl := canon_len hnx.1 hnx.2
    obtain ⟨u1, hu1⟩ : ∃ x, rs[q].2 = x := ⟨_, rfl⟩
    obtain ⟨u2, hu2⟩ : ∃ x, qs[q].2 = x := ⟨_, rfl⟩
    obtain ⟨r, hr⟩ : ∃ r, F.rls[q] = r := ⟨_, rfl⟩
    rw [hr] at k1 k2 y0 y1 y2 y3 y4 y5 z0 z1 z2 z3 z4 z5 hnx hnl
    rw [hu1] at k1 y6
    rw [hu2] at k2 z6
    have HP1 : ∀ (jj : Nat) u, (rlsCells rs)[jj]? = some u → wr.cell? ⟨g1, o1 + jj, none⟩ = some u := fun jj u h => (HBw.cell (World.block_lt_of_cell? _ _ (hc1 _ _ h))).trans (hc1 _ _ h)
    have HP2 : ∀ (jj : Nat) u, (rlsCells qs)[jj]? = some u → wr.cell? ⟨g2, o2 + jj, none⟩ = some u := fun jj u h => (HBw.cell (World.block_lt_of_cell? _ _ (hc2 _ _ h))).trans (hc2 _ _ h)
    have d0 := HP1 _ _ y0
    have d1 := HP1 _ _ y1
    have d2 := HP1 _ _ y2
    have d3 := HP1 _ _ y3
    have d4 := HP1 _ _ y4
    have d5 := HP1 _ _ y5
    have d6 := HP1 _ _ y6
    have f0 := HP2 _ _ z0
    have f1 := HP2 _ _ z1
    have f2 := HP2 _ _ z2
    have f3 := HP2 _ _ z3
    have f4 := HP2 _ _ z4
    have f5 := HP2 _ _ z5
    have f6 := HP2 _ _ z6
    rw [← Nat.add_assoc] at d1 d2 d3 d4 d5 d6 f1 f2 f3 f4 f5 f6
    have HIn : Hid (∀ W, Below wr.heap.size wr W → Calls Tryz.prog 29 #[u2] W fun e w' => ∃ v', e = .returned v' ∧ IS w' v' r.next ∧ Below W.heap.size W w') := Lib.hid (fun W hW => by
      have hz := HBw.trans (hW.mono HBw.size)
      exact so_lints _ r.next W (k2.keep hz) hnx.2 (by omega))
    have HSm : Hid (∀ W v', Below wr.heap.size wr W → IS W v' r.next → Calls Tryz.prog 23 #[u1, v'] W fun e w' => e = .returned (.bool true) ∧ ∃ n, w' = W.drewN n) := Lib.hid (fun W v' hW hI => by
      have hz := HBw.trans (hW.mono HBw.size)
      exact so_lsame _ _ r.next W (k1.keep hz) hI hnx.2 (by omega))
    obtain ⟨pa, ca, rfl, -⟩ := k1
    obtain ⟨pb, cb, rfl, -⟩ := k2
    have HS : Hid (∀ W, Below wr.heap.size wr W → W.cell? ⟨w.heap.size, 12, none⟩ = some (.slice (some ⟨g1, o1, none⟩) n4 kl) ∧ W.cell? ⟨w.heap.size + 1, 12, none⟩ = some (.slice (some ⟨g2, o2, none⟩) n4 bl) ∧ (W.cell? ⟨g1, o1 + q * 7, none⟩ = some (.int .i64 r.kind) ∧ W.cell? ⟨g1, o1 + q * 7 + 1, none⟩ = some (.int .u16 r.flag) ∧ W.cell? ⟨g1, o1 + q * 7 + 2, none⟩ = some (.bool r.cross) ∧ W.cell? ⟨g1, o1 + q * 7 + 3, none⟩ = some (.string r.strip) ∧ W.cell? ⟨g1, o1 + q * 7 + 4, none⟩ = some (.string r.add) ∧ W.cell? ⟨g1, o1 + q * 7 + 5, none⟩ = some (.string r.cond) ∧ W.cell? ⟨g1, o1 + q * 7 + 6, none⟩ = some (.slice pa r.next.length ca)) ∧ (W.cell? ⟨g2, o2 + q * 7, none⟩ = some (.int .i64 r.kind) ∧ W.cell? ⟨g2, o2 + q * 7 + 1, none⟩ = some (.int .u16 r.flag) ∧ W.cell? ⟨g2, o2 + q * 7 + 2, none⟩ = some (.bool r.cross) ∧ W.cell? ⟨g2, o2 + q * 7 + 3, none⟩ = some (.string r.strip) ∧ W.cell? ⟨g2, o2 + q * 7 + 4, none⟩ = some (.string r.add) ∧ W.cell? ⟨g2, o2 + q * 7 + 5, none⟩ = some (.string r.cond) ∧ W.cell? ⟨g2, o2 + q * 7 + 6, none⟩ = some (.slice pb r.next.length cb))) := Lib.hid (fun W hW => by
      have hz := HK.out W (HBv.out.trans (hW.mono HBv.out.size)) 12
      exact ⟨hz.1, hz.2, ⟨(hW.cell (World.block_lt_of_cell? _ _ d0)).trans d0, (hW.cell (World.block_lt_of_cell? _ _ d1)).trans d1, (hW.cell (World.block_lt_of_cell? _ _ d2)).trans d2, (hW.cell (World.block_lt_of_cell? _ _ d3)).trans d3, (hW.cell (World.block_lt_of_cell? _ _ d4)).trans d4, (hW.cell (World.block_lt_of_cell? _ _ d5)).trans d5, (hW.cell (World.block_lt_of_cell? _ _ d6)).trans d6⟩, ⟨(hW.cell (World.block_lt_of_cell? _ _ f0)).trans f0, (hW.cell (World.block_lt_of_cell? _ _ f1)).trans f1, (hW.cell (World.block_lt_of_cell? _ _ f2)).trans f2, (hW.cell (World.block_lt_of_cell? _ _ f3)).trans f3, (hW.cell (World.block_lt_of_cell? _ _ f4)).trans f4, (hW.cell (World.block_lt_of_cell? _ _ f5)).trans f5, (hW.cell (World.block_lt_of_cell? _ _ f6)).trans f6⟩⟩)
    have hqn : (q : Int) < (n4 : Int) := by omega
    have HFn : Hid (∀ W, Below wr.heap.size wr W → Below w1.heap.size w1 W) := Lib.hid (fun W hW => HBv.out.trans (hW.mono HBv.out.size))
    clear hr1 hr2 hr3 hq1 hq2 hq3 e1 e2 hc1 hc2 y0 y1 y2 y3 y4 y5 y6 z0 z1 z2 z3 z4 z5 z6 HBw hnx hnl HP1 HP2 d0 d1 d2 d3 d4 d5 d6 f0 f1 f2 f3 f4 f5 f6 hu1 hu2 hr
    have HAl : Hid (∀ X o, Below wr.heap.size wr X → Below wr.heap.size wr (X.alloc o)) := Lib.hid (fun X o h => h.alloc h.size o)
    have HDr : Hid (∀ X, Below wr.heap.size wr X → Below wr.heap.size wr X.drew) := Lib.hid (fun X h => h.trans ((drew_below (w := X)).mono h.size))
    go_upto_region 26 with fail
    go_cut [9, 10] from 140 to 149 (fun x y W => ∃ g9 g10, x = .pointer (some ⟨g9, 0, none⟩) ∧ y = .pointer (some ⟨g10, 0, none⟩) ∧ Hid (Below wr.heap.size wr W) ∧ Hid (RuC W g9 r (.slice pa r.next.length ca) ∧ RuC W g10 r (.slice pb r.next.length cb)))
    case first =>
      refine wp_region_held_drew (S := fun W => W.cell? ⟨w.heap.size, 12, none⟩ = some (.slice (some ⟨g1, o1, none⟩) n4 kl) ∧ W.cell? ⟨w.heap.size + 1, 12, none⟩ = some (.slice (some ⟨g2, o2, none⟩) n4 bl) ∧ (W.cell? ⟨g1, o1 + q * 7, none⟩ = some (.int .i64 r.kind) ∧ W.cell? ⟨g1, o1 + q * 7 + 1, none⟩ = some (.int .u16 r.flag) ∧ W.cell? ⟨g1, o1 + q * 7 + 2, none⟩ = some (.bool r.cross) ∧ W.cell? ⟨g1, o1 + q * 7 + 3, none⟩ = some (.string r.strip) ∧ W.cell? ⟨g1, o1 + q * 7 + 4, none⟩ = some (.string r.add) ∧ W.cell? ⟨g1, o1 + q * 7 + 5, none⟩ = some (.string r.cond) ∧ W.cell? ⟨g1, o1 + q * 7 + 6, none⟩ = some (.slice pa r.next.length ca)) ∧ (W.cell? ⟨g2, o2 + q * 7, none⟩ = some (.int .i64 r.kind) ∧ W.cell? ⟨g2, o2 + q * 7 + 1, none⟩ = some (.int .u16 r.flag) ∧ W.cell? ⟨g2, o2 + q * 7 + 2, none⟩ = some (.bool r.cross) ∧ W.cell? ⟨g2, o2 + q * 7 + 3, none⟩ = some (.string r.strip) ∧ W.cell? ⟨g2, o2 + q * 7 + 4, none⟩ = some (.string r.add) ∧ W.cell? ⟨g2, o2 + q * 7 + 5, none⟩ = some (.string r.cond) ∧ W.cell? ⟨g2, o2 + q * 7 + 6, none⟩ = some (.slice pb r.next.length cb))) (by kernel_rfl) ?_ (fun hHeld => ?_)
      · exact HS.out _ drew_below
      refine tkH 0 (some 140) ?_ ?_ hHeld ?_; rotate_left; focus (intro w hSw; (try dsimp only at hSw); go_simp; try with_reducible rfl); try simp only [put_norm]
      refine tkH 1 (some 141) ?_ ?_ hHeld ?_; rotate_left; focus (intro w hSw; (try dsimp only at hSw); go_simp; try with_reducible rfl); try simp only [put_norm]
      refine tkH 2 (some 142) ?_ ?_ hHeld ?_; rotate_left; focus (intro w hSw; (try dsimp only at hSw); go_simp; try with_reducible rfl); try simp only [put_norm]
      refine tkH 3 (some 143) ?_ ?_ hHeld ?_; rotate_left; focus (intro w hSw; (try dsimp only at hSw); go_simp; try with_reducible rfl); try simp only [put_norm]
      refine tkH 4 (some 144) ?_ ?_ hHeld ?_; rotate_left; focus (intro w hSw; (try dsimp only at hSw); go_simp; try with_reducible rfl); try simp only [put_norm]
      refine tkH 5 (some 145) ?_ ?_ hHeld ?_; rotate_left; focus (intro w hSw; (try dsimp only at hSw); go_simp; try with_reducible rfl); try simp only [put_norm]
      refine tkH 6 (some 146) ?_ ?_ hHeld ?_; rotate_left; focus (intro w hSw; (try dsimp only at hSw); go_simp; try with_reducible rfl); try simp only [put_norm]
      refine tkH 7 (some 147) ?_ ?_ hHeld ?_; rotate_left; focus (intro w hSw; (try dsimp only at hSw); go_simp; try with_reducible rfl); try simp only [put_norm]
      refine tkH 8 (some 148) ?_ ?_ hHeld ?_; rotate_left; focus (intro w hSw; (try dsimp only at hSw); go_simp; try with_reducible rfl); try simp only [put_norm]
      refine tkH 9 (some 149) ?_ ?_ hHeld ?_; rotate_left; focus (intro w hSw; (try dsimp only at hSw); go_simp; try with_reducible rfl); try simp only [put_norm]
      refine wpAnyH_ready (rs := [10, 11]) (by kernel_rfl) (by simp) ?_
      refine AllReadyH.cons rfl (fun K hK => ?_) ?_
      · go_simp
        refine hK.out _ _ ?_ (fun hHeld => ?_)
        · first | exact HS.out _ (HDr.out _ (HAl.out _ _ (Below.refl _ _))) | exact HS.out _ (HDr.out _ (HAl.out _ _ (HAl.out _ _ (Below.refl _ _))))
        clear hK K
        refine rdy1 11 (fun K hK => ?_)
        go_simp
        refine hK.out _ _ ?_ (fun hHeld => ?_)
        · first | exact HS.out _ (HDr.out _ (HAl.out _ _ (Below.refl _ _))) | exact HS.out _ (HDr.out _ (HAl.out _ _ (HAl.out _ _ (Below.refl _ _))))
        clear hK K
        refine rdy1 12 (fun K hK => ?_)
        go_simp
        refine hK.out _ _ ?_ (fun hHeld => ?_)
        · first | exact HS.out _ (HDr.out _ (HAl.out _ _ (Below.refl _ _))) | exact HS.out _ (HDr.out _ (HAl.out _ _ (HAl.out _ _ (Below.refl _ _))))
        clear hK K
        refine rdy1 13 (fun K hK => ?_)
        go_simp
        refine hK.out _ _ ?_ (fun hHeld => ?_)
        · first | exact HS.out _ (HDr.out _ (HAl.out _ _ (Below.refl _ _))) | exact HS.out _ (HDr.out _ (HAl.out _ _ (HAl.out _ _ (Below.refl _ _))))
        clear hK K
        refine wpAnyH_done (by kernel_rfl) ?_ _
        go_wp2_with fail
        go_meet
        first | exact ⟨_, _, rfl, rfl, Lib.hid (HDr.out _ (HAl.out _ _ (HAl.out _ _ (Below.refl _ _)))), Lib.hid (two_rules _ _ _ _ _)⟩ | exact ⟨_, _, rfl, rfl, Lib.hid (HDr.out _ (HAl.out _ _ (HAl.out _ _ (Below.refl _ _)))), Lib.hid (two_rules _ _ _ _ _).symm⟩
      refine AllReadyH.cons rfl (fun K hK => ?_) ?_
      · go_simp
        refine hK.out _ _ ?_ (fun hHeld => ?_)
        · first | exact HS.out _ (HDr.out _ (HAl.out _ _ (Below.refl _ _))) | exact HS.out _ (HDr.out _ (HAl.out _ _ (HAl.out _ _ (Below.refl _ _))))
        clear hK K
        refine rdy1 10 (fun K hK => ?_)
        go_simp
        refine hK.out _ _ ?_ (fun hHeld => ?_)
        · first | exact HS.out _ (HDr.out _ (HAl.out _ _ (Below.refl _ _))) | exact HS.out _ (HDr.out _ (HAl.out _ _ (HAl.out _ _ (Below.refl _ _))))
        clear hK K
        refine rdy1 12 (fun K hK => ?_)
        go_simp
        refine hK.out _ _ ?_ (fun hHeld => ?_)
        · first | exact HS.out _ (HDr.out _ (HAl.out _ _ (Below.refl _ _))) | exact HS.out _ (HDr.out _ (HAl.out _ _ (HAl.out _ _ (Below.refl _ _))))
        clear hK K
        refine rdy1 13 (fun K hK => ?_)
        go_simp
        refine hK.out _ _ ?_ (fun hHeld => ?_)
        · first | exact HS.out _ (HDr.out _ (HAl.out _ _ (Below.refl _ _))) | exact HS.out _ (HDr.out _ (HAl.out _ _ (HAl.out _ _ (Below.refl _ _))))
        clear hK K
        refine wpAnyH_done (by kernel_rfl) ?_ _
        go_wp2_with fail
        go_meet
        first | exact ⟨_, _, rfl, rfl, Lib.hid (HDr.out _ (HAl.out _ _ (HAl.out _ _ (Below.refl _ _)))), Lib.hid (two_rules _ _ _ _ _)⟩ | exact ⟨_, _, rfl, rfl, Lib.hid (HDr.out _ (HAl.out _ _ (HAl.out _ _ (Below.refl _ _)))), Lib.hid (two_rules _ _ _ _ _).symm⟩
      exact AllReadyH.nil
    case rest =>
    obtain ⟨g9, g10, rfl, rfl, HB6, HC6⟩ := hcut
    rename World => w6
    have HFm : Hid (∀ W, Below w6.heap.size w6 W → Below wr.heap.size wr W) := Lib.hid (fun W hW => HB6.out.trans (hW.mono HB6.out.size))
    have HS7 : Hid (∀ W, Below w6.heap.size w6 W → (W.cell? ⟨g9, 0, none⟩ = some (.int .i64 r.kind) ∧ W.cell? ⟨g9, 1, none⟩ = some (.int .u16 r.flag) ∧ W.cell? ⟨g9, 2, none⟩ = some (.bool r.cross) ∧ W.cell? ⟨g9, 3, none⟩ = some (.string r.strip) ∧ W.cell? ⟨g9, 4, none⟩ = some (.string r.add) ∧ W.cell? ⟨g9, 5, none⟩ = some (.string r.cond) ∧ W.cell? ⟨g9, 6, none⟩ = some (.slice pa r.next.length ca)) ∧ (W.cell? ⟨g10, 0, none⟩ = some (.int .i64 r.kind) ∧ W.cell? ⟨g10, 1, none⟩ = some (.int .u16 r.flag) ∧ W.cell? ⟨g10, 2, none⟩ = some (.bool r.cross) ∧ W.cell? ⟨g10, 3, none⟩ = some (.string r.strip) ∧ W.cell? ⟨g10, 4, none⟩ = some (.string r.add) ∧ W.cell? ⟨g10, 5, none⟩ = some (.string r.cond) ∧ W.cell? ⟨g10, 6, none⟩ = some (.slice pb r.next.length cb))) := Lib.hid (fun W hW => ⟨HC6.out.1.keep hW, HC6.out.2.keep hW⟩)
    clear HC6 HS HAl HDr
    go_upto_region 27 with fail
    go_cut [198] from 150 to 198 (fun p W => p = .bool false ∧ Hid (Below w6.heap.size w6 W))
    case first =>
      refine wp_region_held_drew (S := fun W => (W.cell? ⟨g9, 0, none⟩ = some (.int .i64 r.kind) ∧ W.cell? ⟨g9, 1, none⟩ = some (.int .u16 r.flag) ∧ W.cell? ⟨g9, 2, none⟩ = some (.bool r.cross) ∧ W.cell? ⟨g9, 3, none⟩ = some (.string r.strip) ∧ W.cell? ⟨g9, 4, none⟩ = some (.string r.add) ∧ W.cell? ⟨g9, 5, none⟩ = some (.string r.cond) ∧ W.cell? ⟨g9, 6, none⟩ = some (.slice pa r.next.length ca)) ∧ (W.cell? ⟨g10, 0, none⟩ = some (.int .i64 r.kind) ∧ W.cell? ⟨g10, 1, none⟩ = some (.int .u16 r.flag) ∧ W.cell? ⟨g10, 2, none⟩ = some (.bool r.cross) ∧ W.cell? ⟨g10, 3, none⟩ = some (.string r.strip) ∧ W.cell? ⟨g10, 4, none⟩ = some (.string r.add) ∧ W.cell? ⟨g10, 5, none⟩ = some (.string r.cond) ∧ W.cell? ⟨g10, 6, none⟩ = some (.slice pb r.next.length cb))) (by kernel_rfl) ?_ (fun hHeld => ?_)
      · exact HS7.out _ drew_below
      refine tkH 0 (some 150) ?_ ?_ hHeld ?_; rotate_left; focus (intro w hSw; (try dsimp only at hSw); go_simp; try with_reducible rfl); try simp only [put_norm]
      refine tkH 1 (some 151) ?_ ?_ hHeld ?_; rotate_left; focus (intro w hSw; (try dsimp only at hSw); go_simp; try with_reducible rfl); try simp only [put_norm]
      refine tkH 2 (some 152) ?_ ?_ hHeld ?_; rotate_left; focus (intro w hSw; (try dsimp only at hSw); go_simp; try with_reducible rfl); try simp only [put_norm]
      refine tkH 3 (some 153) ?_ ?_ hHeld ?_; rotate_left; focus (intro w hSw; (try dsimp only at hSw); go_simp; try with_reducible rfl); try simp only [put_norm]
      refine tkH 4 (some 154) ?_ ?_ hHeld ?_; rotate_left; focus (intro w hSw; (try dsimp only at hSw); go_simp; try with_reducible rfl); try simp only [put_norm]
      refine tkH 5 (some 155) ?_ ?_ hHeld ?_; rotate_left; focus (intro w hSw; (try dsimp only at hSw); go_simp; try with_reducible rfl); try simp only [put_norm]
      refine tkH 6 (some 156) ?_ ?_ hHeld ?_; rotate_left; focus (intro w hSw; (try dsimp only at hSw); go_simp; try with_reducible rfl); try simp only [put_norm]
      refine tkH 7 (some 157) ?_ ?_ hHeld ?_; rotate_left; focus (intro w hSw; (try dsimp only at hSw); go_simp; try with_reducible rfl); try simp only [put_norm]
      refine tkH 8 (some 158) ?_ ?_ hHeld ?_; rotate_left; focus (intro w hSw; (try dsimp only at hSw); go_simp; try with_reducible rfl); try simp only [put_norm]
      refine tkH 9 (some 159) ?_ ?_ hHeld ?_; rotate_left; focus (intro w hSw; (try dsimp only at hSw); go_simp; try with_reducible rfl); try simp only [put_norm]
      refine tkH 10 (some 160) ?_ ?_ hHeld ?_; rotate_left; focus (intro w hSw; (try dsimp only at hSw); go_simp; try with_reducible rfl); try simp only [put_norm]
      refine tkH 11 (some 161) ?_ ?_ hHeld ?_; rotate_left; focus (intro w hSw; (try dsimp only at hSw); go_simp; try with_reducible rfl); try simp only [put_norm]
      refine tkH 12 (some 162) ?_ ?_ hHeld ?_; rotate_left; focus (intro w hSw; (try dsimp only at hSw); go_simp; try with_reducible rfl); try simp only [put_norm]
      refine tkH 13 (some 163) ?_ ?_ hHeld ?_; rotate_left; focus (intro w hSw; (try dsimp only at hSw); go_simp; try with_reducible rfl); try simp only [put_norm]
      refine tkH 14 (some 164) ?_ ?_ hHeld ?_; rotate_left; focus (intro w hSw; (try dsimp only at hSw); go_simp; try with_reducible rfl); try simp only [put_norm]
      refine tkH 15 (some 165) ?_ ?_ hHeld ?_; rotate_left; focus (intro w hSw; (try dsimp only at hSw); go_simp; try with_reducible rfl); try simp only [put_norm]
      refine tkH 16 (some 166) ?_ ?_ hHeld ?_; rotate_left; focus (intro w hSw; (try dsimp only at hSw); go_simp; try with_reducible rfl); try simp only [put_norm]
      refine tkH 17 (some 167) ?_ ?_ hHeld ?_; rotate_left; focus (intro w hSw; (try dsimp only at hSw); go_simp; try with_reducible rfl); try simp only [put_norm]
      refine tkH 18 (some 168) ?_ ?_ hHeld ?_; rotate_left; focus (intro w hSw; (try dsimp only at hSw); go_simp; try with_reducible rfl); try simp only [put_norm]
      refine tkH 19 (some 169) ?_ ?_ hHeld ?_; rotate_left; focus (intro w hSw; (try dsimp only at hSw); go_simp; try with_reducible rfl); try simp only [put_norm]
      refine tkH 20 (some 170) ?_ ?_ hHeld ?_; rotate_left; focus (intro w hSw; (try dsimp only at hSw); go_simp; try with_reducible rfl); try simp only [put_norm]
      refine tkH 21 (some 171) ?_ ?_ hHeld ?_; rotate_left; focus (intro w hSw; (try dsimp only at hSw); go_simp; try with_reducible rfl); try simp only [put_norm]
      refine tkH 22 (some 172) ?_ ?_ hHeld ?_; rotate_left; focus (intro w hSw; (try dsimp only at hSw); go_simp; try with_reducible rfl); try simp only [put_norm]
      refine tkH 23 (some 173) ?_ ?_ hHeld ?_; rotate_left; focus (intro w hSw; (try dsimp only at hSw); go_simp; try with_reducible rfl); try simp only [put_norm]
      refine tkH 24 (some 174) ?_ ?_ hHeld ?_; rotate_left; focus (intro w hSw; (try dsimp only at hSw); go_simp; try with_reducible rfl); try simp only [put_norm]
      refine tkH 25 (some 175) ?_ ?_ hHeld ?_; rotate_left; focus (intro w hSw; (try dsimp only at hSw); go_simp; try with_reducible rfl); try simp only [put_norm]
      refine tkH 26 (some 176) ?_ ?_ hHeld ?_; rotate_left; focus (intro w hSw; (try dsimp only at hSw); go_simp; try with_reducible rfl); try simp only [put_norm]
      refine tkH 27 (some 177) ?_ ?_ hHeld ?_; rotate_left; focus (intro w hSw; (try dsimp only at hSw); go_simp; try with_reducible rfl); try simp only [put_norm]
      refine tkH 28 (some 178) ?_ ?_ hHeld ?_; rotate_left; focus (intro w hSw; (try dsimp only at hSw); go_simp; try with_reducible rfl); try simp only [put_norm]
      refine tkH 29 (some 179) ?_ ?_ hHeld ?_; rotate_left; focus (intro w hSw; (try dsimp only at hSw); go_simp; try with_reducible rfl); try simp only [put_norm]
      refine tkH 30 (some 180) ?_ ?_ hHeld ?_; rotate_left; focus (intro w hSw; (try dsimp only at hSw); go_simp; try with_reducible rfl); try simp only [put_norm]
      refine tkH 31 (some 181) ?_ ?_ hHeld ?_; rotate_left; focus (intro w hSw; (try dsimp only at hSw); go_simp; try with_reducible rfl); try simp only [put_norm]
      refine tkH 32 (some 182) ?_ ?_ hHeld ?_; rotate_left; focus (intro w hSw; (try dsimp only at hSw); go_simp; try with_reducible rfl); try simp only [put_norm]
      refine tkH 33 (some 183) ?_ ?_ hHeld ?_; rotate_left; focus (intro w hSw; (try dsimp only at hSw); go_simp; try with_reducible rfl); try simp only [put_norm]
      refine tkH 34 (some 184) ?_ ?_ hHeld ?_; rotate_left; focus (intro w hSw; (try dsimp only at hSw); go_simp; try with_reducible rfl); try simp only [put_norm]
      refine tkH 35 (some 185) ?_ ?_ hHeld ?_; rotate_left; focus (intro w hSw; (try dsimp only at hSw); go_simp; try with_reducible rfl); try simp only [put_norm]
      refine tkH 36 (some 186) ?_ ?_ hHeld ?_; rotate_left; focus (intro w hSw; (try dsimp only at hSw); go_simp; try with_reducible rfl); try simp only [put_norm]
      refine tkH 37 (some 187) ?_ ?_ hHeld ?_; rotate_left; focus (intro w hSw; (try dsimp only at hSw); go_simp; try with_reducible rfl); try simp only [put_norm]
      refine tkH 38 (some 188) ?_ ?_ hHeld ?_; rotate_left; focus (intro w hSw; (try dsimp only at hSw); go_simp; try with_reducible rfl); try simp only [put_norm]
      refine tkH 39 (some 189) ?_ ?_ hHeld ?_; rotate_left; focus (intro w hSw; (try dsimp only at hSw); go_simp; try with_reducible rfl); try simp only [put_norm]
      refine tkH 40 (some 190) ?_ ?_ hHeld ?_; rotate_left; focus (intro w hSw; (try dsimp only at hSw); go_simp; try with_reducible rfl); try simp only [put_norm]
      refine tkH 41 (some 191) ?_ ?_ hHeld ?_; rotate_left; focus (intro w hSw; (try dsimp only at hSw); go_simp; try with_reducible rfl); try simp only [put_norm]
      refine tkH 42 (some 192) ?_ ?_ hHeld ?_; rotate_left; focus (intro w hSw; (try dsimp only at hSw); go_simp; try with_reducible rfl); try simp only [put_norm]
      refine tkH 43 (some 193) ?_ ?_ hHeld ?_; rotate_left; focus (intro w hSw; (try dsimp only at hSw); go_simp; try with_reducible rfl); try simp only [put_norm]
      refine tkH 44 (some 194) ?_ ?_ hHeld ?_; rotate_left; focus (intro w hSw; (try dsimp only at hSw); go_simp; try with_reducible rfl); try simp only [put_norm]
      refine rdy1 45 (fun K hK => ?_)
      go_simp
      refine (HIn.out _ (HFm.out _ drew_below)).mono ?_
      rintro e w7 ⟨v7, rfl, his, hb7⟩
      have HB7 : Hid (Below w6.heap.size w6 w7) := Lib.hid ((drew_below (w := w6)).trans hb7)
      have HI7 := Lib.hid his
      clear his hb7
      refine hK.out _ _ ?_ (fun hHeld => ?_)
      · exact HS7.out _ HB7.out
      clear hK K
      refine rdy1 46 (fun K hK => ?_)
      go_simp
      refine (HSm.out _ v7 (HFm.out _ HB7.out) HI7.out).mono ?_
      rintro e w8 ⟨rfl, n8, hw8⟩
      have HB8 : Hid (Below w6.heap.size w6 w8) := Lib.hid (by rw [hw8]; exact below_drewN HB7.out _)
      clear hw8
      refine hK.out _ _ ?_ (fun hHeld => ?_)
      · exact HS7.out _ HB8.out
      clear hK K
      refine tkH 47 (some 197) ?_ ?_ hHeld ?_; rotate_left; focus (intro w hSw; (try dsimp only at hSw); go_simp; try with_reducible rfl); try simp only [put_norm]
      refine tkH 48 (some 198) ?_ ?_ hHeld ?_; rotate_left; focus (intro w hSw; (try dsimp only at hSw); go_simp; try with_reducible rfl); try simp only [put_norm]
      refine wpAnyH_done (by kernel_rfl) ?_ _
      go_wp2_with fail
      all_goals go_meet
      all_goals exact ⟨rfl, Lib.hid HB8.out⟩
    case rest =>
    obtain ⟨rfl, HB9⟩ := hcut
    go_wp2_with fail
    go_roundw
    case rel => exact ⟨q + 1, by omega, by go_num, Lib.hid (HFn.out _ (HFm.out _ HB9.out))⟩
    case measure => simp [intOf]; omega
  obtain rfl : q = n4 := by omega
  go_wp2_with fail
  go_ret
  exact ⟨rfl, HB1.out.trans (HBv.out.mono HB1.out.size)⟩
end Go.Proofs.YtkdajhmlhjkcdaaGreatDoor
namespace Go.Proofs.YtkdajhmlhjkcdaaGreatDoor
open Go.RowKit
theorem step_append_src {P : Program} {w : World} {ops : Array Oper} {o : Oper} {a : Act} {K : Act → World → Prop} {Q : Exit → Act → World → Prop} {E : Prop} (hgd : o.guard = none) (s x : Operand) (t : TypeId)
    (ho : o.op = .call { callee := .builtin .append, args := #[s, x], argTypes := #[t, t] })
    (base : Nat) (e : TypeId) (i : TypeInfo) (z : Value) (size bytes : Nat) (ht : P.underlying t = some (.slice e)) (hi : P.info? e = some i) (hz : i.zero = some z)
    (hsize : i.size = size) (hby : i.bytes = bytes) (hzs : z.cells.size = size) (hsz : 0 < size)
    (v : Value) (n : Nat) (xs : List Value) (hs : a.eval s = v) (hown : w.ownsRow base e size v n xs)
    (A : Option Addr) (m c : Nat) (news : List Value) (hx : a.eval x = .slice A m c) (hl : news.length = m * size) (hr : m = 0 ∨ ∃ ad, A = some ad ∧ ∀ j u, news[j]? = some u → w.cell? (ad.add j) = some u) (h1 : ∀ u ∈ news, u.oneCell' = true)
    (h63 : n + m ≤ maxLen) (hbytes : (n + m) * bytes ≤ 140737488355328) (hbase : base ≤ w.heap.size)
    (h : ∀ v' w', w'.ownsRow base e size v' (n + m) (xs ++ news) → w.grownBy w' v.ownBlock → (v'.ownBlock = v.ownBlock ∨ v'.ownBlock = some w.heap.size) → K (a.put o.dst v') w') :
    if Region.wanted o (yielded ops a.tmps) = true then Oper.wp P o a w K Q else E := by
  have hw : Region.wanted o (yielded ops a.tmps) = true := by simp [Region.wanted, hgd]
  rw [if_pos hw]
  obtain ⟨v', w', hrun, h2, h3, h4⟩ := run_append_src (P := P) w base t o.type e i z size bytes ht hi hz hsize hby hzs hsz v n xs hown A m c news hl hr h1 h63 hbytes hbase
  unfold Oper.wp execOp
  simp only [ho, resolve, invoke, builtin, Sem.run_bind, Sem.run_pure, Result.andThen_ok, List.map_toArray, List.map_cons, List.map_nil, hs, hx, hrun]
  exact h v' w' h2 h3 h4
end Go.Proofs.YtkdajhmlhjkcdaaGreatDoor
namespace Go.Proofs.YtkdajhmlhjkcdaaGreatDoor
open Go.RowKit
def sigIn (N : Int) (x : Int) : Int := if 0 ≤ x ∧ x ≤ N then x else 0
theorem affL_line {L : List (List UInt8)} {l c : Int} (h : affL L = .error (l, c)) : 0 ≤ l ∧ l ≤ (L.length : Int) + 1 := by
  have e : affL L = affEnd (shX (sigIn (L.length + 1)) (readGo (L.length + 1) (rowsOf (numbered 1 L)).length ⟨fl0, rowsOf (numbered 1 L), [], 0⟩)) := by
    rw [← read_sh]
    unfold affL
    have h1 : sigIn (L.length + 1) (L.length + 1) = (L.length : Int) + 1 := by unfold sigIn; rw [if_pos (by omega)]
    have h2 : shS (sigIn (L.length + 1)) ⟨fl0, rowsOf (numbered 1 L), [], 0⟩ = ⟨fl0, rowsOf (numbered 1 L), [], 0⟩ := by
      show Sx.mk fl0 _ _ (sigIn (L.length + 1) 0) = _
      have e0 : sigIn (L.length + 1) 0 = 0 := by unfold sigIn; rw [if_pos (by omega)]
      have e1 : (rowsOf (numbered 1 L)).map (shR (sigIn (L.length + 1))) = rowsOf (numbered 1 L) := by
        conv => rhs; rw [← List.map_id (rowsOf (numbered 1 L))]
        apply List.map_congr_left
        intro r hr
        have hl := rows_line r hr
        show shR (sigIn (L.length + 1)) r = r
        unfold shR sigIn
        rw [if_pos (by omega)]
      rw [e0, e1]
    rw [h1, h2]
  have h2 := affEnd_sh (sigIn (L.length + 1)) (readGo (L.length + 1) (rowsOf (numbered 1 L)).length ⟨fl0, rowsOf (numbered 1 L), [], 0⟩)
  rw [← e] at h2
  have h3 : affEnd (readGo (L.length + 1) (rowsOf (numbered 1 L)).length ⟨fl0, rowsOf (numbered 1 L), [], 0⟩) = affL L := rfl
  rw [h3, h] at h2
  have h4 : (Except.error (l, c) : Except (Int × Int) Fl) = .error (sigIn (L.length + 1) l, c) := h2
  have h5 : l = sigIn (L.length + 1) l := by injection h4 with h4; injection h4
  rw [h5]
  unfold sigIn
  split <;> omega
theorem rls_unsh (σ : Int → Int) : ∀ (ls : List Rl) (rs : List (Rl × Value)), rs.map (·.1) = ls.map (shRl σ) → ∃ rs' : List (Rl × Value), rs'.map (·.1) = ls ∧ rlsCells rs' = rlsCells rs ∧ rs'.length = rs.length ∧ ∀ r ∈ rs', ∃ q ∈ rs, q.2 = r.2 ∧ q.1.next = r.1.next
  | [], rs, h => by
    have : rs = [] := by simpa using h
    subst this
    exact ⟨[], rfl, rfl, rfl, by simp⟩
  | l :: ls, [], h => by simp at h
  | l :: ls, (q1, v) :: rs, h => by
    simp only [List.map_cons, List.cons.injEq] at h
    obtain ⟨h1, h2⟩ := h
    obtain ⟨rs', e1, e2, e3, e4⟩ := rls_unsh σ ls rs h2
    refine ⟨(l, v) :: rs', by simp [e1], ?_, by simp [e3], ?_⟩
    · have a : rlsCells ((l, v) :: rs') = [.int .i64 l.kind, .int .u16 l.flag, .bool l.cross, .string l.strip, .string l.add, .string l.cond, v] ++ rlsCells rs' := by simp [rlsCells]
      have b : rlsCells ((q1, v) :: rs) = [.int .i64 q1.kind, .int .u16 q1.flag, .bool q1.cross, .string q1.strip, .string q1.add, .string q1.cond, v] ++ rlsCells rs := by simp [rlsCells]
      rw [a, b, e2, h1]
      rfl
    · intro r hr
      rcases List.mem_cons.1 hr with rfl | hr
      · exact ⟨(q1, v), by simp, rfl, by rw [h1]; rfl⟩
      · obtain ⟨q, hq, e5⟩ := e4 r hr
        exact ⟨q, by simp [hq], e5⟩
theorem AffR.unsh {w : World} {F : Fl} {a : AV} (σ : Int → Int) (h : AffR w (shF σ F) a) : AffR w F a := by
  obtain ⟨h0, h1, h2, rs, h3, h4, h5⟩ := h
  obtain ⟨rs', e1, e2, e3, e4⟩ := rls_unsh σ F.rls rs h3
  refine ⟨h0, h1, h2, rs', e1, by rw [e2, e3]; exact h4, fun r hr => ?_⟩
  obtain ⟨q, hq, e5, e6⟩ := e4 r hr
  rw [← e5, ← e6]
  exact h5 q hq
theorem jn_more_len (L : List (List UInt8)) (k : Nat) (note : List UInt8) : (jn (more3 L k note)).length = (jn L).length + note.length + 9 := by
  have e : (jn L).length = (jn (L.take k)).length + (jn (L.drop k)).length := by
    conv => lhs; rw [← List.take_append_drop k L]
    unfold jn
    rw [List.flatMap_append, List.length_append]
  unfold more3
  rw [e]
  unfold jn
  rw [List.flatMap_append, List.flatMap_append, List.length_append, List.length_append]
  simp
  omega
theorem mark_more (L : List (List UInt8)) (k : Nat) (note : List UInt8) (h : Lib.hasPrefix (jn L) mark3 = false) : Lib.hasPrefix (jn (more3 L k note)) mark3 = false := by
  have key : ∀ (l : List UInt8) (X : List (List UInt8)), Lib.hasPrefix l mark3 = false → Lib.hasPrefix (jn (l :: X)) mark3 = false := fun l X hl => by
    have := jn_mark (L := X) (t := []) hl
    rw [List.append_nil] at this; exact this
  cases L with
  | nil =>
    unfold more3
    rw [List.take_nil]
    exact key [] _ (by decide)
  | cons l L =>
    cases k with
    | zero => exact key [] _ (by decide)
    | succ k => exact key l _ (jn_first h)
theorem more_no {L : List (List UInt8)} {k : Nat} {note : List UInt8} (h : ∀ l ∈ L, (10 : UInt8) ∉ l) (hn : (10 : UInt8) ∉ note) : ∀ l ∈ more3 L k note, (10 : UInt8) ∉ l := by
  intro l hl
  unfold more3 at hl
  rcases List.mem_append.1 hl with hl | hl
  · rcases List.mem_append.1 hl with hl | hl
    · exact h l (List.mem_of_mem_take hl)
    simp at hl
    rcases hl with rfl | rfl | rfl
    · simp
    · simp; exact hn
    decide
  exact h l (List.mem_of_mem_drop hl)
end Go.Proofs.YtkdajhmlhjkcdaaGreatDoor
