/-
  Parts of the proof: Split2, Split3A, AL3, AL4, AL5, AL6, AP2, AP3, AL10, AL11.
-/
import Derived.Test.YtkdajhmlhjkcdaaGreatDoorRows
import Derived.Test.YtkdajhmlhjkcdaaGreatDoorZ2
import Derived.Test.YtkdajhmlhjkcdaaGreatDoorZ4
import Derived.Test.YtkdajhmlhjkcdaaGreatDoorZ3
import Derived.BigQuiet
import Derived.Test.YtkdajhmlhjkcdaaGreatDoorZ10
import Derived.Test.YtkdajhmlhjkcdaaGreatDoorZ13
import Derived.WalkLawsBesides
set_option linter.unusedVariables false
set_option linter.unusedSimpArgs false
namespace Go.Proofs.YtkdajhmlhjkcdaaGreatDoor
open Go.RowKit
theorem ended_nil : ended [] = [] := by unfold ended Lib.trimSuffix Lib.hasSuffix; rfl
end Go.Proofs.YtkdajhmlhjkcdaaGreatDoor
namespace Go.Proofs.YtkdajhmlhjkcdaaGreatDoor
open Go.RowKit
def splitS (s : ByteArray) : List ByteArray := if 65536 < s.size then [] else (linesOf s.data.toList).map mkS
set_option maxHeartbeats 1000000 in
theorem Split01_any (s : ByteArray) (w : World) :
    Calls Tryz.prog 24 #[.string s] w fun e W' => ∃ v, e = .returned (.tuple #[v, .int .i64 (codeS s)]) ∧ Own w W' 9 1 v (splitS s).length (strV (splitS s)) := by
  by_cases hbig : 65536 < s.size
  · have HE : Hid (splitS s = []) := Lib.hid (if_pos hbig)
    go_enter Tryz.func24, Tryz.ntmps24
    go_wp2_with fail
    go_ret2
    exact ⟨.slice none 0 0, by simp [codeS, hbig], by rw [HE.out]; exact Own.nil_ _ _ _⟩
  have HE : Hid (splitS s = (linesOf s.data.toList).map mkS) := Lib.hid (if_neg hbig)
  go_enter Tryz.func24, Tryz.ntmps24
  go_wp2_with fail
  refine (Lines01_any s _ (by omega)).mono ?_
  rintro e w2 ⟨v2, rfl, o2⟩
  have O2 := Lib.hid o2
  clear o2
  go_wp2_with fail
  go_ret2
  exact ⟨v2, by simp [codeS, hbig], by rw [HE.out, List.length_map]; exact O2.out⟩
end Go.Proofs.YtkdajhmlhjkcdaaGreatDoor
namespace Go.Proofs.YtkdajhmlhjkcdaaGreatDoor
open Go.RowKit Go.Maps
def AffR (w : World) (F : Fl) (a : AV) : Prop := Rd w 2 a.reps F.reps.length (repCells F.reps) ∧ (∃ us : List Value, Rd w 1 a.als F.als.length us ∧ us.length = F.als.length ∧ ∀ (k : Nat) u b, us[k]? = some u → F.als[k]? = some b → FS w u b) ∧
  Rd w 5 a.cls F.cls.length (clsCells F.cls) ∧ ∃ rs : List (Rl × Value), rs.map (·.1) = F.rls ∧ Rd w 7 a.rls rs.length (rlsCells rs) ∧ ∀ r ∈ rs, FS w r.2 r.1.next
theorem AffN.rd {B : Nat} {w : World} {F : Fl} {a : AV} (h : AffN B w F a) : AffR w F a := by
  obtain ⟨us, h1, h2, h3⟩ := h.als
  obtain ⟨rs, h4, h5, h6⟩ := h.rls
  exact ⟨Rd.of_own h.reps, ⟨us, Rd.of_own h1, h2, fun k u b hu hb => (h3 k u b hu hb).fs⟩, Rd.of_own h.cls, rs, h4, Rd.of_own h5, fun r hr => (h6 r hr).fs⟩
end Go.Proofs.YtkdajhmlhjkcdaaGreatDoor
namespace Go.Proofs.YtkdajhmlhjkcdaaGreatDoor
open Go.RowKit Go.Maps
theorem Rd.at_ {w : World} {size n : Nat} {v : Value} {xs : List Value} (h : Rd w size v n xs) (hn : 0 < n) : ∃ g o cap, v = .slice (some ⟨g, o, none⟩) n cap ∧ ∀ j u, xs[j]? = some u → w.cell? ⟨g, o + j, none⟩ = some u := by
  obtain ⟨-, A, cap, rfl, -, h2⟩ := h
  obtain ⟨g, o, rfl, h3⟩ := h2.resolve_left (by omega)
  exact ⟨g, o, cap, rfl, h3⟩
end Go.Proofs.YtkdajhmlhjkcdaaGreatDoor
namespace Go.Proofs.YtkdajhmlhjkcdaaGreatDoor
open Go.RowKit Go.Maps
theorem piece_err {b : Bool} {s : ByteArray} {c : Int} (h : pieceR b s = .error c) : c ≠ 0 := by
  unfold pieceR at h
  split at h
  · cases h
  split at h
  split at h
  · cases h; assumption
  split at h
  · cases h; decide
  split at h
  · cases h; assumption
  cases h
theorem fresh_err {F : Fl} {s : ByteArray} {c : Int} (h : freshR F s = .error c) : c ≠ 0 := by
  unfold freshR at h
  split at h
  · cases h; assumption
  split at h
  · cases h; decide
  cases h
theorem rep_err {F : Fl} {l : Int} {row : List ByteArray} {c : Int} (h : repR_ F l row = .error c) : c ≠ 0 := by
  unfold repR_ at h
  split at h
  · cases h; decide
  split at h
  · rename_i hp; cases h; exact piece_err hp
  split at h
  · rename_i hp; cases h; exact piece_err hp
  cases h
theorem alias_err {F : Fl} {l : Int} {row : List ByteArray} {c : Int} (h : aliasR F l row = .error c) : c ≠ 0 := by
  unfold aliasR at h
  split at h
  · cases h; decide
  split at h
  · cases h; assumption
  cases h
theorem addR_err {w : List UInt8} {c : Int} (h : addR w = .error c) : c ≠ 0 := by
  unfold addR at h
  split at h
  · cases h
  split at h
  · cases h; assumption
  cases h
theorem nextR_err {F : Fl} {k : Int} {r : List UInt8} {b : Bool} {c : Int} (h : nextR F k r b = .error c) : c ≠ 0 := by
  unfold nextR at h
  split at h
  · split at h
    · cases h; decide
    split at h
    · cases h; assumption
    cases h
  cases h
theorem condOf_err {row : List ByteArray} {c : Int} (h : condOf row = .error c) : c ≠ 0 := by
  unfold condOf at h
  split at h
  · split at h
    · cases h; decide
    split at h
    · rename_i hc
      cases h
      have := condR_err hc
      simpa using this
    cases h
  cases h
theorem rule_err {cl : Cl} {F : Fl} {l : Int} {row : List ByteArray} {c : Int} (h : ruleIn cl F l row = .error c) : c ≠ 0 := by
  unfold ruleIn at h
  split at h
  · rename_i hr
    cases h
    unfold ruleR at hr
    split at hr
    · cases hr; decide
    split at hr
    · rename_i hp; cases hr; exact piece_err hp
    split at hr
    split at hr
    · cases hr; assumption
    split at hr
    · rename_i ha; cases hr; exact addR_err ha
    split at hr
    · rename_i hn; cases hr; exact nextR_err hn
    split at hr
    · rename_i hc; cases hr; exact condOf_err hc
    cases hr
  cases h
theorem group_err {end_ : Int} {ok : List ByteArray → Bool} {inn : Fl → Int → List ByteArray → Except Int Fl} (hi : ∀ F l r c, inn F l r = .error c → c ≠ 0) : ∀ (n : Nat) (S : Sx) (l c : Int), groupR end_ ok inn n S = .error (l, c) → c ≠ 0
  | 0, S, l, c, h => by rw [groupR] at h; cases h
  | n + 1, S, l, c, h => by
    rw [groupR] at h
    split at h
    · cases h; decide
    · split at h
      · split at h
        · rename_i hF; cases h; exact hi _ _ _ _ hF
        · exact group_err hi n _ l c h
      · cases h; decide
theorem onFl_err {l l' c : Int} {S : Sx} {x : Except Int Fl} (h : onFl l S x = .error (l', c)) : x = .error c := by
  cases x with
  | error e => cases h; rfl
  | ok F => cases h
theorem head_err {end_ l c : Int} {S : Sx} {row : List ByteArray} {k : Nat} (h : headR end_ S row k = .error (l, c)) : c ≠ 0 := by
  unfold headR at h
  split at h
  · have hF := onFl_err h
    unfold kindR at hF
    split at hF
    · cases hF; decide
    split at hF
    · cases hF; decide
    cases hF
  split at h
  · have hF := onFl_err h
    unfold setR at hF
    split at hF
    · cases hF; decide
    cases hF
  split at h
  · have hF := onFl_err h
    unfold tryR at hF
    split at hF
    · cases hF; assumption
    cases hF
  split at h
  · have hF := onFl_err h
    unfold specialR at hF
    split at hF
    · rename_i hf; cases hF; exact fresh_err hf
    cases hF
  split at h
  · have hF := onFl_err h
    unfold leastR at hF
    split at hF
    · cases hF; decide
    cases hF
  split at h
  · unfold repsG at h
    split at h
    · cases h; decide
    exact group_err (fun F l r c h => rep_err h) _ _ _ _ h
  split at h
  · unfold aliasG at h
    split at h
    · cases h; decide
    split at h
    · cases h; decide
    exact group_err (fun F l r c h => alias_err h) _ _ _ _ h
  unfold classR at h
  split at h
  · rename_i hf; cases h; exact fresh_err hf
  split at h
  · cases h; decide
  split at h
  · cases h; decide
  split at h
  · cases h; decide
  exact group_err (fun F l r c h => rule_err h) _ _ _ _ h
theorem read_err {end_ : Int} : ∀ (n : Nat) (S : Sx) (l c : Int), readGo end_ n S = .error (l, c) → c ≠ 0
  | 0, S, l, c, h => by rw [readGo] at h; cases h
  | n + 1, S, l, c, h => by
    rw [readGo] at h
    split at h
    · cases h
    · split at h
      · rename_i e hs
        cases h
        unfold stepR at hs
        split at hs
        · cases hs; decide
        split at hs
        · cases hs; decide
        split at hs
        · cases hs; decide
        split at hs
        · rename_i hh
          cases hs
          exact head_err hh
        · cases hs
      · exact read_err n _ l c h
theorem affR_err {t : List UInt8} {l c : Int} (h : affR t = .error (l, c)) : c ≠ 0 := by
  unfold affR at h
  split at h
  · cases h; decide
  split at h
  · rename_i hr; cases h; exact read_err _ _ _ _ hr
  split at h
  · cases h; decide
  cases h
abbrev wakeT : ByteArray := ⟨#[83, 70, 88, 32, 65, 32, 89, 32, 49, 10, 83, 70, 88, 32, 65, 32, 121, 32, 105, 101, 115, 32, 91, 94, 97, 101, 105, 111, 117, 93, 121, 10]⟩
abbrev tIES : ByteArray := ⟨#[105, 101, 115]⟩
abbrev tCND : ByteArray := ⟨#[91, 94, 97, 101, 105, 111, 117, 93, 121]⟩
theorem wake_rows : rowsOf (eachOf wakeT.data.toList) = [(1, [kSFX, ⟨#[65]⟩, ⟨#[89]⟩, ⟨#[49]⟩]), (2, [kSFX, ⟨#[65]⟩, ⟨#[121]⟩, tIES, tCND])] := by kernel_rfl
theorem wake_lines : (linesOf wakeT.data.toList).length = 2 := by kernel_rfl
def wakeC : Cl := ⟨65, 2, true, 0, 1⟩
theorem wake_piece : pieceR true ⟨#[121]⟩ = .ok ⟨#[121]⟩ := by
  unfold pieceR
  rw [if_neg (by rintro ⟨-, h⟩; revert h; decide)]
  have hw : wordR (⟨#[121]⟩ : ByteArray).data.toList = ([121], [], false, 0) := by
    unfold wordR
    rw [wgo_more _ _ _ (by decide) (by decide), wgo_nil]
    rfl
  rw [hw]
  rfl
theorem wake_rule (F : Fl) : ∃ cond, ruleR F wakeC 2 [kSFX, ⟨#[65]⟩, ⟨#[121]⟩, tIES, tCND] = .ok ⟨2, 65, true, ⟨#[121]⟩, tIES, cond, [], 2⟩ := by
  unfold ruleR
  rw [if_neg (by simp)]
  have h2 : fieldAt [kSFX, ⟨#[65]⟩, ⟨#[121]⟩, tIES, tCND] 2 = ⟨#[121]⟩ := rfl
  have h3 : fieldAt [kSFX, ⟨#[65]⟩, ⟨#[121]⟩, tIES, tCND] 3 = tIES := rfl
  rw [h2, h3, wake_piece]
  have hw : wordR tIES.data.toList = ([105, 101, 115], [], false, 0) := by
    unfold wordR
    rw [wgo_more _ _ _ (by decide) (by decide), wgo_more _ _ _ (by decide) (by decide), wgo_more _ _ _ (by decide) (by decide), wgo_nil]
    rfl
  have ha : addR [105, 101, 115] = .ok tIES := by kernel_rfl
  obtain ⟨x, hx⟩ : ∃ x, condOf [kSFX, ⟨#[65]⟩, ⟨#[121]⟩, tIES, tCND] = .ok x := by
    have h : (match condOf [kSFX, ⟨#[65]⟩, ⟨#[121]⟩, tIES, tCND] with | .ok _ => true | .error _ => false) = true := by kernel_rfl
    cases hc : condOf [kSFX, ⟨#[65]⟩, ⟨#[121]⟩, tIES, tCND] with
    | error e => rw [hc] at h; cases h
    | ok x => exact ⟨x, rfl⟩
  refine ⟨x, ?_⟩
  dsimp only
  rw [hw]
  dsimp only
  rw [if_neg (by decide), ha]
  have hn : nextR F wakeC.kind [] false = .ok [] := rfl
  dsimp only
  rw [hn, hx]
  rfl
theorem wake_aff : ∃ r, affR wakeT.data.toList = .ok ⟨1, ⟨#[]⟩, ⟨#[]⟩, 0, 0, 0, 0, 0, 3, [], [], [wakeC], [r]⟩ ∧ r.add = tIES := by
  obtain ⟨cond, hc⟩ := wake_rule { fl0 with cls := [wakeC] }
  refine ⟨_, ?_, show (⟨2, 65, true, ⟨#[121]⟩, tIES, cond, [], 2⟩ : Rl).add = tIES from rfl⟩
  rw [affR_small _ (by decide), wake_rows, wake_lines]
  have hk : keyN (fieldAt [kSFX, ⟨#[65]⟩, ⟨#[89]⟩, ⟨#[49]⟩] 0) = 12 := by kernel_rfl
  have hfr : freshR fl0 ⟨#[65]⟩ = .ok 65 := by kernel_rfl
  have hne : numErr (⟨#[49]⟩ : ByteArray).data.toList 1024 = 0 := by kernel_rfl
  have hnv : numVal (⟨#[49]⟩ : ByteArray).data.toList 1024 = 1 := by kernel_rfl
  have hcl : classR 3 ⟨fl0, [(2, [kSFX, ⟨#[65]⟩, ⟨#[121]⟩, tIES, tCND])], [], 1⟩ [kSFX, ⟨#[65]⟩, ⟨#[89]⟩, ⟨#[49]⟩] = .ok ⟨{ { fl0 with cls := [wakeC] } with rls := [⟨2, 65, true, ⟨#[121]⟩, tIES, cond, [], 2⟩] }, [], [], 2⟩ := by
    unfold classR
    have h1 : fieldAt [kSFX, ⟨#[65]⟩, ⟨#[89]⟩, ⟨#[49]⟩] 1 = ⟨#[65]⟩ := rfl
    have h2 : fieldAt [kSFX, ⟨#[65]⟩, ⟨#[89]⟩, ⟨#[49]⟩] 2 = ⟨#[89]⟩ := rfl
    have h3 : fieldAt [kSFX, ⟨#[65]⟩, ⟨#[89]⟩, ⟨#[49]⟩] 3 = ⟨#[49]⟩ := rfl
    have h0 : fieldAt [kSFX, ⟨#[65]⟩, ⟨#[89]⟩, ⟨#[49]⟩] 0 = kSFX := rfl
    rw [h1, h2, h3, h0, hfr]
    dsimp only
    rw [if_neg (by simp), hne, hnv, if_neg (by decide), if_neg (by decide)]
    show groupR 3 _ (ruleIn wakeC) 1 ⟨{ fl0 with cls := [wakeC] }, [(2, [kSFX, ⟨#[65]⟩, ⟨#[121]⟩, tIES, tCND])], [], 1⟩ = _
    rw [groupR]
    dsimp only
    rw [if_pos (by decide)]
    unfold ruleIn
    rw [hc]
    rfl
  have hst : stepR 3 ⟨fl0, [(1, [kSFX, ⟨#[65]⟩, ⟨#[89]⟩, ⟨#[49]⟩]), (2, [kSFX, ⟨#[65]⟩, ⟨#[121]⟩, tIES, tCND])], [], 0⟩ 1 [kSFX, ⟨#[65]⟩, ⟨#[89]⟩, ⟨#[49]⟩] [(2, [kSFX, ⟨#[65]⟩, ⟨#[121]⟩, tIES, tCND])] = .ok ⟨{ { fl0 with cls := [wakeC] } with rls := [⟨2, 65, true, ⟨#[121]⟩, tIES, cond, [], 2⟩] }, [], [kSFX], 2⟩ := by
    unfold stepR
    rw [hk, if_neg (by decide), if_neg (by decide), if_neg (by decide)]
    have hh : headR 3 ⟨fl0, [(2, [kSFX, ⟨#[65]⟩, ⟨#[121]⟩, tIES, tCND])], [], 1⟩ [kSFX, ⟨#[65]⟩, ⟨#[89]⟩, ⟨#[49]⟩] 12 = _ := hcl
    rw [hh]
    rfl
  show affEnd (readGo 3 2 ⟨fl0, [(1, [kSFX, ⟨#[65]⟩, ⟨#[89]⟩, ⟨#[49]⟩]), (2, [kSFX, ⟨#[65]⟩, ⟨#[121]⟩, tIES, tCND])], [], 0⟩) = _
  rw [readGo]
  dsimp only
  rw [hst]
  rfl
end Go.Proofs.YtkdajhmlhjkcdaaGreatDoor
namespace Go.Proofs.YtkdajhmlhjkcdaaGreatDoor
open Go.RowKit Go.Maps
theorem one_of_map {rs : List (Rl × Value)} {r : Rl} (h : rs.map (·.1) = [r]) : ∃ u, rs = [(r, u)] := by
  match rs, h with
  | [x], h => exact ⟨x.2, by simp at h; rw [← h]⟩
set_option maxHeartbeats 4000000 in
set_option maxRecDepth 100000 in
theorem so_wakes (m0 : Int) (w : World) (h0 : 0 < w.heap.size) (hm : w.cell? ⟨0, 0, none⟩ = some (.int .i64 m0)) :
    Calls Tryz.prog 14 #[] w fun e w' => e = .returned (.bool true) ∧ Below w.heap.size w w' := by
  obtain ⟨r, hr, hra⟩ := wake_aff
  have HR := so_affRead wakeT m0 w h0 hm
  unfold ReadP at HR
  rw [hr] at HR
  dsimp only at HR
  have HRd := Lib.hid HR
  have HRa := Lib.hid hra
  clear HR hr hra hm h0
  go_enter Tryz.func14, Tryz.ntmps14
  go_upto_region 4 with (go_at_call 12; refine HRd.out.mono ?_; rintro e w1 ⟨hb1, fb, rfl, hf, hok, hfb⟩; have HB1 := Lib.hid hb1; have HF1 := Lib.hid hf; have HOk := Lib.hid hok; clear hb1 hf hok hfb)
  go_upto_region 5 with (go_at_call 16; refine (so_Affixes fb _ _ (HF1.out.keep ((Below.refl _ _).alloc (Nat.le_refl _) _)) HOk.out).mono ?_; rintro e w2 ⟨a, rfl, hn, hb2⟩; have HB2 : Hid (Below w.heap.size w w2) := Lib.hid (HB1.out.trans ((((Below.refl _ _).alloc (Nat.le_refl _) _).trans (hb2.mono (by simp))).mono HB1.out.size)); obtain ⟨vr, va, vc, vl⟩ := a; obtain ⟨⟨-, Ar, kr, rfl, -⟩, ⟨us, ⟨-, Aa, ka, rfl, -⟩, -⟩, hcl, rs, hm, hrl, -⟩ := hn.rd; obtain ⟨u, rfl⟩ := one_of_map hm; obtain ⟨gl, ol, kl, rfl, hc⟩ := hrl.at_ (by simp); have d4 : w2.cell? ⟨gl, ol + 4, none⟩ = some (.string r.add) := hc 4 _ rfl; rw [HRa.out] at d4; have hgl := World.block_lt_of_cell? _ _ d4; obtain ⟨-, Ac, kc, rfl, -⟩ := hcl; clear hn hm hrl hc hb2; unfold affV affA)
  go_wp2_with fail
  go_ret
  exact ⟨rfl, HB2.out.alloc HB2.out.size _⟩
end Go.Proofs.YtkdajhmlhjkcdaaGreatDoor
namespace Go.Proofs.YtkdajhmlhjkcdaaGreatDoor
open Go.RowKit
def Sx.at_ (S : Sx) (R : List Row) : Sx := { S with rows := R }
def ThroughP (f : Int → Sx → RX) (S S' : Sx) : Prop := ∃ A, S.rows = A ++ S'.rows ∧ ∀ end' R, f end' (S.at_ (A ++ R)) = .ok (S'.at_ R)
def FaultP (f : Int → Sx → RX) (end_ : Int) (S : Sx) (l c : Int) : Prop :=
  (l = end_ ∧ c = 116) ∨ ∃ A row B, S.rows = A ++ (l, row) :: B ∧ (∀ end' R, f end' (S.at_ (A ++ (l, row) :: R)) = .error (l, c)) ∧ ∀ end', f end' (S.at_ A) = .error (end', 116)
theorem group_through (ok : List ByteArray → Bool) (inn : Fl → Int → List ByteArray → Except Int Fl) (end_ : Int) : ∀ (n : Nat) (S S' : Sx), groupR end_ ok inn n S = .ok S' → ThroughP (fun e s => groupR e ok inn n s) S S'
  | 0, S, S', h => by
    rw [groupR] at h; cases h
    exact ⟨[], rfl, fun _ _ => rfl⟩
  | n + 1, S, S', h => by
    obtain ⟨fl, rows, heads, line⟩ := S
    cases rows with
    | nil => rw [groupR] at h; cases h
    | cons r rest =>
      obtain ⟨l, row⟩ := r
      have h' : ((if ok row = true then (match inn fl l row with
        | .error c => .error (l, c)
        | .ok F => groupR end_ ok inn n ⟨F, rest, heads, l⟩) else .error (l, 116)) : RX) = .ok S' := h
      by_cases hok : ok row = true
      · rw [if_pos hok] at h'
        obtain ⟨I, hI⟩ : ∃ I, inn fl l row = I := ⟨_, rfl⟩
        rw [hI] at h'
        cases I with
        | error c => cases h'
        | ok F =>
          obtain ⟨A, h1, h2⟩ := group_through ok inn end_ n _ _ h'
          refine ⟨(l, row) :: A, congrArg ((l, row) :: ·) h1, fun end' R => ?_⟩
          show ((if ok row = true then (match inn fl l row with
            | .error c => .error (l, c)
            | .ok F => groupR end' ok inn n ⟨F, A ++ R, heads, l⟩) else .error (l, 116)) : RX) = _
          rw [if_pos hok, hI]
          exact h2 end' R
      · rw [if_neg hok] at h'; cases h'
theorem group_fault (ok : List ByteArray → Bool) (inn : Fl → Int → List ByteArray → Except Int Fl) (end_ : Int) : ∀ (n : Nat) (S : Sx) (l c : Int), groupR end_ ok inn n S = .error (l, c) → FaultP (fun e s => groupR e ok inn n s) end_ S l c
  | 0, S, l, c, h => by rw [groupR] at h; cases h
  | n + 1, S, l, c, h => by
    obtain ⟨fl, rows, heads, line⟩ := S
    cases rows with
    | nil =>
      rw [groupR] at h
      cases h
      exact .inl ⟨rfl, rfl⟩
    | cons r rest =>
      obtain ⟨l', row⟩ := r
      have h' : ((if ok row = true then (match inn fl l' row with
        | .error c => .error (l', c)
        | .ok F => groupR end_ ok inn n ⟨F, rest, heads, l'⟩) else .error (l', 116)) : RX) = .error (l, c) := h
      have key : ∀ (end' : Int) (R : List Row), groupR end' ok inn (n + 1) ((⟨fl, (l', row) :: rest, heads, line⟩ : Sx).at_ ((l', row) :: R)) = ((if ok row = true then (match inn fl l' row with
        | .error c => .error (l', c)
        | .ok F => groupR end' ok inn n ⟨F, R, heads, l'⟩) else .error (l', 116)) : RX) := fun _ _ => rfl
      by_cases hok : ok row = true
      · rw [if_pos hok] at h'
        obtain ⟨I, hI⟩ : ∃ I, inn fl l' row = I := ⟨_, rfl⟩
        rw [hI] at h'
        cases I with
        | error c' =>
          cases h'
          refine .inr ⟨[], row, rest, rfl, fun end' R => ?_, fun end' => rfl⟩
          dsimp only; rw [List.nil_append, key, if_pos hok, hI]
        | ok F =>
          rcases group_fault ok inn end_ n _ l c h' with h1 | ⟨A, row', B, h1, h2, h3⟩
          · exact .inl h1
          · refine .inr ⟨(l', row) :: A, row', B, congrArg ((l', row) :: ·) h1, fun end' R => ?_, fun end' => ?_⟩
            · dsimp only; rw [List.cons_append, key, if_pos hok, hI]
              exact h2 end' R
            · dsimp only; rw [key, if_pos hok, hI]
              exact h3 end'
      · rw [if_neg hok] at h'
        cases h'
        refine .inr ⟨[], row, rest, rfl, fun end' R => ?_, fun end' => rfl⟩
        dsimp only; rw [List.nil_append, key, if_neg hok]
def FaultH (f : Int → Sx → RX) (end_ : Int) (S : Sx) (l c : Int) : Prop := (l = S.line ∧ ∀ end' R, f end' (S.at_ R) = .error (l, c)) ∨ FaultP f end_ S l c
inductive HeadW (f : Int → Sx → RX) (S : Sx) : Prop
  | bad (c : Int) (h : ∀ end' R, f end' (S.at_ R) = .error (S.line, c))
  | set (F : Fl) (h : ∀ end' R, f end' (S.at_ R) = .ok (({ S with fl := F } : Sx).at_ R))
  | grp (F : Fl) (ok : List ByteArray → Bool) (inn : Fl → Int → List ByteArray → Except Int Fl) (n : Nat) (h : ∀ end' R, f end' (S.at_ R) = groupR end' ok inn n (({ S with fl := F } : Sx).at_ R))
theorem HeadW.through {f : Int → Sx → RX} {S S' : Sx} {end_ : Int} (h : HeadW f S) (hS : f end_ S = .ok S') : ThroughP f S S' := by
  have e : S = S.at_ S.rows := rfl
  cases h with
  | bad c h => rw [e, h] at hS; cases hS
  | set F h =>
    rw [e, h] at hS; cases hS
    exact ⟨[], rfl, fun e R => h e R⟩
  | grp F ok inn n h =>
    rw [e, h] at hS
    obtain ⟨A, h1, h2⟩ := group_through ok inn end_ n _ _ hS
    exact ⟨A, h1, fun end' R => (h end' (A ++ R)).trans (h2 end' R)⟩
theorem HeadW.fault {f : Int → Sx → RX} {S : Sx} {end_ l c : Int} (h : HeadW f S) (hS : f end_ S = .error (l, c)) : FaultH f end_ S l c := by
  have e : S = S.at_ S.rows := rfl
  cases h with
  | bad c h =>
    rw [e, h] at hS; cases hS
    exact .inl ⟨rfl, h⟩
  | set F h => rw [e, h] at hS; cases hS
  | grp F ok inn n h =>
    rw [e, h] at hS
    rcases group_fault ok inn end_ n _ l c hS with h1 | ⟨A, row, B, h1, h2, h3⟩
    · exact .inr (.inl h1)
    exact .inr (.inr ⟨A, row, B, h1, fun end' R => (h end' _).trans (h2 end' R), fun end' => (h end' A).trans (h3 end')⟩)
theorem onFl_headP (S : Sx) (x : Except Int Fl) {f : Int → Sx → RX} (h : ∀ end' R, f end' (S.at_ R) = onFl S.line (S.at_ R) x) : HeadW f S := by
  cases x with
  | error c => exact .bad c (fun e R => h e R)
  | ok F => exact .set F (fun e R => h e R)
theorem head_headW (row : List ByteArray) (k : Nat) (S : Sx) : HeadW (fun e s => headR e s row k) S := by
  by_cases h0 : k = 0
  · exact onFl_headP S (kindR S (fieldAt row 1)) (fun e R => by show headR e _ row k = _; unfold headR; rw [if_pos h0]; rfl)
  by_cases h1 : k = 1
  · exact onFl_headP S (setR S.fl (fieldAt row 1)) (fun e R => by show headR e _ row k = _; unfold headR; rw [if_neg h0, if_pos h1]; rfl)
  by_cases h2 : k = 2
  · exact onFl_headP S (tryR S.fl (fieldAt row 1)) (fun e R => by show headR e _ row k = _; unfold headR; rw [if_neg h0, if_neg h1, if_pos h2]; rfl)
  by_cases h3 : k < 8
  · exact onFl_headP S (specialR S.fl (k - 3) (fieldAt row 1)) (fun e R => by show headR e _ row k = _; unfold headR; rw [if_neg h0, if_neg h1, if_neg h2, if_pos h3]; rfl)
  by_cases h4 : k = 8
  · exact onFl_headP S (leastR S.fl (fieldAt row 1)) (fun e R => by show headR e _ row k = _; unfold headR; rw [if_neg h0, if_neg h1, if_neg h2, if_neg h3, if_pos h4]; rfl)
  by_cases h5 : k = 9
  · have key : ∀ end' R, headR end' (S.at_ R) row k = repsG end' (S.at_ R) (fieldAt row 1) := fun e R => by unfold headR; rw [if_neg h0, if_neg h1, if_neg h2, if_neg h3, if_neg h4, if_pos h5]
    by_cases h : numErr (fieldAt row 1).data.toList 256 ≠ 0
    · exact .bad 13 (fun e R => (key e R).trans (by unfold repsG; rw [if_pos h]; rfl))
    exact .grp S.fl _ _ _ (fun e R => (key e R).trans (by unfold repsG; rw [if_neg h]; try rfl))
  by_cases h6 : k = 10
  · have key : ∀ end' R, headR end' (S.at_ R) row k = aliasG end' (S.at_ R) (fieldAt row 1) := fun e R => by unfold headR; rw [if_neg h0, if_neg h1, if_neg h2, if_neg h3, if_neg h4, if_neg h5, if_pos h6]
    by_cases hp : S.heads.contains kPFX = true ∨ S.heads.contains kSFX = true
    · exact .bad 113 (fun e R => (key e R).trans (by unfold aliasG; rw [if_pos (show (S.at_ R).heads.contains kPFX = true ∨ (S.at_ R).heads.contains kSFX = true from hp)]; rfl))
    by_cases h : numErr (fieldAt row 1).data.toList 1024 ≠ 0
    · exact .bad 13 (fun e R => (key e R).trans (by unfold aliasG; rw [if_neg (show ¬ ((S.at_ R).heads.contains kPFX = true ∨ (S.at_ R).heads.contains kSFX = true) from hp), if_pos h]; rfl))
    exact .grp S.fl _ _ _ (fun e R => (key e R).trans (by unfold aliasG; rw [if_neg (show ¬ ((S.at_ R).heads.contains kPFX = true ∨ (S.at_ R).heads.contains kSFX = true) from hp), if_neg h]; try rfl))
  have key : ∀ end' R, headR end' (S.at_ R) row k = classR end' (S.at_ R) row := fun e R => by unfold headR; rw [if_neg h0, if_neg h1, if_neg h2, if_neg h3, if_neg h4, if_neg h5, if_neg h6]
  obtain ⟨x, hx⟩ : ∃ x, freshR S.fl (fieldAt row 1) = x := ⟨_, rfl⟩
  have hx2 : ∀ R, freshR (S.at_ R).fl (fieldAt row 1) = x := fun _ => hx
  cases x with
  | error c => exact .bad c (fun e R => (key e R).trans (by unfold classR; rw [hx2]; rfl))
  | ok f =>
    by_cases g1 : fieldAt row 2 ≠ ⟨#[89]⟩ ∧ fieldAt row 2 ≠ ⟨#[78]⟩
    · exact .bad 114 (fun e R => (key e R).trans (by unfold classR; rw [hx2]; dsimp only; rw [if_pos g1]; rfl))
    by_cases g2 : numErr (fieldAt row 3).data.toList 1024 ≠ 0
    · exact .bad 13 (fun e R => (key e R).trans (by unfold classR; rw [hx2]; dsimp only; rw [if_neg g1, if_pos g2]; rfl))
    by_cases g3 : 1024 < (S.fl.rls.length : Int) + numVal (fieldAt row 3).data.toList 1024
    · exact .bad 117 (fun e R => (key e R).trans (by unfold classR; rw [hx2]; dsimp only; rw [if_neg g1, if_neg g2, if_pos (show 1024 < ((S.at_ R).fl.rls.length : Int) + numVal (fieldAt row 3).data.toList 1024 from g3)]; rfl))
    exact .grp { S.fl with cls := S.fl.cls ++ [⟨f, if fieldAt row 0 = kSFX then 2 else 1, decide (fieldAt row 2 = ⟨#[89]⟩), S.fl.rls.length, numVal (fieldAt row 3).data.toList 1024⟩] } (fun r => decide (r.take 2 = [fieldAt row 0, fieldAt row 1])) (ruleIn ⟨f, if fieldAt row 0 = kSFX then 2 else 1, decide (fieldAt row 2 = ⟨#[89]⟩), S.fl.rls.length, numVal (fieldAt row 3).data.toList 1024⟩) (numVal (fieldAt row 3).data.toList 1024).toNat (fun e R => (key e R).trans (by unfold classR; rw [hx2]; dsimp only; rw [if_neg g1, if_neg g2, if_neg (show ¬ 1024 < ((S.at_ R).fl.rls.length : Int) + numVal (fieldAt row 3).data.toList 1024 from g3)]; rfl))
theorem step_through {end_ l : Int} {S S' : Sx} {row : List ByteArray} {rest : List Row} (h : stepR end_ S l row rest = .ok S') : ∃ A, rest = A ++ S'.rows ∧ ∀ end' R X, stepR end' (S.at_ X) l row (A ++ R) = .ok (S'.at_ R) := by
  unfold stepR at h
  by_cases h1 : keyN (fieldAt row 0) = 13
  · rw [if_pos h1] at h; cases h
  rw [if_neg h1] at h
  by_cases h2 : row.length ≠ widthN (keyN (fieldAt row 0))
  · rw [if_pos h2] at h; cases h
  rw [if_neg h2] at h
  by_cases h3 : widthN (keyN (fieldAt row 0)) = 2 ∧ S.heads.contains (fieldAt row 0) = true
  · rw [if_pos h3] at h; cases h
  rw [if_neg h3] at h
  obtain ⟨x, hx⟩ : ∃ x, headR end_ { S with rows := rest, line := l } row (keyN (fieldAt row 0)) = x := ⟨_, rfl⟩
  rw [hx] at h
  cases x with
  | error e => cases h
  | ok S1 =>
    cases h
    obtain ⟨A, a1, a2⟩ := (head_headW row (keyN (fieldAt row 0)) { S with rows := rest, line := l }).through hx
    refine ⟨A, a1, fun end' R X => ?_⟩
    unfold stepR
    rw [if_neg h1, if_neg h2, if_neg (show ¬ (widthN (keyN (fieldAt row 0)) = 2 ∧ (S.at_ X).heads.contains (fieldAt row 0) = true) from h3)]
    have := a2 end' R
    have e : ({ S.at_ X with rows := A ++ R, line := l } : Sx) = ({ S with rows := rest, line := l } : Sx).at_ (A ++ R) := rfl
    rw [e]
    dsimp only at this
    rw [this]
    rfl
theorem step_fault {end_ l l' c : Int} {S : Sx} {row : List ByteArray} {rest : List Row} (h : stepR end_ S l row rest = .error (l', c)) :
    (l' = end_ ∧ c = 116) ∨ (l' = l ∧ ∀ end' R X, stepR end' (S.at_ X) l row R = .error (l', c)) ∨ ∃ A row' B, rest = A ++ (l', row') :: B ∧ (∀ end' R X, stepR end' (S.at_ X) l row (A ++ (l', row') :: R) = .error (l', c)) ∧ ∀ end' X, stepR end' (S.at_ X) l row A = .error (end', 116) := by
  unfold stepR at h
  by_cases h1 : keyN (fieldAt row 0) = 13
  · rw [if_pos h1] at h; cases h
    exact .inr (.inl ⟨rfl, fun e R X => by unfold stepR; rw [if_pos h1]⟩)
  rw [if_neg h1] at h
  by_cases h2 : row.length ≠ widthN (keyN (fieldAt row 0))
  · rw [if_pos h2] at h; cases h
    exact .inr (.inl ⟨rfl, fun e R X => by unfold stepR; rw [if_neg h1, if_pos h2]⟩)
  rw [if_neg h2] at h
  by_cases h3 : widthN (keyN (fieldAt row 0)) = 2 ∧ S.heads.contains (fieldAt row 0) = true
  · rw [if_pos h3] at h; cases h
    exact .inr (.inl ⟨rfl, fun e R X => by unfold stepR; rw [if_neg h1, if_neg h2, if_pos (show widthN (keyN (fieldAt row 0)) = 2 ∧ (S.at_ X).heads.contains (fieldAt row 0) = true from h3)]⟩)
  rw [if_neg h3] at h
  obtain ⟨x, hx⟩ : ∃ x, headR end_ { S with rows := rest, line := l } row (keyN (fieldAt row 0)) = x := ⟨_, rfl⟩
  rw [hx] at h
  cases x with
  | ok S1 => cases h
  | error e =>
    cases h
    have key : ∀ end' R X, headR end' (({ S with rows := rest, line := l } : Sx).at_ R) row (keyN (fieldAt row 0)) = .error (l', c) → stepR end' (S.at_ X) l row R = .error (l', c) := fun end' R X hh => by
      unfold stepR
      rw [if_neg h1, if_neg h2, if_neg (show ¬ (widthN (keyN (fieldAt row 0)) = 2 ∧ (S.at_ X).heads.contains (fieldAt row 0) = true) from h3)]
      have e : ({ S.at_ X with rows := R, line := l } : Sx) = ({ S with rows := rest, line := l } : Sx).at_ R := rfl
      rw [e, hh]
    have key2 : ∀ end' R X, headR end' (({ S with rows := rest, line := l } : Sx).at_ R) row (keyN (fieldAt row 0)) = .error (end', 116) → stepR end' (S.at_ X) l row R = .error (end', 116) := fun end' R X hh => by
      unfold stepR
      rw [if_neg h1, if_neg h2, if_neg (show ¬ (widthN (keyN (fieldAt row 0)) = 2 ∧ (S.at_ X).heads.contains (fieldAt row 0) = true) from h3)]
      have e : ({ S.at_ X with rows := R, line := l } : Sx) = ({ S with rows := rest, line := l } : Sx).at_ R := rfl
      rw [e, hh]
    rcases (head_headW row (keyN (fieldAt row 0)) { S with rows := rest, line := l }).fault hx with ⟨a1, a2⟩ | ⟨a1, a2⟩ | ⟨A, row', B, a1, a2, a3⟩
    · exact .inr (.inl ⟨a1, fun end' R X => key _ _ _ (a2 end' R)⟩)
    · exact .inl ⟨a1, a2⟩
    exact .inr (.inr ⟨A, row', B, a1, fun end' R X => key _ _ _ (a2 end' R), fun end' X => key2 _ _ _ (a3 end')⟩)
theorem read_fault_ {end_ : Int} : ∀ (n : Nat) (S : Sx) (l c : Int), readGo end_ n S = .error (l, c) → (l = end_ ∧ c = 116) ∨ ∃ A row B, S.rows = A ++ (l, row) :: B ∧
    (∀ end' R m, (A ++ (l, row) :: R).length ≤ m → readGo end' m (S.at_ (A ++ (l, row) :: R)) = .error (l, c)) ∧
    ∀ end' m, (∃ S', readGo end' m (S.at_ A) = .ok S') ∨ readGo end' m (S.at_ A) = .error (end', 116)
  | 0, S, l, c, h => by rw [readGo] at h; cases h
  | n + 1, S, l, c, h => by
    obtain ⟨fl, rows, heads, line⟩ := S
    cases rows with
    | nil => rw [readGo] at h; cases h
    | cons r rest =>
      obtain ⟨l0, row⟩ := r
      have key : ∀ (end' : Int) (m : Nat) (R : List Row), readGo end' (m + 1) ((⟨fl, (l0, row) :: rest, heads, line⟩ : Sx).at_ ((l0, row) :: R)) = ((match stepR end' ((⟨fl, (l0, row) :: rest, heads, line⟩ : Sx).at_ ((l0, row) :: R)) l0 row R with
        | .error e => .error e
        | .ok S' => readGo end' m S') : RX) := fun _ _ _ => rfl
      have h' := (key end_ n rest).symm.trans h
      obtain ⟨x, hx⟩ : ∃ x, stepR end_ (⟨fl, (l0, row) :: rest, heads, line⟩ : Sx) l0 row rest = x := ⟨_, rfl⟩
      have hx' : stepR end_ ((⟨fl, (l0, row) :: rest, heads, line⟩ : Sx).at_ ((l0, row) :: rest)) l0 row rest = x := hx
      rw [hx'] at h'
      cases x with
      | error e =>
        have he : e = (l, c) := by cases h'; rfl
        subst he
        rcases step_fault hx with a1 | ⟨a1, a2⟩ | ⟨A, row', B, a1, a2, a3⟩
        · exact .inl a1
        · subst a1
          refine .inr ⟨[], row, rest, rfl, fun end' R m hm => ?_, fun end' m => ?_⟩
          · obtain ⟨m, rfl⟩ : ∃ k, m = k + 1 := ⟨m - 1, by simp at hm; omega⟩
            rw [List.nil_append, key, a2]
          · left; cases m <;> exact ⟨_, rfl⟩
        · subst a1
          refine .inr ⟨(l0, row) :: A, row', B, rfl, fun end' R m hm => ?_, fun end' m => ?_⟩
          · obtain ⟨m, rfl⟩ : ∃ k, m = k + 1 := ⟨m - 1, by simp at hm; omega⟩
            rw [List.cons_append, key, a2]
          · cases m with
            | zero => exact .inl ⟨_, rfl⟩
            | succ m => right; rw [key, a3]
      | ok S1 =>
        obtain ⟨A, a1, a2⟩ := step_through hx
        rcases read_fault_ n S1 l c h' with b1 | ⟨A1, row', B, b1, b2, b3⟩
        · exact .inl b1
        · subst a1
          refine .inr ⟨(l0, row) :: (A ++ A1), row', B, by show (l0, row) :: (A ++ S1.rows) = _; rw [b1]; simp, fun end' R m hm => ?_, fun end' m => ?_⟩
          · obtain ⟨m, rfl⟩ : ∃ k, m = k + 1 := ⟨m - 1, by simp at hm; omega⟩
            have e : (l0, row) :: (A ++ A1) ++ (l, row') :: R = (l0, row) :: (A ++ (A1 ++ (l, row') :: R)) := by simp
            rw [e, key, a2]
            exact b2 end' R m (by simp at hm ⊢; omega)
          · cases m with
            | zero => exact .inl ⟨_, rfl⟩
            | succ m =>
              rw [key, a2]
              exact b3 end' m
end Go.Proofs.YtkdajhmlhjkcdaaGreatDoor
namespace Go.Proofs.YtkdajhmlhjkcdaaGreatDoor
open Go.RowKit
abbrev mark3 : List UInt8 := [239, 187, 191]
def jn (L : List (List UInt8)) : List UInt8 := L.flatMap (fun l => l ++ [13, 10])
theorem jn_cons (l : List UInt8) (L : List (List UInt8)) : jn (l :: L) = l ++ 13 :: 10 :: jn L := by simp [jn]
theorem rgo_run : ∀ (l r cur : List UInt8), (10 : UInt8) ∉ l → rgo (l ++ r) cur = rgo r (cur ++ l)
  | [], r, cur, _ => by simp
  | b :: l, r, cur, h => by
    have hb : b ≠ 10 := fun e => h (by simp [e])
    have hl : (10 : UInt8) ∉ l := fun e => h (by simp [e])
    rw [List.cons_append, rgo_more b (l ++ r) cur hb, rgo_run l r (cur ++ [b]) hl]
    simp
theorem rgo_line (l r : List UInt8) (h : (10 : UInt8) ∉ l) : rgo (l ++ 13 :: 10 :: r) [] = l :: rgo r [] := by
  rw [rgo_run l _ _ h, List.nil_append, rgo_more 13 _ _ (by decide), rgo_brk, ended_some, if_pos rfl]
theorem rgo_jn : ∀ (L : List (List UInt8)) (t : List UInt8), (∀ l ∈ L, (10 : UInt8) ∉ l) → rgo (jn L ++ t) [] = L ++ rgo t []
  | [], t, _ => rfl
  | l :: L, t, h => by
    rw [jn_cons]
    have e : l ++ 13 :: 10 :: jn L ++ t = l ++ 13 :: 10 :: (jn L ++ t) := by simp
    rw [e, rgo_line l _ (h l (by simp)), rgo_jn L t (fun x hx => h x (by simp [hx]))]
    rfl
theorem ended_no {l : List UInt8} (h : (10 : UInt8) ∉ l) : (10 : UInt8) ∉ ended l := by
  rcases List.eq_nil_or_concat l with rfl | ⟨m, a, rfl⟩
  · rw [ended_nil]; simp
  rw [List.concat_eq_append] at h ⊢
  rw [ended_some]
  split
  · exact fun e => h (by simp [e])
  exact h
theorem rgo_no : ∀ (l cur : List UInt8), (10 : UInt8) ∉ cur → ∀ x ∈ rgo l cur, (10 : UInt8) ∉ x
  | [], cur, h, x, hx => by
    rw [rgo] at hx
    split at hx
    · cases hx
    · simp at hx; subst hx; exact ended_no h
  | b :: r, cur, h, x, hx => by
    rw [rgo] at hx
    split at hx
    · rcases List.mem_cons.1 hx with rfl | hx
      · exact ended_no h
      · exact rgo_no r [] (by simp) x hx
    · rename_i hb
      exact rgo_no r (cur ++ [b]) (by
        intro e
        rcases List.mem_append.1 e with e | e
        · exact h e
        · simp at e; exact hb e.symm) x hx
theorem linesOf_no (t : List UInt8) : ∀ l ∈ linesOf t, (10 : UInt8) ∉ l := by
  rw [← rgo_lines]; exact rgo_no _ _ (by simp)
theorem unmarked_no {t : List UInt8} (h : Lib.hasPrefix t mark3 = false) : unmarked t = t := by
  unfold unmarked Lib.trimPrefix
  rw [h]; rfl
theorem mark_ext' (l r : List UInt8) (c : UInt8) (h : Lib.hasPrefix l mark3 = false) (hc : c = 10 ∨ c = 13) : Lib.hasPrefix (l ++ c :: r) mark3 = false := by
  unfold Lib.hasPrefix mark3 at *
  match l with
  | [] => rcases hc with rfl | rfl <;> simp [List.isPrefixOf]
  | [a] => rcases hc with rfl | rfl <;> simp [List.isPrefixOf]
  | [a, b] => rcases hc with rfl | rfl <;> simp [List.isPrefixOf]
  | a :: b :: d :: l => simpa [List.isPrefixOf] using h
theorem mark_of {l r : List UInt8} (h : Lib.hasPrefix (l ++ r) mark3 = false) : Lib.hasPrefix l mark3 = false := by
  cases hx : Lib.hasPrefix l mark3
  · rfl
  unfold Lib.hasPrefix at hx h
  rw [List.isPrefixOf_iff_prefix] at hx
  have : mark3.isPrefixOf (l ++ r) = true := List.isPrefixOf_iff_prefix.2 (hx.trans (List.prefix_append l r))
  rw [this] at h; cases h
theorem jn_mark {l : List UInt8} {L : List (List UInt8)} {t : List UInt8} (h : Lib.hasPrefix l mark3 = false) : Lib.hasPrefix (jn (l :: L) ++ t) mark3 = false := by
  rw [jn_cons]
  have e : l ++ 13 :: 10 :: jn L ++ t = l ++ 13 :: (10 :: (jn L ++ t)) := by simp
  rw [e]
  exact mark_ext' _ _ _ h (.inr rfl)
theorem jn_first {l : List UInt8} {L : List (List UInt8)} (h : Lib.hasPrefix (jn (l :: L)) mark3 = false) : Lib.hasPrefix l mark3 = false := by
  rw [jn_cons] at h; exact mark_of h
theorem numbered_append : ∀ (n : Nat) (A B : List (List UInt8)), numbered n (A ++ B) = numbered n A ++ numbered (n + A.length) B
  | n, [], B => rfl
  | n, a :: A, B => by
    rw [List.cons_append, numbered, numbered_append (n + 1) A B, numbered, List.cons_append, List.length_cons]
    congr 3
    omega
theorem rowsOf_append (A B : List (Int × ByteArray)) : rowsOf (A ++ B) = rowsOf A ++ rowsOf B := by simp [rowsOf]
theorem rowOf_line {n : Int} {l : ByteArray} : ∀ r ∈ rowOf n l, r.1 = n := by
  intro r hr
  unfold rowOf at hr
  split at hr
  · cases hr
  simp at hr; subst hr; rfl
theorem rows_line {n : Nat} {L : List (List UInt8)} : ∀ r ∈ rowsOf (numbered n L), (n : Int) ≤ r.1 ∧ r.1 < (n : Int) + L.length := by
  intro r hr
  unfold rowsOf at hr
  obtain ⟨x, hx, hr⟩ := List.mem_flatMap.1 hr
  have := numbered_at n L x hx
  rw [rowOf_line r hr]; exact this
theorem rows_sorted : ∀ (n : Nat) (L : List (List UInt8)), List.Pairwise (fun a b : Row => a.1 < b.1) (rowsOf (numbered n L))
  | n, [] => List.Pairwise.nil
  | n, l :: L => by
    have e2 : rowsOf (numbered n (l :: L)) = rowOf (n : Int) (clamp (mkS l)) ++ rowsOf (numbered (n + 1) L) := by rw [numbered]; simp [rowsOf]
    rw [e2, List.pairwise_append]
    refine ⟨?_, rows_sorted (n + 1) L, fun a ha b hb => ?_⟩
    · unfold rowOf; split <;> simp
    · have := rowOf_line a ha
      have := (rows_line b hb).1
      omega
theorem rows_take (k : Nat) (L : List (List UInt8)) : rowsOf (numbered 1 (L.take k)) = (rowsOf (numbered 1 L)).filter (fun r => decide (r.1 ≤ (k : Int))) := by
  by_cases hk : k ≤ L.length
  · have e : rowsOf (numbered 1 L) = rowsOf (numbered 1 (L.take k)) ++ rowsOf (numbered (1 + (L.take k).length) (L.drop k)) := by
      rw [← rowsOf_append, ← numbered_append, List.take_append_drop]
    rw [e, List.filter_append]
    have h1 : (rowsOf (numbered 1 (L.take k))).filter (fun r => decide (r.1 ≤ (k : Int))) = rowsOf (numbered 1 (L.take k)) := by
      rw [List.filter_eq_self]
      intro r hr
      have := rows_line r hr
      rw [List.length_take] at this
      simp; omega
    have h2 : (rowsOf (numbered (1 + (L.take k).length) (L.drop k))).filter (fun r => decide (r.1 ≤ (k : Int))) = [] := by
      rw [List.filter_eq_nil_iff]
      intro r hr
      have := rows_line r hr
      rw [List.length_take] at this
      simp; omega
    rw [h1, h2, List.append_nil]
  rw [List.take_of_length_le (by omega)]
  symm
  rw [List.filter_eq_self]
  intro r hr
  have := rows_line r hr
  simp; omega
theorem cut_sorted {rows A B : List Row} {l : Int} {row : List ByteArray} (hs : List.Pairwise (fun a b : Row => a.1 < b.1) rows) (h : rows = A ++ (l, row) :: B) :
    rows.filter (fun r => decide (r.1 ≤ l)) = A ++ [(l, row)] ∧ rows.filter (fun r => decide (r.1 ≤ l - 1)) = A := by
  subst h
  rw [List.pairwise_append, List.pairwise_cons] at hs
  obtain ⟨-, ⟨hB, -⟩, hA⟩ := hs
  have a1 : ∀ r ∈ A, r.1 < l := fun r hr => hA r hr (l, row) (by simp)
  rw [List.filter_append, List.filter_append, List.filter_cons, List.filter_cons, if_pos (by simp), if_neg (by simp; omega)]
  have b1 : B.filter (fun r => decide (r.1 ≤ l)) = [] := by
    rw [List.filter_eq_nil_iff]; intro r hr; have := hB r hr; simp; omega
  have b2 : B.filter (fun r => decide (r.1 ≤ l - 1)) = [] := by
    rw [List.filter_eq_nil_iff]; intro r hr; have := hB r hr; simp; omega
  have c1 : A.filter (fun r => decide (r.1 ≤ l)) = A := by
    rw [List.filter_eq_self]; intro r hr; have := a1 r hr; simp; omega
  have c2 : A.filter (fun r => decide (r.1 ≤ l - 1)) = A := by
    rw [List.filter_eq_self]; intro r hr; have := a1 r hr; simp; omega
  rw [b1, b2, c1, c2]
  exact ⟨rfl, by simp⟩
def affL (L : List (List UInt8)) : Except (Int × Int) Fl := affEnd (readGo (L.length + 1) (rowsOf (numbered 1 L)).length ⟨fl0, rowsOf (numbered 1 L), [], 0⟩)
theorem affR_lines {t : List UInt8} (h : t.length ≤ 65536) : affR t = affL (linesOf t) := by
  rw [affR_small t (by omega), affL, eachOf, if_neg (by omega)]
theorem affR_jn {L : List (List UInt8)} {t : List UInt8} (hL : ∀ l ∈ L, (10 : UInt8) ∉ l) (hn : (jn L ++ t).length ≤ 65536) (hm : Lib.hasPrefix (jn L ++ t) mark3 = false) : affR (jn L ++ t) = affL (L ++ rgo t []) := by
  rw [affR_lines hn, ← rgo_lines, unmarked_no hm, rgo_jn L t hL]
theorem affL_first (L : List (List UInt8)) (l c : Int) (h : affL L = .error (l, c)) (hc : c ≠ 118) : (l = (L.length : Int) + 1 ∧ c = 116) ∨ ∃ k : Nat, l = k ∧ 1 ≤ k ∧ k ≤ L.length ∧
    (∀ T, affL (L.take k ++ T) = .error (l, c)) ∧ ((∃ F, affL (L.take (k - 1)) = .ok F) ∨ (∃ x, affL (L.take (k - 1)) = .error (x, 118)) ∨ affL (L.take (k - 1)) = .error (l, 116)) := by
  unfold affL at h
  obtain ⟨x, hx⟩ : ∃ x, readGo (L.length + 1) (rowsOf (numbered 1 L)).length ⟨fl0, rowsOf (numbered 1 L), [], 0⟩ = x := ⟨_, rfl⟩
  rw [hx] at h
  cases x with
  | ok S =>
    unfold affEnd at h
    dsimp only at h
    split at h
    · cases h; exact absurd rfl hc
    cases h
  | error e =>
    have he : e = (l, c) := by cases h; rfl
    subst he
    rcases read_fault_ _ _ l c hx with h1 | ⟨A, row, B, h1, h2, h3⟩
    · exact .inl h1
    right
    have hr : rowsOf (numbered 1 L) = A ++ (l, row) :: B := h1
    have hb := rows_line (n := 1) (L := L) (l, row) (by rw [hr]; simp)
    dsimp only at hb
    obtain ⟨k, rfl⟩ : ∃ k : Nat, l = k := ⟨l.toNat, by omega⟩
    obtain ⟨f1, f2⟩ := cut_sorted (rows_sorted 1 L) hr
    refine ⟨k, rfl, by omega, by omega, fun T => ?_, ?_⟩
    · have hl : (L.take k).length = k := by rw [List.length_take]; omega
      have er : rowsOf (numbered 1 (L.take k ++ T)) = A ++ ((k : Int), row) :: rowsOf (numbered (1 + k) T) := by
        rw [numbered_append, rowsOf_append, hl, rows_take, f1, List.append_assoc]; rfl
      unfold affL
      rw [er]
      have := h2 (((L.take k ++ T).length : Int) + 1) (rowsOf (numbered (1 + k) T)) _ (Nat.le_refl _)
      unfold Sx.at_ at this
      dsimp only at this
      rw [this]; rfl
    have er : rowsOf (numbered 1 (L.take (k - 1))) = A := by
      rw [rows_take, ← f2]
      have e : ((k - 1 : Nat) : Int) = (k : Int) - 1 := by omega
      rw [e]
    have hl : ((L.take (k - 1)).length : Int) + 1 = (k : Int) := by rw [List.length_take]; omega
    unfold affL
    rw [er, hl]
    have := h3 (k : Int) A.length
    unfold Sx.at_ at this
    dsimp only at this
    rcases this with ⟨S', h4⟩ | h4
    · rw [h4]
      unfold affEnd
      dsimp only
      split
      · exact .inr (.inl ⟨_, rfl⟩)
      exact .inl ⟨_, rfl⟩
    rw [h4]; exact .inr (.inr rfl)
end Go.Proofs.YtkdajhmlhjkcdaaGreatDoor
namespace Go.Proofs.YtkdajhmlhjkcdaaGreatDoor
open Go.RowKit Go.Maps
theorem mkS_app (a b : List UInt8) : mkS a ++ mkS b = mkS (a ++ b) := by simp [mkS, ByteArray.ext_iff]
theorem jn_snoc (L : List (List UInt8)) (l : List UInt8) : jn (L ++ [l]) = jn L ++ (l ++ [13, 10]) := by simp [jn]
theorem jn_take_le (L : List (List UInt8)) (k : Nat) : (jn (L.take k)).length ≤ (jn L).length := by
  conv => rhs; rw [← List.take_append_drop k L]
  unfold jn
  rw [List.flatMap_append, List.length_append]; omega
set_option maxHeartbeats 2000000 in
set_option maxRecDepth 100000 in
theorem so_joined (v : Value) (L : List (List UInt8)) (w : World) (h : Rd w 1 v L.length (strV (L.map mkS))) (hn : L.length ≤ 140737488351232) (hj : (jn L).length ≤ 281474976710656) :
    Calls Tryz.prog 26 #[v] w fun e w' => e = .returned (.string (mkS (jn L))) ∧ w = w' := by
  obtain ⟨-, A, cap, rfl, hcap, hc⟩ := h
  have HC := Lib.hid hc
  clear hc
  go_enter Tryz.func26, Tryz.ntmps26
  go_wp2_with fail
  go_loop [3, 5, 8] (fun s _ x => ∃ k : Nat, k ≤ L.length ∧ x = .int .i64 k ∧ s = .string (mkS (jn (L.take k)))) (fun _ _ x => L.length - (intOf x).toNat)
  case atStart => exact ⟨0, Nat.zero_le _, rfl, rfl⟩
  case round =>
  obtain ⟨k, hk, rfl, rfl⟩ := hrel
  by_cases hlt : k < L.length
  · obtain ⟨g, o, rfl, hc⟩ := HC.out.resolve_left (by omega)
    have d : w.cell? ⟨g, o + k, none⟩ = some (.string (mkS L[k])) := hc k _ (by simp [strV, hlt])
    clear hc
    have HE : Hid (mkS (jn (L.take k)) ++ (mkS L[k] ++ (⟨#[13, 10]⟩ : ByteArray)) = mkS (jn (L.take (k + 1)))) := Lib.hid (by
      have e : (⟨#[13, 10]⟩ : ByteArray) = mkS [13, 10] := rfl
      rw [e, mkS_app, mkS_app, List.take_add_one, List.getElem?_eq_getElem hlt]
      rw [Option.toList_some, jn_snoc])
    obtain ⟨T1, hT1⟩ : ∃ T, mkS L[k] ++ (⟨#[13, 10]⟩ : ByteArray) = T := ⟨_, rfl⟩
    obtain ⟨T2, hT2⟩ : ∃ T, mkS (jn (L.take k)) ++ T1 = T := ⟨_, rfl⟩
    have HE2 : Hid (T2 = mkS (jn (L.take (k + 1)))) := Lib.hid (by rw [← hT2, ← hT1]; exact HE.out)
    have hz2 : T2.size ≤ 281474976710656 := by
      rw [HE2.out, mkS_size]
      exact Nat.le_trans (jn_take_le L (k + 1)) hj
    have hz1 : T1.size ≤ 281474976710656 := by
      rw [← hT2, ByteArray.size_append] at hz2; omega
    have hz3 : (mkS L[k]).size + 2 ≤ 9223372036854775807 := by
      rw [← hT1, ByteArray.size_append] at hz1
      have : (⟨#[13, 10]⟩ : ByteArray).size = 2 := rfl
      omega
    have hz4 : (mkS (jn (L.take k))).size + T1.size ≤ 9223372036854775807 := by
      rw [← hT2, ByteArray.size_append] at hz2; omega
    go_wp2_with fail
    go_round
    case rel => exact ⟨k + 1, by omega, by go_num, by rw [HE2.out]⟩
    case measure => simp [intOf]; omega
  obtain rfl : k = L.length := by omega
  rw [List.take_length]
  go_wp2_with fail
  go_ret
  exact ⟨rfl, rfl⟩
end Go.Proofs.YtkdajhmlhjkcdaaGreatDoor
namespace Go.Proofs.YtkdajhmlhjkcdaaGreatDoor
open Go.RowKit Go.Maps
theorem jn_len (b : Nat) : ∀ (L : List (List UInt8)), (∀ l ∈ L, l.length ≤ b) → (jn L).length ≤ L.length * (b + 2)
  | [], _ => by simp [jn]
  | l :: L, h => by
    have h1 := h l (by simp)
    have h2 := jn_len b L (fun x hx => h x (by simp [hx]))
    rw [jn_cons, List.length_append, List.length_cons, List.length_cons, List.length_cons, Nat.add_mul]
    omega
theorem Rd.lines_take {w : World} {A : Option Addr} {cap n : Nat} {L : List (List UInt8)} (h : Rd w 1 (.slice A n cap) n (strV (L.map mkS))) (hn : L.length = n) (k : Nat) (hk : k ≤ n) : Rd w 1 (.slice A k cap) (L.take k).length (strV ((L.take k).map mkS)) := by
  obtain ⟨-, A', cap', hv, hcap, h2⟩ := h
  cases hv
  have hl : (L.take k).length = k := by rw [List.length_take]; omega
  rw [hl]
  refine ⟨by simp [strV]; omega, A, cap, rfl, by omega, ?_⟩
  rcases Nat.eq_zero_or_pos k with h0 | h0
  · exact .inl h0
  obtain ⟨g, o, hA, h3⟩ := h2.resolve_left (by omega)
  refine .inr ⟨g, o, hA, fun j u hj => h3 j u ?_⟩
  have hlt : j < k := by
    have := (List.getElem?_eq_some_iff.1 hj).1
    simp [strV] at this
    omega
  rw [← hj]
  simp [strV, List.getElem?_map, List.getElem?_take, hlt]
theorem affR_jn0 {L : List (List UInt8)} (hL : ∀ l ∈ L, (10 : UInt8) ∉ l) (hn : (jn L).length ≤ 65536) (hm : Lib.hasPrefix (jn L) mark3 = false) : affR (jn L) = affL L := by
  have h := affR_jn (L := L) (t := []) hL (by rw [List.append_nil]; exact hn) (by rw [List.append_nil]; exact hm)
  rw [List.append_nil] at h
  rw [h, rgo, if_pos rfl, List.append_nil]
theorem jn_mark' {L : List (List UInt8)} {t : List UInt8} (h0 : L ≠ []) (h : Lib.hasPrefix (jn L) mark3 = false) : Lib.hasPrefix (jn L ++ t) mark3 = false := by
  cases L with
  | nil => exact absurd rfl h0
  | cons l L => exact jn_mark (jn_first h)
def fltOf : Except (Int × Int) Fl → Value
  | .error p => .agg #[.int .i64 1, .int .i64 p.1, .int .i64 p.2]
  | .ok _ => .agg #[.int .i64 0, .int .i64 0, .int .i64 0]
theorem so_readF (s : ByteArray) (m0 : Int) (w : World) (h0 : 0 < w.heap.size) (hm : w.cell? ⟨0, 0, none⟩ = some (.int .i64 m0)) :
    Calls Tryz.prog 12 #[.string s] w fun e w' => ∃ p, e = .returned (.tuple #[.pointer p, fltOf (affR s.data.toList)]) ∧ Below w.heap.size w w' :=
  (so_affRead s m0 w h0 hm).mono (by
    rintro e w' ⟨hb, h⟩
    cases hr : affR s.data.toList with
    | error p =>
      rw [hr] at h
      exact ⟨none, h, hb⟩
    | ok F =>
      rw [hr] at h
      obtain ⟨fb, he, -⟩ := h
      exact ⟨_, he, hb⟩)
set_option maxHeartbeats 8000000 in
set_option maxRecDepth 100000 in
theorem affFirst_walk (t s : ByteArray) (m0 : Int) (w : World) (h0 : 0 < w.heap.size) (hm : w.cell? ⟨0, 0, none⟩ = some (.int .i64 m0)) (hs : s.size ≤ 140737488351232) :
    Calls Tryz.prog 7 #[.string t, .string s] w fun e w' => e = .returned (.bool true) ∧ Below w.heap.size w w' := by
  have HF : Hid (∀ x W, Below w.heap.size w W → Calls Tryz.prog 12 #[.string x] W fun e w' => ∃ p, e = .returned (.tuple #[.pointer p, fltOf (affR x.data.toList)]) ∧ Below W.heap.size W w') := Lib.hid (fun x W hW => so_readF x m0 W (Nat.lt_of_lt_of_le h0 hW.size) ((hW.cell (World.block_lt_of_cell? _ _ hm)).trans hm))
  have HW := Lib.hid (so_wakes m0 w h0 hm)
  have HSp : Hid (∀ W, Calls Tryz.prog 24 #[.string t] W fun e W' => ∃ v, e = .returned (.tuple #[v, .int .i64 (codeS t)]) ∧ Own W W' 9 1 v (splitS t).length (strV (splitS t))) := Lib.hid (fun W => Split01_any t W)
  clear h0 hm
  by_cases hbig : 65536 < t.size
  · have hx : affR t.data.toList = .error (0, 10) := by rw [affR, if_pos (by rw [len_toList]; exact hbig)]
    have HFt : Hid (∀ W, Below w.heap.size w W → Calls Tryz.prog 12 #[.string t] W fun e w' => ∃ p, e = .returned (.tuple #[.pointer p, .agg #[.int .i64 1, .int .i64 0, .int .i64 10]]) ∧ Below W.heap.size W w') := Lib.hid (fun W hW => by
      have := HF.out t W hW
      rw [hx] at this; exact this)
    unfold codeS at HSp
    rw [if_pos hbig] at HSp
    clear hbig hx
    go_enter Tryz.func7, Tryz.ntmps7
    go_wp2_with fail
    refine HW.out.mono ?_
    rintro e w1 ⟨rfl, hb1⟩
    have HB1 := Lib.hid hb1
    clear hb1
    go_wp2_with fail
    refine (HSp.out _).mono ?_
    rintro e w2 ⟨v2, rfl, ho2⟩
    have HB2 := Lib.hid (HB1.out.trans (ho2.below.mono HB1.out.size))
    clear ho2
    go_wp2_with fail
    refine (HFt.out _ HB2.out).mono ?_
    rintro e w3 ⟨p3, rfl, hb3⟩
    have HB3 := Lib.hid (HB2.out.trans (hb3.mono HB2.out.size))
    clear hb3
    go_wp2_with fail
    go_ret
    exact ⟨by simp, HB3.out.alloc HB3.out.size _⟩
  have hcode : codeS t = 0 := by unfold codeS; rw [if_neg hbig]
  have hspl : splitS t = (linesOf t.data.toList).map mkS := by unfold splitS; rw [if_neg hbig]
  have hle : t.data.toList.length ≤ 65536 := by rw [len_toList]; omega
  rw [hcode, hspl, List.length_map] at HSp
  have hRL := affR_lines hle
  have hNo := linesOf_no t.data.toList
  have hcnt : (linesOf t.data.toList).length ≤ 65536 := by
    have := eachOf_len t.data.toList
    rw [eachOf, if_neg (by omega), numbered_len] at this
    exact this
  have hjl : (jn (linesOf t.data.toList)).length ≤ 4295098368 := by
    have h1 := jn_len 65536 (linesOf t.data.toList) (fun l hl => Nat.le_trans (linesFrom_each _ _ l hl) (Nat.le_trans (unmarked_le _) hle))
    have h2 : (linesOf t.data.toList).length * (65536 + 2) ≤ 65536 * (65536 + 2) := Nat.mul_le_mul_right _ hcnt
    omega
  have HMk := Lib.hid (fun W => Marked_any t W)
  obtain ⟨mk, hmk⟩ : ∃ b, Lib.hasPrefix t.data.toList mark3 = b := ⟨_, rfl⟩
  obtain ⟨R, hR⟩ : ∃ R, affR t.data.toList = R := ⟨_, rfl⟩
  have HFt : Hid (∀ W, Below w.heap.size w W → Calls Tryz.prog 12 #[.string t] W fun e w' => ∃ p, e = .returned (.tuple #[.pointer p, fltOf R]) ∧ Below W.heap.size W w') := Lib.hid (fun W hW => by
    have := HF.out t W hW
    rw [hR] at this; exact this)
  have HRe : Hid (R = affL (linesOf t.data.toList)) := Lib.hid (by rw [← hR]; exact hRL)
  have HRr : Hid (∀ l c, R = .error (l, c) → c ≠ 0) := Lib.hid (fun l c h => affR_err (hR.trans h))
  obtain ⟨L, hL⟩ : ∃ L, linesOf t.data.toList = L := ⟨_, rfl⟩
  rw [hL] at HSp HRe hNo hcnt hjl
  have HNo := Lib.hid hNo
  obtain ⟨n, hn⟩ : ∃ n, L.length = n := ⟨_, rfl⟩
  have HN := Lib.hid hn
  rw [hn] at HSp hcnt
  have hMk2 : ∀ W, Calls Tryz.prog 25 #[.string t] W fun e w' => e = .returned (.bool mk) ∧ W = w' := fun W => Marked_is t W mk hmk
  have HMk2 := Lib.hid hMk2
  have hwr : IntKind.i64.wrap ((n : Int) + 1) = (n : Int) + 1 := by rw [IntKind.wrap_i64]; omega
  clear hbig hcode hspl hle hRL hNo hL hn hR hmk HMk hMk2
  cases R with
  | ok F =>
    unfold fltOf at HFt
    go_enter Tryz.func7, Tryz.ntmps7
    go_wp2_with fail
    refine HW.out.mono ?_
    rintro e w1 ⟨rfl, hb1⟩
    have HB1 := Lib.hid hb1
    clear hb1
    go_wp2_with fail
    refine (HSp.out _).mono ?_
    rintro e w2 ⟨v2, rfl, ho2⟩
    have HB2 := Lib.hid (HB1.out.trans (ho2.below.mono HB1.out.size))
    clear ho2
    go_wp2_with fail
    refine (HFt.out _ HB2.out).mono ?_
    rintro e w3 ⟨p3, rfl, hb3⟩
    have HB3 := Lib.hid (HB2.out.trans (hb3.mono HB2.out.size))
    clear hb3
    go_wp2_with fail
    go_ret
    exact ⟨by simp, HB3.out.alloc HB3.out.size _⟩
  | error lc =>
    obtain ⟨l, c⟩ := lc
    have hc0 : (c == 0) = false := by rw [beq_eq_false_iff_ne]; exact HRr.out l c rfl
    unfold fltOf at HFt
    dsimp only at HFt
    by_cases h118 : c = 118
    · subst h118
      clear hc0
      go_enter Tryz.func7, Tryz.ntmps7
      go_wp2_with fail
      refine HW.out.mono ?_
      rintro e w1 ⟨rfl, hb1⟩
      have HB1 := Lib.hid hb1
      clear hb1
      go_wp2_with fail
      refine (HSp.out _).mono ?_
      rintro e w2 ⟨v2, rfl, ho2⟩
      have HB2 := Lib.hid (HB1.out.trans (ho2.below.mono HB1.out.size))
      clear ho2
      go_wp2_with fail
      refine (HFt.out _ HB2.out).mono ?_
      rintro e w3 ⟨p3, rfl, hb3⟩
      have HB3 := Lib.hid (HB2.out.trans (hb3.mono HB2.out.size))
      clear hb3
      go_wp2_with fail
      go_ret
      exact ⟨by simp, HB3.out.alloc HB3.out.size _⟩
    have hc1 : (c == 118) = false := by rw [beq_eq_false_iff_ne]; exact h118
    cases mk
    rotate_left
    · clear h118
      go_enter Tryz.func7, Tryz.ntmps7
      go_wp2_with fail
      refine HW.out.mono ?_
      rintro e w1 ⟨rfl, hb1⟩
      have HB1 := Lib.hid hb1
      clear hb1
      go_wp2_with fail
      refine (HSp.out _).mono ?_
      rintro e w2 ⟨v2, rfl, ho2⟩
      have HB2 := Lib.hid (HB1.out.trans (ho2.below.mono HB1.out.size))
      clear ho2
      go_wp2_with fail
      refine (HFt.out _ HB2.out).mono ?_
      rintro e w3 ⟨p3, rfl, hb3⟩
      have HB3 := Lib.hid (HB2.out.trans (hb3.mono HB2.out.size))
      clear hb3
      go_wp2_with (go_at_call 25; refine (HMk2.out _).mono ?_; rintro e9 w9 ⟨rfl, rfl⟩)
      go_ret
      exact ⟨by simp, HB3.out.alloc HB3.out.size _⟩
    rcases affL_first L l c HRe.out.symm h118 with ⟨h1, h2⟩ | ⟨k, h1, hk1, hk2, hk3, hk4⟩
    · rw [HN.out] at h1
      subst h1 h2
      clear h118 hc0 hc1
      go_enter Tryz.func7, Tryz.ntmps7
      go_wp2_with fail
      refine HW.out.mono ?_
      rintro e w1 ⟨rfl, hb1⟩
      have HB1 := Lib.hid hb1
      clear hb1
      go_wp2_with fail
      refine (HSp.out _).mono ?_
      rintro e w2 ⟨v2, rfl, ho2⟩
      obtain ⟨A2, cp2, rfl⟩ := own_slice ho2.own
      have HB2 := Lib.hid (HB1.out.trans (ho2.below.mono HB1.out.size))
      clear ho2
      go_wp2_with fail
      refine (HFt.out _ HB2.out).mono ?_
      rintro e w3 ⟨p3, rfl, hb3⟩
      have HB3 := Lib.hid (HB2.out.trans (hb3.mono HB2.out.size))
      clear hb3
      have hl1 : decide ((n : Int) + 1 < 1) = false := by rw [decide_eq_false_iff_not]; omega
      go_wp2_with (go_at_call 25; refine (HMk2.out _).mono ?_; rintro e9 w9 ⟨rfl, rfl⟩)
      go_ret
      exact ⟨by simp, HB3.out.alloc HB3.out.size _⟩
    rw [HN.out] at hk2
    subst h1
    have HK3 := Lib.hid hk3
    have HK4 := Lib.hid hk4
    clear hk3 hk4 h118
    go_enter Tryz.func7, Tryz.ntmps7
    go_wp2_with fail
    refine HW.out.mono ?_
    rintro e w1 ⟨rfl, hb1⟩
    have HB1 := Lib.hid hb1
    clear hb1
    go_wp2_with fail
    refine (HSp.out _).mono ?_
    rintro e w2 ⟨v2, rfl, ho2⟩
    obtain ⟨A2, cp2, rfl⟩ := own_slice ho2.own
    have HB2 := Lib.hid (HB1.out.trans (ho2.below.mono HB1.out.size))
    have HRd2 := Lib.hid (Rd.of_own ho2.own)
    have hcap : n ≤ cp2 := by
      obtain ⟨-, A', c', hv, hc', -⟩ := HRd2.out
      cases hv; exact hc'
    clear ho2
    go_wp2_with fail
    refine (HFt.out _ HB2.out).mono ?_
    rintro e w3 ⟨p3, rfl, hb3⟩
    have HB3 : Hid (Below w.heap.size w (w3.alloc (.cells #[.int .i64 1, .int .i64 (k : Int), .int .i64 c] 25))) := Lib.hid ((HB2.out.trans (hb3.mono HB2.out.size)).alloc (Nat.le_trans HB2.out.size hb3.size) _)
    have HRd3 : Hid (Rd (w3.alloc (.cells #[.int .i64 1, .int .i64 (k : Int), .int .i64 c] 25)) 1 (.slice A2 n cp2) n (strV (L.map mkS))) := Lib.hid ((HRd2.out.keep hb3).keep ((Below.refl _ _).alloc (Nat.le_refl _) _))
    have HX3 : Hid (∀ W, Below (w3.alloc (.cells #[.int .i64 1, .int .i64 (k : Int), .int .i64 c] 25)).heap.size (w3.alloc (.cells #[.int .i64 1, .int .i64 (k : Int), .int .i64 c] 25)) W → W.cell? ⟨w3.heap.size, 0, none⟩ = some (.int .i64 1) ∧ W.cell? ⟨w3.heap.size, 1, none⟩ = some (.int .i64 (k : Int)) ∧ W.cell? ⟨w3.heap.size, 2, none⟩ = some (.int .i64 c)) := Lib.hid (fun W hW => by
      have h1 := heap_alloc_new w3 (.cells #[.int .i64 1, .int .i64 (k : Int), .int .i64 c] 25)
      have h2 := (hW.block _ (block_lt h1)).trans h1
      exact ⟨by rw [Lib.cell_of_heap h2]; rfl, by rw [Lib.cell_of_heap h2]; rfl, by rw [Lib.cell_of_heap h2]; rfl⟩)
    clear hb3
    have hl1 : decide ((k : Int) < 1) = false := by rw [decide_eq_false_iff_not]; omega
    have hl2 : decide ((n : Int) + 1 < (k : Int)) = false := by rw [decide_eq_false_iff_not]; omega
    have hl3 : ((k : Int) == (n : Int) + 1) = false := by rw [beq_eq_false_iff_ne]; omega
    have hk0 : (0 : Int) ≤ (k : Int) := by omega
    have hkc : (k : Int) ≤ (cp2 : Int) := by omega
    go_upto_region 13 with (go_at_call 25; refine (HMk2.out _).mono ?_; rintro e9 w9 ⟨rfl, rfl⟩)
    obtain ⟨wf, hwf⟩ : ∃ W, w3.alloc (.cells #[.int .i64 1, .int .i64 (k : Int), .int .i64 c] 25) = W := ⟨_, rfl⟩
    rw [hwf] at HB3 HRd3 HX3 ⊢
    clear hwf
    have hLk : (L.take k).length = k := by rw [List.length_take, HN.out]; omega
    have hNk : ∀ l ∈ L.take k, (10 : UInt8) ∉ l := fun l hl => HNo.out l (List.mem_of_mem_take hl)
    have hNk1 : ∀ l ∈ L.take (k - 1), (10 : UInt8) ∉ l := fun l hl => HNo.out l (List.mem_of_mem_take hl)
    have hjk : (jn (L.take k)).length ≤ 4295098368 := Nat.le_trans (jn_take_le L k) hjl
    have hjk1 : (jn (L.take (k - 1))).length ≤ 4295098368 := Nat.le_trans (jn_take_le L (k - 1)) hjl
    have HJ1 : Hid (∀ W, Below wf.heap.size wf W → Calls Tryz.prog 26 #[.slice A2 k cp2] W fun e w' => e = .returned (.string (mkS (jn (L.take k)))) ∧ W = w') := Lib.hid (fun W hW => so_joined _ (L.take k) W ((HRd3.out.keep hW).lines_take HN.out k hk2) (by rw [hLk]; omega) (by omega))
    have HJ2 : Hid (∀ W, Below wf.heap.size wf W → Calls Tryz.prog 26 #[.slice A2 (k - 1) cp2] W fun e w' => e = .returned (.string (mkS (jn (L.take (k - 1))))) ∧ W = w') := Lib.hid (fun W hW => so_joined _ (L.take (k - 1)) W ((HRd3.out.keep hW).lines_take HN.out (k - 1) (by omega)) (by rw [List.length_take, HN.out]; omega) (by omega))
    obtain ⟨T, hT⟩ : ∃ T, mkS (jn (L.take k)) = T := ⟨_, rfl⟩
    obtain ⟨U, hU⟩ : ∃ U, mkS (jn (L.take (k - 1))) = U := ⟨_, rfl⟩
    have hTd : T.data.toList = jn (L.take k) := by rw [← hT]; rfl
    have hUd : U.data.toList = jn (L.take (k - 1)) := by rw [← hU]; rfl
    have hTz : T.size ≤ 4295098368 := by rw [← hT, mkS_size]; exact hjk
    have hUz : U.size ≤ 4295098368 := by rw [← hU, mkS_size]; exact hjk1
    rw [hT] at HJ1
    rw [hU] at HJ2
    have HTd := Lib.hid hTd
    have HUd := Lib.hid hUd
    have HNk := Lib.hid hNk
    have HNk1 := Lib.hid hNk1
    have HLk := Lib.hid hLk
    obtain ⟨b1, hb1⟩ : ∃ b, Lib.hasPrefix T.data.toList mark3 = b := ⟨_, rfl⟩
    obtain ⟨b2, hb2⟩ : ∃ b, Lib.hasPrefix U.data.toList mark3 = b := ⟨_, rfl⟩
    have HM1 : Hid (∀ W, Calls Tryz.prog 25 #[.string T] W fun e w' => e = .returned (.bool b1) ∧ W = w') := Lib.hid (fun W => Marked_is T W b1 hb1)
    have HM2 : Hid (∀ W, Calls Tryz.prog 25 #[.string U] W fun e w' => e = .returned (.bool b2) ∧ W = w') := Lib.hid (fun W => Marked_is U W b2 hb2)
    have HP1 := Lib.hid hb1
    have HP2 := Lib.hid hb2
    have hws : IntKind.i64.wrap ((T.size : Int) + (s.size : Int)) = (T.size : Int) + (s.size : Int) := by rw [IntKind.wrap_i64]; omega
    have hwk : IntKind.i64.wrap ((k : Int) - 1) = ((k - 1 : Nat) : Int) := by rw [IntKind.wrap_i64]; omega
    obtain ⟨d0, d1, d2⟩ := HX3.out wf (Below.refl _ _)
    clear hTd hUd hNk hNk1 hLk hjk hjk1 hT hU hb1 hb2 hwr hl1 hl2 hl3 hcnt hjl
    go_upto_region 14 with (go_at_call 26; refine (HJ1.out _ (Below.refl _ _)).mono ?_; rintro e9 w9 ⟨rfl, rfl⟩)
    go_cut [96] from 86 to 96 (fun p W => ∃ B : Bool, p = .bool B ∧ W = wf ∧ Hid (B = true → T.size + s.size ≤ 65536 ∧ b1 = false))
    case first =>
      by_cases hsum : T.size + s.size ≤ 65536
      · have hd1 : decide ((T.size : Int) + (s.size : Int) ≤ 65536) = true := by rw [decide_eq_true_eq]; omega
        have HSm := Lib.hid hsum
        clear hsum
        cases b1
        all_goals
          go_wp2_with (go_at_call 25; refine (HM1.out _).mono ?_; rintro e9 w9 ⟨rfl, rfl⟩)
        all_goals go_meet
        · exact ⟨true, rfl, rfl, Lib.hid (fun _ => ⟨HSm.out, by first | rfl | trivial⟩)⟩
        exact ⟨false, rfl, rfl, Lib.hid (fun h => by cases h)⟩
      have hd1 : decide ((T.size : Int) + (s.size : Int) ≤ 65536) = false := by rw [decide_eq_false_iff_not]; omega
      clear hsum
      go_wp2_with fail
      all_goals go_meet
      all_goals exact ⟨false, rfl, rfl, Lib.hid (fun h => by cases h)⟩
    case rest =>
    obtain ⟨B, rfl, hwc, HBo⟩ := hcut
    rw [hwc]
    clear hwc wc
    go_upto_if 96 with fail
    go_cut [] from 98 to 106 (fun W => Hid (Below wf.heap.size wf W))
    case first =>
      cases B
      · go_wp2_with fail
        all_goals go_meet
        all_goals exact Lib.hid (Below.refl _ _)
      obtain ⟨hsum, hb1⟩ := HBo.out rfl
      subst hb1
      have hz : T.size + s.size ≤ 9223372036854775807 := by omega
      obtain ⟨X, hX⟩ : ∃ X, T ++ s = X := ⟨_, rfl⟩
      have hXd : X.data.toList = jn (L.take k) ++ s.data.toList := by
        rw [← hX, ← HTd.out]; simp
      have hXl : (jn (L.take k) ++ s.data.toList).length ≤ 65536 := by
        rw [List.length_append, ← HTd.out, len_toList, len_toList]; exact hsum
      have hXr : affR X.data.toList = .error ((k : Int), c) := by
        rw [hXd, affR_jn HNk.out hXl (jn_mark' (by
          intro h0
          have := HLk.out
          rw [h0] at this
          simp at this; omega) (by rw [← HTd.out]; exact HP1.out))]
        exact HK3.out _
      have HFx : Hid (∀ W, Below w.heap.size w W → Calls Tryz.prog 12 #[.string X] W fun e w' => ∃ p, e = .returned (.tuple #[.pointer p, .agg #[.int .i64 1, .int .i64 (k : Int), .int .i64 c]]) ∧ Below W.heap.size W w') := Lib.hid (fun W hW => by
        have := HF.out X W hW
        rw [hXr] at this; exact this)
      clear hXd hXl hXr hsum
      go_wp2_with fail
      refine (HFx.out _ HB3.out).mono ?_
      rintro e9 w9 ⟨p9, rfl, hb9⟩
      have HB9 : Hid (Below wf.heap.size wf (w9.alloc (.cells #[.int .i64 1, .int .i64 (k : Int), .int .i64 c] 25))) := Lib.hid (hb9.alloc hb9.size _)
      obtain ⟨d0', d1', d2'⟩ := HX3.out _ HB9.out
      clear hb9
      go_wp2_with fail
      all_goals go_meet
      all_goals exact HB9
    case rest =>
    have HBc := hcut
    clear hcut d0 d1 d2 hws
    obtain ⟨d0, d1, d2⟩ := HX3.out wc HBc.out
    have hk1c : ((k - 1 : Nat) : Int) ≤ (cp2 : Int) := by omega
    have hk10 : (0 : Int) ≤ ((k - 1 : Nat) : Int) := by omega
    go_upto_region 19 with (go_at_call 26; refine (HJ2.out _ HBc.out).mono ?_; rintro e9 w9 ⟨rfl, rfl⟩)
    have HBw : Hid (Below w.heap.size w wc) := Lib.hid (HB3.out.trans (HBc.out.mono HB3.out.size))
    by_cases hub : 65536 < U.size
    · have hd1 : decide ((65536 : Int) < (U.size : Int)) = true := by rw [decide_eq_true_eq]; omega
      go_wp2_with fail
      go_ret
      exact ⟨rfl, HBw.out⟩
    have hd1 : decide ((65536 : Int) < (U.size : Int)) = false := by rw [decide_eq_false_iff_not]; omega
    cases b2
    rotate_left
    · clear hub
      go_wp2_with (go_at_call 25; refine (HM2.out _).mono ?_; rintro e9 w9 ⟨rfl, rfl⟩)
      go_ret
      exact ⟨rfl, HBw.out⟩
    have hUr : affR U.data.toList = affL (L.take (k - 1)) := by
      rw [HUd.out]
      exact affR_jn0 HNk1.out (by rw [← HUd.out, len_toList]; omega) (by rw [← HUd.out]; exact HP2.out)
    obtain ⟨Q, hQ⟩ : ∃ Q, affL (L.take (k - 1)) = Q := ⟨_, rfl⟩
    have HFu : Hid (∀ W, Below w.heap.size w W → Calls Tryz.prog 12 #[.string U] W fun e w' => ∃ p, e = .returned (.tuple #[.pointer p, fltOf Q]) ∧ Below W.heap.size W w') := Lib.hid (fun W hW => by
      have := HF.out U W hW
      rw [hUr, hQ] at this; exact this)
    have hq := HK4.out
    rw [hQ] at hq
    clear hUr hQ hub
    rcases hq with ⟨F, rfl⟩ | ⟨x, rfl⟩ | rfl
    all_goals
      unfold fltOf at HFu
      dsimp only at HFu
      go_wp2_with (go_at_call 25; refine (HM2.out _).mono ?_; rintro e9 w9 ⟨rfl, rfl⟩)
      refine (HFu.out _ HBw.out).mono ?_
      rintro e w8 ⟨p8, rfl, hb8⟩
      have HB8 : Hid (Below w.heap.size w w8) := Lib.hid (HBw.out.trans (hb8.mono HBw.out.size))
    · clear hb8
      go_wp2_with fail
      go_ret
      exact ⟨by simp, HB8.out.alloc HB8.out.size _⟩
    · clear hb8
      go_wp2_with fail
      go_ret
      exact ⟨by simp, HB8.out.alloc HB8.out.size _⟩
    obtain ⟨d0', d1', d2'⟩ := HX3.out _ ((HBc.out.trans (hb8.mono HBc.out.size)).alloc (Nat.le_trans HBc.out.size hb8.size) (.cells #[.int .i64 1, .int .i64 (k : Int), .int .i64 116] 25))
    clear hb8
    go_wp2_with fail
    go_ret
    exact ⟨by simp, HB8.out.alloc HB8.out.size _⟩
theorem affFirst_sh (t s : ByteArray) (W : World) (h : W.ShapedOpen Tryz.prog) (hs : s.size ≤ 140737488351232) :
    Calls Tryz.prog 7 #[.string t, .string s] W fun e w' => e = .returned (.bool true) ∧ Below W.heap.size W w' := by
  obtain ⟨m, hm⟩ := maxLen_of W h
  exact affFirst_walk t s m W (Nat.lt_of_le_of_lt (Nat.zero_le _) (World.block_lt_of_cell? _ _ hm)) hm hs
end Go.Proofs.YtkdajhmlhjkcdaaGreatDoor
