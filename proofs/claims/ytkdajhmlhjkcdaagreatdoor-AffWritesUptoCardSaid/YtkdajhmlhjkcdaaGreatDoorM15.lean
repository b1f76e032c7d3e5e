/-
 Parts of the proof: FS5, FR6, AL15, AL6w, AL12, AL16, AL18, FLOpen, FGOpen.
-/
import Derived.Test.YtkdajhmlhjkcdaaGreatDoorRows
import Derived.Test.YtkdajhmlhjkcdaaGreatDoorM14
import Derived.Test.YtkdajhmlhjkcdaaGreatDoorM3
import Derived.BigQuiet
import Derived.Test.YtkdajhmlhjkcdaaGreatDoorM5
import Derived.Test.YtkdajhmlhjkcdaaGreatDoorM2
import Derived.Lib.LaidTab
import Derived.Test.YtkdajhmlhjkcdaaGreatDoorM1
import Derived.ChangeSlices
import Derived.SizedLaws
import Derived.Lib.AppendZeros
import Derived.Deep.Slices
set_option linter.unusedVariables false
set_option linter.unusedSimpArgs false
namespace Go.Proofs.YtkdajhmlhjkcdaaGreatDoor
open Go.RowKit
set_option maxHeartbeats 4000000 in
set_option maxRecDepth 100000 in
theorem so_rShow3 (v : Value) (zs : List Int) (w : World) (h : IS w v zs) (hbd : ∀ x ∈ zs, 0 ≤ x ∧ x ≤ 65535) (hbig : zs.length ≤ 4194304) :
  Calls Tryz.prog 61 #[.int .i64 3, v] w (ShowR 3 (canon zs) w) := by
 have hF := Lib.hid h
 have HU := Lib.hid (up_bd hbd)
 have hbd' := canon_bd hbd
 have hcl := canon_le zs
 obtain ⟨cs, hcs⟩ : ∃ cs, canon zs = cs := ⟨_, rfl⟩
 have HCS := Lib.hid hcs
 rw [hcs] at hbd' hcl ⊢
 have HB := Lib.hid hbd'
 clear h hbd hcs hbd'
 obtain ⟨R, hRR⟩ : ∃ R, ShowR 3 cs w = R := ⟨_, rfl⟩
 have HRR := Lib.hid hRR
 rw [hRR]
 clear hRR
 go_enter Tryz.func61, Tryz.ntmps61
 go_wp2_with (go_at_call 92; refine (so_rOf _ zs _ hF.out HU.out (by omega)).mono ?_; rw [HCS.out]; rintro e w1 ⟨v1, rfl, ⟨p1, c1, rfl, _, hs1⟩, b1⟩; have H1 := Lib.hid hs1; have B1 := Lib.hid b1; clear b1 hs1)
 have hsz1 := B1.out.size
 go_loopw [6, 8, 9, 10] (fun o i _ _ wr => ∃ k : Nat, k ≤ cs.length ∧ i = .int .i64 k ∧ o = .string (partF 3 cs k) ∧ Hid (GoodTo 3 cs k) ∧ Hid (Below w.heap.size w wr ∧ Below w1.heap.size w1 wr)) (fun _ i _ _ _ => cs.length - (intOf i).toNat)
 case atStart => exact ⟨0, Nat.zero_le _, rfl, rfl, (fun j _ hj => absurd hj (Nat.not_lt_zero _)), B1.out, Below.refl _ _⟩
 case round =>
 obtain ⟨k, hkk, rfl, rfl, HN, HB2⟩ := hrel
 have hsz2 := HB2.out.1.size
 by_cases hlt : k < cs.length
 ·obtain ⟨b, off, rfl, hc⟩ := H1.out.resolve_left (by omega)
  have c0 := hc k hlt
  have hcell := (HB2.out.2.cell (World.block_lt_of_cell? w1 _ c0)).trans c0
  have ecs : cs.getD k 0 = cs[k] := by simp [List.getD, hlt]
  rw [ecs] at hcell
  obtain ⟨b0, b1⟩ := HB.out cs[k] (List.getElem_mem hlt)
  have H31 := Lib.hid (show ∀ w', Below w.heap.size w w' → goodF 3 (cs[k]'hlt) = false → R (.returned (.tuple #[.string ⟨#[]⟩, .int .i64 31])) w' from fun w' hb hg => by rw [← HRR.out]; exact ShowR.r31 rfl k hlt hg hb)
  have HNX := Lib.hid (HN.out.next hlt)
  have HPS := Lib.hid (show k < 64 → ∀ s, s = mkS ((if k = 0 then [] else sepF 3) ++ textF 3 (cs[k]'hlt)) → partF 3 cs k ++ s = partF 3 cs (k + 1) from fun h64 s hs => partF_small 3 cs k h64 hlt s hs)
  clear hc c0 ecs HN
  generalize cs[k] = x at *
  have hos := partF_size 3 cs HB.out k
  have hss := text_size 3 x b0 b1
  obtain ⟨o1, ho1⟩ : ∃ o1, partF 3 cs k = o1 := ⟨_, rfl⟩
  rw [ho1] at HPS hos ⊢
  have HO1 := Lib.hid ho1
  clear ho1
  have HZ := Lib.hid (show (mkS (textF 3 x)).size ≤ maxLen by unfold maxLen; omega)
  have HG := Lib.hid (num_cases 3 x (.inr (num_3 x b0 b1)))
  have HDS := Lib.hid (show decS x = mkS (textF 3 x) by unfold decS Lib.itoa; rw [if_neg (by omega), textF_3])
  have DC := Lib.hid (Decimal01_any x wr (by omega) (by omega))
  obtain ⟨s, hs⟩ : ∃ s, mkS (textF 3 x) = s := ⟨_, rfl⟩
  have HS := Lib.hid hs
  rw [hs] at HZ hss HDS
  have HD := Lib.hid (show s.data.toList = textF 3 x by rw [← hs]; rfl)
  clear hs
  rcases HG.out with ⟨hq, hg⟩ | ⟨hq, hx0, hg⟩
  ·have HQ := Lib.hid (show numF 3 s.data.toList = 0 by rw [HD.out]; exact hq)
   have hfin := Lib.hid (fun w' (hb : Below w.heap.size w w') n => H31.out _ (below_drewN hb n) hg)
   clear hq hg HG
   go_wp2_with (first
    | (go_at_call 63; refine DC.out.mono ?_; rw [HDS.out]; rintro e w3 ⟨rfl, b3⟩; have HA := Lib.hid (HB2.out.1.trans (b3.mono hsz2)); have HA1 := Lib.hid (HB2.out.2.trans (b3.mono HB2.out.2.size)); clear b3)
    | (go_at_call 91; refine (so_Value 3 s _ (.inr (.inr rfl)) HZ.out).mono ?_; rw [HQ.out]; rintro e w4 ⟨rfl, n3, rfl⟩))
   try go_ret2
   exact hfin.out _ HA.out _
  have HQ := Lib.hid (show numF 3 s.data.toList = x by rw [HD.out]; exact hq)
  have hx1 : (x == 0) = false := by simpa using hx0
  have HNX2 := Lib.hid (HNX.out hg)
  clear hq hg HG hx0 HNX H31
  by_cases h64 : k < 64
  ·have h64' : (k : Int) < 64 := by omega
   by_cases hk0 : 0 < (k : Int)
   ·have HP := Lib.hid (HPS.out h64 (⟨#[44]⟩ ++ s) (by rw [← HS.out, if_neg (by omega)]; exact mkS_app [44] _))
    go_wp2_with (first | (go_at_call 63; refine DC.out.mono ?_; rw [HDS.out]; rintro e w3 ⟨rfl, b3⟩; have HA := Lib.hid (HB2.out.1.trans (b3.mono hsz2)); have HA1 := Lib.hid (HB2.out.2.trans (b3.mono HB2.out.2.size)); clear b3) | (go_at_call 91; refine (so_Value 3 s _ (.inr (.inr rfl)) HZ.out).mono ?_; rw [HQ.out]; rintro e w4 ⟨rfl, n3, rfl⟩))
    go_roundw
    case rel => exact ⟨k + 1, by omega, by go_num, by rw [HP.out], HNX2, Lib.hid ⟨below_drewN HA.out _, below_drewN HA1.out _⟩⟩
    case measure => simp [intOf]; omega
   have HP := Lib.hid (HPS.out h64 s (by rw [← HS.out, if_pos (by omega)]; rfl))
   go_wp2_with (first | (go_at_call 63; refine DC.out.mono ?_; rw [HDS.out]; rintro e w3 ⟨rfl, b3⟩; have HA := Lib.hid (HB2.out.1.trans (b3.mono hsz2)); have HA1 := Lib.hid (HB2.out.2.trans (b3.mono HB2.out.2.size)); clear b3) | (go_at_call 91; refine (so_Value 3 s _ (.inr (.inr rfl)) HZ.out).mono ?_; rw [HQ.out]; rintro e w4 ⟨rfl, n3, rfl⟩))
   go_roundw
   case rel => exact ⟨k + 1, by omega, by go_num, by rw [HP.out], HNX2, Lib.hid ⟨below_drewN HA.out _, below_drewN HA1.out _⟩⟩
   case measure => simp [intOf]; omega
  have h64' : ¬ (k : Int) < 64 := by omega
  have hk0 : 0 < (k : Int) := by omega
  have HP := Lib.hid (partF_big 3 cs k h64)
  go_wp2_with (first | (go_at_call 63; refine DC.out.mono ?_; rw [HDS.out]; rintro e w3 ⟨rfl, b3⟩; have HA := Lib.hid (HB2.out.1.trans (b3.mono hsz2)); have HA1 := Lib.hid (HB2.out.2.trans (b3.mono HB2.out.2.size)); clear b3) | (go_at_call 91; refine (so_Value 3 s _ (.inr (.inr rfl)) HZ.out).mono ?_; rw [HQ.out]; rintro e w4 ⟨rfl, n3, rfl⟩))
  go_roundw
  case rel => exact ⟨k + 1, by omega, by go_num, by rw [HP.out, HO1.out], HNX2, Lib.hid ⟨below_drewN HA.out _, below_drewN HA1.out _⟩⟩
  case measure => simp [intOf]; omega
 have hke : k = cs.length := by omega
 subst hke
 by_cases h64 : 64 < cs.length
 ·have h64' : (64 : Int) < (cs.length : Int) := by omega
  have hfin := Lib.hid (show R _ wr by rw [← HRR.out]; exact ShowR.r32 rfl HN.out h64 HB2.out.1)
  go_wp2
  try go_ret2
  exact hfin.out
 have h64' : ¬ (64 : Int) < (cs.length : Int) := by omega
 have hfin := Lib.hid (show R _ wr by rw [← HRR.out]; exact ShowR.r0 rfl HN.out h64 HB2.out.1)
 go_wp2
 try go_ret2
 exact hfin.out
theorem so_rShow (kind : Int) (v : Value) (zs : List Int) (w : World) (h : IS w v zs) (hbd : ∀ x ∈ zs, 0 ≤ x ∧ x ≤ 65535) (hbig : zs.length ≤ 4194304) :
  Calls Tryz.prog 61 #[.int .i64 kind, v] w (ShowR kind (canon zs) w) := by
 rcases kind_cases kind with ⟨-, rfl | rfl | rfl⟩ | ⟨hko, hk⟩
 ·exact so_rShow1 v zs w h hbd hbig
 ·exact so_rShow2 v zs w h hbd hbig
 ·exact so_rShow3 v zs w h hbd hbig
 have hfin := Lib.hid (show ShowR kind (canon zs) w (.returned (.tuple #[.string ⟨#[]⟩, .int .i64 30])) w from ⟨by rw [show_30 kind (canon zs) hko]; rfl, Below.refl _ _⟩)
 clear hko h hbd
 generalize ShowR kind (canon zs) w = R at *
 rcases hk with hk | hk
 ·go_enter Tryz.func61, Tryz.ntmps61
  go_wp2_with fail
  try go_ret2
  exact hfin.out
 have hk1 : ¬ kind < 1 := by omega
 go_enter Tryz.func61, Tryz.ntmps61
 go_wp2_with fail
 try go_ret2
 exact hfin.out
end Go.Proofs.YtkdajhmlhjkcdaaGreatDoor
namespace Go.Proofs.YtkdajhmlhjkcdaaGreatDoor
open Go.RowKit
set_option maxHeartbeats 4000000 in
set_option maxRecDepth 100000 in
theorem so_rEqual (v u : Value) (zs ts : List Int) (w : World) (h : IS w v zs) (hu : IS w u ts) (h0 : ∀ x ∈ zs, 0 ≤ x ∧ x ≤ 4611686018427387904) (h1 : ∀ x ∈ ts, 0 ≤ x ∧ x ≤ 4611686018427387904) (hbig : zs.length * 8 ≤ 140737488355328) (hbig2 : ts.length * 8 ≤ 140737488355328) :
  Calls Tryz.prog 62 #[v, u] w fun e w' => e = .returned (.bool (decide (canon zs = canon ts))) ∧ Below w.heap.size w w' := by
 have hS := Lib.hid h
 have hT := Lib.hid hu
 have hD := Lib.hid h0
 have hE := Lib.hid h1
 have hcl := canon_le zs
 have hcl2 := canon_le ts
 clear h0 h1 h hu
 generalize hcn : canon zs = xs at *
 have HCN := Lib.hid hcn
 clear hcn
 generalize hcn2 : canon ts = ys at *
 have HCN2 := Lib.hid hcn2
 clear hcn2
 by_cases hn : xs.length = ys.length
 ·have HN := Lib.hid hn
  clear hn
  go_enter Tryz.func62, Tryz.ntmps62
  go_wp2_with (first
   | (go_at_call_of 92 v; refine (so_rOf _ zs _ hS.out hD.out hbig).mono ?_; rw [HCN.out]; rintro e w1 ⟨v1, rfl, h1, b1⟩; obtain ⟨p, c, rfl, hcap, hs⟩ := h1; have H1 := Lib.hid (show IS w1 (.slice p xs.length c) xs from ⟨p, c, rfl, hcap, hs⟩); have B1 := Lib.hid b1; clear hs b1)
   | (go_at_call_of 92 u; refine (so_rOf _ ts _ (hT.out.keep B1.out) hE.out hbig2).mono ?_; rw [HCN2.out]; rintro e w2 ⟨v2, rfl, ⟨p2, c2, hv2, hcap2, hs2⟩, b2⟩; rw [← HN.out] at hv2; subst hv2; have K1 := Lib.hid (H1.out.keep b2); have hB := Lib.hid hs2; have B2 := Lib.hid (B1.out.trans (b2.mono B1.out.size)); clear b2 hs2))
  obtain ⟨p', c', hv', -, hs⟩ := K1.out
  obtain ⟨rfl, -, rfl⟩ := Value.slice.inj hv'
  have hA := Lib.hid hs
  clear hs hv' K1 H1
  go_loopw [7] (fun i wr => ∃ k m : Nat, k ≤ xs.length ∧ i = .int .i64 k ∧ wr = w2.drewN m ∧ Hid (xs.take k = ys.take k)) (fun i _ => xs.length - (intOf i).toNat)
  case atStart => exact ⟨0, 0, Nat.zero_le _, rfl, rfl, rfl⟩
  case round =>
  obtain ⟨k, m, hk, rfl, rfl, HR⟩ := hrel
  by_cases hlt : k < xs.length
  ·have hlt2 : k < ys.length := by have := HN.out; omega
   obtain ⟨b, off, rfl, hc⟩ := hA.out.resolve_left (by omega)
   obtain ⟨b2, off2, rfl, hc2⟩ := hB.out.resolve_left (by omega)
   have c1 := hc k hlt
   have c2' := hc2 k hlt2
   clear hc hc2
   generalize hx : xs.getD k 0 = x at c1
   generalize hy : ys.getD k 0 = y at c2'
   have HX := Lib.hid hx
   have HY := Lib.hid hy
   clear hx hy
   cases hq : (x == y)
   ·have hfin := Lib.hid (show decide (xs = ys) = false by
     rw [decide_eq_false_iff_not]; rintro rfl
     rw [HX.out] at HY
     rw [HY.out] at hq; simp at hq)
    go_wp2_with fail
    go_quiet (fail)
    go_wp2_with fail
    go_ret
    exact ⟨by rw [hfin.out]; rfl, by rw [World.drewN_drewN]; exact below_draws B2.out _⟩
   have he := Lib.hid (take_snoc_eq hlt hlt2 HR.out (by rw [HX.out, HY.out]; simpa using hq))
   go_wp2_with fail
   go_quiet (fail)
   go_wp2_with fail
   go_roundw
   case rel => exact ⟨k + 1, _, by omega, by go_num, rfl, he.out⟩
   case measure => simp [intOf]; omega
  have hke : k = xs.length := by omega
  subst hke
  have hfin := Lib.hid (show decide (xs = ys) = true by
   have h1 := HR.out
   have h2 := HN.out
   rw [List.take_length, h2, List.take_length] at h1
   rw [h1]; simp)
  go_wp2_with fail
  go_ret
  exact ⟨by rw [hfin.out]; rfl, below_draws B2.out _⟩
 have hfin := Lib.hid (show decide (xs = ys) = false by
  rw [decide_eq_false_iff_not]; rintro rfl; exact hn rfl)
 have hne : ((xs.length : Int) == (ys.length : Int)) = false := by
  rw [beq_eq_false_iff_ne]; omega
 go_enter Tryz.func62, Tryz.ntmps62
 go_wp2_with (first
  | (go_at_call_of 92 v; refine (so_rOf _ zs _ hS.out hD.out hbig).mono ?_; rw [HCN.out]; rintro e w1 ⟨v1, rfl, ⟨p, c, rfl, -, -⟩, b1⟩; have B1 := Lib.hid b1; clear b1)
  | (go_at_call_of 92 u; refine (so_rOf _ ts _ (hT.out.keep B1.out) hE.out hbig2).mono ?_; rw [HCN2.out]; rintro e w2 ⟨v2, rfl, ⟨p2, c2, rfl, -, -⟩, b2⟩; have B2 := Lib.hid (B1.out.trans (b2.mono B1.out.size)); clear b2))
 go_ret
 exact ⟨by rw [hfin.out]; rfl, B2.out⟩
end Go.Proofs.YtkdajhmlhjkcdaaGreatDoor
namespace Go.Proofs.YtkdajhmlhjkcdaaGreatDoor
open Go.RowKit Go.Maps
set_option maxHeartbeats 1000000 in
theorem so_wclos (u v : Value) (b : Nat) (a zs : List Int) (w : World) (hu : FS w u a) (hc : w.cell? ⟨b, 0, none⟩ = some v) (hv : FS w v zs) (h1 : a.length ≤ 65536) (h2 : zs.length ≤ 4194304) :
  Calls Tryz.prog 59 #[u, .pointer (some ⟨b, 0, none⟩)] w fun e w' => e = .returned (.bool (decide (canon a = canon zs))) ∧ Below w.heap.size w w' := by
 have HE := Lib.hid (so_SetEqual u v a zs w hu hv (by omega) (by omega))
 obtain ⟨p, c, rfl, -, -⟩ := hu
 obtain ⟨p2, c2, rfl, -, -⟩ := hv
 generalize decide (canon a = canon zs) = r at *
 go_enter Tryz.func59, Tryz.ntmps59
 go_wp2_with (go_at_call 32; refine HE.out.mono ?_; rintro e w2 ⟨rfl, hb⟩; have HB := Lib.hid hb; clear hb)
 go_ret
 exact ⟨rfl, HB.out⟩
def idxA (al : List (List Int)) (zs : List Int) : Int := match al.findIdx? (fun a => decide (canon a = canon zs)) with | some k => k | none => -1
theorem idxA_hit (al : List (List Int)) (zs : List Int) (k : Nat) (hk : k < al.length) (he : canon al[k] = canon zs) (hne : ∀ j (hj : j < al.length), j < k → canon al[j] ≠ canon zs) : idxA al zs = k := by
 have : al.findIdx? (fun a => decide (canon a = canon zs)) = some k := by
  rw [List.findIdx?_eq_some_iff_getElem]
  exact ⟨hk, by rw [decide_eq_true_eq]; exact he, fun j hj => by rw [decide_eq_true_eq]; exact hne j (by omega) hj⟩
 unfold idxA; rw [this]
theorem idxA_miss (al : List (List Int)) (zs : List Int) (hne : ∀ j (hj : j < al.length), canon al[j] ≠ canon zs) : idxA al zs = -1 := by
 have : al.findIdx? (fun a => decide (canon a = canon zs)) = none := by
  rw [List.findIdx?_eq_none_iff]
  intro x hx
  obtain ⟨j, hj, rfl⟩ := List.getElem_of_mem hx
  rw [decide_eq_false_iff_not]
  exact hne j hj
 unfold idxA; rw [this]
theorem writeA_idx (kind : Int) (al : List (List Int)) (zs : List Int) (h0 : al.length ≠ 0) : (idxA al zs = -1 ∧ writeA kind al zs = (⟨#[]⟩, 31)) ∨ ∃ k : Nat, k < al.length ∧ idxA al zs = k ∧ writeA kind al zs = (decS ((k : Int) + 1), 0) := by
 unfold idxA writeA
 rw [if_neg h0]
 cases h : al.findIdx? (fun a => decide (canon a = canon zs)) with
 | none => exact .inl ⟨rfl, rfl⟩
 | some k => exact .inr ⟨k, (List.findIdx?_eq_some_iff_getElem.1 h).1, rfl, rfl⟩
set_option maxHeartbeats 2000000 in
set_option maxRecDepth 100000 in
theorem so_IndexFuncA (av v : Value) (b : Nat) (us : List Value) (al : List (List Int)) (zs : List Int) (w : World) (hr : Rd w 1 av al.length us) (hn : al.length ≤ 65536) (hs : ∀ (k : Nat) u a, us[k]? = some u → al[k]? = some a → FS w u a) (hl : ∀ a ∈ al, a.length ≤ 65536)
  (hc : w.cell? ⟨b, 0, none⟩ = some v) (hv : FS w v zs) (h2 : zs.length ≤ 4194304) :
  Calls Tryz.prog 58 #[av, .func (.func 59) #[] #[.pointer (some ⟨b, 0, none⟩)]] w fun e w' => e = .returned (.int .i64 (idxA al zs)) ∧ Below w.heap.size w w' := by
 obtain ⟨h1, A, cp, rfl, hcap, hcells⟩ := hr
 have HC := Lib.hid hcells
 have HS := Lib.hid hs
 have HLn := Lib.hid hl
 have HV := Lib.hid hv
 have HCb := Lib.hid hc
 have hul : us.length = al.length := by omega
 have HU := Lib.hid hul
 clear hcells hs hl hv hc h1 hul
 go_enter Tryz.func58, Tryz.ntmps58
 go_wp2_with fail
 go_loopw [5, 8] (fun _ i wr => ∃ k : Nat, k ≤ al.length ∧ i = .int .i64 k ∧ Hid (Below w.heap.size w wr) ∧ Hid (∀ j (hj : j < al.length), j < k → canon al[j] ≠ canon zs)) (fun _ i _ => al.length - (intOf i).toNat)
 case atStart => exact ⟨0, Nat.zero_le _, rfl, Lib.hid (Below.refl _ _), Lib.hid (fun j _ hj => absurd hj (Nat.not_lt_zero _))⟩
 case round =>
 obtain ⟨k, hk, rfl, HB, HN⟩ := hrel
 by_cases hlt : k < al.length
 ·obtain ⟨g, off, rfl, hc⟩ := HC.out.resolve_left (by omega)
  have hku : k < us.length := by have := HU.out; omega
  have hfs := HS.out k us[k] al[k] (List.getElem?_eq_getElem hku) (List.getElem?_eq_getElem hlt)
  have c1 := hc k us[k] (List.getElem?_eq_getElem hku)
  have d1 := (HB.out.cell (World.block_lt_of_cell? _ _ c1)).trans c1
  have hal := HLn.out al[k] (List.getElem_mem hlt)
  have HX := Lib.hid (so_wclos us[k] v b al[k] zs wr (hfs.keep HB.out) ((HB.out.cell (World.block_lt_of_cell? _ _ HCb.out)).trans HCb.out) (HV.out.keep HB.out) hal h2)
  have HHit : Hid (decide (canon al[k] = canon zs) = true → idxA al zs = k) := Lib.hid (fun he => idxA_hit al zs k hlt (of_decide_eq_true he) HN.out)
  have HNx : Hid (decide (canon al[k] = canon zs) = false → ∀ j (hj : j < al.length), j < k + 1 → canon al[j] ≠ canon zs) := Lib.hid (fun he j hj hjk => by
   by_cases e : j = k
   ·subst e; exact of_decide_eq_false he
   exact HN.out j hj (by omega))
  generalize hr : decide (canon al[k] = canon zs) = r at *
  obtain ⟨p, c, hu, -, -⟩ := hfs
  rw [hu] at d1 HX
  clear hc c1 hu hr hal
  cases r
  ·have HNy := Lib.hid (HNx.out rfl)
   clear HNx HHit
   go_wp2_with (go_at_call 59; refine HX.out.mono ?_; rintro e w2 ⟨rfl, hb⟩; have HB2 := Lib.hid (HB.out.trans (hb.mono HB.out.size)); clear hb)
   go_roundw
   case rel => exact ⟨k + 1, by omega, by go_num, HB2, HNy⟩
   case measure => simp [intOf]; omega
  have HI := Lib.hid (HHit.out rfl)
  clear HNx HHit
  go_wp2_with (go_at_call 59; refine HX.out.mono ?_; rintro e w2 ⟨rfl, hb⟩; have HB2 := Lib.hid (HB.out.trans (hb.mono HB.out.size)); clear hb)
  go_ret
  exact ⟨by rw [HI.out]; rfl, HB2.out⟩
 obtain rfl : k = al.length := by omega
 have HI := Lib.hid (idxA_miss al zs (fun j hj => HN.out j hj hj))
 go_wp2_with fail
 go_ret
 exact ⟨by rw [HI.out]; rfl, HB.out⟩
def WrP (r : ByteArray × Int) (w : World) (e : Ending) (w' : World) : Prop := e = .returned (.tuple #[.string r.1, .int .i64 r.2]) ∧ Below w.heap.size w w'
set_option maxHeartbeats 4000000 in
set_option maxRecDepth 100000 in
theorem so_fileWrite (fb : Nat) (kind : Int) (av v : Value) (us : List Value) (al : List (List Int)) (zs : List Int) (w : World) (h : FileF w fb kind av us al) (hn : al.length ≤ 65536) (hv : FS w v zs) (hbd : ∀ x ∈ zs, 0 ≤ x ∧ x ≤ 65535) (h2 : zs.length ≤ 4194304) (ht : PowTab w) :
  Calls Tryz.prog 30 #[.pointer (some ⟨fb, 0, none⟩), v] w (WrP (writeA kind al zs) w) := by
 have HK0 := Lib.hid h.kind
 have HA0 := Lib.hid h.als
 obtain ⟨h1, A, cp, rfl, hcap, hcells⟩ := h.row
 obtain ⟨p, c, rfl, hcap2, hcells2⟩ := hv
 have HV : Hid (FS w (.slice p zs.length c) zs) := Lib.hid ⟨p, c, rfl, hcap2, hcells2⟩
 have HR : Hid (Rd w 1 (.slice A al.length cp) al.length us) := Lib.hid ⟨h1, A, cp, rfl, hcap, hcells⟩
 have HS := Lib.hid h.sets
 have HCn := Lib.hid h.canons
 have HT := Lib.hid ht
 have HD := Lib.hid hbd
 have hfb := World.block_lt_of_cell? _ _ h.kind
 obtain ⟨wb, hwb⟩ : ∃ W, w.alloc (.cells #[.slice p zs.length c] 44) = W := ⟨_, rfl⟩
 have HB0 : Hid (Below w.heap.size w wb) := Lib.hid (by rw [← hwb]; exact (Below.refl _ _).alloc (Nat.le_refl _) _)
 have HC0 : Hid (wb.cell? ⟨w.heap.size, 0, none⟩ = some (.slice p zs.length c)) := Lib.hid (by rw [← hwb, Lib.cell_of_heap (heap_alloc_new w _)]; rfl)
 clear hcells h h1 hcells2 ht hbd
 by_cases h0 : al.length = 0
 ·have e0 : ((al.length : Int) == 0) = true := by rw [h0]; rfl
  have hX := writeA_nil kind al zs h0
  have HQ : Hid (∀ W, Below w.heap.size w W → Calls Tryz.prog 57 #[.int .i64 kind, .slice p zs.length c] W (WrP (writeA kind al zs) W)) := Lib.hid (fun W hW => by
   rw [hX]
   exact so_Show kind _ zs W (HV.out.keep hW) HD.out (by omega) (HT.out.below hW))
  unfold WrP at HQ ⊢
  obtain ⟨r, hr⟩ : ∃ r, writeA kind al zs = r := ⟨_, rfl⟩
  rw [hr] at HQ ⊢
  have HSt : Hid (∀ W, Below w.heap.size w W → W.cell? ⟨fb, 0, none⟩ = some (.int .i64 kind)) := Lib.hid (fun W hW => (hW.cell hfb).trans HK0.out)
  have HSu : Hid (∀ W, Below wb.heap.size wb W → W.cell? ⟨w.heap.size, 0, none⟩ = some (.slice p zs.length c)) := Lib.hid (fun W hW => (hW.cell (World.block_lt_of_cell? _ _ HC0.out)).trans HC0.out)
  have c10 : wb.cell? ⟨fb, 10, none⟩ = some (.slice A al.length cp) := (HB0.out.cell (World.block_lt_of_cell? _ _ HA0.out)).trans HA0.out
  clear hr hX h0 HC0
  go_enter Tryz.func30, Tryz.ntmps30
  go_upto_region 1 with fail
  clear hwb
  go_upto_region 4 with fail
  refine wp_region_held_drew (S := fun W => W.cell? ⟨fb, 0, none⟩ = some (.int .i64 kind) ∧ W.cell? ⟨w.heap.size, 0, none⟩ = some (.slice p zs.length c)) (by kernel_rfl) ?_ (fun hHeld => ?_)
  ·exact ⟨HSt.out _ (HB0.out.trans (drew_below.mono HB0.out.size)), HSu.out _ drew_below⟩
  refine tkA 0 (some 16) hHeld ?_; try simp only [put_norm]
  refine tkA 1 (some 17) hHeld ?_; try simp only [put_norm]
  refine tkA 2 (some 18) hHeld ?_; try simp only [put_norm]
  refine tkA 3 (some 19) hHeld ?_; try simp only [put_norm]
  refine tkA 4 (some 20) hHeld ?_; try simp only [put_norm]
  refine tkA 5 (some 21) hHeld ?_; try simp only [put_norm]
  refine rdy1 6 (fun K hK => ?_)
  go_simp
  refine (HQ.out _ (HB0.out.trans (drew_below.mono HB0.out.size))).mono ?_
  rintro e w8 ⟨rfl, hb8⟩
  have HB8 := Lib.hid ((drew_below (w := wb)).trans hb8)
  clear hb8
  refine hK.out _ _ ?_ (fun hHeld => ?_)
  ·exact ⟨HSt.out _ (HB0.out.trans (HB8.out.mono HB0.out.size)), HSu.out _ HB8.out⟩
  clear hK K
  refine tkA 7 (some 23) hHeld ?_; try simp only [put_norm]
  refine tkA 8 (some 24) hHeld ?_; try simp only [put_norm]
  refine tkA 9 (some 4) hHeld ?_; try simp only [put_norm]
  refine tkA 10 (some 5) hHeld ?_; try simp only [put_norm]
  refine wpAnyH_done (by kernel_rfl) ?_ _
  go_wp2_with fail
  go_ret2
  exact ⟨rfl, HB0.out.trans (HB8.out.mono HB0.out.size)⟩
 have e0 : ((al.length : Int) == 0) = false := by rw [beq_eq_false_iff_ne]; omega
 have c10 : wb.cell? ⟨fb, 10, none⟩ = some (.slice A al.length cp) := (HB0.out.cell (World.block_lt_of_cell? _ _ HA0.out)).trans HA0.out
 have HI := Lib.hid (so_IndexFuncA _ (.slice p zs.length c) w.heap.size us al zs wb (HR.out.keep HB0.out) hn (fun k u a hu ha => (HS.out k u a hu ha).keep HB0.out) (fun a ha => (HCn.out a ha).2) HC0.out (HV.out.keep HB0.out) h2)
 have hcs := writeA_idx kind al zs h0
 have HP : Hid (∀ W, Below wb.heap.size wb W → PowTab W) := Lib.hid (fun W hW => HT.out.below (HB0.out.trans (hW.mono HB0.out.size)))
 unfold WrP
 rcases hcs with ⟨hi, hw⟩ | ⟨k, hk, hi, hw⟩
 ·rw [hi] at HI
  rw [hw]
  clear hw hi h0 HC0
  go_enter Tryz.func30, Tryz.ntmps30
  go_upto_region 1 with fail
  clear hwb
  go_wp2_with (go_at_call 58; refine HI.out.mono ?_; rintro e w2 ⟨rfl, hb⟩; have HB := Lib.hid (HB0.out.trans (hb.mono HB0.out.size)); clear hb)
  go_ret2
  exact ⟨rfl, HB.out⟩
 rw [hi] at HI
 rw [hw]
 have HDc : Hid (∀ W, Below wb.heap.size wb W → Calls Tryz.prog 60 #[.int .i64 ((k : Int) + 1)] W fun e w' => e = .returned (.string (decS ((k : Int) + 1))) ∧ Below W.heap.size W w') := Lib.hid (fun W hW => Decimal_any ((k : Int) + 1) W (by omega) (by omega) (HP.out W hW))
 have hk0 : ¬ ((k : Int) < 0) := by omega
 have hw1 : IntKind.i64.wrap ((k : Int) + 1) = (k : Int) + 1 := by rw [IntKind.wrap_i64]; omega
 clear hw hi h0 HC0
 generalize decS ((k : Int) + 1) = t at *
 go_enter Tryz.func30, Tryz.ntmps30
 go_upto_region 1 with fail
 clear hwb
 go_wp2_with (first
  | (go_at_call 58; refine HI.out.mono ?_; rintro e w2 ⟨rfl, hb⟩; have HB1 := Lib.hid hb; clear hb)
  | (go_at_call 60; refine (HDc.out _ HB1.out).mono ?_; rintro e w3 ⟨rfl, hb⟩; have HB := Lib.hid (HB0.out.trans ((HB1.out.trans (hb.mono HB1.out.size)).mono HB0.out.size)); clear hb))
 go_ret2
 exact ⟨rfl, HB.out⟩
theorem so_lWrite (fb : Nat) (F : Fl) (v : Value) (zs : List Int) (w : World) (h : FileAt w fb F) (hok : FlOk F) (hv : FS w v zs) (hbd : ∀ x ∈ zs, 0 ≤ x ∧ x ≤ 65535) (h2 : zs.length ≤ 4194304) (ht : PowTab w) :
  Calls Tryz.prog 30 #[.pointer (some ⟨fb, 0, none⟩), v] w (WrP (writeA F.kind F.als zs) w) := by
 obtain ⟨av, us, hf⟩ := h.fileF hok
 exact so_fileWrite fb F.kind av v us F.als zs w hf hok.als hv hbd h2 ht
set_option maxHeartbeats 4000000 in
set_option maxRecDepth 100000 in
theorem so_lqWrite (rf : Nat) (F : Fl) (v : Value) (zs : List Int) (w : World) (h : QFileAt w rf F) (hok : FlOk F) (hv : IS w v zs) (hbd : ∀ x ∈ zs, 0 ≤ x ∧ x ≤ 65535) (h2 : zs.length ≤ 4194304) :
  Calls Tryz.prog 31 #[.pointer (some ⟨rf, 0, none⟩), v] w (WrP (writeA F.kind F.als zs) w) := by
 obtain ⟨v0, g1, -, ⟨us, g2, g3, g4⟩, -⟩ := h
 have HK0 : Hid (w.cell? ⟨rf, 0, none⟩ = some (.int .i64 F.kind)) := Lib.hid (by rw [Lib.cell_of_heap g1]; rfl)
 have c10 : w.cell? ⟨rf, 10, none⟩ = some v0.als := by rw [Lib.cell_of_heap g1]; rfl
 have hfb := World.block_lt_of_cell? _ _ HK0.out
 obtain ⟨h1, A, cp, hva, hcap, hcells⟩ := g2
 rw [hva] at c10
 have HC := Lib.hid hcells
 have HS := Lib.hid g4
 have HU := Lib.hid g3
 have HD := Lib.hid hbd
 have HSet := Lib.hid hok.sets
 have hn := hok.als
 have HV := Lib.hid hv
 obtain ⟨p, c, rfl, -, -⟩ := hv
 generalize F.als = al at *
 generalize F.kind = kind at *
 clear g1 g3 g4 hva hcells h1 hbd hok
 by_cases h0 : al.length = 0
 ·have e0 : ((al.length : Int) == 0) = true := by rw [h0]; rfl
  have hX := writeA_nil kind al zs h0
  have hQ := so_rShow kind (.slice p zs.length c) zs w HV.out HD.out h2
  unfold ShowR at hQ
  unfold WrP
  rw [hX]
  have HQ := Lib.hid hQ
  have ck := HK0.out
  clear hX hQ h0
  generalize showF kind (canon zs) = r at *
  go_enter Tryz.func31, Tryz.ntmps31
  go_wp2_with (go_at_call 61; refine HQ.out.mono ?_; rintro e w2 ⟨rfl, hb⟩; have HB := Lib.hid hb; clear hb)
  go_ret2
  exact ⟨rfl, HB.out⟩
 have e0 : ((al.length : Int) == 0) = false := by rw [beq_eq_false_iff_ne]; omega
 have H0 := Lib.hid h0
 have HA0 := Lib.hid c10
 unfold WrP
 clear h0
 go_enter Tryz.func31, Tryz.ntmps31
 go_wp2_with fail
 go_loopw [6, 7] (fun i _ wr => ∃ k : Nat, k ≤ al.length ∧ i = .int .i64 k ∧ Hid (Below w.heap.size w wr) ∧ Hid (∀ j (hj : j < al.length), j < k → canon al[j] ≠ canon zs)) (fun i _ _ => al.length - (intOf i).toNat)
 case atStart => exact ⟨0, Nat.zero_le _, rfl, Lib.hid (Below.refl _ _), Lib.hid (fun j _ hj => absurd hj (Nat.not_lt_zero _))⟩
 case round =>
 obtain ⟨k, hk, rfl, HB, HN⟩ := hrel
 clear c10
 have c10 := (HB.out.cell (World.block_lt_of_cell? _ _ HA0.out)).trans HA0.out
 by_cases hlt : k < al.length
 ·obtain ⟨g, off, rfl, hc⟩ := HC.out.resolve_left (by omega)
  have hku : k < us.length := by have := HU.out; omega
  have hfs := HS.out k us[k] al[k] (List.getElem?_eq_getElem hku) (List.getElem?_eq_getElem hlt)
  have c1 := hc k us[k] (List.getElem?_eq_getElem hku)
  have d1 := (HB.out.cell (World.block_lt_of_cell? _ _ c1)).trans c1
  have hal := HSet.out al[k] (List.getElem_mem hlt)
  have hcl := canon_len hal.1 hal.2
  have HX := Lib.hid (so_rEqual us[k] (.slice p zs.length c) al[k] zs wr (hfs.keep HB.out) (HV.out.keep HB.out) (fun x hx => ⟨(hal.2 x hx).1, by have := (hal.2 x hx).2; omega⟩) (fun x hx => ⟨(HD.out x hx).1, by have := (HD.out x hx).2; omega⟩) (by omega) (by omega))
  have HHit : Hid (decide (canon al[k] = canon zs) = true → writeA kind al zs = (decS ((k : Int) + 1), 0)) := Lib.hid (fun he => writeA_hit kind al zs k hlt (of_decide_eq_true he) HN.out)
  have HNx : Hid (decide (canon al[k] = canon zs) = false → ∀ j (hj : j < al.length), j < k + 1 → canon al[j] ≠ canon zs) := Lib.hid (fun he j hj hjk => by
   by_cases e : j = k
   ·subst e; exact of_decide_eq_false he
   exact HN.out j hj (by omega))
  generalize hr : decide (canon al[k] = canon zs) = r at *
  obtain ⟨pu, cu, hu, -, -⟩ := hfs
  rw [hu] at d1 HX
  clear hc c1 hu hr hal hcl
  cases r
  ·have HNy := Lib.hid (HNx.out rfl)
   clear HNx HHit
   go_wp2_with (go_at_call 62; refine HX.out.mono ?_; rintro e w2 ⟨rfl, hb⟩; have HB2 := Lib.hid (HB.out.trans (hb.mono HB.out.size)); clear hb)
   go_roundw
   case rel => exact ⟨k + 1, by omega, by go_num, HB2, HNy⟩
   case measure => simp [intOf]; omega
  have HI := Lib.hid (HHit.out rfl)
  have HDc : Hid (∀ W, Calls Tryz.prog 63 #[.int .i64 ((k : Int) + 1)] W fun e w' => e = .returned (.string (decS ((k : Int) + 1))) ∧ Below W.heap.size W w') := Lib.hid (fun W => Decimal01_any ((k : Int) + 1) W (by omega) (by omega))
  have hw1 : IntKind.i64.wrap ((k : Int) + 1) = (k : Int) + 1 := by rw [IntKind.wrap_i64]; omega
  clear HNx HHit
  generalize decS ((k : Int) + 1) = t at *
  go_wp2_with (first
   | (go_at_call 62; refine HX.out.mono ?_; rintro e w2 ⟨rfl, hb⟩; have HB2 := Lib.hid (HB.out.trans (hb.mono HB.out.size)); clear hb)
   | (go_at_call 63; refine (HDc.out _).mono ?_; rintro e w3 ⟨rfl, hb⟩; have HB3 := Lib.hid (HB2.out.trans (hb.mono HB2.out.size)); clear hb))
  go_ret2
  exact ⟨by rw [HI.out]; rfl, HB3.out⟩
 obtain rfl : k = al.length := by omega
 have HI := Lib.hid (writeA_miss kind al zs H0.out (fun j hj => HN.out j hj hj))
 go_wp2_with fail
 go_ret2
 exact ⟨by rw [HI.out]; rfl, HB.out⟩
end Go.Proofs.YtkdajhmlhjkcdaaGreatDoor
namespace Go.Proofs.YtkdajhmlhjkcdaaGreatDoor
open Go.RowKit
theorem so_lwakes (m0 : Int) (w : World) (h0 : 0 < w.heap.size) (hm : w.cell? ⟨0, 0, none⟩ = some (.int .i64 m0)) :
 Calls Tryz.prog 14 #[] w fun e w' => e = .returned (.bool true) ∧ Below w.heap.size w w' := so_wakes m0 w h0 hm
end Go.Proofs.YtkdajhmlhjkcdaaGreatDoor
namespace Go.Proofs.YtkdajhmlhjkcdaaGreatDoor
open Go.RowKit Go.Maps
theorem lint_info : (Tryz.prog.info? 3).map (fun i => (i.zero, i.size, i.bytes)) = some (some (.int .i64 0), 1, 8) := by kernel_rfl
set_option maxHeartbeats 2000000 in
set_option maxRecDepth 100000 in
theorem so_lints (v : Value) (zs : List Int) (w : World) (h : FS w v zs) (hbd : ∀ x ∈ zs, 0 ≤ x ∧ x ≤ 65535) (hbig : zs.length * 8 ≤ 140737488355328) :
  Calls Tryz.prog 29 #[v] w fun e w' => ∃ v', e = .returned v' ∧ IS w' v' zs ∧ Below w.heap.size w w' := by
 obtain ⟨i0, hi, hz0, hz1, hz2⟩ := info_parts lint_info
 obtain ⟨p, c, rfl, hcap, hs⟩ := h
 have hS := Lib.hid hs
 have hD := Lib.hid hbd
 clear hs hbd
 go_enter Tryz.func29, Tryz.ntmps29
 go_wp2_with fail
 go_loopw [3, 5, 8] (fun s _ i wr => ∃ k : Nat, k ≤ zs.length ∧ i = .int .i64 k ∧ Hid (wr.ownsRow w.heap.size 3 1 s k ((zs.take k).map (Value.int .i64))) ∧ Hid (Below w.heap.size w wr)) (fun _ _ i _ => zs.length - (intOf i).toNat)
 case atStart => exact ⟨0, Nat.zero_le _, rfl, World.ownsRow_nil _ _ _ _, Below.refl _ _⟩
 case round =>
 obtain ⟨k, hk, rfl, HO, HB⟩ := hrel
 have hsz := HB.out.size
 by_cases hlt : k < zs.length
 ·obtain ⟨b, off, rfl, hc⟩ := hS.out.resolve_left (by omega)
  have c0 := hc k hlt
  have hcell := (HB.out.cell (World.block_lt_of_cell? w _ c0)).trans c0
  have he : zs.getD k 0 = zs[k] := by simp [List.getD, hlt]
  rw [he] at hcell
  obtain ⟨z0, z1⟩ := hD.out zs[k] (List.getElem_mem hlt)
  have HM := Lib.hid (show (zs.take (k + 1)).map (Value.int .i64) = (zs.take k).map (Value.int .i64) ++ [Value.int .i64 zs[k]] by rw [List.take_add_one, List.getElem?_eq_getElem hlt, List.map_append]; rfl)
  clear hc c0 he
  generalize hz : zs[k] = z at *
  clear hz
  go_wp2_with (at_builtin; refine wpList_push1 rfl _ _ 60 rfl w.heap.size 3 i0 (.int .i64 0) 8 Tryz.underlying60 hi hz0 hz1 hz2 rfl _ k _ rfl HO.out _ rfl rfl ?c3 ?c4 hsz ?_)
  case c3 => unfold maxLen; omega
  case c4 => omega
  intro gg cap w2 hown hg
  have HO2 := Lib.hid hown
  have HB2 := Lib.hid (below_push HB.out HO.out hg (Nat.le_refl _) hsz)
  clear hown hg
  go_wp2_with fail
  go_roundw
  case rel => exact ⟨k + 1, by omega, by go_num, (by show World.ownsRow _ _ _ _ _ _ _; rw [HM.out, List.map_take]; exact HO2.out), HB2.out⟩
  case measure => simp [intOf]; omega
 have hke : k = zs.length := by omega
 subst hke
 rw [List.take_length] at HO
 go_wp2_with fail
 go_ret
 exact ⟨_, rfl, IS.of_own (e := 3) HO.out, HB.out⟩
end Go.Proofs.YtkdajhmlhjkcdaaGreatDoor
namespace Go.Proofs.YtkdajhmlhjkcdaaGreatDoor
open Go.RowKit Go.Maps
theorem append_flags (p : Option Addr) (c : Nat) (zs : List Int) (w : World) (h : FS w (.slice p zs.length c) zs) (hbig : zs.length ≤ 4194304) (W : World) (hW : Below w.heap.size w W) :
  ∃ p' c' W', (Builtin.append_ #[44, 44] 44 #[.slice none 0 0, .slice p zs.length c]).run Tryz.prog W = .ok (.slice p' zs.length c') W' ∧ FS W' (.slice p' zs.length c') zs ∧ Below W.heap.size W W' := by
 obtain ⟨i0, hi, hz0, hz1, hz2⟩ := info_parts flag_info
 obtain ⟨p1, c1, hv, hcap, hs⟩ := h.keep hW
 cases hv
 have hr := run_append_src (P := Tryz.prog) W W.heap.size 44 44 34 i0 (.int .u16 0) 1 2 Tryz.underlying44 hi hz0 hz1 hz2 rfl (by decide) (.slice none 0 0) 0 [] (World.ownsRow_nil _ _ _ _)
  p zs.length c (zs.map (Value.int .u16)) (by simp) (FS.news hs _ (Below.refl _ W)) (by intro u hu; obtain ⟨x, _, rfl⟩ := List.mem_map.1 hu; rfl) (by unfold maxLen; omega) (by omega) (Nat.le_refl _)
 obtain ⟨v', w1, hrun, hown, hg, -⟩ := hr
 have hf := (FN.of_own (e := 34) (zs := zs) (by simpa using hown)).fs
 obtain ⟨p', c', rfl, -⟩ := id hf
 exact ⟨p', c', w1, hrun, hf, (Below.refl _ W).grown hg (Nat.le_refl _) (by intro k hk; simp [Value.ownBlock] at hk)⟩
set_option maxHeartbeats 4000000 in
set_option maxRecDepth 100000 in
theorem affWrites_walk (s : ByteArray) (v : Value) (zs : List Int) (m0 : Int) (w : World) (h0 : 0 < w.heap.size) (hm : w.cell? ⟨0, 0, none⟩ = some (.int .i64 m0)) (hf : FS w v zs) (hbd : ∀ x ∈ zs, 0 ≤ x ∧ x ≤ 65535) (hbig : zs.length ≤ 4194304) (ht : PowTab w) :
  Calls Tryz.prog 9 #[.string s, v] w fun e w' => e = .returned (.bool true) ∧ Below w.heap.size w w' := by
 have HR := Lib.hid (so_lread s m0 w h0 hm)
 have HW : Hid (∀ W, Below w.heap.size w W → Calls Tryz.prog 14 #[] W fun e w' => e = .returned (.bool true) ∧ Below W.heap.size W w') := Lib.hid (fun W hW => so_lwakes m0 W (Nat.lt_of_lt_of_le h0 hW.size) ((hW.cell (World.block_lt_of_cell? _ _ hm)).trans hm))
 have HP : Hid (∀ W, Below w.heap.size w W → PowTab W) := Lib.hid (fun W hW => ht.below hW)
 unfold LreadP at HR
 have HF := Lib.hid hf
 have HD := Lib.hid hbd
 obtain ⟨p, c, rfl, -, -⟩ := hf
 have HA := Lib.hid (append_flags p c zs w HF.out hbig)
 clear h0 hm hbd ht
 cases hr : affR s.data.toList with
 | error p2 =>
  rw [hr] at HR
  dsimp only at HR
  clear hr
  go_enter Tryz.func9, Tryz.ntmps9
  go_wp2_with (first
   | (go_at_call 17; refine HR.out.mono ?_; rintro e w1 ⟨hb1, rfl⟩; have HB1 := Lib.hid hb1; clear hb1)
   | (go_at_call 14; refine (HW.out _ HB1.out).mono ?_; rintro e w2 ⟨rfl, hb2⟩; have HB2 := Lib.hid (HB1.out.trans (hb2.mono HB1.out.size)); clear hb2; obtain ⟨p4, c4, w4, hrun, -, hb4⟩ := HA.out w2 HB2.out; have HRn := Lib.hid hrun; have HB4 := Lib.hid (HB2.out.trans (hb4.mono HB2.out.size)); clear hrun hb4)
   | (at_builtin; refine Lib.wpList_append_run _ rfl _ _ _ _ rfl _ _ rfl rfl _ _ HRn.out ?_)
   | (go_at_call 30; refine (so_WriteNil _ _ _ _).mono ?_; rintro e w5 ⟨rfl, hb5⟩; have HB5 := Lib.hid (HB4.out.trans (hb5.mono HB4.out.size)); clear hb5))
  go_ret
  exact ⟨by simp, HB5.out⟩
 | ok F =>
  rw [hr] at HR
  dsimp only at HR
  clear hr
  go_enter Tryz.func9, Tryz.ntmps9
  go_wp2_with (first
   | (go_at_call 17; refine HR.out.mono ?_; rintro e w1 ⟨hb1, fb, rf, rfl, hfa, hqa, hok, -, -, -⟩; have HB1 := Lib.hid hb1; have HFa := Lib.hid hfa; have HQa := Lib.hid hqa; have HOk := Lib.hid hok; clear hb1 hfa hqa hok)
   | (go_at_call 14; refine (HW.out _ HB1.out).mono ?_; rintro e w2 ⟨rfl, hb2⟩; have HB2 := Lib.hid (HB1.out.trans (hb2.mono HB1.out.size)); have HF2 := Lib.hid (HFa.out.keep hb2); have HQ2 := Lib.hid (HQa.out.keep hb2); clear hb2; obtain ⟨p4, c4, w4, hrun, hfs4, hb4⟩ := HA.out w2 HB2.out; have HRn := Lib.hid hrun; have HS4 := Lib.hid hfs4; have HF4 := Lib.hid (HF2.out.keep hb4); have HQ4 := Lib.hid (HQ2.out.keep hb4); have HB4 := Lib.hid (HB2.out.trans (hb4.mono HB2.out.size)); clear hrun hb4 hfs4)
   | (at_builtin; refine Lib.wpList_append_run _ rfl _ _ _ _ rfl _ _ rfl rfl _ _ HRn.out ?_))
  have HWr := Lib.hid (so_lWrite fb F (.slice p4 zs.length c4) zs w4 HF4.out HOk.out HS4.out HD.out hbig (HP.out _ HB4.out))
  have HQr : Hid (∀ W u, Below w4.heap.size w4 W → IS W u zs → Calls Tryz.prog 31 #[.pointer (some ⟨rf, 0, none⟩), u] W (WrP (writeA F.kind F.als zs) W)) := Lib.hid (fun W u hW hu => so_lqWrite rf F u zs W (HQ4.out.keep hW) HOk.out hu HD.out hbig)
  unfold WrP at HWr HQr
  obtain ⟨⟨t, ec⟩, hr⟩ : ∃ r, writeA F.kind F.als zs = r := ⟨_, rfl⟩
  rw [hr] at HWr HQr
  dsimp only at HWr HQr
  clear hr
  refine HWr.out.mono ?_
  rintro e w5 ⟨rfl, hb5⟩
  have HB5 := Lib.hid (HB4.out.trans (hb5.mono HB4.out.size))
  have HL5 := Lib.hid hb5
  have HI := Lib.hid (so_lints (.slice p zs.length c) zs w5 (HF.out.keep HB5.out) HD.out (by omega))
  clear hb5
  go_wp2_with fail
  refine HI.out.mono ?_
  rintro e w6 ⟨v6, rfl, his, hb6⟩
  have HB6 := Lib.hid (HB5.out.trans (hb6.mono HB5.out.size))
  have HX := Lib.hid (HQr.out w6 v6 (HL5.out.trans (hb6.mono HL5.out.size)) his)
  obtain ⟨p6, c6, rfl⟩ : ∃ p c, v6 = .slice p zs.length c := by obtain ⟨p, c, hv, -⟩ := his; exact ⟨p, c, hv⟩
  clear hb6 his
  go_wp2_with fail
  refine HX.out.mono ?_
  rintro e w7 ⟨rfl, hb7⟩
  have HB7 := Lib.hid (HB6.out.trans (hb7.mono HB6.out.size))
  clear hb7
  go_wp2_with fail
  go_ret
  exact ⟨by simp, HB7.out⟩
theorem affWrites_sh (s : ByteArray) (v : Value) (zs : List Int) (W : World) (h : W.ShapedOpen Tryz.prog) (hf : FS W v zs) (hbd : ∀ x ∈ zs, 0 ≤ x ∧ x ≤ 65535) (hbig : zs.length ≤ 4194304) (ht : PowTab W) :
  Calls Tryz.prog 9 #[.string s, v] W fun e w' => e = .returned (.bool true) ∧ Below W.heap.size W w' := by
 obtain ⟨m, hm⟩ := maxLen_of W h
 exact affWrites_walk s v zs m W (Nat.lt_of_le_of_lt (Nat.zero_le _) (World.block_lt_of_cell? _ _ hm)) hm hf hbd hbig ht
end Go.Proofs.YtkdajhmlhjkcdaaGreatDoor
namespace Go.Proofs.YtkdajhmlhjkcdaaGreatDoor
open Go.RowKit
theorem lvars_tab {W : World} {name : String} {k : IntKind} {zs : List Int} {rest : List (String × DataW Unit)} {g : Nat} {t e : TypeId} {n : Nat} {ps : List MemPlace}
  (hg : Tryz.prog.globalNamed name = some g) (hty : (Tryz.prog.globals[g]?).map (·.type) = some t) (ht : Tryz.prog.underlying t = some (.array n e)) (he : Tryz.prog.underlying e = some (.int k)) (hce : Tryz.prog.cellsOf e = 1) (hct : Tryz.prog.cellsOf t = n)
  (h : DataW.LaidVars Tryz.prog W ((name, Lib.tabData k zs) :: rest) ps) : Lib.TabIs Tryz.prog W name k zs := by
 obtain ⟨g', t', cs, fuel, p, q, hg', ht', hvar, hd, _, _⟩ := h
 obtain rfl := Option.some.inj (hg.symm.trans hg')
 obtain rfl := Option.some.inj (hty.symm.trans ht')
 unfold Lib.TabIs
 rw [hvar, ← Lib.cells_of_tab ht he hce hct hd]
theorem lvars_tail {W : World} {x : String × DataW Unit} {rest : List (String × DataW Unit)} {ps : List MemPlace} (h : DataW.LaidVars Tryz.prog W (x :: rest) ps) : ∃ qs, DataW.LaidVars Tryz.prog W rest qs := by
 obtain ⟨g', t', cs, fuel, p, q, _, _, _, _, h2, _⟩ := h
 exact ⟨q, h2⟩
theorem powTab_writes {W : World} (h : laidMetH Tryz.prog Rows.affWritesUptoRow.laid W) : PowTab W := by
 have h1 : laidMet Tryz.prog Rows.affWritesUptoRow.laid W := h
 obtain ⟨ps, h2, _⟩ := h1
 obtain ⟨qs, h3⟩ := lvars_tail h2
 obtain ⟨rs, h4⟩ := lvars_tail h3
 exact lvars_tab (g := 1) (by kernel_rfl) (by kernel_rfl) Tryz.underlying271 Tryz.underlying222 (by kernel_rfl) (by kernel_rfl) h4
end Go.Proofs.YtkdajhmlhjkcdaaGreatDoor
namespace Go.Proofs.YtkdajhmlhjkcdaaGreatDoor
open Go.ChangeShapes Go.WideShapes Go.ChangeAt Go.RowKit
theorem addr_plain {w : World} {a : Addr} {v : Value} (h : w.cell? a = some v) : a = ⟨a.block, a.off, none⟩ := by
 obtain ⟨b, o, sp⟩ := a
 cases sp with
 | none => rfl
 | some s =>
  simp [World.cell?] at h
  split at h <;> simp at h
theorem addr_add (g o j : Nat) : (⟨g, o, none⟩ : Addr).add j = ⟨g, o + j, none⟩ := by unfold Addr.add; split <;> simp_all
theorem cells_flag : Tryz.prog.cellsOf 34 = 1 := by kernel_rfl
end Go.Proofs.YtkdajhmlhjkcdaaGreatDoor
namespace Go.Proofs.YtkdajhmlhjkcdaaGreatDoor
open Go.ChangeShapes Go.WideShapes Go.ChangeAt Go.RowKit Go.Deep
theorem bulk_lits {H : Type} (k : IntKind) (zs : List Int) : Rows.uptoBulkAll (lits (H := H) k zs) = zs.length := by
 induction zs with
 | nil => simp [lits, Rows.uptoBulkAll]
 | cons s ss ih =>
  have e : lits (H := H) k (s :: ss) = .lit (.int k s) :: lits k ss := rfl
  rw [e]
  simp only [Rows.uptoBulkAll, Rows.uptoBulk, ih, List.length_cons]; omega
set_option maxRecDepth 100000 in
/-- A slice of flags that lies in one cell. -/
theorem open_flags_cs {H : Type} {enc : TypeId × Value → H} {W : World} {v : Value} {x : DataW H × List MemPlace} {fuel : Nat}
  (hf : DataW.trod enc Tryz.prog W 0 (fun _ => true) true fuel 44 [v] = some x) :
  ∃ zs : List Int, FS W v zs ∧ zs.length + 1 ≤ Rows.uptoBulk x.1 ∧ ∀ x ∈ zs, 0 ≤ x ∧ x ≤ 65535 := by
 rcases open_ints Tryz.underlying44 Tryz.underlying34 cells_flag hf with ⟨hcs, hx⟩ | ⟨a, len, cap, zs, hcs, _, hl, hm, hz, hx, hcell, hws⟩
 ·obtain rfl : v = .slice none 0 0 := by simpa using hcs
  exact ⟨[], ⟨none, 0, rfl, Nat.le_refl _, .inl rfl⟩, by rw [hx]; simp [Rows.uptoBulk], by simp⟩
 obtain rfl : v = .slice (some a) len cap := by simpa using hcs
 simp only [if_true] at hz
 have hlen : (zs.take len).length = len := by rw [List.length_take]; omega
 refine ⟨zs.take len, ⟨some a, cap, by rw [hlen], by omega, ?_⟩, ?_, fun x hx => ?_⟩
 ·rcases Nat.eq_zero_or_pos len with h0 | h0
  ·exact .inl (by omega)
  right
  have c0 := hcell 0 (by omega)
  have e0 : a.add 0 = a := by simp [Addr.add]
  rw [e0] at c0
  have ha := addr_plain c0
  refine ⟨a.block, a.off, by rw [← ha], fun j hj => ?_⟩
  have hjl : j < len := by omega
  have cj := hcell j (by omega)
  rw [ha, addr_add] at cj
  rw [cj]
  simp [List.getD, hjl]
 ·rw [hx]
  simp only [Rows.uptoBulk, bulk_lits]
  omega
 have := hws x (List.mem_of_mem_take hx)
 simp [Lit.wf, IntKind.min, IntKind.max, IntKind.signed, IntKind.bits] at this
 omega
set_option maxRecDepth 100000 in
/-- Flags among the arguments, bounded by their bulk. -/
theorem open_flagsU_ {H : Type} {enc : TypeId × Value → H} {W : World} {base : Nat} {v : Value} {d : DataW H} {p : List MemPlace} (hval : Value.okWide Tryz.prog W .any base 44 v)
  (h : DataW.Trod enc Tryz.prog W 0 (fun _ => true) true 44 v d p) : ∃ zs : List Int, FS W v zs ∧ zs.length + 1 ≤ Rows.uptoBulk d ∧ ∀ x ∈ zs, 0 ≤ x ∧ x ≤ 65535 := by
 obtain ⟨a0, len, cap, rfl⟩ := okWide_slice Tryz.underlying44 hval
 obtain ⟨fuel, hf⟩ := h
 exact open_flags_cs hf
end Go.Proofs.YtkdajhmlhjkcdaaGreatDoor
