/-
  Show: the reference's, of numbers; Show of any kind.
-/
import Derived.Test.YtgcnfebifopdnaaDoorRows
import Derived.Test.YtgcnfebifopdnaaDoorFS4
namespace Go.Proofs.YtgcnfebifopdnaaDoor
open Go.RowKit

set_option maxHeartbeats 4000000 in
set_option maxRecDepth 100000 in
theorem so_rShow3 (v : Value) (zs : List Int) (w : World) (h : IS w v zs) (hbd : ∀ x ∈ zs, 0 ≤ x ∧ x ≤ 65535) (hbig : zs.length ≤ 4194304) :
    Calls Tryd.prog 33 #[.int .i64 3, v] w (ShowR 3 (canon zs) w) := by
  have hF := Lib.hid h
  have HU := Lib.hid (up_bd hbd)
  have hbd' := canon_bd hbd
  have hcl := canon_le zs
  obtain ⟨cs, hcs⟩ : ∃ cs, canon zs = cs := ⟨_, rfl⟩
  have HCS := Lib.hid hcs
  rw [hcs] at hbd' hcl ⊢
  have HB := Lib.hid hbd'
  clear h hbd hcs hbd'
  obtain ⟨R, hRR⟩ : ∃ R, ShowR 3 cs w = R := ⟨_, rfl⟩
  have HRR := Lib.hid hRR
  rw [hRR]
  clear hRR
  go_enter Tryd.func33, Tryd.ntmps33
  go_wp2_with (go_at_call 17; refine (so_rOf _ zs _ hF.out HU.out (by omega)).mono ?_; rw [HCS.out]; rintro e w1 ⟨v1, rfl, ⟨p1, c1, rfl, _, hs1⟩, b1⟩; have H1 := Lib.hid hs1; have B1 := Lib.hid b1; clear b1 hs1)
  have hsz1 := B1.out.size
  go_loopw [6, 8, 9, 10] (fun o i _ _ wr => ∃ k : Nat, k ≤ cs.length ∧ i = .int .i64 k ∧ o = .string (partF 3 cs k) ∧ Hid (GoodTo 3 cs k) ∧ Hid (Below w.heap.size w wr ∧ Below w1.heap.size w1 wr)) (fun _ i _ _ _ => cs.length - (intOf i).toNat)
  case atStart => exact ⟨0, Nat.zero_le _, rfl, rfl, (fun j _ hj => absurd hj (Nat.not_lt_zero _)), B1.out, Below.refl _ _⟩
  case round =>
    obtain ⟨k, hkk, rfl, rfl, HN, HB2⟩ := hrel
    have hsz2 := HB2.out.1.size
    by_cases hlt : k < cs.length
    · obtain ⟨b, off, rfl, hc⟩ := H1.out.resolve_left (by omega)
      have c0 := hc k hlt
      have hcell := (HB2.out.2.cell (World.block_lt_of_cell? w1 _ c0)).trans c0
      have ecs : cs.getD k 0 = cs[k] := by simp [List.getD, hlt]
      rw [ecs] at hcell
      obtain ⟨b0, b1⟩ := HB.out cs[k] (List.getElem_mem hlt)
      have H31 := Lib.hid (show ∀ w', Below w.heap.size w w' → goodF 3 (cs[k]'hlt) = false → R (.returned (.tuple #[.string ⟨#[]⟩, .int .i64 31])) w' from fun w' hb hg => by rw [← HRR.out]; exact ShowR.r31 rfl k hlt hg hb)
      have HNX := Lib.hid (HN.out.next hlt)
      have HPS := Lib.hid (show k < 64 → ∀ s, s = mkS ((if k = 0 then [] else sepF 3) ++ textF 3 (cs[k]'hlt)) → partF 3 cs k ++ s = partF 3 cs (k + 1) from fun h64 s hs => partF_small 3 cs k h64 hlt s hs)
      clear hc c0 ecs HN
      generalize cs[k] = x at *
      have hos := partF_size 3 cs HB.out k
      have hss := text_size 3 x b0 b1
      obtain ⟨o1, ho1⟩ : ∃ o1, partF 3 cs k = o1 := ⟨_, rfl⟩
      rw [ho1] at HPS hos ⊢
      have HO1 := Lib.hid ho1
      clear ho1
      have HZ := Lib.hid (show (mkS (textF 3 x)).size ≤ maxLen by unfold maxLen; omega)
      have HG := Lib.hid (num_cases 3 x (.inr (num_3 x b0 b1)))
      have HDS := Lib.hid (show decS x = mkS (textF 3 x) by unfold decS Lib.itoa; rw [if_neg (by omega), textF_3])
      have DC := Lib.hid (Decimal01_any x wr (by omega) (by omega))
      obtain ⟨s, hs⟩ : ∃ s, mkS (textF 3 x) = s := ⟨_, rfl⟩
      have HS := Lib.hid hs
      rw [hs] at HZ hss HDS
      have HD := Lib.hid (show s.data.toList = textF 3 x by rw [← hs]; rfl)
      clear hs
      rcases HG.out with ⟨hq, hg⟩ | ⟨hq, hx0, hg⟩
      · have HQ := Lib.hid (show numF 3 s.data.toList = 0 by rw [HD.out]; exact hq)
        have hfin := Lib.hid (fun w' (hb : Below w.heap.size w w') n => H31.out _ (below_drewN hb n) hg)
        clear hq hg HG
        go_wp2_with (first
          | (go_at_call 49; refine DC.out.mono ?_; rw [HDS.out]; rintro e w3 ⟨rfl, b3⟩; have HA := Lib.hid (HB2.out.1.trans (b3.mono hsz2)); have HA1 := Lib.hid (HB2.out.2.trans (b3.mono HB2.out.2.size)); clear b3)
          | (go_at_call 38; refine (so_Value 3 s _ (.inr (.inr rfl)) HZ.out).mono ?_; rw [HQ.out]; rintro e w4 ⟨rfl, n3, rfl⟩))
        try go_ret2
        exact hfin.out _ HA.out _
      · have HQ := Lib.hid (show numF 3 s.data.toList = x by rw [HD.out]; exact hq)
        have hx1 : (x == 0) = false := by simpa using hx0
        have HNX2 := Lib.hid (HNX.out hg)
        clear hq hg HG hx0 HNX H31
        by_cases h64 : k < 64
        · have h64' : (k : Int) < 64 := by omega
          by_cases hk0 : 0 < (k : Int)
          · have HP := Lib.hid (HPS.out h64 (⟨#[44]⟩ ++ s) (by rw [← HS.out, if_neg (by omega)]; exact mkS_app [44] _))
            go_wp2_with (first | (go_at_call 49; refine DC.out.mono ?_; rw [HDS.out]; rintro e w3 ⟨rfl, b3⟩; have HA := Lib.hid (HB2.out.1.trans (b3.mono hsz2)); have HA1 := Lib.hid (HB2.out.2.trans (b3.mono HB2.out.2.size)); clear b3) | (go_at_call 38; refine (so_Value 3 s _ (.inr (.inr rfl)) HZ.out).mono ?_; rw [HQ.out]; rintro e w4 ⟨rfl, n3, rfl⟩))
            go_roundw
            case rel => exact ⟨k + 1, by omega, by go_num, by rw [HP.out], HNX2, Lib.hid ⟨below_drewN HA.out _, below_drewN HA1.out _⟩⟩
            case measure => simp [intOf]; omega
          · have HP := Lib.hid (HPS.out h64 s (by rw [← HS.out, if_pos (by omega)]; rfl))
            go_wp2_with (first | (go_at_call 49; refine DC.out.mono ?_; rw [HDS.out]; rintro e w3 ⟨rfl, b3⟩; have HA := Lib.hid (HB2.out.1.trans (b3.mono hsz2)); have HA1 := Lib.hid (HB2.out.2.trans (b3.mono HB2.out.2.size)); clear b3) | (go_at_call 38; refine (so_Value 3 s _ (.inr (.inr rfl)) HZ.out).mono ?_; rw [HQ.out]; rintro e w4 ⟨rfl, n3, rfl⟩))
            go_roundw
            case rel => exact ⟨k + 1, by omega, by go_num, by rw [HP.out], HNX2, Lib.hid ⟨below_drewN HA.out _, below_drewN HA1.out _⟩⟩
            case measure => simp [intOf]; omega
        · have h64' : ¬ (k : Int) < 64 := by omega
          have hk0 : 0 < (k : Int) := by omega
          have HP := Lib.hid (partF_big 3 cs k h64)
          go_wp2_with (first | (go_at_call 49; refine DC.out.mono ?_; rw [HDS.out]; rintro e w3 ⟨rfl, b3⟩; have HA := Lib.hid (HB2.out.1.trans (b3.mono hsz2)); have HA1 := Lib.hid (HB2.out.2.trans (b3.mono HB2.out.2.size)); clear b3) | (go_at_call 38; refine (so_Value 3 s _ (.inr (.inr rfl)) HZ.out).mono ?_; rw [HQ.out]; rintro e w4 ⟨rfl, n3, rfl⟩))
          go_roundw
          case rel => exact ⟨k + 1, by omega, by go_num, by rw [HP.out, HO1.out], HNX2, Lib.hid ⟨below_drewN HA.out _, below_drewN HA1.out _⟩⟩
          case measure => simp [intOf]; omega
    · have hke : k = cs.length := by omega
      subst hke
      by_cases h64 : 64 < cs.length
      · have h64' : (64 : Int) < (cs.length : Int) := by omega
        have hfin := Lib.hid (show R _ wr by rw [← HRR.out]; exact ShowR.r32 rfl HN.out h64 HB2.out.1)
        go_wp2
        try go_ret2
        exact hfin.out
      · have h64' : ¬ (64 : Int) < (cs.length : Int) := by omega
        have hfin := Lib.hid (show R _ wr by rw [← HRR.out]; exact ShowR.r0 rfl HN.out h64 HB2.out.1)
        go_wp2
        try go_ret2
        exact hfin.out

theorem so_rShow (kind : Int) (v : Value) (zs : List Int) (w : World) (h : IS w v zs) (hbd : ∀ x ∈ zs, 0 ≤ x ∧ x ≤ 65535) (hbig : zs.length ≤ 4194304) :
    Calls Tryd.prog 33 #[.int .i64 kind, v] w (ShowR kind (canon zs) w) := by
  rcases kind_cases kind with ⟨-, rfl | rfl | rfl⟩ | ⟨hko, hk⟩
  · exact so_rShow1 v zs w h hbd hbig
  · exact so_rShow2 v zs w h hbd hbig
  · exact so_rShow3 v zs w h hbd hbig
  · have hfin := Lib.hid (show ShowR kind (canon zs) w (.returned (.tuple #[.string ⟨#[]⟩, .int .i64 30])) w from ⟨by rw [show_30 kind (canon zs) hko]; rfl, Below.refl _ _⟩)
    clear hko h hbd
    generalize ShowR kind (canon zs) w = R at *
    rcases hk with hk | hk
    · go_enter Tryd.func33, Tryd.ntmps33
      go_wp2_with fail
      try go_ret2
      exact hfin.out
    · have hk1 : ¬ kind < 1 := by omega
      go_enter Tryd.func33, Tryd.ntmps33
      go_wp2_with fail
      try go_ret2
      exact hfin.out
end Go.Proofs.YtgcnfebifopdnaaDoor
