/-
  Show: the text of a list of flags.
-/
import Derived.Test.YtgcnfebifopdnaaDoorRows
import Derived.Test.YtgcnfebifopdnaaDoorFS1
import Derived.Test.YtgcnfebifopdnaaDoorFR14
namespace Go.Proofs.YtgcnfebifopdnaaDoor
open Go.RowKit

/-! ### How long the text of a set is -/
theorem text_len (kind x : Int) (h0 : 0 ≤ x) (h1 : x ≤ 65535) : (textF kind x).length ≤ 20 := by
  unfold textF
  split
  · simp
  · split
    · simp
    · rw [Lib.decDigits_length]
      exact Lib.nDigits_le20 x.toNat (by omega)
theorem lens_text (kind : Int) : ∀ cs : List Int, (∀ x ∈ cs, 0 ≤ x ∧ x ≤ 65535) → Lib.lens (cs.map (textF kind)) ≤ 20 * cs.length
  | [], _ => by simp [Lib.lens]
  | c :: cs, h => by
    have ih := lens_text kind cs (fun x hx => h x (List.mem_cons_of_mem _ hx))
    have h1 := text_len kind c (h c (by simp)).1 (h c (by simp)).2
    simp only [Lib.lens, List.map_cons, List.sum_cons, List.length_cons] at ih ⊢
    omega
theorem joinF_len (kind : Int) (cs : List Int) (h : ∀ x ∈ cs, 0 ≤ x ∧ x ≤ 65535) : (joinF kind cs).length ≤ 21 * cs.length := by
  unfold joinF
  cases cs with
  | nil => simp [Lib.join_nil]
  | cons c cs =>
    have h1 := lens_text kind (c :: cs) h
    rw [List.map_cons] at h1 ⊢
    rw [Lib.join_length, List.length_map]
    have h2 : (sepF kind).length ≤ 1 := by unfold sepF; split <;> simp
    have h3 := Nat.mul_le_mul_right cs.length h2
    simp only [List.length_cons] at h1 ⊢
    omega

/-- strings.Join of a row of texts. -/
theorem so_Join (v : Value) (xs : List ByteArray) (sep : ByteArray) (w : World) (h : Rd w 1 v xs.length (strV xs)) (hn : xs.length ≤ 140737488355328) (hl : (Lib.join (xs.map (·.data.toList)) sep.data.toList).length ≤ 140737488355328) :
    Calls Tryd.prog 48 #[v, .string sep] w fun e w' => e = .returned (.string (mkS (Lib.join (xs.map (·.data.toList)) sep.data.toList))) ∧ Below w.heap.size w w' := by
  obtain ⟨_, A, cap, rfl, hc, h2⟩ := h
  rcases h2 with h2 | ⟨g, o, rfl, h3⟩
  · have hx : xs = [] := List.eq_nil_of_length_eq_zero h2
    subst hx
    exact (Tryd.strings_Join_none A cap sep w).mono (fun e w' ⟨he, hw⟩ => ⟨he, by rw [hw]; exact Below.refl _ _⟩)
  · rcases Nat.eq_zero_or_pos xs.length with h0 | h0
    · have hx : xs = [] := List.eq_nil_of_length_eq_zero h0
      subst hx
      exact (Tryd.strings_Join_none (some ⟨g, o, none⟩) cap sep w).mono (fun e w' ⟨he, hw⟩ => ⟨he, by rw [hw]; exact Below.refl _ _⟩)
    · exact Tryd.strings_Join g o cap xs sep w (fun j x hj => h3 j (.string x) (by simp [strV, hj]))
        (World.block_lt_of_cell? w _ (h3 0 (.string xs[0]) (strV_get xs 0 h0))) hn hc hl

/-- The texts of the flags. -/
def textsF (kind : Int) (cs : List Int) : List ByteArray := cs.map fun x => mkS (textF kind x)
theorem textsF_len (kind : Int) (cs : List Int) : (textsF kind cs).length = cs.length := by simp [textsF]
theorem join_texts (kind : Int) (cs : List Int) (sep : ByteArray) (h : sep.data.toList = sepF kind) : Lib.join ((textsF kind cs).map (·.data.toList)) sep.data.toList = joinF kind cs := by
  unfold textsF joinF
  rw [h, List.map_map]
  rfl
theorem texts_snoc (kind : Int) (cs : List Int) (k : Nat) (h : k < cs.length) : strV (textsF kind (cs.take (k + 1))) = strV (textsF kind (cs.take k)) ++ [Value.string (mkS (textF kind cs[k]))] := by
  rw [List.take_add_one, List.getElem?_eq_getElem h]
  simp only [textsF, strV, List.map_append]
  rfl
theorem show_31 (kind : Int) (cs : List Int) (hk : kindOk kind = true) (k : Nat) (hk2 : k < cs.length) (h : goodF kind cs[k] = false) : showF kind cs = ([], 31) := by
  unfold showF
  rw [if_neg (by rw [hk]; decide), if_pos]
  cases hq : cs.all (goodF kind)
  · rfl
  · rw [List.all_eq_true.1 hq _ (List.getElem_mem hk2)] at h
    simp at h
theorem show_ok (kind : Int) (cs : List Int) (hk : kindOk kind = true) (h : ∀ j (hj : j < cs.length), goodF kind cs[j] = true) : showF kind cs = if 64 < cs.length then ([], 32) else (joinF kind cs, 0) := by
  unfold showF
  rw [if_neg (by rw [hk]; decide), if_neg]
  rw [Bool.not_eq_false, List.all_eq_true]
  intro x hx
  obtain ⟨k, hk, rfl⟩ := List.getElem_of_mem hx
  exact h k hk
theorem show_30 (kind : Int) (cs : List Int) (hk : kindOk kind = false) : showF kind cs = ([], 30) := by
  unfold showF; rw [if_pos hk]
theorem good_cases (kind x : Int) : (spellS kind x = ⟨#[]⟩ ∧ goodF kind x = false) ∨ (spellS kind x = mkS (textF kind x) ∧ x = 0 ∧ goodF kind x = false) ∨ (spellS kind x = mkS (textF kind x) ∧ x ≠ 0 ∧ goodF kind x = true) := by
  unfold spellS goodF
  by_cases h : numF kind (textF kind x) = x
  · rw [if_pos h]
    by_cases h0 : x = 0
    · exact .inr (.inl ⟨rfl, h0, by rw [decide_eq_false_iff_not]; exact fun e => e.2 h0⟩)
    · exact .inr (.inr ⟨rfl, h0, by rw [decide_eq_true_eq]; exact ⟨h, h0⟩⟩)
  · rw [if_neg h]
    exact .inl ⟨rfl, by rw [decide_eq_false_iff_not]; exact fun e => h e.1⟩

theorem string_info : (Tryd.prog.info? 9).map (fun i => (i.zero, i.size, i.bytes)) = some (some (.string ByteArray.empty), 1, 16) := by kernel_rfl

set_option maxHeartbeats 4000000 in
set_option maxRecDepth 100000 in
theorem so_Show (kind : Int) (v : Value) (zs : List Int) (w : World) (h : FS w v zs) (hbd : ∀ x ∈ zs, 0 ≤ x ∧ x ≤ 65535) (hbig : zs.length ≤ 4194304) (ht : PowTab w) :
    Calls Tryd.prog 32 #[.int .i64 kind, v] w fun e w' => e = .returned (.tuple #[.string (mkS (showF kind (canon zs)).1), .int .i64 (showF kind (canon zs)).2]) ∧ Below w.heap.size w w' := by
  obtain ⟨i0, hi, hz0, hz1, hz2⟩ := info_parts string_info
  have hF := Lib.hid h
  have hT := Lib.hid ht
  have hbd' := canon_bd hbd
  have hcl := canon_le zs
  clear h ht hbd
  rcases kind_cases kind with ⟨hko, hk⟩ | ⟨hko, hk⟩
  · have HK := Lib.hid hko
    have HKK := Lib.hid hk
    clear hko hk
    obtain ⟨cs, hcs⟩ : ∃ cs, canon zs = cs := ⟨_, rfl⟩
    have HCS := Lib.hid hcs
    rw [hcs] at hbd' hcl ⊢
    have HB := Lib.hid hbd'
    clear hcs hbd'
    obtain ⟨r, hr⟩ : ∃ r, showF kind cs = r := ⟨_, rfl⟩
    have HR := Lib.hid hr
    rw [hr]
    clear hr
    go_enter Tryd.func32, Tryd.ntmps32
    go_wp2_with (first
      | (go_at_call 34; refine (so_known _ _).mono ?_; rw [HK.out]; rintro e w1 ⟨rfl, rfl⟩)
      | (go_at_call 25; refine (so_Of _ zs _ hF.out (by omega)).mono ?_; rw [HCS.out]; rintro e w1 ⟨v1, rfl, h1, b1⟩; obtain ⟨p1, c1, rfl, _, hs1⟩ := h1.fs; have H1 := Lib.hid hs1; have B1 := Lib.hid b1; clear h1 b1 hs1))
    have hsz1 := B1.out.size
    go_loopw [6, 8, 9, 16] (fun o _ _ i wr => ∃ k : Nat, k ≤ cs.length ∧ i = .int .i64 k ∧ Hid (∀ j (hj : j < cs.length), j < k → goodF kind cs[j] = true) ∧ Hid (Own w1 wr 9 1 o k (strV (textsF kind (cs.take k))))) (fun _ _ _ i _ => cs.length - (intOf i).toNat)
    case atStart => exact ⟨0, Nat.zero_le _, rfl, (fun j _ hj => absurd hj (Nat.not_lt_zero _)), Own.nil_ _ _ _⟩
    case round =>
      obtain ⟨k, hkk, rfl, HN, HO⟩ := hrel
      have hsz := HO.out.size
      by_cases hlt : k < cs.length
      · obtain ⟨b, o, rfl, hc⟩ := H1.out.resolve_left (by omega)
        have c0 := hc k hlt
        have hcell := (HO.out.below.cell (World.block_lt_of_cell? w1 _ c0)).trans c0
        have ecs : cs.getD k 0 = cs[k] := by simp [List.getD, hlt]
        rw [ecs] at hcell
        obtain ⟨b0, b1⟩ := HB.out cs[k] (List.getElem_mem hlt)
        have HP := Lib.hid (show PowTab wr from PowTab.below hT.out (B1.out.trans (HO.out.below.mono hsz1)))
        have HS := Lib.hid (texts_snoc kind cs k hlt)
        have H31 := Lib.hid (show_31 kind cs HK.out k hlt)
        have HG := Lib.hid (good_cases kind cs[k])
        have HNX := Lib.hid (show goodF kind cs[k] = true → ∀ j (hj : j < cs.length), j < k + 1 → goodF kind cs[j] = true from fun hg j hj hjk => by
          by_cases e : j = k
          · subst e; exact hg
          · exact HN.out j hj (by omega))
        have HTN := Lib.hid (text_ne kind cs[k])
        clear hc c0 ecs HN
        generalize cs[k] = x at *
        have HSP := Lib.hid (so_spell kind x wr HKK.out b0 b1 HP.out)
        rcases HG.out with ⟨hq, hg⟩ | ⟨hq, hx0, hg⟩ | ⟨hq, hx0, hg⟩
        · have HQ := Lib.hid hq
          have hfin := Lib.hid (HR.out.symm.trans (H31.out hg))
          clear hq hg HG
          go_wp2_with (go_at_call 47; refine HSP.out.mono ?_; rw [HQ.out]; rintro e w2 ⟨rfl, b2⟩; have B2 := Lib.hid b2; clear b2)
          go_ret2
          exact ⟨by rw [hfin.out]; rfl, (B1.out.trans (HO.out.below.mono hsz1)).trans (B2.out.mono (Nat.le_trans hsz1 hsz))⟩
        · have HQ := Lib.hid hq
          have hfin := Lib.hid (HR.out.symm.trans (H31.out hg))
          subst hx0
          have hne := notEmpty (mkS (textF kind 0)) (by rw [mkS_size]; exact List.length_pos_iff.2 HTN.out)
          clear hq hg HG
          generalize mkS (textF kind 0) = s at *
          go_wp2_with (go_at_call 47; refine HSP.out.mono ?_; rw [HQ.out]; rintro e w2 ⟨rfl, b2⟩; have B2 := Lib.hid b2; clear b2)
          go_ret2
          exact ⟨by rw [hfin.out]; rfl, (B1.out.trans (HO.out.below.mono hsz1)).trans (B2.out.mono (Nat.le_trans hsz1 hsz))⟩
        · have HQ := Lib.hid hq
          have HNX2 := Lib.hid (HNX.out hg)
          have hx1 : (x == 0) = false := by simpa using hx0
          have hne := notEmpty (mkS (textF kind x)) (by rw [mkS_size]; exact List.length_pos_iff.2 HTN.out)
          clear hq hg HG hx0 HNX
          generalize mkS (textF kind x) = s at *
          go_wp2_with (first
            | (go_at_call 47; refine HSP.out.mono ?_; rw [HQ.out]; rintro e w2 ⟨rfl, b2⟩; have HO2 := Lib.hid (HO.out.call b2); clear b2)
            | (at_builtin; refine wpList_push1 rfl _ _ 61 rfl w1.heap.size 9 i0 (.string ByteArray.empty) 16 Tryd.underlying61 hi hz0 hz1 hz2 rfl _ k _ rfl HO2.out.own _ rfl rfl (by unfold maxLen; omega) (by omega) HO2.out.size ?_; intro gg cap2 w5 hown hg5; have HO' := Lib.hid (HO2.out.push hown hg5); clear hown hg5))
          go_roundw
          case rel => exact ⟨k + 1, by omega, by go_num, HNX2, Lib.hid (by rw [HS.out]; exact HO'.out)⟩
          case measure => simp [intOf]; omega
      · have hke : k = cs.length := by omega
        subst hke
        rw [List.take_length] at HO
        have HRD := Lib.hid (Rd.of_own HO.out.own)
        obtain ⟨_, A, cap, rfl, _, _⟩ := HRD.out
        have HSH := Lib.hid (HR.out.symm.trans (show_ok kind cs HK.out (fun j hj => HN.out j hj hj)))
        by_cases h64 : 64 < cs.length
        · have h64' : (64 : Int) < (cs.length : Int) := by omega
          have hfin := Lib.hid (show r = ([], 32) by rw [HSH.out, if_pos h64])
          go_wp2
          go_ret2
          exact ⟨by rw [hfin.out]; rfl, B1.out.trans (HO.out.below.mono hsz1)⟩
        · have h64' : ¬ (64 : Int) < (cs.length : Int) := by omega
          have hfin := Lib.hid (show r = (joinF kind cs, 0) by rw [HSH.out, if_neg h64])
          have hjl := joinF_len kind cs HB.out
          have HL := Lib.hid (textsF_len kind cs)
          by_cases hk3 : kind = 3
          · subst hk3
            have HJ := Lib.hid (join_texts 3 cs ⟨#[44]⟩ rfl)
            go_wp2_with (go_at_call 48; refine (so_Join _ (textsF 3 cs) ⟨#[44]⟩ _ (by rw [HL.out]; exact HRD.out) (by rw [HL.out]; omega) (by rw [HJ.out]; omega)).mono ?_; rw [HJ.out]; rintro e w3 ⟨rfl, b3⟩; have B3 := Lib.hid b3; clear b3)
            go_ret2
            exact ⟨by rw [hfin.out]; rfl, (B1.out.trans (HO.out.below.mono hsz1)).trans (B3.out.mono (Nat.le_trans hsz1 hsz))⟩
          · have hkb : (kind == 3) = false := by simpa using hk3
            have HJ := Lib.hid (join_texts kind cs ⟨#[]⟩ (by unfold sepF; rw [if_neg hk3]))
            go_wp2_with (go_at_call 48; refine (so_Join _ (textsF kind cs) ⟨#[]⟩ _ (by rw [HL.out]; exact HRD.out) (by rw [HL.out]; omega) (by rw [HJ.out]; omega)).mono ?_; rw [HJ.out]; rintro e w3 ⟨rfl, b3⟩; have B3 := Lib.hid b3; clear b3)
            go_ret2
            exact ⟨by rw [hfin.out]; rfl, (B1.out.trans (HO.out.below.mono hsz1)).trans (B3.out.mono (Nat.le_trans hsz1 hsz))⟩
  · have HK := Lib.hid hko
    have hR := Lib.hid (show_30 kind (canon zs) hko)
    clear hko hk
    go_enter Tryd.func32, Tryd.ntmps32
    go_wp2_with (go_at_call 34; refine (so_known _ _).mono ?_; rw [HK.out]; rintro e w1 ⟨rfl, rfl⟩)
    go_ret2
    exact ⟨by rw [hR.out]; rfl, Below.refl _ _⟩
end Go.Proofs.YtgcnfebifopdnaaDoor
