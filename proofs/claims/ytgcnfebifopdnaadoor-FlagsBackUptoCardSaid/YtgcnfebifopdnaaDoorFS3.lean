/-
  Show: the reference's.
-/
import Derived.Test.YtgcnfebifopdnaaDoorRows
import Derived.Test.YtgcnfebifopdnaaDoorFS2
namespace Go.Proofs.YtgcnfebifopdnaaDoor
open Go.RowKit

theorem mkS_app (a b : List UInt8) : mkS a ++ mkS b = mkS (a ++ b) := by simp [mkS, ByteArray.ext_iff]
theorem join_snoc (ls : List (List UInt8)) (y sep : List UInt8) (h : ls ≠ []) : Lib.join (ls ++ [y]) sep = Lib.join ls sep ++ (sep ++ y) := by
  cases ls with
  | nil => exact absurd rfl h
  | cons l ls =>
    rw [List.cons_append, Lib.join_cons, Lib.join_cons]
    simp [Lib.joinTail]
theorem joinF_snoc (kind : Int) (cs : List Int) (k : Nat) (h : k < cs.length) : joinF kind (cs.take (k + 1)) = joinF kind (cs.take k) ++ ((if k = 0 then [] else sepF kind) ++ textF kind cs[k]) := by
  unfold joinF
  rw [List.take_add_one, List.getElem?_eq_getElem h, List.map_append]
  show Lib.join (List.map (textF kind) (List.take k cs) ++ [textF kind cs[k]]) (sepF kind) = _
  by_cases h0 : k = 0
  · subst h0
    rw [if_pos rfl]
    simp [Lib.join_one, Lib.join_nil]
  · rw [if_neg h0]
    exact join_snoc _ _ _ (by
      intro e
      rcases List.take_eq_nil_iff.1 (List.map_eq_nil_iff.1 e) with e2 | e2
      · exact h0 e2
      · rw [e2] at h; simp at h)
/-- What the reference has written before the flag k. -/
def partF (kind : Int) (cs : List Int) (k : Nat) : ByteArray := mkS (joinF kind (cs.take (if k ≤ 64 then k else 64)))
theorem partF_0 (kind : Int) (cs : List Int) : partF kind cs 0 = ⟨#[]⟩ := rfl
theorem partF_big (kind : Int) (cs : List Int) (k : Nat) (h : ¬ k < 64) : partF kind cs (k + 1) = partF kind cs k := by
  unfold partF
  rw [if_neg (by omega)]
  by_cases e : k = 64
  · subst e; rw [if_pos (by omega)]
  · rw [if_neg (by omega)]
theorem partF_small (kind : Int) (cs : List Int) (k : Nat) (h : k < 64) (hk : k < cs.length) (s : ByteArray) (hs : s = mkS ((if k = 0 then [] else sepF kind) ++ textF kind cs[k])) : partF kind cs k ++ s = partF kind cs (k + 1) := by
  unfold partF
  rw [if_pos (by omega), if_pos (by omega), hs, mkS_app, joinF_snoc kind cs k hk]
theorem partF_all (kind : Int) (cs : List Int) (h : ¬ 64 < cs.length) : partF kind cs cs.length = mkS (joinF kind cs) := by
  unfold partF
  rw [if_pos (by omega), List.take_length]
theorem partF_size (kind : Int) (cs : List Int) (h : ∀ x ∈ cs, 0 ≤ x ∧ x ≤ 65535) (k : Nat) : (partF kind cs k).size ≤ 1344 := by
  unfold partF
  rw [mkS_size]
  have h1 := joinF_len kind (cs.take (if k ≤ 64 then k else 64)) (fun x hx => h x (List.mem_of_mem_take hx))
  have h2 : (cs.take (if k ≤ 64 then k else 64)).length ≤ 64 := by rw [List.length_take]; split <;> omega
  omega
theorem text_size (kind x : Int) (h0 : 0 ≤ x) (h1 : x ≤ 65535) : (mkS (textF kind x)).size ≤ 20 := by rw [mkS_size]; exact text_len kind x h0 h1
theorem cells_1' (x : Int) (h0 : 0 ≤ x) (h1 : x ≤ 255) : [Value.int .u8 x] = Lib.byteCells (textF 1 x) := by
  rw [← cells_1 x h0, show x % 256 = x by omega]
theorem num_cases (kind x : Int) (h : numF kind (textF kind x) = 0 ∨ numF kind (textF kind x) = x) : (numF kind (textF kind x) = 0 ∧ goodF kind x = false) ∨ (numF kind (textF kind x) = x ∧ x ≠ 0 ∧ goodF kind x = true) := by
  by_cases h0 : numF kind (textF kind x) = 0
  · exact .inl ⟨h0, good_bad kind x h0⟩
  · have h1 := h.resolve_left h0
    have h2 : x ≠ 0 := fun e => h0 (h1.trans e)
    exact .inr ⟨h1, h2, good_is kind x h1 h2⟩
/-- All before k are flags of the kind. -/
def GoodTo (kind : Int) (cs : List Int) (k : Nat) : Prop := ∀ j (hj : j < cs.length), j < k → goodF kind cs[j] = true
theorem GoodTo.next {kind : Int} {cs : List Int} {k : Nat} (h : GoodTo kind cs k) (hk : k < cs.length) (hg : goodF kind cs[k] = true) : GoodTo kind cs (k + 1) := fun j hj hjk => by
  by_cases e : j = k
  · subst e; exact hg
  · exact h j hj (by omega)
/-- What is asked of Show: any kind. -/
def ShowR (kind : Int) (cs : List Int) (w : World) (e : Ending) (w' : World) : Prop := e = .returned (.tuple #[.string (mkS (showF kind cs).1), .int .i64 (showF kind cs).2]) ∧ Below w.heap.size w w'
theorem ShowR.r31 {kind : Int} {cs : List Int} {w w' : World} (hk : kindOk kind = true) (k : Nat) (hk2 : k < cs.length) (h : goodF kind cs[k] = false) (hb : Below w.heap.size w w') : ShowR kind cs w (.returned (.tuple #[.string ⟨#[]⟩, .int .i64 31])) w' :=
  ⟨by rw [show_31 kind cs hk k hk2 h]; rfl, hb⟩
theorem ShowR.r32 {kind : Int} {cs : List Int} {w w' : World} (hk : kindOk kind = true) (h : GoodTo kind cs cs.length) (h64 : 64 < cs.length) (hb : Below w.heap.size w w') : ShowR kind cs w (.returned (.tuple #[.string ⟨#[]⟩, .int .i64 32])) w' :=
  ⟨by rw [show_ok kind cs hk (fun j hj => h j hj hj), if_pos h64]; rfl, hb⟩
theorem ShowR.r0 {kind : Int} {cs : List Int} {w w' : World} (hk : kindOk kind = true) (h : GoodTo kind cs cs.length) (h64 : ¬ 64 < cs.length) (hb : Below w.heap.size w w') : ShowR kind cs w (.returned (.tuple #[.string (partF kind cs cs.length), .int .i64 0])) w' :=
  ⟨by rw [show_ok kind cs hk (fun j hj => h j hj hj), if_neg h64, partF_all kind cs h64], hb⟩

set_option maxHeartbeats 4000000 in
set_option maxRecDepth 100000 in
theorem so_rShow1 (v : Value) (zs : List Int) (w : World) (h : IS w v zs) (hbd : ∀ x ∈ zs, 0 ≤ x ∧ x ≤ 65535) (hbig : zs.length ≤ 4194304) :
    Calls Tryd.prog 33 #[.int .i64 1, v] w (ShowR 1 (canon zs) w) := by
  have hF := Lib.hid h
  have HU := Lib.hid (up_bd hbd)
  have hbd' := canon_bd hbd
  have hcl := canon_le zs
  obtain ⟨cs, hcs⟩ : ∃ cs, canon zs = cs := ⟨_, rfl⟩
  have HCS := Lib.hid hcs
  rw [hcs] at hbd' hcl ⊢
  have HB := Lib.hid hbd'
  clear h hbd hcs hbd'
  obtain ⟨R, hRR⟩ : ∃ R, ShowR 1 cs w = R := ⟨_, rfl⟩
  have HRR := Lib.hid hRR
  rw [hRR]
  clear hRR
  go_enter Tryd.func33, Tryd.ntmps33
  go_wp2_with (go_at_call 17; refine (so_rOf _ zs _ hF.out HU.out (by omega)).mono ?_; rw [HCS.out]; rintro e w1 ⟨v1, rfl, ⟨p1, c1, rfl, _, hs1⟩, b1⟩; have H1 := Lib.hid hs1; have B1 := Lib.hid b1; clear b1 hs1)
  have hsz1 := B1.out.size
  go_loopw [6, 8, 9, 10] (fun o i _ _ wr => ∃ k : Nat, k ≤ cs.length ∧ i = .int .i64 k ∧ o = .string (partF 1 cs k) ∧ Hid (GoodTo 1 cs k) ∧ Hid (Below w.heap.size w wr ∧ Below w1.heap.size w1 wr)) (fun _ i _ _ _ => cs.length - (intOf i).toNat)
  case atStart => exact ⟨0, Nat.zero_le _, rfl, rfl, (fun j _ hj => absurd hj (Nat.not_lt_zero _)), B1.out, Below.refl _ _⟩
  case round =>
    obtain ⟨k, hkk, rfl, rfl, HN, HB2⟩ := hrel
    have hsz2 := HB2.out.1.size
    by_cases hlt : k < cs.length
    · obtain ⟨b, off, rfl, hc⟩ := H1.out.resolve_left (by omega)
      have c0 := hc k hlt
      have hcell := (HB2.out.2.cell (World.block_lt_of_cell? w1 _ c0)).trans c0
      have ecs : cs.getD k 0 = cs[k] := by simp [List.getD, hlt]
      rw [ecs] at hcell
      obtain ⟨b0, b1⟩ := HB.out cs[k] (List.getElem_mem hlt)
      have H31 := Lib.hid (show ∀ w', Below w.heap.size w w' → goodF 1 (cs[k]'hlt) = false → R (.returned (.tuple #[.string ⟨#[]⟩, .int .i64 31])) w' from fun w' hb hg => by rw [← HRR.out]; exact ShowR.r31 rfl k hlt hg hb)
      have HNX := Lib.hid (HN.out.next hlt)
      have HPS := Lib.hid (show k < 64 → ∀ s, s = mkS ((if k = 0 then [] else sepF 1) ++ textF 1 (cs[k]'hlt)) → partF 1 cs k ++ s = partF 1 cs (k + 1) from fun h64 s hs => partF_small 1 cs k h64 hlt s hs)
      have HBG := Lib.hid (num_1_big cs[k])
      clear hc c0 ecs HN
      generalize cs[k] = x at *
      have hos := partF_size 1 cs HB.out k
      have hss := text_size 1 x b0 b1
      obtain ⟨o1, ho1⟩ : ∃ o1, partF 1 cs k = o1 := ⟨_, rfl⟩
      rw [ho1] at HPS hos ⊢
      have HO1 := Lib.hid ho1
      clear ho1
      by_cases h255 : 255 < x
      · have hfin := Lib.hid (H31.out _ HB2.out.1 (HBG.out h255))
        go_wp2
        try go_ret2
        exact hfin.out
      · have hcv := laid_text wr #[.int .u8 x] 1 (textF 1 x) (by omega) rfl (cells_1' x b0 (by omega))
        have HA := Lib.hid (HB2.out.1.alloc hsz2 (.cells #[.int .u8 x] 5))
        have HA1 := Lib.hid (HB2.out.2.alloc (HB2.out.2.size) (.cells #[.int .u8 x] 5))
        have HZ := Lib.hid (show (mkS (textF 1 x)).size ≤ maxLen by rw [mkS_size]; show 1 ≤ maxLen; decide)
        have HG := Lib.hid (num_cases 1 x (num_1 x b0 (by omega)))
        obtain ⟨s, hs⟩ : ∃ s, mkS (textF 1 x) = s := ⟨_, rfl⟩
        have HS := Lib.hid hs
        rw [hs] at hcv HZ hss
        have HD := Lib.hid (show s.data.toList = textF 1 x by rw [← hs]; rfl)
        clear hs HBG
        rcases HG.out with ⟨hq, hg⟩ | ⟨hq, hx0, hg⟩
        · have HQ := Lib.hid (show numF 1 s.data.toList = 0 by rw [HD.out]; exact hq)
          have hfin := Lib.hid (fun n => H31.out _ (below_drewN HA.out n) hg)
          clear hq hg HG
          go_wp2_with (go_at_call 38; refine (so_Value 1 s _ (.inl rfl) HZ.out).mono ?_; rw [HQ.out]; rintro e w3 ⟨rfl, n3, rfl⟩)
          try go_ret2
          exact hfin.out _
        · have HQ := Lib.hid (show numF 1 s.data.toList = x by rw [HD.out]; exact hq)
          have hx1 : (x == 0) = false := by simpa using hx0
          have HNX2 := Lib.hid (HNX.out hg)
          clear hq hg HG hx0 HNX H31
          by_cases h64 : k < 64
          · have h64' : (k : Int) < 64 := by omega
            have HP := Lib.hid (HPS.out h64 s (by rw [← HS.out]; by_cases hk0 : k = 0 <;> simp [hk0, sepF]))
            by_cases hk0 : 0 < (k : Int)
            · go_wp2_with (go_at_call 38; refine (so_Value 1 s _ (.inl rfl) HZ.out).mono ?_; rw [HQ.out]; rintro e w3 ⟨rfl, n3, rfl⟩)
              go_roundw
              case rel => exact ⟨k + 1, by omega, by go_num, by rw [HP.out], HNX2, Lib.hid ⟨below_drewN HA.out _, below_drewN HA1.out _⟩⟩
              case measure => simp [intOf]; omega
            · go_wp2_with (go_at_call 38; refine (so_Value 1 s _ (.inl rfl) HZ.out).mono ?_; rw [HQ.out]; rintro e w3 ⟨rfl, n3, rfl⟩)
              go_roundw
              case rel => exact ⟨k + 1, by omega, by go_num, by rw [HP.out], HNX2, Lib.hid ⟨below_drewN HA.out _, below_drewN HA1.out _⟩⟩
              case measure => simp [intOf]; omega
          · have h64' : ¬ (k : Int) < 64 := by omega
            have hk0 : 0 < (k : Int) := by omega
            have HP := Lib.hid (partF_big 1 cs k h64)
            go_wp2_with (go_at_call 38; refine (so_Value 1 s _ (.inl rfl) HZ.out).mono ?_; rw [HQ.out]; rintro e w3 ⟨rfl, n3, rfl⟩)
            go_roundw
            case rel => exact ⟨k + 1, by omega, by go_num, by rw [HP.out, HO1.out], HNX2, Lib.hid ⟨below_drewN HA.out _, below_drewN HA1.out _⟩⟩
            case measure => simp [intOf]; omega
    · have hke : k = cs.length := by omega
      subst hke
      by_cases h64 : 64 < cs.length
      · have h64' : (64 : Int) < (cs.length : Int) := by omega
        have hfin := Lib.hid (show R _ wr by rw [← HRR.out]; exact ShowR.r32 rfl HN.out h64 HB2.out.1)
        go_wp2
        try go_ret2
        exact hfin.out
      · have h64' : ¬ (64 : Int) < (cs.length : Int) := by omega
        have hfin := Lib.hid (show R _ wr by rw [← HRR.out]; exact ShowR.r0 rfl HN.out h64 HB2.out.1)
        go_wp2
        try go_ret2
        exact hfin.out
end Go.Proofs.YtgcnfebifopdnaaDoor
