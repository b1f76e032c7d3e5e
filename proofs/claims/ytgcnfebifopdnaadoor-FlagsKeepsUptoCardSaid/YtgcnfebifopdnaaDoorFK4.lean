/-
  FlagsKeeps walked.
-/
import Derived.Test.YtgcnfebifopdnaaDoorRows
import Derived.Test.YtgcnfebifopdnaaDoorFK3
import Derived.Test.YtgcnfebifopdnaaDoorFR16
namespace Go.Proofs.YtgcnfebifopdnaaDoor
open Go.RowKit

/-- A slice of a row that stood ahead of the blocks that are turned. -/
theorem FS.low {lo hi : Nat} {w2 w w' : World} {v : Value} {zs : List Int} (h2 : FS w2 v zs) (hlo : w2.heap.size ≤ lo) (h : FS w v zs) (ht : Turn lo hi w w') : FS w' v zs := by
  obtain ⟨p, c, hv, hcap, h⟩ := h
  refine ⟨p, c, hv, hcap, ?_⟩
  rcases Nat.eq_zero_or_pos zs.length with h0 | h0
  · exact .inl h0
  · obtain ⟨b, off, hp, h3⟩ := h.resolve_left (by omega)
    refine .inr ⟨b, off, hp, fun j hj => ?_⟩
    have hb : b < lo := by
      obtain ⟨p2, c2, hv2, _, h5⟩ := h2
      obtain ⟨b2, off2, hp2, h6⟩ := h5.resolve_left (by omega)
      rw [hv] at hv2
      injection hv2 with e1
      rw [hp, hp2] at e1
      injection e1 with e1
      injection e1 with e1
      have := World.block_lt_of_cell? w2 _ (h6 0 h0)
      dsimp only at this
      omega
    have h7 := h3 j hj
    exact (World.cell?_of_block (ht.block b (World.block_lt_of_cell? w _ h7) (.inl hb))).trans h7
/-- A row of one's own behind them. -/
theorem RW.high {hi lo : Nat} {w2 w w' : World} {v : Value} {zs : List Int} (h2 : RW hi w2 v zs) (h : FS w v zs) (ht : Turn lo hi w w') : FS w' v zs := by
  obtain ⟨p, c, hv, hcap, h⟩ := h
  refine ⟨p, c, hv, hcap, ?_⟩
  rcases Nat.eq_zero_or_pos zs.length with h0 | h0
  · exact .inl h0
  · obtain ⟨b, off, hp, h3⟩ := h.resolve_left (by omega)
    refine .inr ⟨b, off, hp, fun j hj => ?_⟩
    have hb : hi ≤ b := by
      rcases h2.cases with ⟨_, hz⟩ | ⟨g, c2, hv2, hB, _⟩
      · rw [hz] at h0; cases h0
      · rw [hv] at hv2
        injection hv2 with e1
        rw [hp] at e1
        injection e1 with e1
        injection e1 with e1
        omega
    have h7 := h3 j hj
    exact (World.cell?_of_block (ht.block b (World.block_lt_of_cell? w _ h7) (.inr hb))).trans h7

set_option maxRecDepth 100000 in
theorem run_app3 (B : Nat) (w : World) (v : Value) (zs : List Int) (h : RW B w v zs) (hB : B ≤ w.heap.size) (hsz : zs.length + 3 ≤ 16777216) :
    ∃ g c w', (Builtin.append_ #[22, 22] 22 #[v, .slice (some ⟨w.heap.size, 0, none⟩) 3 3]).run Tryd.prog (w.alloc (.cells #[.int .u16 61, .int .u16 62, .int .u16 63] 34)) = .ok (.slice (some ⟨g, 0, none⟩) (zs.length + 3) c) w' ∧ RW B w' (.slice (some ⟨g, 0, none⟩) (zs.length + 3) c) (zs ++ [61, 62, 63]) ∧ Below B w w' := by
  obtain ⟨i0, hi, hz0, hz1, hz2⟩ := info_parts flag_info
  have h1 : (w.alloc (.cells #[.int .u16 61, .int .u16 62, .int .u16 63] 34)).ownsRow B 34 1 v zs.length (zs.map (Value.int .u16)) := h.alloc _
  have hnews : ∀ j u, [Value.int .u16 61, .int .u16 62, .int .u16 63][j]? = some u → (w.alloc (.cells #[.int .u16 61, .int .u16 62, .int .u16 63] 34)).cell? ((⟨w.heap.size, 0, none⟩ : Addr).add j) = some u := by
    intro j u hj
    rw [row_addr, cell_of_row (w.alloc _) w.heap.size j _ _ (0, 0) (heap_alloc_new w _)]
    simpa using hj
  obtain ⟨v', w', hrun, hown, hg, -, hat⟩ := run_append_own_at (P := Tryd.prog) (w := w.alloc (.cells #[.int .u16 61, .int .u16 62, .int .u16 63] 34)) (ty := 22) B 22 34 i0 (.int .u16 0) 1 2 Tryd.underlying22 hi hz0 hz1 hz2 rfl (by decide) v zs.length _ h1 ⟨w.heap.size, 0, none⟩ 3 3 [.int .u16 61, .int .u16 62, .int .u16 63] rfl hnews
    (by intro u hu; simp at hu; rcases hu with rfl | rfl | rfl <;> rfl) (by unfold maxLen; omega) (by omega) (by simp; omega)
  have hR : RW B w' v' (zs ++ [61, 62, 63]) := by simpa [RW] using hown
  rcases hR.cases with ⟨_, h0⟩ | ⟨g, c, hv, _, _⟩
  · simp at h0
  · have hl : (zs ++ [61, 62, 63]).length = zs.length + 3 := by simp
    rw [hl] at hv
    subst hv
    exact ⟨g, c, w', hrun, hR, ((Below.refl _ w).alloc hB _).grown hg (by simp; omega) (fun k hk => (h1.lt k hk).1)⟩
theorem fs_front {w : World} {g c : Nat} {zs ts : List Int} {n : Nat} (h : FS w (.slice (some ⟨g, 0, none⟩) n c) (zs ++ ts)) : FS w (.slice (some ⟨g, 0, none⟩) zs.length c) zs := by
  obtain ⟨p, c', hv, hcap, h⟩ := h
  injection hv with e1 e2 e3
  subst e1 e2 e3
  rw [List.length_append] at hcap h
  refine ⟨_, _, rfl, by omega, ?_⟩
  rcases h with h | ⟨b, off, hp, hc⟩
  · exact .inl (by omega)
  · injection hp with hp
    injection hp with e1 e2
    subst e1 e2
    refine .inr ⟨g, 0, rfl, fun j hj => ?_⟩
    have := hc j (by omega)
    rwa [show (zs ++ ts).getD j 0 = zs.getD j 0 by simp [List.getD, List.getElem?_append_left hj]] at this
theorem fs_back {w : World} {g c : Nat} {zs ts : List Int} {n c2 : Nat} (h : FS w (.slice (some ⟨g, 0, none⟩) n c) (zs ++ ts)) (hc2 : ts.length ≤ c2) : FS w (.slice (some ⟨g, zs.length, none⟩) ts.length c2) ts := by
  obtain ⟨p, c', hv, hcap, h⟩ := h
  injection hv with e1 e2 e3
  subst e1 e2 e3
  rw [List.length_append] at hcap h
  refine ⟨_, _, rfl, hc2, ?_⟩
  rcases h with h | ⟨b, off, hp, hc⟩
  · exact .inl (by omega)
  · injection hp with hp
    injection hp with e1 e2
    subst e1 e2
    refine .inr ⟨g, zs.length, rfl, fun j hj => ?_⟩
    have := hc (zs.length + j) (by omega)
    rw [show (zs ++ ts).getD (zs.length + j) 0 = ts.getD j 0 by simp [List.getD, List.getElem?_append_right]] at this
    rwa [Nat.zero_add] at this

theorem fs_cap {w : World} {g c : Nat} {zs : List Int} (h : FS w (.slice (some ⟨g, 0, none⟩) (zs.length + 3) c) (zs ++ [61, 62, 63])) : zs.length + 3 ≤ c := by
  obtain ⟨p, c', hv, hc, _⟩ := h
  injection hv with _ e2 e3
  simp at hc
  omega

/-- What FlagsKeeps holds while it calls. -/
structure KS (W w : World) (v u x r : Value) (zs ts : List Int) : Prop where
  below : Below W.heap.size W w
  hv : FS w v zs
  hu : FS w u ts
  hx : FS w x zs
  hr : FS w r (zs ++ [61, 62, 63])
theorem KS.keep {W w w' : World} {v u x r : Value} {zs ts : List Int} (h : KS W w v u x r zs ts) (hb : Below w.heap.size w w') : KS W w' v u x r zs ts :=
  ⟨h.below.trans (hb.mono h.below.size), h.hv.keep hb, h.hu.keep hb, h.hx.keep hb, h.hr.keep hb⟩
/-- What is still asked for at the end. -/
structure KF (W w : World) (v u x d f : Value) (zs ts c2 c1 : List Int) : Prop where
  below : Below W.heap.size W w
  hv : FS w v zs
  hu : FS w u ts
  hx : FS w x zs
  hd : FS w d c2
  hf : FS w f c1
theorem KF.keep {W w w' : World} {v u x d f : Value} {zs ts c2 c1 : List Int} (h : KF W w v u x d f zs ts c2 c1) (hb : Below w.heap.size w w') : KF W w' v u x d f zs ts c2 c1 :=
  ⟨h.below.trans (hb.mono h.below.size), h.hv.keep hb, h.hu.keep hb, h.hx.keep hb, h.hd.keep hb, h.hf.keep hb⟩
theorem KF.turn {lo hi : Nat} {W w2 w6 w7 w w' : World} {v u x r d f : Value} {zs ts c2 c1 : List Int} (h : KF W w v u x d f zs ts c2 c1) (k2 : KS W w2 v u x r zs ts) (a6 : RW hi w6 d c2) (a7 : RW hi w7 f c1)
    (hlo : w2.heap.size ≤ lo) (hl : lo ≤ w.heap.size) (ht : Turn lo hi w w') : KF W w' v u x d f zs ts c2 c1 :=
  ⟨ht.below h.below (Nat.le_trans k2.below.size hlo) hl, FS.low k2.hv hlo h.hv ht, FS.low k2.hu hlo h.hu ht, FS.low k2.hx hlo h.hx ht, RW.high a6 h.hd ht, RW.high a7 h.hf ht⟩
theorem RW.slice {B : Nat} {w : World} {v : Value} {zs : List Int} (h : RW B w v zs) : ∃ p c, v = .slice p zs.length c := by
  obtain ⟨p, c, hv, _⟩ := h.fs
  exact ⟨p, c, hv⟩

theorem skolem2 {α β γ : Type} {p : α → β → γ → Prop} (h : ∀ x, ∃ a b, p x a b) : ∃ (f : α → β) (g : α → γ), ∀ x, p x (f x) (g x) := ⟨fun x => (h x).choose, fun x => (h x).choose_spec.choose, fun x => (h x).choose_spec.choose_spec⟩
/-- What is known of three rows for the loops. -/
structure Facts (lo hi : Nat) (V : Nat → Value) (N : Nat → Nat) : Prop where
  sl : ∀ j, j < 3 → ∃ P c, V j = .slice P (N j) c
  bd : ∀ j, j < 3 → ∀ g, (V j).ownBlock = some g → lo ≤ g ∧ g < hi
  zero : ∀ j, j < 3 → ∀ g o n c, V j = .slice (some ⟨g, o, none⟩) n c → o = 0
theorem rw_facts {B hi : Nat} {w : World} {v : Value} {zs : List Int} (h : RW B w v zs) (hh : w.heap.size ≤ hi) : (∃ P c, v = .slice P zs.length c) ∧ (∀ g, v.ownBlock = some g → B ≤ g ∧ g < hi) ∧ ∀ g o n c, v = .slice (some ⟨g, o, none⟩) n c → o = 0 := by
  rcases h.cases with ⟨rfl, rfl⟩ | ⟨g, c, rfl, hB, hlt⟩
  · exact ⟨⟨_, _, rfl⟩, (fun g hg => by cases hg), fun g o n c hv => by cases hv⟩
  · refine ⟨⟨_, _, rfl⟩, fun g' hg => ?_, fun g' o n c' hv => ?_⟩
    · have : g = g' := by simpa [Value.ownBlock] using hg
      omega
    · injection hv with e1
      injection e1 with e1
      injection e1 with e1 e2
      exact e2.symm
theorem facts_of {lo hi : Nat} {w1 w2 w3 : World} {a b c : Value} {za zb zc : List Int} (ha : RW lo w1 a za) (hb : RW w1.heap.size w2 b zb) (hc : RW w2.heap.size w3 c zc)
    (h01 : lo ≤ w1.heap.size) (h12 : w1.heap.size ≤ w2.heap.size) (h23 : w2.heap.size ≤ w3.heap.size) (h3 : w3.heap.size ≤ hi) : Facts lo hi (pick3 a b c) (pick3 za.length zb.length zc.length) := by
  obtain ⟨a1, a2, a3⟩ := rw_facts (hi := hi) ha (by omega)
  obtain ⟨b1, b2, b3⟩ := rw_facts (hi := hi) hb (by omega)
  obtain ⟨d1, d2, d3⟩ := rw_facts (hi := hi) hc (by omega)
  refine ⟨fun j hj => ?_, fun j hj => ?_, fun j hj => ?_⟩
  · rcases lt3 hj with rfl | rfl | rfl
    · exact a1
    · exact b1
    · exact d1
  · rcases lt3 hj with rfl | rfl | rfl
    · exact a2
    · exact fun g hg => ⟨by have := (b2 g hg).1; omega, (b2 g hg).2⟩
    · exact fun g hg => ⟨by have := (d2 g hg).1; omega, (d2 g hg).2⟩
  · rcases lt3 hj with rfl | rfl | rfl
    · exact a3
    · exact b3
    · exact d3
theorem Three.keep {lo : Nat} {V : Nat → Value} {Z : Nat → List Int} {w w' : World} (h : Three lo V Z w) (hb : Below w.heap.size w w') : Three lo V Z w' := ⟨fun j hj => own_below (h.row j hj) hb, h.apart⟩
theorem L1.start {lo hi : Nat} {w : World} {V : Nat → Value} {Z : Nat → List Int} {N : Nat → Nat} (h : Three lo V Z w) (hl : ∀ j, j < 3 → (Z j).length = N j) : L1 lo hi w V N 0 w Z := ⟨h, Turn.refl _ _ _, hl, fun _ hj => absurd hj (Nat.not_lt_zero _)⟩
/-- The three slices in a block. -/
def TriAt (w : World) (b : Nat) (V : Nat → Value) : Prop := ∀ j, j < 3 → w.cell? ⟨b, j, none⟩ = some (V j)
theorem tri_new (w : World) (V : Nat → Value) (e : TypeId) : TriAt (w.alloc (.cells #[V 0, V 1, V 2] e)) w.heap.size V := fun j hj => by
  rcases lt3 hj with rfl | rfl | rfl <;> simp
theorem TriAt.turn {lo hi b : Nat} {w w' : World} {V : Nat → Value} (h : TriAt w b V) (hb : hi ≤ b) (ht : Turn lo hi w w') : TriAt w' b V := fun j hj => by
  have h1 := h j hj
  exact (World.cell?_of_block (ht.block b (World.block_lt_of_cell? w _ h1) (.inr hb))).trans h1

set_option maxHeartbeats 4000000 in
set_option maxRecDepth 1000000 in
theorem keeps_walk (v u : Value) (zs ts : List Int) (W : World) (h : FS W v zs) (hu : FS W u ts) (hbd : ∀ x ∈ zs, 0 ≤ x ∧ x ≤ 65535) (hbd2 : ∀ x ∈ ts, 0 ≤ x ∧ x ≤ 65535)
    (hbig : zs.length ≤ 4194304) (hbig2 : ts.length ≤ 4194304) (hsh : W.ShapedOpen Tryd.prog) :
    Calls Tryd.prog 7 #[v, u] W fun e w' => e = .returned (.bool true) ∧ Below W.heap.size W w' := by
  obtain ⟨m, hm⟩ := maxLen_of W hsh
  clear hsh
  have hF := Lib.hid h
  have hU := Lib.hid hu
  have D1 := Lib.hid hbd
  have D2 := Lib.hid hbd2
  obtain ⟨pv, cv, rfl, -⟩ := h
  clear hu hbd hbd2
  obtain ⟨c1, hc1⟩ : ∃ c, canon zs = c := ⟨_, rfl⟩
  obtain ⟨c2, hc2⟩ : ∃ c, canon (zs ++ ts) = c := ⟨_, rfl⟩
  obtain ⟨c3, hc3⟩ : ∃ c, canon (outs ts zs) = c := ⟨_, rfl⟩
  have l1 : c1.length ≤ 4194304 := by rw [← hc1]; exact Nat.le_trans (canon_le _) hbig
  have l2 : c2.length ≤ 8388608 := by rw [← hc2]; exact Nat.le_trans (canon_le _) (by rw [List.length_append]; omega)
  have l3 : c3.length ≤ 4194304 := by rw [← hc3]; exact Nat.le_trans (canon_le _) (Nat.le_trans (outs_le _ _) hbig)
  have E1 := Lib.hid (show ∀ x ∈ c1, 0 ≤ x ∧ x ≤ 65535 by rw [← hc1]; exact canon_bd D1.out)
  have E2 := Lib.hid (show ∀ x ∈ c2, 0 ≤ x ∧ x ≤ 65535 by rw [← hc2]; exact canon_bd (app_bd D1.out D2.out))
  have C1 := Lib.hid hc1
  have C2 := Lib.hid hc2
  have C3 := Lib.hid hc3
  clear hc1 hc2 hc3
  go_enter Tryd.func7, Tryd.ntmps7
  go_wp2_with (first
    | (go_at_call 20; refine (so_twinO _ zs _ hF.out (by omega)).mono ?_; rintro e w1 ⟨v1, rfl, h1, b1⟩; have H1 := Lib.hid (show RW W.heap.size w1 v1 zs from h1); have B1 := Lib.hid b1; clear h1 b1; obtain ⟨g, c, w2, hrun, hrw, hb2⟩ := run_app3 W.heap.size w1 v1 zs H1.out B1.out.size (by omega); have HR := Lib.hid hrun; have R2 := Lib.hid hrw; have B2 := Lib.hid (B1.out.trans hb2); clear hrun hrw hb2; have hcap : zs.length + 3 ≤ c := (fs_cap R2.out.fs); have hcap2 : ¬ c = zs.length := (by omega); have hcap3 : ¬ zs.length = c := (by omega))
    | (at_builtin; refine Lib.wpList_append_run _ rfl _ _ _ _ rfl _ _ rfl rfl _ _ HR.out ?_; have K2 := Lib.hid (show KS W w2 (.slice pv zs.length cv) u (.slice (some ⟨g, 0, none⟩) zs.length c) (.slice (some ⟨g, 0, none⟩) (zs.length + 3) c) zs ts from ⟨B2.out, hF.out.keep B2.out, hU.out.keep B2.out, fs_front R2.out.fs, R2.out.fs⟩)))
  go_wp2_with (go_at_call 22; refine (so_WithO _ _ zs ts _ K2.out.hx K2.out.hu (by omega)).mono ?_; rw [C2.out]; rintro e w3 ⟨a, rfl, h3, b3⟩; have A3 := Lib.hid h3; have S3 := Lib.hid b3; have K3 := Lib.hid (K2.out.keep b3); clear h3 b3; obtain ⟨pa, ca, rfl⟩ := A3.out.slice)
  go_wp2_with (go_at_call 24; refine (so_WithoutO _ _ zs ts _ K3.out.hx K3.out.hu (by omega) (by omega)).mono ?_; rw [C3.out]; rintro e w4 ⟨b, rfl, h4, b4⟩; have A4 := Lib.hid h4; have S4 := Lib.hid b4; have K4 := Lib.hid (K3.out.keep b4); clear h4 b4; obtain ⟨pb, cb, rfl⟩ := A4.out.slice)
  go_wp2_with (go_at_call 25; refine (so_OfO _ zs _ K4.out.hx (by omega)).mono ?_; rw [C1.out]; rintro e w5 ⟨d, rfl, h5, b5⟩; have A5 := Lib.hid h5; have S5 := Lib.hid b5; have K5 := Lib.hid (K4.out.keep b5); clear h5 b5; obtain ⟨pc, cc, rfl⟩ := A5.out.slice)
  go_wp2_with (go_at_call 22; refine (so_WithO _ _ zs ts _ K5.out.hx K5.out.hu (by omega)).mono ?_; rw [C2.out]; rintro e w6 ⟨d, rfl, h6, b6⟩; have A6 := Lib.hid h6; have S6 := Lib.hid b6; have K6 := Lib.hid (K5.out.keep b6); clear h6 b6)
  go_wp2_with (go_at_call 25; refine (so_OfO _ zs _ K6.out.hx (by omega)).mono ?_; rw [C1.out]; rintro e w7 ⟨f, rfl, h7, b7⟩; have A7 := Lib.hid h7; have S7 := Lib.hid (S6.out.trans (b7.mono S6.out.size)); have Q7 := Lib.hid (A6.out.fs.keep b7); have K7 := Lib.hid (K6.out.keep b7); clear h7 b7)
  go_wp2_with (go_at_call 13; refine (so_wakes m _ ((K7.out.below.cell (World.block_lt_of_cell? W _ hm)).trans hm)).mono ?_; rintro e w8 ⟨rfl, b8⟩; have S8 := Lib.hid (S7.out.trans (b8.mono S7.out.size)); have Q8 := Lib.hid (Q7.out.keep b8); have P8 := Lib.hid (A7.out.fs.keep b8); have K8 := Lib.hid (K7.out.keep b8); clear b8)
  go_wp2_with fail
  refine (so_same_same _ _ zs _ K8.out.hx K8.out.hv (by omega)).mono ?_
  rintro e w9 ⟨rfl, b9⟩
  have S9 := Lib.hid (S8.out.trans (b9.mono S8.out.size))
  have Q9 := Lib.hid (Q8.out.keep b9)
  have P9 := Lib.hid (P8.out.keep b9)
  have K9 := Lib.hid (K8.out.keep b9)
  clear b9
  go_wp2_with fail
  refine (so_same_same _ _ [61, 62, 63] _ ((fs_back (ts := [61, 62, 63]) K9.out.hr (by simp; omega)).keep ((Below.refl _ _).alloc (Nat.le_refl _) _)) (fs_built w9 [61, 62, 63] _ 3 _ rfl rfl) (by simp)).mono ?_
  rintro e w10 ⟨rfl, b10⟩
  have b9 : Below w9.heap.size w9 w10 := ((Below.refl _ w9).alloc (Nat.le_refl _) _).trans (b10.mono (by simp))
  have S10 := Lib.hid (S9.out.trans (b9.mono S9.out.size))
  have Q10 := Lib.hid (Q9.out.keep b9)
  have P10 := Lib.hid (P9.out.keep b9)
  have K10 := Lib.hid (K9.out.keep b9)
  clear b9 b10
  have HT := Lib.hid (three_of A3.out A4.out A5.out S3.out.size S4.out S5.out S10.out)
  have HX := Lib.hid (facts_of (hi := w5.heap.size) A3.out A4.out A5.out S3.out.size S4.out.size S5.out.size (Nat.le_refl _))
  have hlh : w2.heap.size ≤ w5.heap.size := Nat.le_trans S3.out.size (Nat.le_trans S4.out.size S5.out.size)
  have hh10 : w5.heap.size ≤ w10.heap.size := S10.out.size
  have hWl : W.heap.size ≤ w2.heap.size := K2.out.below.size
  have HZn := Lib.hid (show ∀ j, j < 3 → (pick3 c2 c3 c1 j).length = pick3 c2.length c3.length c1.length j from fun j hj => by rcases lt3 hj with rfl | rfl | rfl <;> rfl)
  have HNb := Lib.hid (show ∀ j, j < 3 → pick3 c2.length c3.length c1.length j ≤ 8388608 from fun j hj => by rcases lt3 hj with rfl | rfl | rfl <;> simp only [pick3] <;> omega)
  obtain ⟨V, hV⟩ : ∃ V, pick3 (Value.slice pa c2.length ca) (.slice pb c3.length cb) (.slice pc c1.length cc) = V := ⟨_, rfl⟩
  obtain ⟨N, hN⟩ : ∃ N, pick3 c2.length c3.length c1.length = N := ⟨_, rfl⟩
  obtain ⟨Z0, hZ0⟩ : ∃ Z, pick3 c2 c3 c1 = Z := ⟨_, rfl⟩
  rw [hV, hZ0] at HT
  rw [hV, hN] at HX
  rw [hN] at HNb
  rw [hN, hZ0] at HZn
  have va : Value.slice pa c2.length ca = V 0 := by rw [← hV]; rfl
  have vb : Value.slice pb c3.length cb = V 1 := by rw [← hV]; rfl
  have vc : Value.slice pc c1.length cc = V 2 := by rw [← hV]; rfl
  have VA := Lib.hid va
  have VB := Lib.hid vb
  have VC := Lib.hid vc
  clear hV hN hZ0 va vb vc
  go_wp2_with fail
  obtain ⟨W1, hW1⟩ : ∃ W1, w10.alloc (.cells #[.slice pa c2.length ca, .slice pb c3.length cb, .slice pc c1.length cc] 22) = W1 := ⟨_, rfl⟩
  rw [hW1]
  have T1 := Lib.hid (show TriAt W1 w10.heap.size V by rw [← hW1, VA.out, VB.out, VC.out]; exact tri_new w10 V _)
  have B1a : Below w10.heap.size w10 W1 := by rw [← hW1]; exact (Below.refl _ _).alloc (Nat.le_refl _) _
  have hs1 := B1a.size
  have L10 := Lib.hid (show L1 w2.heap.size w5.heap.size W1 V N 0 W1 Z0 from L1.start (HT.out.keep B1a) HZn.out)
  have KF1 := Lib.hid (show KF W W1 (.slice pv zs.length cv) u (.slice (some ⟨g, 0, none⟩) zs.length c) d f zs ts c2 c1 from KF.keep ⟨K10.out.below, K10.out.hv, K10.out.hu, K10.out.hx, Q10.out, P10.out⟩ B1a)
  have A7' := Lib.hid (RW.mono A7.out S6.out.size)
  have hhW1 : w5.heap.size ≤ W1.heap.size := Nat.le_trans hh10 hs1
  clear hW1 B1a Q10 P10 K10 S10
  go_loopw [63] (fun i wr => ∃ (k : Nat) (Z : Nat → List Int), k ≤ 3 ∧ i = .int .i64 k ∧ Hid (L1 w2.heap.size w5.heap.size W1 V N k wr Z)) (fun i _ => 3 - (intOf i).toNat)
  case atStart => exact ⟨0, Z0, by omega, rfl, L10⟩
  case round =>
    obtain ⟨k, Z, hk, rfl, HL⟩ := hrel
    by_cases hlt : k < 3
    · obtain ⟨P, c', hv⟩ := HX.out.sl k hlt
      have ck := (T1.out.turn (hi := w5.heap.size) hh10 HL.out.turn) k hlt
      rw [hv] at ck
      have hnb := HNb.out k hlt
      have HV := Lib.hid hv
      clear hv
      obtain ⟨wo, rfl⟩ : ∃ wo : World, wo = wr := ⟨_, rfl⟩
      go_wp2_with fail
      go_loopw [70] (fun j wr => ∃ (m : Nat) (Z : Nat → List Int), m ≤ N k ∧ j = .int .i64 m ∧ Hid (L1i w2.heap.size w5.heap.size W1 V N k m wr Z)) (fun j _ => N k - (intOf j).toNat)
      case atStart => exact ⟨0, Z, Nat.zero_le _, rfl, Lib.hid (L1i.start HL.out)⟩
      case round =>
        obtain ⟨m, Z', hm, rfl, HI⟩ := hrel
        by_cases hmlt : m < N k
        · have hl := HI.out.len k hlt
          obtain ⟨g', c'', hv2, hg1, hg2, hc, hf⟩ := HI.out.three.at (k := m) hlt (by omega)
          obtain ⟨z0, hz0⟩ : ∃ z, (Z' k)[m]'(by omega) = z := ⟨_, rfl⟩
          rw [hz0] at hc
          rw [HV.out] at hv2
          injection hv2 with e1 e2 e3
          subst e1 e3
          clear e2 hz0 hl
          obtain ⟨Z2, hZ2⟩ := HI.out.step hlt hmlt HV.out (HX.out.bd k hlt g' (by rw [HV.out]; rfl))
          have HS := Lib.hid hZ2
          clear hZ2
          go_wp2_with fail
          go_roundw
          case rel => exact ⟨m + 1, Z2, by omega, by go_num, HS⟩
          case measure => simp [intOf]; omega
        · have hme : m = N k := by omega
          subst hme
          go_wp2_with fail
          go_roundw
          case rel => exact ⟨k + 1, Z', by omega, by go_num, Lib.hid (L1i.end_ hlt HI.out)⟩
          case measure => simp [intOf]; omega
    · obtain rfl : k = 3 := by omega
      have hszr := HL.out.turn.size
      have HLen := Lib.hid HL.out.len
      have HDone := Lib.hid HL.out.done
      have HKF := Lib.hid (KF1.out.turn K2.out A6.out A7'.out (Nat.le_refl _) (by omega) HL.out.turn)
      have HT3 := Lib.hid HL.out.three
      clear HL
      obtain ⟨wo, rfl⟩ : ∃ wo : World, wo = wr := ⟨_, rfl⟩
      go_wp2_with fail
      obtain ⟨W2, hW2⟩ : ∃ W2, wo.alloc (.cells #[.slice pa c2.length ca, .slice pb c3.length cb, .slice pc c1.length cc] 22) = W2 := ⟨_, rfl⟩
      rw [hW2]
      have T2 := Lib.hid (show TriAt W2 wo.heap.size V by rw [← hW2, VA.out, VB.out, VC.out]; exact tri_new wo V _)
      have B2a : Below wo.heap.size wo W2 := by rw [← hW2]; exact (Below.refl _ _).alloc (Nat.le_refl _) _
      have hs2 := B2a.size
      have hT2 := HT3.out.keep B2a
      have L20 := Lib.hid (show L2 w2.heap.size w5.heap.size W2 V Z 0 W2 from ⟨Turn.refl _ _ _, fun j _ hj => hT2.row j hj, fun j hj => (hT2.row j hj).fs⟩)
      have KF2 := Lib.hid (HKF.out.keep B2a)
      clear hW2 B2a hT2 HKF
      go_loopw [86] (fun i wr => ∃ (k : Nat), k ≤ 3 ∧ i = .int .i64 k ∧ Hid (L2 w2.heap.size w5.heap.size W2 V Z k wr)) (fun i _ => 3 - (intOf i).toNat)
      case atStart => exact ⟨0, by omega, rfl, L20⟩
      case round =>
        obtain ⟨k, hk, rfl, HL⟩ := hrel
        have hszr2 := HL.out.turn.size
        by_cases hlt : k < 3
        · obtain ⟨P, c', hv⟩ := HX.out.sl k hlt
          have ck := (T2.out.turn (hi := w5.heap.size) (by omega) HL.out.turn) k hlt
          have HI0 := Lib.hid (L2i.start HL.out hlt)
          rw [hv] at ck HI0
          have hnb := HNb.out k hlt
          have hln : (Z k).length ≤ 8388608 := by rw [HLen.out k hlt]; exact hnb
          clear hv
          obtain ⟨wq, rfl⟩ : ∃ wo : World, wo = wr := ⟨_, rfl⟩
          have qk : decide ((k : Int) < 3) = true := by simp; omega
          go_wp2_with fail
          try rw [qk]
          try rw [show ((3 : Nat) : Int) = 3 from rfl]
          go_loopw [16, 91] (fun l q wr => ∃ (m : Nat) (zl : List Int), m ≤ 20 ∧ q = .int .i64 m ∧ Hid (L2i w2.heap.size w5.heap.size W2 V Z k m wr l zl)) (fun _ q _ => 20 - (intOf q).toNat)
          case atStart => exact ⟨0, Z k, by omega, rfl, HI0⟩
          case round =>
            obtain ⟨m, zl, hm, rfl, HI⟩ := hrel
            have hlz := HI.out.len
            have hszi := HI.out.turn.size
            by_cases hmlt : m < 20
            · have happ := fun x => run_app1 w2.heap.size wr _ zl x HI.out.own (by omega) (by omega)
              obtain ⟨v', w', hall⟩ := skolem2 happ
              have HRUN := Lib.hid (fun x => (hall x).1)
              have HRW := Lib.hid (fun x => (hall x).2.1)
              have HAP := Lib.hid (fun x => (hall x).2.2)
              clear hall happ hlz
              go_wp2_with (at_builtin; refine Lib.wpList_append_run _ rfl _ _ _ _ rfl _ _ rfl rfl _ _ (HRUN.out _) ?_)
              go_roundw
              case rel => exact ⟨m + 1, _, by omega, by go_num, Lib.hid (L2i.step HI.out hlt HX.out.bd (by omega) HT.out.apart HX.out.zero (HRW.out _) (HAP.out _))⟩
              case measure => simp [intOf]; omega
            · obtain rfl : m = 20 := by omega
              obtain ⟨pl, cl, hpl⟩ := HI.out.own.slice
              subst hpl
              have q20 : ¬ ((zl.length : Int) < 20) := by omega
              clear hlz
              go_wp2_with fail
              go_roundw
              case rel => exact ⟨_, _, _, .int .i64 ((k + 1 : Nat) : Int), ⟨k + 1, by omega, rfl, Lib.hid HI.out.end_⟩, rfl, rfl, rfl, by simp⟩
              case measure => simp [intOf]; omega
        · obtain rfl : k = 3 := by omega
          have HKF3 := Lib.hid (KF2.out.turn K2.out A6.out A7'.out (Nat.le_refl _) (by omega) HL.out.turn)
          have HFS := Lib.hid HL.out.fs
          clear HL
          obtain ⟨wz, rfl⟩ : ∃ wo : World, wo = wr := ⟨_, rfl⟩
          go_wp2_with fail
          try rw [show ((3 : Nat) : Int) = 3 from rfl]
          obtain ⟨W3, hW3⟩ : ∃ W3, wz.alloc (.cells #[.slice pa c2.length ca, .slice pb c3.length cb, .slice pc c1.length cc] 22) = W3 := ⟨_, rfl⟩
          rw [hW3]
          have T3 := Lib.hid (show TriAt W3 wz.heap.size V by rw [← hW3, VA.out, VB.out, VC.out]; exact tri_new wz V _)
          have B3a : Below wz.heap.size wz W3 := by rw [← hW3]; exact (Below.refl _ _).alloc (Nat.le_refl _) _
          have KF3 := Lib.hid (HKF3.out.keep B3a)
          have HF3 := Lib.hid (show ∀ j, j < 3 → FS W3 (V j) (Z j) from fun j hj => (HFS.out j hj).keep B3a)
          clear hW3 B3a HKF3 HFS
          go_loop [109] (fun i => ∃ (k : Nat), k ≤ 3 ∧ i = .int .i64 k) (fun i => 3 - (intOf i).toNat)
          case atStart => exact ⟨0, by omega, rfl⟩
          case round =>
            obtain ⟨k, hk, rfl⟩ := hrel
            by_cases hlt : k < 3
            · obtain ⟨P, c', hv⟩ := HX.out.sl k hlt
              have ck := T3.out k hlt
              have hfs := HF3.out k hlt
              rw [hv] at ck hfs
              have hnb := HNb.out k hlt
              have qk : decide ((k : Int) < 3) = true := by simp; omega
              obtain ⟨p', c'', hp', -, hcells⟩ := hfs
              injection hp' with e1 e2 e3
              subst e1 e3
              have HCells := Lib.hid hcells
              clear hv e2 hcells
              go_wp2_with fail
              try rw [qk]
              try rw [show ((3 : Nat) : Int) = 3 from rfl]
              go_loop [116] (fun j => ∃ (m : Nat), m ≤ N k ∧ j = .int .i64 m) (fun j => N k - (intOf j).toNat)
              case atStart => exact ⟨0, Nat.zero_le _, rfl⟩
              case round =>
                obtain ⟨m, hm, rfl⟩ := hrel
                by_cases hmlt : m < N k
                · obtain ⟨b', off', rfl, hc⟩ := HCells.out.resolve_left (by rw [HLen.out k hlt]; omega)
                  have c0 := hc m (by rw [HLen.out k hlt]; exact hmlt)
                  have hz : (Z k).getD m 0 = 50000 + (k : Int) := by
                    have hl : m < (Z k).length := by rw [HLen.out k hlt]; exact hmlt
                    have := HDone.out k (by omega) hlt m hl
                    simpa [List.getD, hl] using this
                  rw [hz] at c0
                  clear hc hz
                  go_wp2_with fail
                  go_round
                  case rel => exact ⟨m + 1, by omega, by go_num⟩
                  case measure => simp [intOf]; omega
                · obtain rfl : m = N k := by omega
                  go_wp2_with fail
                  go_round
                  case rel => exact ⟨k + 1, by omega, by go_num⟩
                  case measure => simp [intOf]; omega
            · obtain rfl : k = 3 := by omega
              go_wp2_with fail
              refine (so_same_same _ _ zs _ KF3.out.hx KF3.out.hv (by omega)).mono ?_
              rintro e x1 ⟨rfl, b1⟩
              have G1 := Lib.hid (KF3.out.keep b1)
              clear b1
              go_wp2_with fail
              refine (so_ints _ zs _ G1.out.hv D1.out (by omega)).mono ?_
              rintro e x2 ⟨i2, rfl, h2, b2⟩
              have I2 := Lib.hid h2
              have G2 := Lib.hid (G1.out.keep b2)
              clear h2 b2
              go_wp2_with fail
              refine (so_ints _ ts _ G2.out.hu D2.out (by omega)).mono ?_
              rintro e x3 ⟨i3, rfl, h3, b3⟩
              have J2 := Lib.hid (I2.out.keep b3)
              have I3 := Lib.hid h3
              have G3 := Lib.hid (G2.out.keep b3)
              clear h3 b3
              go_wp2_with fail
              refine (so_rWith _ _ zs ts _ J2.out I3.out (up_bd D1.out) (up_bd D2.out) (by omega)).mono ?_
              rw [C2.out]
              rintro e x4 ⟨i4, rfl, h4, b4⟩
              have I4 := Lib.hid h4
              have G4 := Lib.hid (G3.out.keep b4)
              clear h4 b4
              go_wp2_with fail
              refine (so_is_same _ _ c2 _ G4.out.hd I4.out E2.out (by omega)).mono ?_
              rintro e x5 ⟨rfl, b5⟩
              have G5 := Lib.hid (G4.out.keep b5)
              clear b5
              go_wp2_with fail
              refine (so_ints _ zs _ G5.out.hv D1.out (by omega)).mono ?_
              rintro e x6 ⟨i6, rfl, h6, b6⟩
              have I6 := Lib.hid h6
              have G6 := Lib.hid (G5.out.keep b6)
              clear h6 b6
              go_wp2_with fail
              refine (so_rOf _ zs _ I6.out (up_bd D1.out) (by omega)).mono ?_
              rw [C1.out]
              rintro e x7 ⟨i7, rfl, h7, b7⟩
              have I7 := Lib.hid h7
              have G7 := Lib.hid (G6.out.keep b7)
              clear h7 b7
              go_wp2_with fail
              refine (so_is_same _ _ c1 _ G7.out.hf I7.out E1.out (by omega)).mono ?_
              rintro e x8 ⟨rfl, b8⟩
              have G8 := Lib.hid (G7.out.keep b8)
              clear b8
              go_wp2_with fail
              go_ret
              exact ⟨rfl, G8.out.below⟩
end Go.Proofs.YtgcnfebifopdnaaDoor
