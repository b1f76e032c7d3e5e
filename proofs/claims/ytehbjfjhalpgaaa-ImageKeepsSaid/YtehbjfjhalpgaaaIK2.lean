/-
  The law's walk: what Decode answers is new memory.
-/
import Derived.Test.YtehbjfjhalpgaaaRows
import Derived.Test.YtehbjfjhalpgaaaEnc10
import Derived.Test.YtehbjfjhalpgaaaIK1
import Derived.Lib.AppendZeros
namespace Go.Proofs.Ytehbjfjhalpgaaa
open Go.RowKit

/-- Decode of a book's bytes, its memory one's own. -/
theorem Decode_x (m : Nat) (t : ByteArray) (rs : List Rp) (As : List (List St)) (s : ByteArray) (w : World) (hb : BkOk ⟨m, t, rs, As⟩) (hs : s.data.toList = bkL ⟨m, t, rs, As⟩) (hz : s.size ≤ 562949953421311) :
    Calls Try.prog 15 #[.string s] w fun e w' => ∃ vr v0 v1 v2 v3, e = .returned (.tuple #[.agg #[.int .i64 (m : Int), .string t, vr, v0, v1, v2, v3], .int .i64 0]) ∧ Below w.heap.size w w' ∧ w'.ownsRow w.heap.size 50 2 vr rs.length (rs.flatMap fun x => [.string x.1, .string x.2]) ∧ SecR w' w.heap.size [v0, v1, v2, v3] As := by
  have hd := decR_enc (r := []) hb (by rw [hs, List.append_nil])
  rw [if_pos rfl] at hd
  refine (Decode_any s w hz).mono ?_
  intro e w' h
  rw [hd] at h
  obtain ⟨vr, v0, v1, v2, v3, he, h2, h3, -, h5⟩ := h
  exact ⟨vr, v0, v1, v2, v3, he, h2, h3, h5⟩
theorem BkOk.small {b : Bk} (h : BkOk b) : ∀ A ∈ b.secs, A.length ≤ 1048576 ∧ ∀ x ∈ A, x.2.length ≤ 256 := fun A hA => by
  obtain ⟨_, h2, h3⟩ := shape_parts (h.shape A hA)
  exact ⟨h2, fun x hx => (h3 x hx).len⟩
/-- A book that lies in none of the blocks that are turned. -/
theorem bk_turn {lo hi B : Nat} {W W' : World} {vr v0 v1 v2 v3 : Value} {rs : List Rp} {As : List (List St)} (h1 : W.ownsRow B 50 2 vr rs.length (rs.flatMap fun x => [.string x.1, .string x.2])) (h2 : SecR W B [v0, v1, v2, v3] As) (hl : As.length = 4) (hB : hi ≤ B) (ht : Turn lo hi W W') : BkAt W' (fun _ => True) vr v0 v1 v2 v3 rs As :=
  ⟨reps_of_own (own_other h1 (fun g hg => ht.block g (own_ty h1 hg).1.lt (.inr (by have := (own_ty h1 hg).2; omega)))), hl, SecP.mono' (fun j hj => (h2.secP j hj).kept ht.kept (fun k hk hp => by
    rw [List.mem_range'_1] at hk
    omega)) (fun _ _ => trivial)⟩
/-- Behind both calls of Decode: the first book, laid at x, is marked; the second, laid at y, lies behind it. -/
structure KX (w3 W : World) (d : XD) (x y : Nat) (m : Nat) (t : ByteArray) (rs : List Rp) (As : List (List St)) (Ar : Option Addr) (kr : Nat) (yr y0 y1 y2 y3 : Value) : Prop where
  lo : d.lo = w3.heap.size
  hi : d.hi ≤ W.heap.size
  lohi : d.lo ≤ d.hi
  xb : W.heap[x]? = some (.cells #[.int .i64 (m : Int), .string t, .slice Ar rs.length kr, d.v 0, d.v 1, d.v 2, d.v 3] 26 (0, 0))
  yb : W.heap[y]? = some (.cells #[.int .i64 (m : Int), .string t, yr, y0, y1, y2, y3] 26 (0, 0))
  xo : d.hi ≤ x
  yo : d.hi ≤ y
  ok : XOk d
  xh : XH d W
  xe : XE d W 0 0 0
  xr : rs.length = 0 ∨ ∃ g, Ar = some ⟨g, 0, none⟩ ∧ d.lo ≤ g ∧ g < d.hi ∧ Ty W 50 g ∧ ∀ k, k < rs.length → ∃ u, W.cell? ⟨g, k * 2, none⟩ = some u
  yk : ∀ W', Turn d.lo d.hi W W' → BkAt W' (fun _ => True) yr y0 y1 y2 y3 rs As
  below : Below w3.heap.size w3 W
theorem KX.of {w3 w4 w5 : World} {m : Nat} {t : ByteArray} {rs : List Rp} {As : List (List St)} {vr v0 v1 v2 v3 yr y0 y1 y2 y3 : Value} (hl : As.length = 4) (hs : ∀ A ∈ As, A.length ≤ 1048576 ∧ ∀ x ∈ A, x.2.length ≤ 256)
    (h34 : Below w3.heap.size w3 w4) (h1 : w4.ownsRow w3.heap.size 50 2 vr rs.length (rs.flatMap fun x => [.string x.1, .string x.2])) (h2 : SecR w4 w3.heap.size [v0, v1, v2, v3] As)
    (h45 : Below (w4.heap.size + 1) (w4.alloc (.cells #[.int .i64 (m : Int), .string t, vr, v0, v1, v2, v3] 26)) w5) (k1 : w5.ownsRow (w4.heap.size + 1) 50 2 yr rs.length (rs.flatMap fun x => [.string x.1, .string x.2])) (k2 : SecR w5 (w4.heap.size + 1) [y0, y1, y2, y3] As) :
    ∃ d Ar kr, vr = .slice Ar rs.length kr ∧ KX w3 (w5.alloc (.cells #[.int .i64 (m : Int), .string t, yr, y0, y1, y2, y3] 26)) d w4.heap.size w5.heap.size m t rs As Ar kr yr y0 y1 y2 y3 := by
  obtain ⟨d, e1, e2, e3, ok, xh, xe⟩ := h2.xd hl hs
  have s34 := h34.size
  have s45 : w4.heap.size + 1 ≤ w5.heap.size := by have := h45.size; simpa using this
  have hall : Below (w4.heap.size + 1) (w4.alloc (.cells #[.int .i64 (m : Int), .string t, vr, v0, v1, v2, v3] 26)) (w5.alloc (.cells #[.int .i64 (m : Int), .string t, yr, y0, y1, y2, y3] 26)) := h45.alloc s45 _
  have hb4 : Below w4.heap.size w4 (w5.alloc (.cells #[.int .i64 (m : Int), .string t, yr, y0, y1, y2, y3] 26)) := ((Below.refl _ _).alloc (Nat.le_refl _) _).trans (hall.mono (by omega))
  have hown : ∃ Ar kr, vr = .slice Ar rs.length kr ∧ (rs.length = 0 ∨ ∃ g, Ar = some ⟨g, 0, none⟩ ∧ w3.heap.size ≤ g ∧ g < w4.heap.size ∧ Ty w4 50 g ∧ ∀ k, k < rs.length → ∃ u, w4.cell? ⟨g, k * 2, none⟩ = some u) := by
    rcases ownrow_form h1 with ⟨h3, h4⟩ | ⟨g, c, h3, h4, h5, h6, h7, h8⟩
    · exact ⟨none, 0, by rw [h4]; exact h3, .inl h4⟩
    · refine ⟨_, c, h3, .inr ⟨g, rfl, h4, h5, h7, fun k hk => ?_⟩⟩
      have hl := h1.1
      exact ⟨_, h8 (k * 2) _ (List.getElem?_eq_getElem (by omega))⟩
  obtain ⟨Ar, kr, hvr, hr⟩ := hown
  refine ⟨d, Ar, kr, hvr, ?_⟩
  have hx : (w4.alloc (.cells #[.int .i64 (m : Int), .string t, vr, v0, v1, v2, v3] 26)).heap[w4.heap.size]? = some (.cells #[.int .i64 (m : Int), .string t, vr, v0, v1, v2, v3] 26 (0, 0)) := heap_alloc_new w4 _
  have e30 : d.v 0 = v0 := e3 0
  have e31 : d.v 1 = v1 := e3 1
  have e32 : d.v 2 = v2 := e3 2
  have e33 : d.v 3 = v3 := e3 3
  refine ⟨e1, by rw [e2]; simp; omega, by rw [e1, e2]; exact s34, ?_, heap_alloc_new w5 _, by rw [e2]; exact Nat.le_refl _, by rw [e2]; omega, ok, ?_, ?_, ?_, ?_, h34.trans (hb4.mono s34)⟩
  · rw [e30, e31, e32, e33, ← hvr]
    exact (hall.block _ (by omega)).trans hx
  · exact xh.other (fun g _ _ h => hb4.block g (by omega))
  · exact xe.other (fun g h _ => hb4.block g h.lt)
  · refine hr.imp id ?_
    rintro ⟨g, hA, g1, g2, g3, g4⟩
    have hbk := hb4.block g g2
    exact ⟨g, hA, by rw [e1]; exact g1, by rw [e2]; exact g2, g3.grown hbk, fun k hk => (g4 k hk).imp fun u hu => (World.cell?_of_block hbk).trans hu⟩
  · intro W' ht
    have hb5 : Below w5.heap.size w5 (w5.alloc (.cells #[.int .i64 (m : Int), .string t, yr, y0, y1, y2, y3] 26)) := (Below.refl _ _).alloc (Nat.le_refl _) _
    exact bk_turn (own_below k1 hb5) (k2.kept (E := []) (Kept.of_below hb5) (by simp)) hl (by omega) ht

set_option maxHeartbeats 16000000 in
set_option maxRecDepth 100000 in
theorem keeps_walk (n : Int) (t : ByteArray) (rs : List Rp) (As : List (List St)) (vr v0 v1 v2 v3 : Value) (w : World) (h : BkAt w (fun _ => True) vr v0 v1 v2 v3 rs As) (hs : Small rs As) (ht : Texts t rs) :
    Calls Try.prog 8 #[.agg #[.int .i64 n, .string t, vr, v0, v1, v2, v3]] w fun e w' => e = .returned (.bool true) ∧ Below w.heap.size w w' := by
  have hR := fun vr v0 v1 v2 v3 W h => rEncode_b n t rs As vr v0 v1 v2 v3 W h ht
  have hcs := encV_cases n t rs As h.len
  have HS := Lib.hid hs
  have HLen := Lib.hid h.len
  obtain ⟨X, k, X0, n0, k0, X1, n1, k1, X2, n2, k2, X3, n3, k3, rfl, rfl, rfl, rfl, rfl⟩ := h.form
  obtain ⟨b1, hb1⟩ : ∃ b, w.heap.size = b := ⟨_, rfl⟩
  obtain ⟨W0, hW0⟩ : ∃ W0, w.alloc (.cells #[.int .i64 n, .string t, .slice X rs.length k, .slice X0 n0 k0, .slice X1 n1 k1, .slice X2 n2 k2, .slice X3 n3 k3] 26) = W0 := ⟨_, rfl⟩
  have hz0 : W0.heap[b1]? = some (.cells #[.int .i64 n, .string t, .slice X rs.length k, .slice X0 n0 k0, .slice X1 n1 k1, .slice X2 n2 k2, .slice X3 n3 k3] 26 (0, 0)) := by rw [← hW0, ← hb1]; exact heap_alloc_new w _
  have hbw' : Below w.heap.size w W0 := by rw [← hW0]; exact (Below.refl _ _).alloc (Nat.le_refl _) _
  have HA : Hid (∀ W', Below W0.heap.size W0 W' → BkAt W' (fun _ => True) (.slice X rs.length k) (.slice X0 n0 k0) (.slice X1 n1 k1) (.slice X2 n2 k2) (.slice X3 n3 k3) rs As) := Lib.hid (fun W' hB => (h.keep hbw').keep hB)
  have HC : Hid (∀ W', Below W0.heap.size W0 W' → W'.heap[b1]? = some (.cells #[.int .i64 n, .string t, .slice X rs.length k, .slice X0 n0 k0, .slice X1 n1 k1, .slice X2 n2 k2, .slice X3 n3 k3] 26 (0, 0))) := Lib.hid (fun W' hB => (hB.block _ (block_lt hz0)).trans hz0)
  have HBW := Lib.hid hbw'
  have HW0 := Lib.hid hW0
  have HB1 := Lib.hid hb1
  clear hs h hW0 hz0 hbw' hb1 ht
  rcases hcs with ⟨c, hc, hV⟩ | ⟨m, rfl, hok, hV, hlen⟩
  all_goals
    rw [hV] at hR
    dsimp only at hR
    have HR := Lib.hid hR
    clear hV hR
  · go_enter Try.func8, Try.ntmps8
    go_wp2_with fail
    rw [HW0.out, HB1.out]
    refine (wakes_any W0).mono ?_
    rintro e w1 ⟨rfl, hb1⟩
    have HB01 := Lib.hid hb1
    clear hb1
    have cc := two_boxes (HC.out w1 HB01.out) (HC.out w1 HB01.out)
    go_wp2_with fail
    clear cc
    refine (ref_b n t rs As _ _ _ _ _ w1 (HA.out w1 HB01.out) HS.out).mono ?_
    rintro e w4 ⟨zr, z0, z1, z2, z3, rfl, hb4, hk4⟩
    have HB04 := Lib.hid (HB01.out.trans (hb4.mono HB01.out.size))
    have HK4 := Lib.hid hk4
    clear hb4 hk4
    go_wp2_with fail
    refine (HR.out _ _ _ _ _ w4 HK4.out).mono ?_
    rintro e w5 ⟨rfl, hb5⟩
    have HB05 := Lib.hid (HB04.out.trans (hb5.mono HB04.out.size))
    clear hb5
    have hcn : (c != 0) = true := by simpa using hc
    go_wp2_with fail
    go_ret
    exact ⟨rfl, HBW.out.trans (HB05.out.mono HBW.out.size)⟩
  · have HD := Lib.hid (fun W => Decode_x m t rs As (mkS (bkL ⟨m, t, rs, As⟩)) W hok rfl (by rw [mkS_size]; omega))
    have HSm := Lib.hid hok.small
    obtain ⟨s, hsn⟩ : ∃ s, mkS (bkL ⟨m, t, rs, As⟩) = s := ⟨_, rfl⟩
    rw [hsn] at HR HD
    clear hok hlen hsn
    go_enter Try.func8, Try.ntmps8
    go_wp2_with fail
    rw [HW0.out, HB1.out]
    refine (wakes_any W0).mono ?_
    rintro e w1 ⟨rfl, hb1⟩
    have HB01 := Lib.hid hb1
    clear hb1
    have cc := two_boxes (HC.out w1 HB01.out) (HC.out w1 HB01.out)
    go_wp2_with fail
    clear cc
    refine (ref_b m t rs As _ _ _ _ _ w1 (HA.out w1 HB01.out) HS.out).mono ?_
    rintro e w2 ⟨zr, z0, z1, z2, z3, rfl, hb2, hk2⟩
    have HB02 := Lib.hid (HB01.out.trans (hb2.mono HB01.out.size))
    have HK2 := Lib.hid hk2
    clear hb2 hk2
    go_wp2_with fail
    refine (HR.out _ _ _ _ _ w2 HK2.out).mono ?_
    rintro e w3 ⟨rfl, hb3⟩
    have HB03 := Lib.hid (HB02.out.trans (hb3.mono HB02.out.size))
    clear hb3
    go_upto_region 6 with fail
    go_cut [5] from 32 to 36 (fun p W => ∃ (w4 : World) (P : Option Addr) (l : Nat) (P0 : Option Addr) (m0 l0 : Nat) (P1 : Option Addr) (m1 l1 : Nat) (P2 : Option Addr) (m2 l2 : Nat) (P3 : Option Addr) (m3 l3 : Nat), p = .pointer (some ⟨w4.heap.size, 0, none⟩) ∧ W = w4.alloc (.cells #[.int .i64 (m : Int), .string t, .slice P rs.length l, .slice P0 m0 l0, .slice P1 m1 l1, .slice P2 m2 l2, .slice P3 m3 l3] 26) ∧ Hid (Below w3.heap.size w3 w4) ∧ Hid (w4.ownsRow w3.heap.size 50 2 (.slice P rs.length l) rs.length (rs.flatMap fun x => [.string x.1, .string x.2])) ∧ Hid (SecR w4 w3.heap.size [.slice P0 m0 l0, .slice P1 m1 l1, .slice P2 m2 l2, .slice P3 m3 l3] As))
    case first =>
      go_wp2_with fail
      refine (HD.out w3).mono ?_
      rintro e w4 ⟨vr, v0, v1, v2, v3, rfl, hb4, ho4, hs4⟩
      obtain ⟨P, l, P0, m0, l0, P1, m1, l1, P2, m2, l2, P3, m3, l3, rfl, rfl, rfl, rfl, rfl⟩ := (BkAt.mk (reps_of_own ho4) HLen.out hs4.secP).form
      have HB4 := Lib.hid hb4
      have HO4 := Lib.hid ho4
      have HS4 := Lib.hid hs4
      clear hb4 ho4 hs4
      go_wp2_with fail
      go_meet
      exact ⟨w4, P, l, P0, m0, l0, P1, m1, l1, P2, m2, l2, P3, m3, l3, rfl, rfl, HB4, HO4, HS4⟩
    case rest =>
    obtain ⟨w4, P, l, P0, m0, l0, P1, m1, l1, P2, m2, l2, P3, m3, l3, rfl, hW4, HB4, HO4, HS4⟩ := hcut
    obtain ⟨W4, hw4⟩ : ∃ W : World, W = wc := ⟨_, rfl⟩
    rw [← hw4] at hW4 ⊢
    clear hw4 wc
    have HW4 := Lib.hid hW4
    obtain ⟨x, hx⟩ : ∃ x, w4.heap.size = x := ⟨_, rfl⟩
    have HX4 := Lib.hid hx
    rw [hx]
    clear hW4 hx
    go_upto_region 7 with fail
    go_cut [7] from 37 to 41 (fun q W => ∃ (d : XD) (y : Nat) (Ar : Option Addr) (kr : Nat) (yr y0 y1 y2 y3 : Value), q = .pointer (some ⟨y, 0, none⟩) ∧ Hid (KX w3 W d x y m t rs As Ar kr yr y0 y1 y2 y3))
    case first =>
      go_wp2_with fail
      refine (HD.out W4).mono ?_
      rintro e w5 ⟨yr, y0, y1, y2, y3, rfl, hb5, ho5, hs5⟩
      obtain ⟨Q, c, Q0, p0, c0, Q1, p1, c1, Q2, p2, c2, Q3, p3, c3, rfl, rfl, rfl, rfl, rfl⟩ := (BkAt.mk (reps_of_own ho5) HLen.out hs5.secP).form
      have HB5 := Lib.hid hb5
      have HO5 := Lib.hid ho5
      have HS5 := Lib.hid hs5
      clear hb5 ho5 hs5
      go_wp2_with fail
      go_meet
      have hb5 := HB5.out
      have ho5 := HO5.out
      have hs5 := HS5.out
      rw [HW4.out] at hb5 ho5 hs5
      rw [World.size_alloc] at hb5 ho5 hs5
      obtain ⟨d, Ar, kr, hvr, hk⟩ := KX.of (m := m) (t := t) HLen.out HSm.out HB4.out HO4.out HS4.out hb5 ho5 hs5
      cases hvr
      rw [HX4.out] at hk
      exact ⟨d, w5.heap.size, _, _, _, _, _, _, _, rfl, Lib.hid hk⟩
    case rest =>
    obtain ⟨d, y, Ar, kr, yr, y0, y1, y2, y3, rfl, HK⟩ := hcut
    clear HB4 HO4 HS4 HW4 HX4
    obtain ⟨w6, hw6⟩ : ∃ W : World, W = wc := ⟨_, rfl⟩
    rw [← hw6] at HK ⊢
    clear hw6 wc
    have HOk := Lib.hid HK.out.ok
    have HXc : Hid (∀ W, Turn d.lo d.hi w6 W → W.cell? ⟨x, 2, none⟩ = some (.slice Ar rs.length kr) ∧ ∀ j, j < 4 → W.cell? ⟨x, 3 + j, none⟩ = some (d.v j)) := Lib.hid (fun W hW => by
      have hb := (hW.block x (block_lt HK.out.xb) (.inr HK.out.xo)).trans HK.out.xb
      refine ⟨by rw [Lib.cell_of_heap hb]; rfl, fun j hj => ?_⟩
      rw [Lib.cell_of_heap hb]
      match j, hj with
      | 0, _ => rfl
      | 1, _ => rfl
      | 2, _ => rfl
      | 3, _ => rfl)
    have HHi := Lib.hid HK.out.hi
    obtain ⟨nr, hnr⟩ : ∃ n, rs.length = n := ⟨_, rfl⟩
    have HNr := Lib.hid hnr
    have hnb : nr ≤ 4398046510976 := by rw [← hnr]; exact HS.out.1
    have c2 := (HXc.out w6 (Turn.refl _ _ _)).1
    rw [hnr] at HXc c2
    clear hnr
    go_wp2_with fail
    go_loopw [9, 45] (fun _ u wr => ∃ i : Nat, i ≤ nr ∧ u = .int .i64 i ∧ Hid (Turn d.lo d.hi w6 wr) ∧ Hid (XH d wr) ∧ Hid (XE d wr 0 0 0) ∧ Hid (nr = 0 ∨ ∃ g, Ar = some ⟨g, 0, none⟩ ∧ d.lo ≤ g ∧ g < d.hi ∧ Ty wr 50 g ∧ ∀ k, k < nr → ∃ u, wr.cell? ⟨g, k * 2, none⟩ = some u)) (fun _ u _ => nr - (intOf u).toNat)
    case atStart => exact ⟨0, Nat.zero_le _, rfl, Lib.hid (Turn.refl _ _ _), Lib.hid HK.out.xh, Lib.hid HK.out.xe, Lib.hid (by have := HK.out.xr; rw [HNr.out] at this; exact this)⟩
    case round =>
    clear c2
    obtain ⟨i, hi, rfl, HT, HH, HE, HRr⟩ := hrel
    have c2 := (HXc.out wr HT.out).1
    by_cases hlt : i < nr
    · obtain ⟨g, rfl, q1, q2, q3, q4⟩ := HRr.out.resolve_left (by omega)
      obtain ⟨u0, d0⟩ := q4 i hlt
      have z0 := q3.fz (i * 2)
      have HQ := Lib.hid (And.intro q3 q4)
      clear q4 q3
      go_wp2_with fail
      go_roundw
      case rel => exact ⟨i + 1, by omega, by go_num, Lib.hid (HT.out.set _ _ q1 q2), Lib.hid (HH.out.fin' HQ.out.1 (by decide)), Lib.hid (HE.out.fin HQ.out.1 (by decide)), Lib.hid (.inr ⟨g, rfl, q1, q2, HQ.out.1.set _ _ _, fun k hk => by
        obtain ⟨v, hv⟩ := HQ.out.2 k hk
        exact cell?_setCell_some hv⟩)⟩
      case measure => simp [intOf]; omega
    obtain rfl : i = nr := by omega
    obtain ⟨w7, hw7⟩ : ∃ W : World, W = wr := ⟨_, rfl⟩
    rw [← hw7] at HT HH HE ⊢
    clear hw7 wr HRr c2
    go_wp2_with fail
    go_loopw [10, 11, 12, 54] (fun _ _ _ u wr => ∃ j : Nat, j ≤ 4 ∧ u = .int .i64 j ∧ Hid (Turn d.lo d.hi w6 wr) ∧ Hid (XH d wr) ∧ Hid (XE d wr j 0 0)) (fun _ _ _ u _ => 4 - (intOf u).toNat)
    case atStart => exact ⟨0, Nat.zero_le _, rfl, HT, HH, HE⟩
    case round =>
    clear HT HH HE
    obtain ⟨j, hj, rfl, HT, HH, HE⟩ := hrel
    obtain ⟨w8, hw8⟩ : ∃ W : World, W = wr := ⟨_, rfl⟩
    rw [← hw8] at HT HH HE ⊢
    clear hw8 wr
    by_cases hj4 : j < 4
    · have c3 := (HXc.out w8 HT.out).2 j hj4
      obtain ⟨Aj, cj, hvj⟩ := HOk.out.sl j hj4
      obtain ⟨nj, hnj⟩ : ∃ n, d.n j = n := ⟨_, rfl⟩
      have HNj := Lib.hid hnj
      have hnjb : nj ≤ 1048576 := by rw [← hnj]; exact HOk.out.nm j hj4
      have HXj : Hid (∀ W, Turn d.lo d.hi w6 W → W.cell? ⟨x, 3 + j, none⟩ = some (.slice Aj nj cj)) := Lib.hid (fun W hW => by rw [(HXc.out W hW).2 j hj4, hvj, hnj])
      have HHj : Hid (∀ W, XH d W → nj = 0 ∨ ∃ g, Aj = some ⟨g, 0, none⟩ ∧ d.lo ≤ g ∧ g < d.hi ∧ Ty W 53 g ∧ ∀ k, k < nj → (∃ b, W.cell? ⟨g, k * 2, none⟩ = some (.bool b)) ∧ W.cell? ⟨g, k * 2 + 1, none⟩ = some (d.h j k)) := Lib.hid (fun W hW => by
        have := hW j hj4
        rw [hnj, hvj] at this
        refine this.imp id ?_
        rintro ⟨g, c, e, r⟩
        cases e
        exact ⟨g, rfl, r⟩)
      rw [hvj, hnj] at c3
      clear hvj hnj
      go_wp2_with fail
      go_loopw [11, 12, 62] (fun _ _ u wr => ∃ k : Nat, k ≤ nj ∧ u = .int .i64 k ∧ Hid (Turn d.lo d.hi w6 wr) ∧ Hid (XH d wr) ∧ Hid (XE d wr j k 0)) (fun _ _ u _ => nj - (intOf u).toNat)
      case atStart => exact ⟨0, Nat.zero_le _, rfl, HT, HH, HE⟩
      case round =>
      clear HT HH HE c3
      obtain ⟨k, hk, rfl, HT, HH, HE⟩ := hrel
      obtain ⟨w9, hw9⟩ : ∃ W : World, W = wr := ⟨_, rfl⟩
      rw [← hw9] at HT HH HE ⊢
      clear hw9 wr
      by_cases hkl : k < nj
      · have HKn : Hid (k < d.n j) := Lib.hid (by rw [HNj.out]; exact hkl)
        obtain ⟨g, rfl, q1, q2, q3, q4⟩ := (HHj.out w9 HH.out).resolve_left (by omega)
        obtain ⟨⟨b, d0⟩, -⟩ := q4 k hkl
        have z0 := q3.fz (k * 2)
        have c3 := HXj.out w9 HT.out
        obtain ⟨Ah, ch, hvh⟩ := HE.out.slice hj4 HKn.out
        obtain ⟨m', hm'⟩ : ∃ n, d.m j k = n := ⟨_, rfl⟩
        have HM' := Lib.hid hm'
        have hmb : m' ≤ 256 := by rw [← hm']; exact HOk.out.sm j k hj4 HKn.out
        rw [hm'] at hvh
        have HVh := Lib.hid hvh
        have HDk : Hid (∀ W, XH d W → W.cell? ⟨g, k * 2 + 1, none⟩ = some (.slice Ah m' ch)) := Lib.hid (fun W hW => by
          obtain ⟨g', e, -, -, -, q4⟩ := (HHj.out W hW).resolve_left (by omega)
          cases e
          rw [(q4 k hkl).2, HVh.out])
        have HT1 := Lib.hid (HT.out.set ⟨g, k * 2, none⟩ (.bool !b) q1 q2).drew
        have HH1 := Lib.hid ((HH.out.fin (g := g) (i := k) (b := !b)).other (w' := (w9.setCell ⟨g, k * 2, none⟩ (.bool !b)).drew) (fun _ _ _ _ => rfl))
        have HE1 := Lib.hid ((HE.out.fin (i := k * 2) (u := .bool !b) q3 (by decide)).other (w' := (w9.setCell ⟨g, k * 2, none⟩ (.bool !b)).drew) (fun _ _ _ => rfl))
        clear q4 q3 hvh hm'
        go_wp2_with fail
        go_region
        all_goals
          obtain ⟨w10, hw10⟩ : ∃ W : World, (w9.setCell ⟨g, k * 2, none⟩ (.bool !b)).drew = W := ⟨_, rfl⟩
          rw [hw10] at HT1 HH1 HE1 ⊢
          clear hw10 d0 z0 c3
          have c3 := HXj.out w10 HT1.out
          have dk := HDk.out w10 HH1.out
          go_wp2_with fail
          go_loopw [12, 90] (fun _ u wr => ∃ q : Nat, q ≤ m' ∧ u = .int .i64 q ∧ Hid (Turn d.lo d.hi w6 wr) ∧ Hid (XH d wr) ∧ Hid (XE d wr j k q)) (fun _ u _ => m' - (intOf u).toNat)
          case atStart => exact ⟨0, Nat.zero_le _, rfl, HT1, HH1, HE1⟩
          case round =>
          clear HT1 HH1 HE1 c3 dk HT HH HE
          obtain ⟨q, hq, rfl, HT, HH, HE⟩ := hrel
          have c3 := HXj.out wr HT.out
          have dk := HDk.out wr HH.out
          by_cases hql : q < m'
          · obtain ⟨gh, c', hv', ht', -, ⟨u0, e0⟩, ⟨u1, e1⟩⟩ := HE.out.at hj4 HKn.out (i := q) (by rw [HM'.out]; exact hql)
            have hvv := HVh.out
            rw [hv', HM'.out] at hvv
            injection hvv with hva _ hvc
            subst hva hvc
            have hgb := HOk.out.blk j k hj4 HKn.out gh (by rw [HVh.out]; rfl)
            have f0 := ht'.fz (q * 2)
            have f1 := ht'.fz (q * 2 + 1)
            have hw5 : IntKind.i64.wrap (-5 - (j : Int)) = -5 - (j : Int) := by rw [IntKind.wrap_i64]; omega
            have HTy := Lib.hid ht'
            have HGb := Lib.hid hgb
            have HMk := fun u => HE.out.mark HOk.out (u := u) hj4 HKn.out (by rw [HM'.out]; exact hql) hv'
            have HMk := Lib.hid HMk
            clear ht' hgb hv'
            go_wp2_with fail
            go_roundw
            case rel => exact ⟨q + 1, by omega, by go_num, Lib.hid ((HT.out.set _ _ HGb.out.1 HGb.out.2).set _ _ HGb.out.1 HGb.out.2), Lib.hid ((HH.out.fin' HTy.out (by decide)).fin' (HTy.out.set _ _ _) (by decide)), Lib.hid (HMk.out _)⟩
            case measure => simp [intOf]; omega
          obtain rfl : q = m' := by omega
          go_wp2_with fail
          go_roundw
          case rel => exact ⟨k + 1, by omega, by go_num, HT, HH, Lib.hid (by have := HE.out; rw [← HM'.out] at this; exact this.next)⟩
          case measure => simp [intOf]; omega
      obtain rfl : k = nj := by omega
      go_wp2_with fail
      go_roundw
      case rel => exact ⟨j + 1, by omega, by go_num, HT, HH, Lib.hid (by have := HE.out; rw [← HNj.out] at this; exact this.step)⟩
      case measure => simp [intOf]; omega
    obtain rfl : j = 4 := by omega
    rw [show ((4 : Nat) : Int) = 4 from rfl]
    have HA := Lib.hid HE.out.xa
    go_wp2_with fail
    go_loopw [13, 14, 15, 111] (fun _ _ _ u wr => ∃ j : Nat, j ≤ 4 ∧ u = .int .i64 j ∧ Hid (Turn d.lo d.hi w6 wr) ∧ Hid (XH d wr) ∧ Hid (XA d wr j 0)) (fun _ _ _ u _ => 4 - (intOf u).toNat)
    case atStart => exact ⟨0, Nat.zero_le _, rfl, HT, HH, HA⟩
    case round =>
    clear HT HH HE HA
    obtain ⟨j, hj, rfl, HT, HH, HA⟩ := hrel
    obtain ⟨w8, hw8⟩ : ∃ W : World, W = wr := ⟨_, rfl⟩
    rw [← hw8] at HT HH HA ⊢
    clear hw8 wr
    by_cases hj4 : j < 4
    · have c3 := (HXc.out w8 HT.out).2 j hj4
      obtain ⟨Aj, cj, hvj⟩ := HOk.out.sl j hj4
      obtain ⟨nj, hnj⟩ : ∃ n, d.n j = n := ⟨_, rfl⟩
      have HNj := Lib.hid hnj
      have hnjb : nj ≤ 1048576 := by rw [← hnj]; exact HOk.out.nm j hj4
      have HXj : Hid (∀ W, Turn d.lo d.hi w6 W → W.cell? ⟨x, 3 + j, none⟩ = some (.slice Aj nj cj)) := Lib.hid (fun W hW => by rw [(HXc.out W hW).2 j hj4, hvj, hnj])
      have HHj : Hid (∀ W, XH d W → nj = 0 ∨ ∃ g, Aj = some ⟨g, 0, none⟩ ∧ ∀ k, k < nj → W.cell? ⟨g, k * 2 + 1, none⟩ = some (d.h j k)) := Lib.hid (fun W hW => by
        have := hW j hj4
        rw [hnj, hvj] at this
        refine this.imp id ?_
        rintro ⟨g, c, e, -, -, -, r⟩
        cases e
        exact ⟨g, rfl, fun k hk => (r k hk).2⟩)
      rw [hvj, hnj] at c3
      clear hvj hnj
      go_wp2_with fail
      rw [show decide ((j : Int) < 4) = true from decide_eq_true (by omega)]
      go_loopw [14, 15, 119] (fun _ _ u wr => ∃ k : Nat, k ≤ nj ∧ u = .int .i64 k ∧ Hid (Turn d.lo d.hi w6 wr) ∧ Hid (XH d wr) ∧ Hid (XA d wr j k)) (fun _ _ u _ => nj - (intOf u).toNat)
      case atStart => exact ⟨0, Nat.zero_le _, rfl, HT, HH, HA⟩
      case round =>
      clear HT HH HA c3
      obtain ⟨k, hk, rfl, HT, HH, HA⟩ := hrel
      obtain ⟨w9, hw9⟩ : ∃ W : World, W = wr := ⟨_, rfl⟩
      rw [← hw9] at HT HH HA ⊢
      clear hw9 wr
      by_cases hkl : k < nj
      · have HKn : Hid (k < d.n j) := Lib.hid (by rw [HNj.out]; exact hkl)
        obtain ⟨g, rfl, q4⟩ := (HHj.out w9 HH.out).resolve_left (by omega)
        have dk := q4 k hkl
        have c3 := HXj.out w9 HT.out
        have HI0 := Lib.hid (XI.start HA.out HH.out HT.out hj4 HKn.out)
        obtain ⟨ev, hev⟩ : ∃ v, d.h j k = v := ⟨_, rfl⟩
        have hmb := HOk.out.sm j k hj4 HKn.out
        rw [hev] at dk HI0
        clear hev q4
        go_wp2_with fail
        go_loopw [15, 130] (fun l u wr => ∃ t : Nat, t ≤ 4 ∧ u = .int .i64 t ∧ Hid (XI d w6 wr j k t l)) (fun _ u _ => 4 - (intOf u).toNat)
        case atStart => exact ⟨0, Nat.zero_le _, rfl, HI0⟩
        case round =>
        clear HI0 HT HH HA c3 dk
        obtain ⟨t', ht', rfl, HI⟩ := hrel
        obtain ⟨xs, hxs⟩ := HI.out.own
        by_cases htl : t' < 4
        · have hsz := HI.out.turn.size
          have hlh := HK.out.lohi
          have hhi := HHi.out
          obtain ⟨v', w', hrun, hown, happ⟩ := run_app2 d.lo wr _ (d.m j k + t') xs 0 9999 hxs (by omega) (by omega)
          have HRun := Lib.hid hrun
          have HStp := Lib.hid (XI.step HOk.out HI.out hj4 HKn.out HHi.out ⟨_, hown⟩ happ)
          clear hrun hown happ hxs
          go_wp2_with (at_builtin; refine Lib.wpList_append_run _ rfl _ _ _ _ rfl _ _ rfl rfl _ _ HRun.out ?_)
          go_roundw
          case rel => exact ⟨t' + 1, by omega, by go_num, HStp⟩
          case measure => simp [intOf]; omega
        obtain rfl : t' = 4 := by omega
        obtain ⟨gl, cl, rfl⟩ : ∃ g c, u15 = .slice (some ⟨g, 0, none⟩) (d.m j k + 4) c := by
          rcases ownrow_form hxs with ⟨_, h0⟩ | ⟨g, c, hv, _⟩
          · omega
          · exact ⟨g, c, hv⟩
        clear hxs
        have hl4 : ¬ ((d.m j k + 4 : Nat) : Int) < 4 := by omega
        go_wp2_with fail
        go_roundw
        case rel => exact ⟨k + 1, by omega, by go_num, Lib.hid HI.out.turn, Lib.hid HI.out.xh, Lib.hid HI.out.xa⟩
        case measure => simp [intOf]; omega
      obtain rfl : k = nj := by omega
      go_wp2_with fail
      go_roundw
      case rel => exact ⟨j + 1, by omega, by go_num, HT, HH, Lib.hid (by have := HA.out; rw [← HNj.out] at this; exact this.step)⟩
      case measure => simp [intOf]; omega
    obtain rfl : j = 4 := by omega
    rw [show ((4 : Nat) : Int) = 4 from rfl]
    go_wp2_with fail
    go_loopw [16, 17, 19, 142] (fun _ _ _ u wr => ∃ j : Nat, j ≤ 4 ∧ u = .int .i64 j ∧ Hid (Below w8.heap.size w8 wr)) (fun _ _ _ u _ => 4 - (intOf u).toNat)
    case atStart => exact ⟨0, Nat.zero_le _, rfl, Lib.hid (Below.refl _ _)⟩
    case round =>
    obtain ⟨j, hj, rfl, HB⟩ := hrel
    by_cases hj4 : j < 4
    · have HTx : Hid (∀ W, Below w8.heap.size w8 W → Turn d.lo d.hi w6 W) := Lib.hid (fun W hW => HT.out.trans (Turn.of_below hW))
      have c3 := (HXc.out wr (HTx.out wr HB.out)).2 j hj4
      obtain ⟨Aj, cj, hvj⟩ := HOk.out.sl j hj4
      obtain ⟨nj, hnj⟩ : ∃ n, d.n j = n := ⟨_, rfl⟩
      have HNj := Lib.hid hnj
      have hnjb : nj ≤ 1048576 := by rw [← hnj]; exact HOk.out.nm j hj4
      have HXj : Hid (∀ W, Below w8.heap.size w8 W → W.cell? ⟨x, 3 + j, none⟩ = some (.slice Aj nj cj)) := Lib.hid (fun W hW => by rw [(HXc.out W (HTx.out W hW)).2 j hj4, hvj, hnj])
      have HHj : Hid (∀ W, Below w8.heap.size w8 W → nj = 0 ∨ ∃ g, Aj = some ⟨g, 0, none⟩ ∧ ∀ k, k < nj → W.cell? ⟨g, k * 2 + 1, none⟩ = some (d.h j k)) := Lib.hid (fun W hW => by
        have := (HH.out.other (w' := W) (fun g h _ _ => hW.block g h.lt)) j hj4
        rw [hnj, hvj] at this
        refine this.imp id ?_
        rintro ⟨g, c, e, -, -, -, r⟩
        cases e
        exact ⟨g, rfl, fun k hk => (r k hk).2⟩)
      rw [hvj, hnj] at c3
      clear hvj hnj
      go_wp2_with fail
      go_loopw [17, 19, 150] (fun _ _ u wr => ∃ k : Nat, k ≤ nj ∧ u = .int .i64 k ∧ Hid (Below w8.heap.size w8 wr)) (fun _ _ u _ => nj - (intOf u).toNat)
      case atStart => exact ⟨0, Nat.zero_le _, rfl, HB⟩
      case round =>
      clear HB c3
      obtain ⟨k, hk, rfl, HB⟩ := hrel
      by_cases hkl : k < nj
      · have HKn : Hid (k < d.n j) := Lib.hid (by rw [HNj.out]; exact hkl)
        obtain ⟨g, rfl, q4⟩ := (HHj.out wr HB.out).resolve_left (by omega)
        have dk := q4 k hkl
        have c3 := HXj.out wr HB.out
        obtain ⟨⟨Ah, ch, hvh⟩, hrd⟩ := HA.out.rd j k hj4 HKn.out
        obtain ⟨m', hm'⟩ : ∃ n, d.m j k = n := ⟨_, rfl⟩
        have hmb : m' ≤ 256 := by rw [← hm']; exact HOk.out.sm j k hj4 HKn.out
        rw [hm', hvh] at hrd
        rw [hvh, hm'] at dk
        have HRd := Lib.hid hrd
        clear hrd q4 hvh hm'
        go_wp2_with fail
        go_loopw [19, 162] (fun _ u wr => ∃ q : Nat, q ≤ m' ∧ u = .int .i64 q ∧ Hid (Below w8.heap.size w8 wr)) (fun _ u _ => m' - (intOf u).toNat)
        case atStart => exact ⟨0, Nat.zero_le _, rfl, HB⟩
        case round =>
        clear HB c3 dk
        obtain ⟨q, hq, rfl, HB⟩ := hrel
        by_cases hql : q < m'
        · obtain ⟨gh, c', hv', e1, u0, e0⟩ := HRd.out q hql
          rw [show d.m j k = m' by injection hv'] at hv'
          injection hv' with hva _ hvc
          subst hva hvc
          have e1 := (HB.out.cell (World.block_lt_of_cell? _ _ e1)).trans e1
          have e0 := (HB.out.cell (World.block_lt_of_cell? _ _ e0)).trans e0
          have hw5 : IntKind.i64.wrap (-5 - (j : Int)) = -5 - (j : Int) := by rw [IntKind.wrap_i64]; omega
          go_wp2_with fail
          go_roundw
          case rel => exact ⟨q + 1, by omega, by go_num, Lib.hid (HB.out.alloc HB.out.size _)⟩
          case measure => simp [intOf]; omega
        obtain rfl : q = m' := by omega
        go_wp2_with fail
        go_roundw
        case rel => exact ⟨k + 1, by omega, by go_num, HB⟩
        case measure => simp [intOf]; omega
      obtain rfl : k = nj := by omega
      go_wp2_with fail
      go_roundw
      case rel => exact ⟨j + 1, by omega, by go_num, HB⟩
      case measure => simp [intOf]; omega
    obtain rfl : j = 4 := by omega
    rw [show ((4 : Nat) : Int) = 4 from rfl]
    obtain ⟨w9, hw9⟩ : ∃ W : World, W = wr := ⟨_, rfl⟩
    rw [← hw9] at HB ⊢
    clear hw9 wr
    have HT9 := Lib.hid (HT.out.trans (Turn.of_below HB.out))
    have HL9 : Hid (Below w3.heap.size w3 w9) := Lib.hid (Turn.below HK.out.below (by rw [HK.out.lo]; exact Nat.le_refl _) (Nat.le_trans HK.out.lohi HK.out.hi) HT9.out)
    clear HT HH HA HB
    go_wp2_with fail
    refine (HD.out w9).mono ?_
    rintro e w10 ⟨xr, x0, x1, x2, x3, rfl, hb10, ho10, hs10⟩
    have hkz := BkAt.mk (reps_of_own ho10) HLen.out hs10.secP
    obtain ⟨Z, l, Z0, m0, l0, Z1, m1, l1, Z2, m2, l2, Z3, m3, l3, rfl, rfl, rfl, rfl, rfl⟩ := hkz.form
    obtain ⟨Y, c, Y0, q0, c0, Y1, q1, c1, Y2, q2, c2, Y3, q3, c3, rfl, rfl, rfl, rfl, rfl⟩ := (HK.out.yk w6 (Turn.refl _ _ _)).form
    obtain ⟨b3, hb3⟩ : ∃ b, w10.heap.size = b := ⟨_, rfl⟩
    obtain ⟨W10, hW10⟩ : ∃ W, w10.alloc (.cells #[.int .i64 (m : Int), .string t, .slice Z rs.length l, .slice Z0 m0 l0, .slice Z1 m1 l1, .slice Z2 m2 l2, .slice Z3 m3 l3] 26) = W := ⟨_, rfl⟩
    have hz10 : W10.heap[b3]? = some (.cells #[.int .i64 (m : Int), .string t, .slice Z rs.length l, .slice Z0 m0 l0, .slice Z1 m1 l1, .slice Z2 m2 l2, .slice Z3 m3 l3] 26 (0, 0)) := by rw [← hW10, ← hb3]; exact heap_alloc_new w10 _
    have hba : Below w10.heap.size w10 W10 := by rw [← hW10]; exact (Below.refl _ _).alloc (Nat.le_refl _) _
    have hb9 : Below w9.heap.size w9 W10 := hb10.trans (hba.mono hb10.size)
    have hb03 : Below W0.heap.size W0 W10 := HB03.out.trans ((HL9.out.trans (hb9.mono HL9.out.size)).mono HB03.out.size)
    have ht10 : Turn d.lo d.hi w6 W10 := HT9.out.trans (Turn.of_below hb9)
    have HYk : Hid (∀ W', Below W10.heap.size W10 W' → BkAt W' (fun _ => True) (.slice Y rs.length c) (.slice Y0 q0 c0) (.slice Y1 q1 c1) (.slice Y2 q2 c2) (.slice Y3 q3 c3) rs As) := Lib.hid (fun W' hB => HK.out.yk W' (ht10.trans (Turn.of_below hB)))
    have HBk : Hid (∀ W', Below W10.heap.size W10 W' → BkAt W' (fun _ => True) (.slice X rs.length k) (.slice X0 n0 k0) (.slice X1 n1 k1) (.slice X2 n2 k2) (.slice X3 n3 k3) rs As) := Lib.hid (fun W' hB => HA.out W' (hb03.trans (hB.mono hb03.size)))
    have HZk : Hid (∀ W', Below W10.heap.size W10 W' → BkAt W' (fun _ => True) (.slice Z rs.length l) (.slice Z0 m0 l0) (.slice Z1 m1 l1) (.slice Z2 m2 l2) (.slice Z3 m3 l3) rs As) := Lib.hid (fun W' hB => ((hkz.any.keep hba).keep hB))
    have HX : Hid (∀ W', Below W10.heap.size W10 W' → (W'.cell? ⟨b1, 0, none⟩ = some (.int .i64 (m : Int)) ∧ W'.cell? ⟨b1, 1, none⟩ = some (.string t) ∧ W'.cell? ⟨b1, 2, none⟩ = some (.slice X rs.length k) ∧ W'.cell? ⟨b1, 3, none⟩ = some (.slice X0 n0 k0) ∧ W'.cell? ⟨b1, 4, none⟩ = some (.slice X1 n1 k1) ∧ W'.cell? ⟨b1, 5, none⟩ = some (.slice X2 n2 k2) ∧ W'.cell? ⟨b1, 6, none⟩ = some (.slice X3 n3 k3)) ∧ (W'.cell? ⟨y, 0, none⟩ = some (.int .i64 (m : Int)) ∧ W'.cell? ⟨y, 1, none⟩ = some (.string t) ∧ W'.cell? ⟨y, 2, none⟩ = some (.slice Y rs.length c) ∧ W'.cell? ⟨y, 3, none⟩ = some (.slice Y0 q0 c0) ∧ W'.cell? ⟨y, 4, none⟩ = some (.slice Y1 q1 c1) ∧ W'.cell? ⟨y, 5, none⟩ = some (.slice Y2 q2 c2) ∧ W'.cell? ⟨y, 6, none⟩ = some (.slice Y3 q3 c3)) ∧ (W'.cell? ⟨b3, 0, none⟩ = some (.int .i64 (m : Int)) ∧ W'.cell? ⟨b3, 1, none⟩ = some (.string t) ∧ W'.cell? ⟨b3, 2, none⟩ = some (.slice Z rs.length l) ∧ W'.cell? ⟨b3, 3, none⟩ = some (.slice Z0 m0 l0) ∧ W'.cell? ⟨b3, 4, none⟩ = some (.slice Z1 m1 l1) ∧ W'.cell? ⟨b3, 5, none⟩ = some (.slice Z2 m2 l2) ∧ W'.cell? ⟨b3, 6, none⟩ = some (.slice Z3 m3 l3))) := Lib.hid (fun W' hB => by
      have t1 := HC.out W' (hb03.trans (hB.mono hb03.size))
      have t2 := ((ht10.trans (Turn.of_below hB)).block y (block_lt HK.out.yb) (.inr HK.out.yo)).trans HK.out.yb
      have t3 := (hB.block _ (block_lt hz10)).trans hz10
      have p1 := two_boxes t1 t2
      exact ⟨p1.1, p1.2, (two_boxes t3 t3).1⟩)
    have HW10 := Lib.hid hW10
    have HB3 := Lib.hid hb3
    have HB10 := Lib.hid hb03
    clear hb10 ho10 hs10 hkz hb3 hW10 hz10 hba hb9 hb03 ht10
    go_wp2_with fail
    rw [HW10.out, HB3.out]
    refine wp_region_held_drew (S := fun W' => (W'.cell? ⟨b1, 0, none⟩ = some (.int .i64 (m : Int)) ∧ W'.cell? ⟨b1, 1, none⟩ = some (.string t) ∧ W'.cell? ⟨b1, 2, none⟩ = some (.slice X rs.length k) ∧ W'.cell? ⟨b1, 3, none⟩ = some (.slice X0 n0 k0) ∧ W'.cell? ⟨b1, 4, none⟩ = some (.slice X1 n1 k1) ∧ W'.cell? ⟨b1, 5, none⟩ = some (.slice X2 n2 k2) ∧ W'.cell? ⟨b1, 6, none⟩ = some (.slice X3 n3 k3)) ∧ (W'.cell? ⟨y, 0, none⟩ = some (.int .i64 (m : Int)) ∧ W'.cell? ⟨y, 1, none⟩ = some (.string t) ∧ W'.cell? ⟨y, 2, none⟩ = some (.slice Y rs.length c) ∧ W'.cell? ⟨y, 3, none⟩ = some (.slice Y0 q0 c0) ∧ W'.cell? ⟨y, 4, none⟩ = some (.slice Y1 q1 c1) ∧ W'.cell? ⟨y, 5, none⟩ = some (.slice Y2 q2 c2) ∧ W'.cell? ⟨y, 6, none⟩ = some (.slice Y3 q3 c3)) ∧ (W'.cell? ⟨b3, 0, none⟩ = some (.int .i64 (m : Int)) ∧ W'.cell? ⟨b3, 1, none⟩ = some (.string t) ∧ W'.cell? ⟨b3, 2, none⟩ = some (.slice Z rs.length l) ∧ W'.cell? ⟨b3, 3, none⟩ = some (.slice Z0 m0 l0) ∧ W'.cell? ⟨b3, 4, none⟩ = some (.slice Z1 m1 l1) ∧ W'.cell? ⟨b3, 5, none⟩ = some (.slice Z2 m2 l2) ∧ W'.cell? ⟨b3, 6, none⟩ = some (.slice Z3 m3 l3))) (by kernel_rfl) ?_ (fun hHeld => ?_)
    · exact HX.out _ (Below.refl _ _).drew
    refine takeH (i := 0) (d := some 179) (v := ?_) rfl rfl (by kernel_rfl) (by kernel_rfl) (by kernel_rfl) (fun _ _ _ h => h) (Or.inl ⟨by kernel_rfl, ?_⟩) hHeld ?_
    rotate_left
    · intro w hSw; (try dsimp only at hSw); go_simp; try with_reducible rfl
    try simp only [put_norm]
    refine takeH (i := 2) (d := some 181) (v := ?_) rfl rfl (by kernel_rfl) (by kernel_rfl) (by kernel_rfl) (fun _ _ _ h => h) (Or.inl ⟨by kernel_rfl, ?_⟩) hHeld ?_
    rotate_left
    · intro w hSw; (try dsimp only at hSw); go_simp; try with_reducible rfl
    try simp only [put_norm]
    refine wpAnyH_ready (rs := [1]) (by kernel_rfl) (by simp) ?_
    refine AllReadyH.cons rfl (fun K hK => ?_) AllReadyH.nil
    go_simp
    refine (ref_b m t rs As _ _ _ _ _ _ (HYk.out _ (Below.refl _ _).drew) HS.out).mono ?_
    rintro e w11 ⟨ur, u0, u1, u2, u3, rfl, hb, hku⟩
    have HB11 : Hid (Below W10.heap.size W10 w11) := Lib.hid ((Below.refl _ _).drew.trans hb)
    have HKU := Lib.hid hku
    refine hK.out _ _ ?_ (fun hHeld => ?_)
    · exact HX.out w11 HB11.out
    clear hb hku
    clear hK K
    refine wpAnyH_ready (rs := [3]) (by kernel_rfl) (by simp) ?_
    refine AllReadyH.cons rfl (fun K hK => ?_) AllReadyH.nil
    go_simp
    refine (ref_b m t rs As _ _ _ _ _ w11 (HBk.out _ HB11.out) HS.out).mono ?_
    rintro e w12 ⟨gr, g0, g1, g2, g3, rfl, hb, hky⟩
    have HB12 : Hid (Below W10.heap.size W10 w12) := Lib.hid (HB11.out.trans (hb.mono HB11.out.size))
    have HKU2 := Lib.hid (HKU.out.keep hb)
    have HKY := Lib.hid hky
    refine hK.out _ _ ?_ (fun hHeld => ?_)
    · exact HX.out w12 HB12.out
    clear hb hky
    clear hK K
    refine wpAnyH_ready (rs := [4]) (by kernel_rfl) (by simp) ?_
    refine AllReadyH.cons rfl (fun K hK => ?_) AllReadyH.nil
    go_simp
    refine (alike_b m t rs As _ _ _ _ _ _ _ _ _ _ w12 HKU2.out HKY.out HS.out).mono ?_
    rintro e w13 ⟨rfl, hb⟩
    have HB13 : Hid (Below W10.heap.size W10 w13) := Lib.hid (HB12.out.trans (hb.mono HB12.out.size))
    refine hK.out _ _ ?_ (fun hHeld => ?_)
    · exact HX.out w13 HB13.out
    clear hb
    clear hK K
    refine takeH (i := 5) (d := some 184) (v := ?_) rfl rfl (by kernel_rfl) (by kernel_rfl) (by kernel_rfl) (fun _ _ _ h => h) (Or.inl ⟨by kernel_rfl, ?_⟩) hHeld ?_
    rotate_left
    · intro w hSw; (try dsimp only at hSw); go_simp; try with_reducible rfl
    try simp only [put_norm]
    refine takeH (i := 6) (d := some 185) (v := ?_) rfl rfl (by kernel_rfl) (by kernel_rfl) (by kernel_rfl) (fun _ _ _ h => h) (Or.inl ⟨by kernel_rfl, ?_⟩) hHeld ?_
    rotate_left
    · intro w hSw; (try dsimp only at hSw); go_simp; try with_reducible rfl
    try simp only [put_norm]
    refine takeH (i := 8) (d := some 187) (v := ?_) rfl rfl (by kernel_rfl) (by kernel_rfl) (by kernel_rfl) (fun _ _ _ h => h) (Or.inl ⟨by kernel_rfl, ?_⟩) hHeld ?_
    rotate_left
    · intro w hSw; (try dsimp only at hSw); go_simp; try with_reducible rfl
    try simp only [put_norm]
    refine wpAnyH_ready (rs := [7]) (by kernel_rfl) (by simp) ?_
    refine AllReadyH.cons rfl (fun K hK => ?_) AllReadyH.nil
    go_simp
    refine (ref_b m t rs As _ _ _ _ _ w13 (HZk.out _ HB13.out) HS.out).mono ?_
    rintro e w14 ⟨vr, v0, v1, v2, v3, rfl, hb, hku⟩
    have HB14 : Hid (Below W10.heap.size W10 w14) := Lib.hid (HB13.out.trans (hb.mono HB13.out.size))
    have HKV := Lib.hid hku
    refine hK.out _ _ ?_ (fun hHeld => ?_)
    · exact HX.out w14 HB14.out
    clear hb hku
    clear hK K
    refine wpAnyH_ready (rs := [9]) (by kernel_rfl) (by simp) ?_
    refine AllReadyH.cons rfl (fun K hK => ?_) AllReadyH.nil
    go_simp
    refine (ref_b m t rs As _ _ _ _ _ w14 (HBk.out _ HB14.out) HS.out).mono ?_
    rintro e w15 ⟨hr, h0, h1, h2, h3, rfl, hb, hky⟩
    have HB15 : Hid (Below W10.heap.size W10 w15) := Lib.hid (HB14.out.trans (hb.mono HB14.out.size))
    have HKV2 := Lib.hid (HKV.out.keep hb)
    have HKW := Lib.hid hky
    refine hK.out _ _ ?_ (fun hHeld => ?_)
    · exact HX.out w15 HB15.out
    clear hb hky
    clear hK K
    refine wpAnyH_ready (rs := [10]) (by kernel_rfl) (by simp) ?_
    refine AllReadyH.cons rfl (fun K hK => ?_) AllReadyH.nil
    go_simp
    refine (alike_b m t rs As _ _ _ _ _ _ _ _ _ _ w15 HKV2.out HKW.out HS.out).mono ?_
    rintro e w16 ⟨rfl, hb⟩
    have HB16 : Hid (Below W10.heap.size W10 w16) := Lib.hid (HB15.out.trans (hb.mono HB15.out.size))
    refine hK.out _ _ ?_ (fun hHeld => ?_)
    · exact HX.out w16 HB16.out
    clear hb
    clear hK K
    refine takeH (i := 11) (d := some 190) (v := ?_) rfl rfl (by kernel_rfl) (by kernel_rfl) (by kernel_rfl) (fun _ _ _ h => h) (Or.inl ⟨by kernel_rfl, ?_⟩) hHeld ?_
    rotate_left
    · intro w hSw; (try dsimp only at hSw); go_simp; try with_reducible rfl
    try simp only [put_norm]
    refine takeH (i := 12) (d := some 2) (v := ?_) rfl rfl (by kernel_rfl) (by kernel_rfl) (by kernel_rfl) (fun _ _ _ h => h) (Or.inl ⟨by kernel_rfl, ?_⟩) hHeld ?_
    rotate_left
    · intro w hSw; (try dsimp only at hSw); go_simp; try with_reducible rfl
    try simp only [put_norm]
    refine wpAnyH_done (by kernel_rfl) ?_ _
    go_wp2_with fail
    go_ret
    exact ⟨rfl, by have h2 := HB10.out.trans (HB16.out.mono HB10.out.size); exact HBW.out.trans (h2.mono HBW.out.size)⟩
end Go.Proofs.Ytehbjfjhalpgaaa
