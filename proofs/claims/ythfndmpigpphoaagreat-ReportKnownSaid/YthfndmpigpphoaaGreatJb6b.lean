/-
  joined.lay: the table of a text.
-/
import Derived.Test.YthfndmpigpphoaaGreatRows
import Derived.Test.YthfndmpigpphoaaGreatJb5
import Derived.Deep.DeepCutAuto
import Derived.Deep.CutRange
import Derived.RegionTactic
namespace Go.Proofs.YthfndmpigpphoaaGreat
open Go.RowKit

theorem ints_row : (Tryz.prog.info? 3).map (fun i => (i.zero, i.size, i.bytes)) = some (some (.int .i64 0), 1, 8) := by kernel_rfl
theorem rows_row : (Tryz.prog.info? 72).map (fun i => (i.zero, i.size, i.bytes)) = some (some (.slice none 0 0), 1, 24) := by kernel_rfl

/-- The table of a text of n bytes: the ends of the pieces, the fewest, the ways. -/
structure TblS (w0 W : World) (n tb ge gf gw : Nat) (es : List Value) (F G : Nat → Int) : Prop where
  below : Below w0.heap.size w0 W
  tab : W.heap[tb]? = some (.cells #[.slice (some ⟨ge, 0, none⟩) n n, .slice (some ⟨gf, 0, none⟩) (n + 1) (n + 1), .slice (some ⟨gw, 0, none⟩) (n + 1) (n + 1)] 140 (0, 0))
  ends : W.heap[ge]? = some (.cells es.toArray 72 (0, 0))
  len : es.length = n
  few : RowF W gf n F
  ways : RowF W gw n G
  lo : w0.heap.size ≤ tb ∧ w0.heap.size ≤ ge ∧ w0.heap.size ≤ gf ∧ w0.heap.size ≤ gw
  ne : gf ≠ gw
theorem tbl_new {w0 W : World} {n tb ge gf gw : Nat} (hb : Below w0.heap.size w0 W) (h1 : W.heap[ge]? = some (.cells (madeCells #[Value.slice none 0 0] n) 72 (0, 0))) (h2 : W.heap[gf]? = some (.cells (madeCells #[Value.int .i64 0] (n + 1)) 3 (0, 0))) (h3 : W.heap[gw]? = some (.cells (madeCells #[Value.int .i64 0] (n + 1)) 3 (0, 0)))
    (h4 : W.heap[tb]? = some (.cells #[.slice (some ⟨ge, 0, none⟩) n n, .slice (some ⟨gf, 0, none⟩) (n + 1) (n + 1), .slice (some ⟨gw, 0, none⟩) (n + 1) (n + 1)] 140 (0, 0))) (hlo : w0.heap.size ≤ tb ∧ w0.heap.size ≤ ge ∧ w0.heap.size ≤ gf ∧ w0.heap.size ≤ gw) (hne : gf ≠ gw) :
    TblS w0 W n tb ge gf gw (madeCells #[Value.slice none 0 0] n).toList (fun _ => 0) (fun _ => 0) :=
  ⟨hb, h4, h1, by simp [size_madeCells], ⟨_, h2, by simp [size_madeCells], fun j hj => by simp [madeCells, show j < n + 1 by omega, Nat.mod_one]⟩, ⟨_, h3, by simp [size_madeCells], fun j hj => by simp [madeCells, show j < n + 1 by omega, Nat.mod_one]⟩, hlo, hne⟩

theorem RowF.bk {W : World} {g n : Nat} {f : Nat → Int} (h : RowF W g n f) {b : Nat} {cs : Array Value} {t : TypeId} (hb : W.heap[b]? = some (.cells cs t (0, 0))) (ht : t ≠ 3) : b ≠ g := by
  rintro rfl
  obtain ⟨cs', h', _⟩ := h
  rw [hb] at h'
  injection h' with h'
  injection h' with _ h2
  exact ht h2
theorem RowF.oth {W : World} {g b n : Nat} {f : Nat → Int} (h : RowF W g n f) (hne : b ≠ g) (i : Nat) (u : Value) : RowF (W.setCell ⟨b, i, none⟩ u) g n f := by
  obtain ⟨cs, h1, h2⟩ := h
  exact ⟨cs, (heap_setCell_other W ⟨b, i, none⟩ g u (fun e => hne e.symm)).trans h1, h2⟩
theorem TblS.keep {w0 W W' : World} {n tb ge gf gw : Nat} {es : List Value} {F G : Nat → Int} (h : TblS w0 W n tb ge gf gw es F G) (hb : Below W.heap.size W W') : TblS w0 W' n tb ge gf gw es F G :=
  ⟨h.below.trans (hb.mono h.below.size), (hb.block tb (block_lt h.tab)).trans h.tab, (hb.block ge (block_lt h.ends)).trans h.ends, h.len, h.few.keep hb, h.ways.keep hb, h.lo, h.ne⟩
theorem TblS.drewN {w0 W : World} {n tb ge gf gw : Nat} {es : List Value} {F G : Nat → Int} (h : TblS w0 W n tb ge gf gw es F G) (k : Nat) : TblS w0 (W.drewN k) n tb ge gf gw es F G :=
  ⟨below_drewN h.below k, h.tab, h.ends, h.len, h.few, h.ways, h.lo, h.ne⟩
theorem TblS.drew {w0 W : World} {n tb ge gf gw : Nat} {es : List Value} {F G : Nat → Int} (h : TblS w0 W n tb ge gf gw es F G) : TblS w0 W.drew n tb ge gf gw es F G :=
  ⟨h.below.drew, h.tab, h.ends, h.len, h.few, h.ways, h.lo, h.ne⟩
theorem TblS.setF {w0 W : World} {n tb ge gf gw : Nat} {es : List Value} {F G : Nat → Int} (h : TblS w0 W n tb ge gf gw es F G) (i : Nat) (x : Int) : TblS w0 (W.setCell ⟨gf, i, none⟩ (.int .i64 x)) n tb ge gf gw es (fun j => if j = i then x else F j) G :=
  ⟨h.below.setCell (p := ⟨gf, i, none⟩) h.lo.2.2.1 _, (heap_setCell_other W ⟨gf, i, none⟩ tb _ (h.few.bk h.tab (by decide))).trans h.tab, (heap_setCell_other W ⟨gf, i, none⟩ ge _ (h.few.bk h.ends (by decide))).trans h.ends, h.len, h.few.set i x, h.ways.oth h.ne i _, h.lo, h.ne⟩
theorem TblS.setW {w0 W : World} {n tb ge gf gw : Nat} {es : List Value} {F G : Nat → Int} (h : TblS w0 W n tb ge gf gw es F G) (i : Nat) (x : Int) : TblS w0 (W.setCell ⟨gw, i, none⟩ (.int .i64 x)) n tb ge gf gw es F (fun j => if j = i then x else G j) :=
  ⟨h.below.setCell (p := ⟨gw, i, none⟩) h.lo.2.2.2 _, (heap_setCell_other W ⟨gw, i, none⟩ tb _ (h.ways.bk h.tab (by decide))).trans h.tab, (heap_setCell_other W ⟨gw, i, none⟩ ge _ (h.ways.bk h.ends (by decide))).trans h.ends, h.len, h.few.oth (fun e => h.ne e.symm) i _, h.ways.set i x, h.lo, h.ne⟩
theorem TblS.te {w0 W : World} {n tb ge gf gw : Nat} {es : List Value} {F G : Nat → Int} (h : TblS w0 W n tb ge gf gw es F G) : tb ≠ ge := by
  intro e
  have h1 := h.tab
  rw [e, h.ends] at h1
  injection h1 with h1
  injection h1 with _ h2
  exact absurd h2 (by decide)
theorem TblS.setE {w0 W : World} {n tb ge gf gw : Nat} {es : List Value} {F G : Nat → Int} (h : TblS w0 W n tb ge gf gw es F G) (i : Nat) (v : Value) : TblS w0 (W.setCell ⟨ge, i, none⟩ v) n tb ge gf gw (es.set i v) F G :=
  ⟨h.below.setCell (p := ⟨ge, i, none⟩) h.lo.2.1 _, (heap_setCell_other W ⟨ge, i, none⟩ tb _ h.te).trans h.tab, by
    have := heap_setCell_same W ge i _ _ v h.ends
    rw [List.setIfInBounds_toArray] at this
    exact this, by rw [List.length_set]; exact h.len, h.few.oth (h.few.bk h.ends (by decide)) i _, h.ways.oth (h.ways.bk h.ends (by decide)) i _, h.lo, h.ne⟩
theorem TblS.t0 {w0 W : World} {n tb ge gf gw : Nat} {es : List Value} {F G : Nat → Int} (h : TblS w0 W n tb ge gf gw es F G) : W.cell? ⟨tb, 0, none⟩ = some (.slice (some ⟨ge, 0, none⟩) n n) ∧ W.cell? ⟨tb, 1, none⟩ = some (.slice (some ⟨gf, 0, none⟩) (n + 1) (n + 1)) ∧ W.cell? ⟨tb, 2, none⟩ = some (.slice (some ⟨gw, 0, none⟩) (n + 1) (n + 1)) := by
  refine ⟨?_, ?_, ?_⟩ <;> (rw [Lib.cell_of_heap h.tab]; rfl)
theorem TblS.e {w0 W : World} {n tb ge gf gw : Nat} {es : List Value} {F G : Nat → Int} (h : TblS w0 W n tb ge gf gw es F G) (i : Nat) (hi : i < es.length) : W.cell? ⟨ge, i, none⟩ = some es[i] ∧ W.frozen? ⟨ge, i, none⟩ = false := by
  refine ⟨?_, Lib.frozen_of_heap h.ends i⟩
  rw [Lib.cell_of_heap h.ends]; simp [hi]
theorem TblS.mono {w w0 W : World} {n tb ge gf gw : Nat} {es : List Value} {F G : Nat → Int} (h : TblS w0 W n tb ge gf gw es F G) (hb : Below w.heap.size w w0) : TblS w W n tb ge gf gw es F G :=
  ⟨hb.trans (h.below.mono hb.size), h.tab, h.ends, h.len, h.few, h.ways, ⟨Nat.le_trans hb.size h.lo.1, Nat.le_trans hb.size h.lo.2.1, Nat.le_trans hb.size h.lo.2.2.1, Nat.le_trans hb.size h.lo.2.2.2⟩, h.ne⟩

/-- A slice of numbers, in a block of p. -/
def IntsAt (W : World) (p : Nat → Prop) (v : Value) (l : List Nat) : Prop :=
  ∃ P c, v = .slice P l.length c ∧ (l.length ≤ c ∧ c ≤ maxLen) ∧ (l.length = 0 ∨ ∃ g, P = some ⟨g, 0, none⟩ ∧ g < W.heap.size ∧ p g ∧ ∀ j (h : j < l.length), W.cell? ⟨g, j, none⟩ = some (.int .i64 (l[j] : Int)))
theorem IntsAt.kept {E : List Nat} {w w' : World} {p : Nat → Prop} {v : Value} {l : List Nat} (h : IntsAt w p v l) (hk : Kept E w w') (hE : ∀ k ∈ E, ¬ p k) : IntsAt w' p v l := by
  obtain ⟨P, c, hv, hc, h0⟩ := h
  refine ⟨P, c, hv, hc, h0.imp id ?_⟩
  rintro ⟨g, hP, hg, hp, hcs⟩
  exact ⟨g, hP, Nat.lt_of_lt_of_le hg hk.size, hp, fun j hj => (hk.cell (p := ⟨g, _, none⟩) hg (fun hm => hE g hm hp)).trans (hcs j hj)⟩
theorem IntsAt.of_own {w : World} {B : Nat} {v : Value} {l : List Nat} (h : w.ownsRow B 3 1 v l.length (intsV l)) : IntsAt w (fun g => B ≤ g) v l := by
  rcases h.2 with ⟨rfl, h0⟩ | ⟨g, cap, cur, rfl, hB, hg, hn, hm, _, _⟩
  · exact ⟨none, 0, by rw [h0], by omega, .inl h0⟩
  · refine ⟨_, cap, rfl, ⟨hn, hm⟩, .inr ⟨g, rfl, block_lt hg, hB, fun j hj => ?_⟩⟩
    have a1 := h.cells (g := g) rfl j _ (show (intsV l)[j]? = some (.int .i64 (l[j] : Int)) by simp [intsV, hj])
    rw [row_addr] at a1
    exact a1
theorem IntsAt.mono {w : World} {p q : Nat → Prop} {v : Value} {l : List Nat} (h : IntsAt w p v l) (hq : ∀ k, p k → q k) : IntsAt w q v l := by
  obtain ⟨P, c, hv, hc, h0⟩ := h
  exact ⟨P, c, hv, hc, h0.imp id fun ⟨g, hP, hg, hp, hcs⟩ => ⟨g, hP, hg, hq g hp, hcs⟩⟩
/-- None of the table's blocks. -/
def NT (ge gf gw : Nat) (b : Nat) : Prop := b ≠ ge ∧ b ≠ gf ∧ b ≠ gw
/-- The ends of the m last places stand. -/
def EndsOK (W : World) (ge gf gw n m : Nat) (E : Nat → List Nat) (es : List Value) : Prop := ∀ j (h : j < es.length), n - m ≤ j → IntsAt W (NT ge gf gw) es[j] (E j)
theorem EndsOK.kept {L : List Nat} {W W' : World} {ge gf gw n m : Nat} {E : Nat → List Nat} {es : List Value} (h : EndsOK W ge gf gw n m E es) (hk : Kept L W W') (hL : ∀ k ∈ L, k = ge ∨ k = gf ∨ k = gw) : EndsOK W' ge gf gw n m E es := fun j hj hm =>
  (h j hj hm).kept hk (fun k hk hh => by rcases hL k hk with e | e | e; exact hh.1 e; exact hh.2.1 e; exact hh.2.2 e)
theorem TblS.congrF {w0 W : World} {n tb ge gf gw : Nat} {es : List Value} {F F' G : Nat → Int} (h : TblS w0 W n tb ge gf gw es F G) (he : ∀ j, j ≤ n → F j = F' j) : TblS w0 W n tb ge gf gw es F' G :=
  ⟨h.below, h.tab, h.ends, h.len, h.few.congr he, h.ways, h.lo, h.ne⟩
theorem RowF.lt_ {w : World} {g n : Nat} {f : Nat → Int} (h : RowF w g n f) : g < w.heap.size := by
  obtain ⟨cs, h, _⟩ := h
  exact block_lt h
theorem cell_set_ne (w : World) (g : Nat) {i k : Nat} (h : k ≠ i) {v : Value} : (w.setCell ⟨g, i, none⟩ v).cell? ⟨g, k, none⟩ = w.cell? ⟨g, k, none⟩ :=
  World.cell?_setCell_other w ⟨g, i, none⟩ ⟨g, k, none⟩ v (by intro e; injection e with _ e2; exact h e2.symm)
theorem fewF_zero {n : Nat} {E : Nat → List Nat} : ∀ (m j : Nat), m ≤ n → j < n - m → fewF n E m j = 0
  | 0, j, _, _ => rfl
  | m + 1, j, h, hj => by
    rw [fewF]
    dsimp only
    rw [if_neg (by omega)]
    exact fewF_zero m j (by omega) (by omega)
theorem foldl_snoc {n i : Nat} {f : Nat → Nat} (l : List Nat) (q : Nat) (h : q < l.length) : (l.take (q + 1)).foldl (stepK n i f) 0 = stepK n i f ((l.take q).foldl (stepK n i f) 0) l[q] := by
  rw [List.take_succ_eq_append_getElem h, List.foldl_append]; rfl
theorem fold_bd {n i : Nat} {f : Nat → Nat} {M : Nat} (hf : ∀ k, f k ≤ M) (l : List Nat) : ∀ a, a ≤ M + 1 → l.foldl (stepK n i f) a ≤ M + 1 := by
  induction l with
  | nil => intro a h; exact h
  | cons x l ih =>
    intro a h
    rw [List.foldl_cons]
    refine ih _ ?_
    unfold stepK
    have := hf x
    split
    · split
      · omega
      · exact h
    · exact h
theorem fewF_bd {n : Nat} {E : Nat → List Nat} : ∀ (m j : Nat), fewF n E m j ≤ m
  | 0, j => Nat.le_refl _
  | m + 1, j => by
    rw [fewF]
    dsimp only
    split
    · exact fold_bd (fun k => fewF_bd m k) _ 0 (Nat.zero_le _)
    · exact Nat.le_trans (fewF_bd m j) (Nat.le_succ _)
theorem four_alloc (W : World) (a b c d : Obj) : ((((W.alloc a).alloc b).alloc c).alloc d).drew.heap[W.heap.size]? = some a ∧ ((((W.alloc a).alloc b).alloc c).alloc d).drew.heap[W.heap.size + 1]? = some b ∧ ((((W.alloc a).alloc b).alloc c).alloc d).drew.heap[W.heap.size + 1 + 1]? = some c ∧
    ((((W.alloc a).alloc b).alloc c).alloc d).drew.heap[W.heap.size + 1 + 1 + 1]? = some d ∧ Below W.heap.size W ((((W.alloc a).alloc b).alloc c).alloc d).drew := by
  have s1 : (W.alloc a).heap.size = W.heap.size + 1 := by simp
  have s2 : ((W.alloc a).alloc b).heap.size = W.heap.size + 1 + 1 := by simp
  have s3 : (((W.alloc a).alloc b).alloc c).heap.size = W.heap.size + 1 + 1 + 1 := by simp
  have h0 := heap_alloc_new W a
  have h1 := heap_alloc_new (W.alloc a) b
  have h2 := heap_alloc_new ((W.alloc a).alloc b) c
  have h3 := heap_alloc_new (((W.alloc a).alloc b).alloc c) d
  rw [s1] at h1
  rw [s2] at h2
  rw [s3] at h3
  refine ⟨?_, ?_, ?_, h3, ((((Below.refl _ _).alloc (Nat.le_refl _) _).alloc (by rw [s1]; omega) _).alloc (by rw [s2]; omega) _ |>.alloc (by rw [s3]; omega) _).drew⟩
  · exact ((below_alloc _ d).block _ (by rw [s3]; omega)).trans (((below_alloc _ c).block _ (by rw [s2]; omega)).trans (((below_alloc _ b).block _ (by rw [s1]; omega)).trans h0))
  · exact ((below_alloc _ d).block _ (by rw [s3]; omega)).trans (((below_alloc _ c).block _ (by rw [s2]; omega)).trans h1)
  · exact ((below_alloc _ d).block _ (by rw [s3]; omega)).trans h2

set_option maxHeartbeats 1000000 in
theorem so_lay_nil (s : ByteArray) (w : World) :
    Calls Tryz.prog 63 #[.pointer none, .string s] w fun e w' => e = .returned (.pointer none) ∧ w' = w := by
  go_enter Tryz.func63, Tryz.ntmps63
  go_wp2_with fail
  go_ret
  exact ⟨rfl, rfl⟩
set_option maxHeartbeats 1000000 in
theorem so_lay_long (cb : Nat) (s : ByteArray) (w : World) (hs : 1024 < s.size) :
    Calls Tryz.prog 63 #[.pointer (some ⟨cb, 0, none⟩), .string s] w fun e w' => e = .returned (.pointer none) ∧ w' = w := by
  go_enter Tryz.func63, Tryz.ntmps63
  go_wp2_with fail
  go_ret
  exact ⟨rfl, rfl⟩

set_option maxHeartbeats 8000000 in
set_option maxRecDepth 100000 in
theorem so_lay (c : Value) (least : Int) (rs : List (ByteArray × ByteArray)) (As : List (List St)) (A : List St) (s : ByteArray) (w : World) (h : CkL w c least rs As) (hA : As[1]? = some A) (hn : s.size ≤ 1024) :
    Calls Tryz.prog 63 #[c, .string s] w fun e w' => ∃ tb ge gf gw es G, e = .returned (.pointer (some ⟨tb, 0, none⟩)) ∧ TblS w w' s.size tb ge gf gw es (fun j => (fewF s.size (endsOf A least s.data.toList) s.size j : Int)) G ∧ EndsOK w' ge gf gw s.size s.size (endsOf A least s.data.toList) es := by
  obtain ⟨cb, hcb⟩ : ∃ cb, c = .pointer (some ⟨cb, 0, none⟩) := by
    obtain ⟨cb, _, _, _, _, _, _, _, hc, _⟩ := h
    exact ⟨cb, hc⟩
  subst hcb
  have hm : A ∈ As := List.mem_of_getElem? hA
  obtain ⟨hsh, hsl⟩ : shapeB A = true ∧ Slim A := by
    obtain ⟨_, _, _, _, _, _, _, _, _, _, _, _, ha⟩ := h
    exact ha A hm
  have HLow := Lib.hid (shape_low hsh).1
  have HSl := Lib.hid hsl
  have HA1 := Lib.hid hA
  clear hm hsh hsl hA
  have HB := Lib.hid (so_Book _ least rs As w h)
  clear h
  have hm1 := fun W => run_make_row' (P := Tryz.prog) 138 72 (.slice none 0 0) 24 Tryz.underlying138 rows_row rfl .i64 .i64 s.size (by omega) (by omega) W
  have hm2 := fun W => run_make_row' (P := Tryz.prog) 72 3 (.int .i64 0) 8 Tryz.underlying72 ints_row rfl .i64 .i64 (s.size + 1) (by omega) (by omega) W
  rw [show ((s.size + 1 : Nat) : Int) = (s.size : Int) + 1 from rfl] at hm2
  go_enter Tryz.func63, Tryz.ntmps63
  go_wp2_with fail
  refine HB.out.mono ?_
  rintro e w1 ⟨tt, R, rm, rk, U0, a0, d0, U1, a1, d1, U2, a2, d2, U3, a3, d3, rfl, b1, hsec⟩
  obtain ⟨W2, hW2⟩ : ∃ W2, w1.alloc (.cells #[.int .i64 least, .string tt, .slice R rm rk, .slice U0 a0 d0, .slice U1 a1 d1, .slice U2 a2 d2, .slice U3 a3 d3] 49) = W2 := ⟨_, rfl⟩
  have HW2 := Lib.hid hW2
  have HB2 : Hid (Below w.heap.size w W2) := Lib.hid (by rw [← hW2]; exact b1.alloc b1.size _)
  have HBx : Hid (W2.heap[w1.heap.size]? = some (.cells #[.int .i64 least, .string tt, .slice R rm rk, .slice U0 a0 d0, .slice U1 a1 d1, .slice U2 a2 d2, .slice U3 a3 d3] 49 (0, 0))) := Lib.hid (by rw [← hW2]; exact heap_alloc_new w1 _)
  have HAut : Hid (AutAt W2 AllB (.slice U1 a1 d1) A) := Lib.hid (by
    obtain ⟨h1, h2⟩ := List.getElem?_eq_some_iff.1 HA1.out
    have h3 := hsec 1 h1
    rw [h2] at h3
    rw [← hW2]
    exact h3.keep (below_alloc w1 _))
  clear hW2 b1 hsec
  dsimp only
  go_upto_region 5 with fail
  rw [HW2.out]
  go_cut [7] from 22 to 31 (fun s7 W => ∃ tb ge gf gw, s7 = .pointer (some ⟨tb, 0, none⟩) ∧ Hid (TblS W2 W s.size tb ge gf gw (madeCells #[Value.slice none 0 0] s.size).toList (fun _ => 0) (fun _ => 0)))
  case first =>
    go_region
    all_goals
      go_wp2_with fail
      go_meet
      case rel =>
        obtain ⟨h0, h1, h2, h3, hb⟩ := four_alloc W2 _ _ _ _
        refine ⟨_, _, _, _, rfl, Lib.hid (tbl_new hb ?e1 ?e2 ?e3 h3 ?lo ?ne)⟩
        case e1 => first | exact h0 | exact h1 | exact h2
        case e2 => first | exact h0 | exact h1 | exact h2
        case e3 => first | exact h0 | exact h1 | exact h2
        case lo => omega
        case ne => omega
  case rest =>
    obtain ⟨tb, ge, gf, gw, rfl, HT0⟩ := hcut
    obtain ⟨c0, c1, c2⟩ := HT0.out.t0
    have cw := HT0.out.ways.cell s.size (Nat.le_refl _)
    have fw := HT0.out.ways.fz s.size
    obtain ⟨W3, hW3⟩ : ∃ W3, wc.setCell ⟨gw, s.size, none⟩ (.int .i64 1) = W3 := ⟨_, rfl⟩
    have HT3 := Lib.hid (HT0.out.setW s.size 1)
    rw [hW3] at HT3
    have HW3 := Lib.hid hW3
    clear hW3
    go_wp2_with fail
    rw [HW3.out]
    clear c0 c1 c2 cw fw
    obtain ⟨E, hE⟩ : ∃ E, endsOf A least s.data.toList = E := ⟨_, rfl⟩
    have HE := Lib.hid hE
    have HEb : Hid (∀ i, i ≤ s.size → ∀ k ∈ E i, i < k ∧ k ≤ s.size) := Lib.hid fun i hi k hk => by
      rw [← hE] at hk
      have := endsOf_bd (by rw [len_toList]; exact hi) hk
      rw [len_toList] at this
      exact this
    have HPc : Hid (∀ (W : World) (i : Nat), Below W2.heap.size W2 W → i ≤ s.size → Calls Tryz.prog 88 #[.slice U1 a1 d1, .string s, .int .i64 i, .int .i64 least] W fun e w' => ∃ P c, e = .returned (.slice P (E i).length c) ∧ Own W w' 3 1 (.slice P (E i).length c) (E i).length (intsV (E i))) := Lib.hid fun W i hb hi => by
      have := so_pieces least _ A s i W (HAut.out.keep hb) HLow.out HSl.out hi hn
      rw [hE] at this
      exact this
    clear hE
    go_loopw [8] (fun iv W => ∃ (m : Nat) (es : List Value) (G : Nat → Int), m ≤ s.size ∧ iv = .int .i64 ((s.size : Int) - 1 - (m : Int)) ∧ Hid (TblS W2 W s.size tb ge gf gw es (fun j => (fewF s.size E m j : Int)) G) ∧ Hid (EndsOK W ge gf gw s.size m E es) ∧ Hid (∀ j, 0 ≤ G j ∧ G j ≤ 1099511627777)) (fun iv _ => (intOf iv + 1).toNat)
    case atStart =>
      refine ⟨0, _, _, Nat.zero_le _, by simp, HT3, Lib.hid (fun j h1 h2 => ?_), Lib.hid (fun j => ?_)⟩
      · have := HT3.out.len
        omega
      · split <;> omega
    case round =>
      obtain ⟨m, es, G, hm, rfl, HT, HO, HG⟩ := hrel
      by_cases hlt : m < s.size
      · obtain ⟨i, hi⟩ : ∃ i : Nat, s.size - 1 - m = i := ⟨_, rfl⟩
        have hiI : (s.size : Int) - 1 - (m : Int) = (i : Int) := by omega
        have hin : i < s.size := by omega
        have HIm := Lib.hid (And.intro hi hlt)
        rw [hiI]
        have hie : i < es.length := by rw [HT.out.len]; exact hin
        obtain ⟨t0, t1, t2⟩ := HT.out.t0
        obtain ⟨e0, f0⟩ := HT.out.e i hie
        have hbx := (HT.out.below.block _ (block_lt HBx.out)).trans HBx.out
        obtain ⟨x0, -, -, -, x4, -, -⟩ := cells_seven hbx
        have hte := HT.out.te
        have hbe : w1.heap.size ≠ ge := by have := HT.out.lo.2.1; have := block_lt HBx.out; omega
        have HX : Hid (∀ W', Below wr.heap.size wr W' → W'.cell? ⟨tb, 0, none⟩ = some (.slice (some ⟨ge, 0, none⟩) s.size s.size) ∧ W'.cell? ⟨w1.heap.size, 4, none⟩ = some (.slice U1 a1 d1) ∧ W'.cell? ⟨w1.heap.size, 0, none⟩ = some (.int .i64 least)) := Lib.hid fun W' hb =>
          ⟨(hb.cell (World.block_lt_of_cell? wr _ t0)).trans t0, (hb.cell (World.block_lt_of_cell? wr _ x4)).trans x4, (hb.cell (World.block_lt_of_cell? wr _ x0)).trans x0⟩
        have HE0 := Lib.hid e0
        have hic : (i : Int) < (s.size : Int) := by omega
        have hi0 : (0 : Int) ≤ (i : Int) := by omega
        clear hbx hiI hi
        go_wp2_with fail
        refine wp_region_held_drew (S := fun W' => W'.cell? ⟨tb, 0, none⟩ = some (.slice (some ⟨ge, 0, none⟩) s.size s.size) ∧ W'.cell? ⟨w1.heap.size, 4, none⟩ = some (.slice U1 a1 d1) ∧ W'.cell? ⟨w1.heap.size, 0, none⟩ = some (.int .i64 least)) (by kernel_rfl) ?_ (fun hHeld => ?_)
        · exact HX.out _ (Below.refl _ _).drew
        refine takeH (i := 0) (d := some 44) (v := ?_) rfl rfl (by kernel_rfl) (by kernel_rfl) (by kernel_rfl) (fun _ _ _ h => h) (Or.inl ⟨by kernel_rfl, ?_⟩) hHeld ?_
        rotate_left
        · intro w hSw; (try dsimp only at hSw); go_simp; try with_reducible rfl
        try simp only [put_norm]
        refine takeH (i := 1) (d := some 45) (v := ?_) rfl rfl (by kernel_rfl) (by kernel_rfl) (by kernel_rfl) (fun _ _ _ h => h) (Or.inl ⟨by kernel_rfl, ?_⟩) hHeld ?_
        rotate_left
        · intro w hSw; (try dsimp only at hSw); go_simp; try with_reducible rfl
        try simp only [put_norm]
        refine takeH (i := 2) (d := some 46) (v := ?_) rfl rfl (by kernel_rfl) (by kernel_rfl) (by kernel_rfl) (fun _ _ _ h => h) (Or.inl ⟨by kernel_rfl, ?_⟩) hHeld ?_
        rotate_left
        · intro w hSw; (try dsimp only at hSw); go_simp; try with_reducible rfl
        try simp only [put_norm]
        refine takeH (i := 3) (d := some 47) (v := ?_) rfl rfl (by kernel_rfl) (by kernel_rfl) (by kernel_rfl) (fun _ _ _ h => h) (Or.inl ⟨by kernel_rfl, ?_⟩) hHeld ?_
        rotate_left
        · intro w hSw; (try dsimp only at hSw); go_simp; try with_reducible rfl
        try simp only [put_norm]
        refine takeH (i := 4) (d := some 48) (v := ?_) rfl rfl (by kernel_rfl) (by kernel_rfl) (by kernel_rfl) (fun _ _ _ h => h) (Or.inl ⟨by kernel_rfl, ?_⟩) hHeld ?_
        rotate_left
        · intro w hSw; (try dsimp only at hSw); go_simp; try with_reducible rfl
        try simp only [put_norm]
        refine takeH (i := 5) (d := some 49) (v := ?_) rfl rfl (by kernel_rfl) (by kernel_rfl) (by kernel_rfl) (fun _ _ _ h => h) (Or.inl ⟨by kernel_rfl, ?_⟩) hHeld ?_
        rotate_left
        · intro w hSw; (try dsimp only at hSw); go_simp; try with_reducible rfl
        try simp only [put_norm]
        refine takeH (i := 6) (d := some 50) (v := ?_) rfl rfl (by kernel_rfl) (by kernel_rfl) (by kernel_rfl) (fun _ _ _ h => h) (Or.inl ⟨by kernel_rfl, ?_⟩) hHeld ?_
        rotate_left
        · intro w hSw; (try dsimp only at hSw); go_simp; try with_reducible rfl
        try simp only [put_norm]
        refine takeH (i := 7) (d := some 51) (v := ?_) rfl rfl (by kernel_rfl) (by kernel_rfl) (by kernel_rfl) (fun _ _ _ h => h) (Or.inl ⟨by kernel_rfl, ?_⟩) hHeld ?_
        rotate_left
        · intro w hSw; (try dsimp only at hSw); go_simp; try with_reducible rfl
        try simp only [put_norm]
        refine takeH (i := 8) (d := some 52) (v := ?_) rfl rfl (by kernel_rfl) (by kernel_rfl) (by kernel_rfl) (fun _ _ _ h => h) (Or.inl ⟨by kernel_rfl, ?_⟩) hHeld ?_
        rotate_left
        · intro w hSw; (try dsimp only at hSw); go_simp; try with_reducible rfl
        try simp only [put_norm]
        refine takeH (i := 9) (d := some 53) (v := ?_) rfl rfl (by kernel_rfl) (by kernel_rfl) (by kernel_rfl) (fun _ _ _ h => h) (Or.inl ⟨by kernel_rfl, ?_⟩) hHeld ?_
        rotate_left
        · intro w hSw; (try dsimp only at hSw); go_simp; try with_reducible rfl
        try simp only [put_norm]
        refine takeH (i := 10) (d := some 54) (v := ?_) rfl rfl (by kernel_rfl) (by kernel_rfl) (by kernel_rfl) (fun _ _ _ h => h) (Or.inl ⟨by kernel_rfl, ?_⟩) hHeld ?_
        rotate_left
        · intro w hSw; (try dsimp only at hSw); go_simp; try with_reducible rfl
        try simp only [put_norm]
        refine takeH (i := 11) (d := some 55) (v := ?_) rfl rfl (by kernel_rfl) (by kernel_rfl) (by kernel_rfl) (fun _ _ _ h => h) (Or.inl ⟨by kernel_rfl, ?_⟩) hHeld ?_
        rotate_left
        · intro w hSw; (try dsimp only at hSw); go_simp; try with_reducible rfl
        try simp only [put_norm]
        refine wpAnyH_ready (rs := [12]) (by kernel_rfl) (by simp) ?_
        refine AllReadyH.cons rfl (fun K hK => ?_) AllReadyH.nil
        go_simp
        refine (HPc.out wr.drew i HT.out.below.drew (by omega)).mono ?_
        rintro e w7 ⟨P, cp, rfl, ho7⟩
        have HB7 : Hid (Below wr.heap.size wr w7) := Lib.hid ((Below.refl _ _).drew.trans ho7.below)
        have HO7 := Lib.hid ho7
        have e7 := (HB7.out.cell (World.block_lt_of_cell? wr _ HE0.out)).trans HE0.out
        have f7 := ((HT.out.keep HB7.out).e i hie).2
        have HQ7 : Hid (∀ v, (w7.setCell ⟨ge, i, none⟩ v).cell? ⟨tb, 0, none⟩ = some (.slice (some ⟨ge, 0, none⟩) s.size s.size) ∧ (w7.setCell ⟨ge, i, none⟩ v).cell? ⟨w1.heap.size, 4, none⟩ = some (.slice U1 a1 d1) ∧ (w7.setCell ⟨ge, i, none⟩ v).cell? ⟨w1.heap.size, 0, none⟩ = some (.int .i64 least)) := Lib.hid fun v => by
          obtain ⟨q1, q2, q3⟩ := HX.out w7 HB7.out
          have k : ∀ b j, b ≠ ge → (w7.setCell ⟨ge, i, none⟩ v).cell? ⟨b, j, none⟩ = w7.cell? ⟨b, j, none⟩ := fun b j hb => World.cell?_of_block (heap_setCell_other w7 ⟨ge, i, none⟩ b v hb)
          exact ⟨(k _ _ hte).trans q1, (k _ _ hbe).trans q2, (k _ _ hbe).trans q3⟩
        clear ho7
        refine hK.out _ _ ?_ (fun hHeld => ?_)
        · exact HX.out w7 HB7.out
        clear hK K
        refine takeH (i := 13) (d := some 57) (v := ?_) rfl rfl (by kernel_rfl) (by kernel_rfl) (by kernel_rfl) (fun _ _ _ h => h) (Or.inl ⟨by kernel_rfl, ?_⟩) hHeld ?_
        rotate_left
        · intro w hSw; (try dsimp only at hSw); go_simp; try with_reducible rfl
        try simp only [put_norm]
        refine wpAnyH_ready (rs := [14]) (by kernel_rfl) (by simp) ?_
        refine AllReadyH.cons rfl (fun K hK => ?_) AllReadyH.nil
        go_simp
        refine hK.out _ _ ?_ (fun hHeld => ?_)
        · exact HQ7.out _
        clear hK K
        refine wpAnyH_done (by kernel_rfl) ?_ _
        obtain ⟨W8, hW8⟩ : ∃ W8, w7.setCell ⟨ge, i, none⟩ (.slice P (E i).length cp) = W8 := ⟨_, rfl⟩
        have HT8 := Lib.hid ((HT.out.keep HB7.out).setE i (.slice P (E i).length cp))
        have HInt : Hid (IntsAt W8 (NT ge gf gw) (.slice P (E i).length cp) (E i)) := Lib.hid (by
          rw [← hW8]
          refine ((IntsAt.of_own HO7.out.own).mono (q := NT ge gf gw) (fun b hb => ?_)).kept ((Kept.refl [ge] w7).set _ _ _ (.inl (by simp))) (by intro k hk hh; simp at hk; exact hh.1 hk)
          have hb : wr.heap.size ≤ b := hb
          have q1 := block_lt HT.out.ends
          have q2 := HT.out.few.lt_
          have q3 := HT.out.ways.lt_
          exact ⟨by omega, by omega, by omega⟩)
        have HO8 : Hid (EndsOK W8 ge gf gw s.size (m + 1) E (es.set i (.slice P (E i).length cp))) := Lib.hid (fun j hj hmj => by
          by_cases e : j = i
          · subst e
            rw [List.getElem_set_self]; exact HInt.out
          · rw [List.getElem_set_ne (fun h => e h.symm), ← hW8]
            exact ((HO.out j (by simpa using hj) (by have := HIm.out; omega)).kept (E := []) (Kept.of_below HB7.out) (by simp)).kept ((Kept.refl [ge] w7).set _ _ _ (.inl (by simp))) (by intro k hk hh; simp at hk; exact hh.1 hk))
        rw [hW8] at HT8 ⊢
        have hlE : (E i).length ≤ 9223372036854775807 := by
          obtain ⟨_, _, _, hc, _⟩ := HInt.out
          unfold maxLen at hc
          omega
        have HIe : Hid (i < (es.set i (.slice P (E i).length cp)).length) := Lib.hid (by rw [List.length_set]; exact hie)
        have e8 : W8.cell? ⟨ge, i, none⟩ = some (.slice P (E i).length cp) := by
          have := (HT8.out.e i HIe.out).1
          rw [this]; simp
        obtain ⟨t08, t18, t28⟩ := HT8.out.t0
        have HIe2 := Lib.hid hie
        clear hW8 e0 f0 x0 x4 e7 f7 t0 t1 t2 hHeld HQ7 HE0 hie
        go_wp2_with fail
        clear e8 t08 t18 t28
        go_loopw [66] (fun qv W => ∃ (q : Nat) (G : Nat → Int), q ≤ (E i).length ∧ qv = .int .i64 q ∧ Hid (TblS W2 W s.size tb ge gf gw (es.set i (.slice P (E i).length cp)) (fun j => if j = i then ((((E i).take q).foldl (stepK s.size i (fewF s.size E m)) 0 : Nat) : Int) else (fewF s.size E m j : Int)) G) ∧ Hid (EndsOK W ge gf gw s.size (m + 1) E (es.set i (.slice P (E i).length cp))) ∧ Hid (∀ j, 0 ≤ G j ∧ G j ≤ 1099511627777)) (fun qv _ => (E i).length - (intOf qv).toNat)
        case atStart =>
          refine ⟨0, G, Nat.zero_le _, rfl, Lib.hid (HT8.out.congrF (fun j _ => ?_)), HO8, HG⟩
          by_cases e : j = i
          · subst e
            rw [if_pos rfl, fewF_zero m j hm (by have := HIm.out; omega)]; rfl
          · rw [if_neg e]
        case round =>
          obtain ⟨q, G, hq, rfl, HT, HO, HG⟩ := hrel
          by_cases hql : q < (E i).length
          · obtain ⟨k, hk⟩ : ∃ k, (E i)[q]'hql = k := ⟨_, rfl⟩
            obtain ⟨hik, hkn⟩ := HEb.out i (by omega) k (by rw [← hk]; exact List.getElem_mem hql)
            obtain ⟨P', c', hv, -, h0⟩ := HO.out i HIe.out (by have := HIm.out; omega)
            rw [List.getElem_set_self] at hv
            cases hv
            obtain ⟨gI, rfl, hgI, -, hcI⟩ := h0.resolve_left (by omega)
            have ck := hcI q hql
            rw [hk] at ck
            obtain ⟨t0, t1, t2⟩ := HT.out.t0
            have cfk := HT.out.few.cell k hkn
            have cfi := HT.out.few.cell i (by omega)
            have ffi := HT.out.few.fz i
            have cwk := HT.out.ways.cell k hkn
            have cwi := HT.out.ways.cell i (by omega)
            have fwi := HT.out.ways.fz i
            rw [if_neg (by omega)] at cfk
            rw [if_pos rfl] at cfi
            have HFold := Lib.hid (foldl_snoc (n := s.size) (i := i) (f := fewF s.size E m) (E i) q hql)
            rw [hk] at HFold
            obtain ⟨a, ha⟩ : ∃ a, ((E i).take q).foldl (stepK s.size i (fewF s.size E m)) 0 = a := ⟨_, rfl⟩
            have hab : a ≤ m + 1 := by rw [← ha]; exact fold_bd (fun k => fewF_bd m k) _ 0 (Nat.zero_le _)
            rw [ha] at cfi HFold
            simp only [ha] at HT
            obtain ⟨fk, hfk⟩ : ∃ fk, fewF s.size E m k = fk := ⟨_, rfl⟩
            have hfb : fk ≤ m := by rw [← hfk]; exact fewF_bd m k
            rw [hfk] at cfk
            have HFk := Lib.hid hfk
            have hmn : m ≤ 1024 := by have := HIm.out; omega
            have hgk := HG.out k
            have hgi := HG.out i
            have hnI : (k : Int) ≤ (s.size : Int) := by omega
            clear hcI h0 hk ha hfk hgk hgi cwk cwi fwi
            go_upto_region 14 with fail
            go_cut [91] from 70 to 91 (fun s91 W => s91 = .bool (decide (¬ okK s.size i (fewF s.size E m) k)) ∧ W = wr)
            case first =>
              by_cases hA : k < s.size ∧ fk = 0
              · obtain ⟨h1, h2⟩ := hA
                have q1 : (k : Int) < (s.size : Int) := by omega
                have q2 : ((fk : Int) == 0) = true := by rw [beq_iff_eq]; omega
                have HD : Hid (decide (¬ okK s.size i (fewF s.size E m) k) = true) := Lib.hid (decide_eq_true (fun h => h (.inl ⟨h1, by rw [HFk.out]; exact h2⟩)))
                clear h2
                go_wp2_with fail
                go_meet
                case rel => exact ⟨by rw [HD.out], rfl⟩
              · by_cases hB : i = 0 ∧ k = s.size
                · obtain ⟨h1, h2⟩ := hB
                  have q1 : ¬ ((k : Int) < (s.size : Int)) := by omega
                  have q2 : ((i : Int) == 0) = true := by rw [beq_iff_eq]; omega
                  have q3 : ((k : Int) == (s.size : Int)) = true := by rw [beq_iff_eq]; omega
                  have HD : Hid (decide (¬ okK s.size i (fewF s.size E m) k) = true) := Lib.hid (decide_eq_true (fun h => h (.inr ⟨h1, h2⟩)))
                  clear h1 h2 hA
                  go_wp2_with fail
                  go_meet
                  case rel => exact ⟨by rw [HD.out], rfl⟩
                · have HD : Hid (decide (¬ okK s.size i (fewF s.size E m) k) = false) := Lib.hid (decide_eq_false (fun h => h (by
                    unfold okK
                    rw [HFk.out]
                    rintro (h | h)
                    · exact hA h
                    · exact hB h)))
                  by_cases h1 : k < s.size
                  · have q1 : (k : Int) < (s.size : Int) := by omega
                    have q2 : ((fk : Int) == 0) = false := by rw [beq_eq_false_iff_ne]; omega
                    have q4 : ((k : Int) == (s.size : Int)) = false := by rw [beq_eq_false_iff_ne]; omega
                    by_cases h2 : i = 0
                    · have q3 : ((i : Int) == 0) = true := by rw [beq_iff_eq]; omega
                      clear h2 hA hB
                      go_wp2_with fail
                      go_meet
                      case rel => exact ⟨by rw [HD.out], rfl⟩
                    · have q3 : ((i : Int) == 0) = false := by rw [beq_eq_false_iff_ne]; omega
                      clear hA hB
                      go_wp2_with fail
                      go_meet
                      case rel => exact ⟨by rw [HD.out], rfl⟩
                  · have q1 : ¬ ((k : Int) < (s.size : Int)) := by omega
                    have q3 : ((i : Int) == 0) = false := by rw [beq_eq_false_iff_ne]; omega
                    clear hA hB
                    go_wp2_with fail
                    go_meet
                    case rel => exact ⟨by rw [HD.out], rfl⟩
            case rest =>
              obtain ⟨rfl, hwc⟩ := hcut
              rw [hwc]
              clear hwc
              by_cases hok : okK s.size i (fewF s.size E m) k
              · rw [decide_eq_false (p := ¬ okK s.size i (fewF s.size E m) k) (fun h => h hok)]
                have HOk := Lib.hid hok
                clear hok
                obtain ⟨B, hB⟩ : ∃ B, decide (a = 0 ∨ fk + 1 ≤ a) = B := ⟨_, rfl⟩
                have HBB := Lib.hid hB
                clear hB
                go_upto_region 16 with fail
                go_cut [118] from 100 to 118 (fun s118 W => s118 = .bool B ∧ W = wr)
                case first =>
                  by_cases ha0 : a = 0
                  · have q2 : ((a : Int) == 0) = true := by rw [beq_iff_eq]; omega
                    have HD : Hid (decide (a = 0 ∨ fk + 1 ≤ a) = true) := Lib.hid (decide_eq_true (.inl ha0))
                    clear ha0
                    go_wp2_with fail
                    go_meet
                    case rel => exact ⟨by rw [← HBB.out, HD.out], rfl⟩
                  · have q2 : ((a : Int) == 0) = false := by rw [beq_eq_false_iff_ne]; omega
                    by_cases hle : fk + 1 ≤ a
                    · have q3 : (fk : Int) + 1 ≤ (a : Int) := by omega
                      have HD : Hid (decide (a = 0 ∨ fk + 1 ≤ a) = true) := Lib.hid (decide_eq_true (.inr hle))
                      clear ha0
                      go_wp2_with fail
                      go_meet
                      case rel => exact ⟨by rw [← HBB.out, HD.out], rfl⟩
                    · have q3 : ¬ ((fk : Int) + 1 ≤ (a : Int)) := by omega
                      have HD : Hid (decide (a = 0 ∨ fk + 1 ≤ a) = false) := Lib.hid (decide_eq_false (by omega))
                      clear ha0
                      go_wp2_with fail
                      go_meet
                      case rel => exact ⟨by rw [← HBB.out, HD.out], rfl⟩
                case rest =>
                obtain ⟨rfl, hwc⟩ := hcut
                rw [hwc]
                clear hwc
                obtain ⟨a2, ha2⟩ : ∃ a2, stepK s.size i (fewF s.size E m) a k = a2 := ⟨_, rfl⟩
                have HA2 := Lib.hid ha2
                clear ha2
                go_upto_if 118 with fail
                go_cut [] from 119 to 125 (fun W => Hid (TblS W2 W s.size tb ge gf gw (es.set i (.slice (some ⟨gI, 0, none⟩) (E i).length cp)) (fun j => if j = i then (a2 : Int) else (fewF s.size E m j : Int)) G) ∧ Hid (EndsOK W ge gf gw s.size (m + 1) E (es.set i (.slice (some ⟨gI, 0, none⟩) (E i).length cp))))
                case first =>
                  cases hB : B
                  rotate_left
                  · have hs : a = 0 ∨ fk + 1 ≤ a := of_decide_eq_true (HBB.out.trans hB)
                    have HE2 : Hid (a2 = fk + 1) := Lib.hid (by
                      have := HA2.out
                      unfold stepK at this
                      rw [if_pos HOk.out, HFk.out, if_pos hs] at this
                      exact this.symm)
                    clear hs
                    subst hB
                    go_wp2_with fail
                    go_meet
                    case rel =>
                      refine ⟨Lib.hid ((HT.out.setF i ((fk : Int) + 1)).congrF (fun j _ => ?_)), Lib.hid (HO.out.kept ((Kept.refl [gf] wr).set _ _ _ (.inl (by simp))) (by simp))⟩
                      by_cases e : j = i
                      · rw [if_pos e, if_pos e, HE2.out]; rfl
                      · rw [if_neg e, if_neg e, if_neg e]
                  · have hs : ¬ (a = 0 ∨ fk + 1 ≤ a) := of_decide_eq_false (HBB.out.trans hB)
                    have HE2 : Hid (a2 = a) := Lib.hid (by
                      have := HA2.out
                      unfold stepK at this
                      rw [if_pos HOk.out, HFk.out, if_neg hs] at this
                      exact this.symm)
                    clear hs
                    subst hB
                    go_wp2_with fail
                    go_meet
                    case rel => exact ⟨by rw [HE2.out]; exact HT, HO⟩
                case rest =>
                obtain ⟨HT9, HO9⟩ := hcut
                have t29 := HT9.out.t0.2.2
                have cwk9 := HT9.out.ways.cell k hkn
                have cwi9 := HT9.out.ways.cell i (by omega)
                have fwi9 := HT9.out.ways.fz i
                obtain ⟨gk, hgke⟩ : ∃ gk, G k = gk := ⟨_, rfl⟩
                obtain ⟨gi, hgie⟩ : ∃ gi, G i = gi := ⟨_, rfl⟩
                have hgk := HG.out k
                have hgi := HG.out i
                rw [hgke] at cwk9 hgk
                rw [hgie] at cwi9 hgi
                have HX9 : Hid (wc.drew.cell? ⟨tb, 2, none⟩ = some (.slice (some ⟨gw, 0, none⟩) (s.size + 1) (s.size + 1)) ∧ wc.drew.cell? ⟨gw, k, none⟩ = some (.int .i64 gk)) := Lib.hid ⟨t29, cwk9⟩
                have HQ9 : Hid (∀ v, (wc.drew.setCell ⟨gw, i, none⟩ v).cell? ⟨tb, 2, none⟩ = some (.slice (some ⟨gw, 0, none⟩) (s.size + 1) (s.size + 1)) ∧ (wc.drew.setCell ⟨gw, i, none⟩ v).cell? ⟨gw, k, none⟩ = some (.int .i64 gk)) := Lib.hid fun v => by
                  refine ⟨(World.cell?_of_block (heap_setCell_other wc.drew ⟨gw, i, none⟩ tb v (HT9.out.ways.bk HT9.out.tab (by decide)))).trans t29, ?_⟩
                  rw [cell_set_ne wc.drew gw (by omega : k ≠ i)]
                  exact cwk9
                have hiI2 : (i : Int) < (s.size : Int) + 1 := by omega
                have hkI2 : (k : Int) < (s.size : Int) + 1 := by omega
                have hk0 : (0 : Int) ≤ (k : Int) := by omega
                have hi0 : (0 : Int) ≤ (i : Int) := by omega
                clear hgke hgie
                go_wp2_with fail
                refine wp_region_held_drew (S := fun W' => W'.cell? ⟨tb, 2, none⟩ = some (.slice (some ⟨gw, 0, none⟩) (s.size + 1) (s.size + 1)) ∧ W'.cell? ⟨gw, k, none⟩ = some (.int .i64 gk)) (by kernel_rfl) ?_ (fun hHeld => ?_)
                · exact HX9.out
                refine takeH (i := 0) (d := some 126) (v := ?_) rfl rfl (by kernel_rfl) (by kernel_rfl) (by kernel_rfl) (fun _ _ _ h => h) (Or.inl ⟨by kernel_rfl, ?_⟩) hHeld ?_
                rotate_left
                · intro w hSw; (try dsimp only at hSw); go_simp; try with_reducible rfl
                try simp only [put_norm]
                refine takeH (i := 1) (d := some 127) (v := ?_) rfl rfl (by kernel_rfl) (by kernel_rfl) (by kernel_rfl) (fun _ _ _ h => h) (Or.inl ⟨by kernel_rfl, ?_⟩) hHeld ?_
                rotate_left
                · intro w hSw; (try dsimp only at hSw); go_simp; try with_reducible rfl
                try simp only [put_norm]
                refine takeH (i := 2) (d := some 128) (v := ?_) rfl rfl (by kernel_rfl) (by kernel_rfl) (by kernel_rfl) (fun _ _ _ h => h) (Or.inl ⟨by kernel_rfl, ?_⟩) hHeld ?_
                rotate_left
                · intro w hSw; (try dsimp only at hSw); go_simp; try with_reducible rfl
                try simp only [put_norm]
                refine takeH (i := 3) (d := some 129) (v := ?_) rfl rfl (by kernel_rfl) (by kernel_rfl) (by kernel_rfl) (fun _ _ _ h => h) (Or.inl ⟨by kernel_rfl, ?_⟩) hHeld ?_
                rotate_left
                · intro w hSw; (try dsimp only at hSw); go_simp; try with_reducible rfl
                try simp only [put_norm]
                refine takeH (i := 4) (d := some 130) (v := ?_) rfl rfl (by kernel_rfl) (by kernel_rfl) (by kernel_rfl) (fun _ _ _ h => h) (Or.inl ⟨by kernel_rfl, ?_⟩) hHeld ?_
                rotate_left
                · intro w hSw; (try dsimp only at hSw); go_simp; try with_reducible rfl
                try simp only [put_norm]
                refine takeH (i := 5) (d := some 131) (v := ?_) rfl rfl (by kernel_rfl) (by kernel_rfl) (by kernel_rfl) (fun _ _ _ h => h) (Or.inl ⟨by kernel_rfl, ?_⟩) hHeld ?_
                rotate_left
                · intro w hSw; (try dsimp only at hSw); go_simp; try with_reducible rfl
                try simp only [put_norm]
                refine takeH (i := 6) (d := some 132) (v := ?_) rfl rfl (by kernel_rfl) (by kernel_rfl) (by kernel_rfl) (fun _ _ _ h => h) (Or.inl ⟨by kernel_rfl, ?_⟩) hHeld ?_
                rotate_left
                · intro w hSw; (try dsimp only at hSw); go_simp; try with_reducible rfl
                try simp only [put_norm]
                refine takeH (i := 7) (d := some 133) (v := ?_) rfl rfl (by kernel_rfl) (by kernel_rfl) (by kernel_rfl) (fun _ _ _ h => h) (Or.inl ⟨by kernel_rfl, ?_⟩) hHeld ?_
                rotate_left
                · intro w hSw; (try dsimp only at hSw); go_simp; try with_reducible rfl
                try simp only [put_norm]
                refine takeH (i := 8) (d := some 134) (v := ?_) rfl rfl (by kernel_rfl) (by kernel_rfl) (by kernel_rfl) (fun _ _ _ h => h) (Or.inl ⟨by kernel_rfl, ?_⟩) hHeld ?_
                rotate_left
                · intro w hSw; (try dsimp only at hSw); go_simp; try with_reducible rfl
                try simp only [put_norm]
                refine takeH (i := 9) (d := some 135) (v := ?_) rfl rfl (by kernel_rfl) (by kernel_rfl) (by kernel_rfl) (fun _ _ _ h => h) (Or.inl ⟨by kernel_rfl, ?_⟩) hHeld ?_
                rotate_left
                · intro w hSw; (try dsimp only at hSw); go_simp; try with_reducible rfl
                try simp only [put_norm]
                refine takeH (i := 10) (d := some 136) (v := ?_) rfl rfl (by kernel_rfl) (by kernel_rfl) (by kernel_rfl) (fun _ _ _ h => h) (Or.inl ⟨by kernel_rfl, ?_⟩) hHeld ?_
                rotate_left
                · intro w hSw; (try dsimp only at hSw); go_simp; try with_reducible rfl
                try simp only [put_norm]
                refine takeH (i := 12) (d := some 138) (v := ?_) rfl rfl (by kernel_rfl) (by kernel_rfl) (by kernel_rfl) (fun _ _ _ h => h) (Or.inl ⟨by kernel_rfl, ?_⟩) hHeld ?_
                rotate_left
                · intro w hSw; (try dsimp only at hSw); go_simp; try with_reducible rfl
                try simp only [put_norm]
                refine takeH (i := 13) (d := some 139) (v := ?_) rfl rfl (by kernel_rfl) (by kernel_rfl) (by kernel_rfl) (fun _ _ _ h => h) (Or.inl ⟨by kernel_rfl, ?_⟩) hHeld ?_
                rotate_left
                · intro w hSw; (try dsimp only at hSw); go_simp; try with_reducible rfl
                try simp only [put_norm]
                refine takeH (i := 14) (d := some 140) (v := ?_) rfl rfl (by kernel_rfl) (by kernel_rfl) (by kernel_rfl) (fun _ _ _ h => h) (Or.inl ⟨by kernel_rfl, ?_⟩) hHeld ?_
                rotate_left
                · intro w hSw; (try dsimp only at hSw); go_simp; try with_reducible rfl
                try simp only [put_norm]
                refine takeH (i := 15) (d := some 141) (v := ?_) rfl rfl (by kernel_rfl) (by kernel_rfl) (by kernel_rfl) (fun _ _ _ h => h) (Or.inl ⟨by kernel_rfl, ?_⟩) hHeld ?_
                rotate_left
                · intro w hSw; (try dsimp only at hSw); go_simp; try with_reducible rfl
                try simp only [put_norm]
                refine takeH (i := 16) (d := some 142) (v := ?_) rfl rfl (by kernel_rfl) (by kernel_rfl) (by kernel_rfl) (fun _ _ _ h => h) (Or.inl ⟨by kernel_rfl, ?_⟩) hHeld ?_
                rotate_left
                · intro w hSw; (try dsimp only at hSw); go_simp; try with_reducible rfl
                try simp only [put_norm]
                refine takeH (i := 17) (d := some 143) (v := ?_) rfl rfl (by kernel_rfl) (by kernel_rfl) (by kernel_rfl) (fun _ _ _ h => h) (Or.inl ⟨by kernel_rfl, ?_⟩) hHeld ?_
                rotate_left
                · intro w hSw; (try dsimp only at hSw); go_simp; try with_reducible rfl
                try simp only [put_norm]
                refine takeH (i := 18) (d := some 144) (v := ?_) rfl rfl (by kernel_rfl) (by kernel_rfl) (by kernel_rfl) (fun _ _ _ h => h) (Or.inl ⟨by kernel_rfl, ?_⟩) hHeld ?_
                rotate_left
                · intro w hSw; (try dsimp only at hSw); go_simp; try with_reducible rfl
                try simp only [put_norm]
                refine wpAnyH_ready (rs := [11]) (by kernel_rfl) (by simp) ?_
                refine AllReadyH.cons rfl (fun K hK => ?_) AllReadyH.nil
                go_simp
                refine hK.out _ _ ?_ (fun hHeld => ?_)
                · first | exact HX9.out | exact HQ9.out _
                clear hK K
                refine takeH (i := 19) (d := some 145) (v := ?_) rfl rfl (by kernel_rfl) (by kernel_rfl) (by kernel_rfl) (fun _ _ _ h => h) (Or.inl ⟨by kernel_rfl, ?_⟩) hHeld ?_
                rotate_left
                · intro w hSw; (try dsimp only at hSw); go_simp; try with_reducible rfl
                try simp only [put_norm]
                refine wpAnyH_ready (rs := [20]) (by kernel_rfl) (by simp) ?_
                refine AllReadyH.cons rfl (fun K hK => ?_) AllReadyH.nil
                go_simp
                refine hK.out _ _ ?_ (fun hHeld => ?_)
                · first | exact HX9.out | exact HQ9.out _
                clear hK K
                refine takeH (i := 21) (d := some 147) (v := ?_) rfl rfl (by kernel_rfl) (by kernel_rfl) (by kernel_rfl) (fun _ _ _ h => h) (Or.inl ⟨by kernel_rfl, ?_⟩) hHeld ?_
                rotate_left
                · intro w hSw; (try dsimp only at hSw); go_simp; try with_reducible rfl
                try simp only [put_norm]
                refine wpAnyH_ready (rs := [22]) (by kernel_rfl) (by simp) ?_
                refine AllReadyH.cons rfl (fun K hK => ?_) AllReadyH.nil
                go_simp
                refine hK.out _ _ ?_ (fun hHeld => ?_)
                · first | exact HX9.out | exact HQ9.out _
                clear hK K
                refine wpAnyH_done (by kernel_rfl) ?_ _
                go_wp2_with fail
                refine ⟨⟨q + 1, _, hql, by go_num, Lib.hid (((HT9.out.setW i (min (gi + gk) 1099511627777)).drew).congrF (fun j _ => ?_)), Lib.hid (HO9.out.kept (((Kept.refl [gw] wc).set _ _ _ (.inl (by simp))).drew) (by simp)), Lib.hid (fun j => ?_)⟩, by simp [intOf]; omega⟩
                · by_cases e : j = i
                  · rw [if_pos e, if_pos e, HFold.out, HA2.out]
                  · rw [if_neg e, if_neg e]
                · by_cases e : j = i
                  · rw [if_pos e]
                    omega
                  · rw [if_neg e]
                    exact HG.out j
              · rw [decide_eq_true (p := ¬ okK s.size i (fewF s.size E m) k) hok]
                have HNo := Lib.hid hok
                clear hok
                have HFs : Hid (((E i).take (q + 1)).foldl (stepK s.size i (fewF s.size E m)) 0 = a) := Lib.hid (HFold.out.trans (by unfold stepK; rw [if_neg HNo.out]))
                go_wp2_with fail
                refine ⟨⟨q + 1, G, hql, by go_num, Lib.hid (HT.out.congrF (fun j _ => ?_)), HO, HG⟩, by simp [intOf]; omega⟩
                by_cases e : j = i
                · rw [if_pos e, if_pos e, HFs.out]
                · rw [if_neg e, if_neg e]
          · obtain rfl : q = (E i).length := by omega
            have HFin := Lib.hid (HT.out.congrF (F' := fun j => (fewF s.size E (m + 1) j : Int)) (fun j _ => by
              have hI : s.size - 1 - m = i := HIm.out.1
              rw [List.take_length, fewF]
              dsimp only
              rw [hI]
              by_cases e : j = i
              · rw [if_pos e, if_pos e]; rfl
              · rw [if_neg e, if_neg e]))
            have hi1 : (i : Int) - 1 = (s.size : Int) - 1 - ((m + 1 : Nat) : Int) := by have := HIm.out; omega
            go_wp2_with fail
            refine ⟨⟨m + 1, _, G, HIm.out.2, by push_cast; rfl, HFin, HO, HG⟩, ?_⟩
            have hI := HIm.out
            simp only [intOf]
            omega
      · obtain rfl : m = s.size := by omega
        have HTf := Lib.hid (HT.out.mono HB2.out)
        have hneg : ¬ ((0 : Int) ≤ (s.size : Int) - 1 - (s.size : Int)) := by omega
        go_wp2_with fail
        go_ret
        exact ⟨tb, rfl, ge, gf, gw, es, ⟨G, by rw [HE.out]; exact HTf.out⟩, by rw [HE.out]; exact HO.out⟩
end Go.Proofs.YthfndmpigpphoaaGreat
