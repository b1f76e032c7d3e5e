/-
  LinesEaches walked.
-/
import Derived.Test.YtbhfkhfnljddhaaDoorRows
import Derived.Test.YtbhfkhfnljddhaaDoorSplit3
namespace Go.Proofs.YtbhfkhfnljddhaaDoor
open Go.RowKit Go.Shelf
attribute [local go_sem] Oper.semAt_some

theorem own_slice3 {w : World} {B e size n : Nat} {v : Value} {xs : List Value} (h : w.ownsRow B e size v n xs) : ∃ A cap, v = .slice A n cap := by
  rcases h.2 with ⟨rfl, rfl⟩ | ⟨g, cap, cur, rfl, _⟩
  · exact ⟨_, _, rfl⟩
  · exact ⟨_, _, rfl⟩
theorem own_some3 {w : World} {B e size n : Nat} {v : Value} {xs : List Value} (h : w.ownsRow B e size v n xs) (hn : n ≠ 0) : ∃ g cap, v = .slice (some ⟨g, 0, none⟩) n cap ∧ n ≤ cap := by
  rcases h.2 with ⟨_, h0⟩ | ⟨g, cap, cur, rfl, _, _, hc, _⟩
  · exact absurd h0 hn
  · exact ⟨_, _, rfl, hc⟩
theorem boxed_keep2 {W W' : World} {B t : Nat} {v : Value} (h : Boxed W B t v) (hb : Below W.heap.size W W') : Boxed W' B t v := (hb.block _ h.lt).trans h
/-- What the three turns find. -/
structure EhF (n₀ n₁ : Nat) (s : ByteArray) (stop : Int) (vb : Value) (W : World) : Prop where
  st : Boxed W n₀ 3 (.int .i64 stop)
  re : Boxed W (n₀ + 1) 4 (.bool false)
  bb : Boxed W n₁ 24 vb
  tx : Boxed W (n₁ + 1) 9 (.string s)
  row : W.ownsRow n₀ 9 1 vb (splitS s).length (strV (splitS s))
theorem EhF.keep {n₀ n₁ : Nat} {s : ByteArray} {stop : Int} {vb : Value} {W W' : World} (h : EhF n₀ n₁ s stop vb W) (hb : Below W.heap.size W W') : EhF n₀ n₁ s stop vb W' :=
  ⟨boxed_keep2 h.st hb, boxed_keep2 h.re hb, boxed_keep2 h.bb hb, boxed_keep2 h.tx hb, own_below h.row hb⟩
theorem turn_start (w : World) (v : Value) : Boxed ((w.alloc (.cells #[v] 3)).alloc (.cells #[.int .i64 0] 3)) w.heap.size 3 v ∧ Boxed ((w.alloc (.cells #[v] 3)).alloc (.cells #[.int .i64 0] 3)) (w.heap.size + 1) 3 (.int .i64 0) ∧
    Below w.heap.size w ((w.alloc (.cells #[v] 3)).alloc (.cells #[.int .i64 0] 3)) ∧ ((w.alloc (.cells #[v] 3)).alloc (.cells #[.int .i64 0] 3)).heap.size = w.heap.size + 1 + 1 := by
  have b1 := Boxed.new w 3 v
  have b2 := Boxed.new (w.alloc (.cells #[v] 3)) 3 (.int .i64 0)
  rw [World.size_alloc] at b2
  exact ⟨b1.alloc _, b2, ((Below.refl _ w).alloc (Nat.le_refl _) _).alloc (by simp) _, by simp⟩
theorem each_at (s : ByteArray) (k : Nat) (hk : k < (eachOf s.data.toList).length) (hk' : k < (splitS s).length) : (eachOf s.data.toList)[k] = ((k : Int) + 1, (splitS s)[k]) := by
  have hnum : ∀ (n : Nat) (r : List (List UInt8)) (k : Nat) (h : k < (numbered n r).length) (h' : k < (r.map mkS).length), (numbered n r)[k] = (((n + k : Nat) : Int), (r.map mkS)[k]) := by
    intro n r
    induction r generalizing n with
    | nil => intro k h; simp [numbered] at h
    | cons a r ih =>
      intro k h h'
      cases k with
      | zero => simp [numbered]
      | succ k =>
        have := ih (n + 1) k (by simpa [numbered] using h) (by simpa using h')
        simp only [numbered, List.getElem_cons_succ, List.map_cons]
        rw [this]
        congr 2
        omega
  by_cases hb : 65536 < s.size
  · have : eachOf s.data.toList = [] := by rw [eachOf, if_pos (by rw [len_toList]; exact hb)]
    rw [this] at hk; simp at hk
  · have e1 : eachOf s.data.toList = numbered 1 (linesOf s.data.toList) := by rw [eachOf, if_neg (by rw [len_toList]; exact hb)]
    have e2 : splitS s = (linesOf s.data.toList).map mkS := if_neg hb
    simp only [e1, e2] at hk hk' ⊢
    rw [hnum 1 _ k hk hk']
    congr 1
    omega
theorem each_step (s : ByteArray) (pre : List (Int × ByteArray)) (x : Int × ByteArray) (k : Nat) (hpre : pre <+: eachOf s.data.toList) (hk : pre.length = k) (hlt : pre.length < (eachOf s.data.toList).length) :
    ∀ (hk' : k < (splitS s).length), (pre ++ [x] <+: eachOf s.data.toList) ↔ (x.1 = (k : Int) + 1 ∧ x.2 = (splitS s)[k]) := by
  intro hk'
  subst hk
  have ha := each_at s pre.length hlt hk'
  obtain ⟨r, hr⟩ := hpre
  have hlen : (pre ++ r).length = (eachOf s.data.toList).length := by rw [hr]
  have hx : (eachOf s.data.toList)[pre.length]? = r[0]? := by
    rw [← hr, List.getElem?_append_right (Nat.le_refl _), Nat.sub_self]
  rw [List.getElem?_eq_getElem hlt, ha] at hx
  constructor
  · rintro ⟨r', hr'⟩
    have : (eachOf s.data.toList)[pre.length]? = some x := by rw [← hr']; simp
    rw [List.getElem?_eq_getElem hlt, ha] at this
    injection this with this
    rw [← this]; exact ⟨rfl, rfl⟩
  · rintro ⟨h1, h2⟩
    cases r with
    | nil => simp at hx
    | cons y r =>
      simp at hx
      refine ⟨r, ?_⟩
      rw [← hr]
      have : y = x := by rw [← hx, ← h1, ← h2]
      rw [this]; simp
/-- How the second turn may be left. -/
def Brk (w0 : World) (p : List (Int × ByteArray) → Prop) (c : Code) (pre : List (Int × ByteArray)) (W : World) : Prop :=
  p pre ∨ (c = .exit 2 ∧ ∃ q : Nat, Boxed W w0.heap.size 3 (.int .i64 1) ∧ Boxed W (w0.heap.size + 1) 3 (.int .i64 (q : Nat)) ∧ q ≤ 65536 ∧ Below w0.heap.size w0 W)
theorem brk_own (w0 : World) (p : List (Int × ByteArray) → Prop) (c : Code) {B : Nat} (hB : w0.heap.size ≤ B) : OwnFrom B (Brk w0 p c) := by
  rintro s W W' row hs hg hr
  rcases hs with h | ⟨rfl, q, h1, h2, h3, h4⟩
  · exact .inl h
  · have hno : ∀ (b t : Nat) (v : Value), Boxed W b t v → Boxed W' b t v := fun b t v hb => hb.kept hg (fun e => by
      obtain ⟨_, o, ho, hc⟩ := hr b e.symm
      rw [show W.heap[b]? = _ from hb] at ho; cases ho; cases hc)
    exact .inr ⟨rfl, q, hno _ _ _ h1, hno _ _ _ h2, h3, h4.grown hg h4.size (fun k e => Nat.le_trans hB (hr k e).1)⟩

theorem putObj_other (w : World) (b : Nat) (o : Obj) (k : Nat) (h : k ≠ b) : (w.putObj b o).heap[k]? = w.heap[k]? := by
  rcases Nat.lt_or_ge k w.heap.size with hk | hk
  · exact (grownBy_putObj' w b o).block k hk (fun e => h (by cases e; rfl))
  · have hs : (w.putObj b o).heap.size = w.heap.size := by simp [World.putObj]
    rw [Array.getElem?_eq_none hk, Array.getElem?_eq_none (by rw [hs]; exact hk)]
/-- At the end: the three loops' deferred calls, none of them one; the answer is in its cell. -/
theorem eh_end (w W : World) (D0 D1 D2 : Nat) (tmps : Array Value) (hre : Boxed W (w.heap.size + 1) 4 (.bool false)) (hW : Below w.heap.size w W) (h2 : W.heap[D2]? = some (.deferred (some []))) (h1 : W.heap[D1]? = some (.deferred (some []))) (h0 : W.heap[D0]? = some (.deferred (some [])))
    (hd : w.heap.size + 1 < D0 ∧ D0 < D1 ∧ D1 < D2) (htmp : tmps.getD 4 undef = .pointer (some ⟨w.heap.size + 1, 0, none⟩)) :
    LeavesInM Fence.wide 7 Tryd.prog Tryd.f8 tmps (fun e w' => e = .returned (.bool true) ∧ Below w.heap.size w w') [{ target := .collected D2, args := #[] }, { target := .collected D1, args := #[] }, { target := .collected D0, args := #[] }] .returning (W.setCell ⟨w.heap.size + 1, 0, none⟩ (.bool true)) := by
  obtain ⟨d0, d1, d2⟩ := hd
  have hr := hre.set (.bool true)
  have hb := hW.setCell (p := ⟨w.heap.size + 1, 0, none⟩) (by show w.heap.size ≤ w.heap.size + 1; omega) (.bool true)
  have k2 := (_root_.Go.heap_setCell_other W ⟨w.heap.size + 1, 0, none⟩ D2 (.bool true) (by show D2 ≠ w.heap.size + 1; omega)).trans h2
  have k1 := (_root_.Go.heap_setCell_other W ⟨w.heap.size + 1, 0, none⟩ D1 (.bool true) (by show D1 ≠ w.heap.size + 1; omega)).trans h1
  have k0 := (_root_.Go.heap_setCell_other W ⟨w.heap.size + 1, 0, none⟩ D0 (.bool true) (by show D0 ≠ w.heap.size + 1; omega)).trans h0
  generalize W.setCell ⟨w.heap.size + 1, 0, none⟩ (.bool true) = X at *
  have k1' := (putObj_other X D2 (.deferred none) D1 (by omega)).trans k1
  have k0' := (putObj_other X D2 (.deferred none) D0 (by omega)).trans k0
  have hb2 := hb.trans (belowK_b (w := w) (Nat.le_refl _) X D2 _ (.deferred none) (by omega) k2 rfl rfl)
  have hr2 := hr.kept (grownBy_putObj' X D2 (.deferred none)) (fun e => by cases e; omega)
  refine ⟨by simp, .inl ⟨_, _, rfl, run_takeDeferred k2, ?_⟩⟩
  generalize X.putObj D2 (.deferred none) = Y at *
  have k0'' := (putObj_other Y D1 (.deferred none) D0 (by omega)).trans k0'
  have hb3 := hb2.trans (belowK_b (w := w) (Nat.le_refl _) Y D1 _ (.deferred none) (by omega) k1' rfl rfl)
  have hr3 := hr2.kept (grownBy_putObj' Y D1 (.deferred none)) (fun e => by cases e; omega)
  refine ⟨by simp, .inl ⟨_, _, rfl, run_takeDeferred k1', ?_⟩⟩
  generalize Y.putObj D1 (.deferred none) = Z at *
  have hb4 := hb3.trans (belowK_b (w := w) (Nat.le_refl _) Z D0 _ (.deferred none) (by omega) k0'' rfl rfl)
  have hr4 := hr3.kept (grownBy_putObj' Z D0 (.deferred none)) (fun e => by cases e; omega)
  refine ⟨by simp, .inl ⟨_, _, rfl, run_takeDeferred k0'', ?_⟩⟩
  generalize Z.putObj D0 (.deferred none) = V at *
  have hc := hr4.cell
  have htmp' : tmps[4]?.getD undef = .pointer (some ⟨w.heap.size + 1, 0, none⟩) := by simpa using htmp
  refine ⟨.bool true, ?_, rfl, hb4⟩
  simp [results, Tryd.results8, go_sem, htmp', hc]

set_option maxRecDepth 100000 in
set_option maxHeartbeats 8000000 in
theorem linesEaches_walk (s : ByteArray) (stop : Int) (m : Int) (w : World) (h0 : 0 < w.heap.size) (hm : w.cell? ⟨0, 0, none⟩ = some (.int .i64 m)) :
    Calls Tryd.prog 8 #[.string s, .int .i64 stop] w fun e w' => e = .returned (.bool true) ∧ Below w.heap.size w w' := by
  have HM := Lib.hid hm
  have H0 := Lib.hid h0
  clear hm h0
  have hnl : (splitS s).length ≤ 65536 := by rw [← (lineV_each s).2]; exact eachOf_len _
  have hnf : ∀ (w : World) (q : Array Value), (Go.binOp .eql 42 (.func (.func 38) #[] q) .nilFunc).run Tryd.prog w = .ok (.bool false) w := fun _ _ => by kernel_rfl
  refine (callsIn_wide (n := 7)).1 ?_
  refine callsIn_of_wp_marks Tryd.func8 rfl trivial ?_ rfl
  simp only [Tryd.ntmps8, List.size_toArray, List.length_cons, List.length_nil, Nat.reduceAdd, Nat.reduceSub, Array.replicate_succ, Array.replicate_zero, List.push_toArray, List.append_toArray, List.nil_append, List.cons_append]
  gi_wp2_with (refine ⟨trivial, ?_⟩; gi_at_call 24; refine (callsIn_wide.2 (Split01_any s _)).mono ?_; rintro e w1 ⟨vb, rfl, ob⟩; have OB := Lib.hid ob; obtain ⟨Ab, cb, rfl⟩ := own_slice3 ob.own; clear ob)
  refine ⟨trivial, (Each_in _ _ _).mono ?_⟩
  rintro e w' ⟨rfl, rfl⟩
  gi_wp2_with (refine ⟨trivial, ?_⟩; gi_at_call 15; refine (callsIn_wide.2 (wakes01_any _)).mono ?_; rintro e w2 ⟨rfl, hb2⟩; have HB2 := Lib.hid hb2; clear hb2)
  have hF2 : EhF w.heap.size w1.heap.size s stop (.slice Ab (splitS s).length cb) w2 ∧ Below w.heap.size w w2 := by
    have b1 := Boxed.new w 3 (.int .i64 stop)
    have b2 := Boxed.new (w.alloc (.cells #[.int .i64 stop] 3)) 4 (.bool false)
    have b3 := Boxed.new w1 24 (.slice Ab (splitS s).length cb)
    have b4 := Boxed.new (w1.alloc (.cells #[.slice Ab (splitS s).length cb] 24)) 9 (.string s)
    rw [World.size_alloc] at b2 b4
    have hbs : Below w1.heap.size w1 ((w1.alloc (.cells #[.slice Ab (splitS s).length cb] 24)).alloc (.cells #[.string s] 9)) := ((Below.refl _ w1).alloc (Nat.le_refl _) _).alloc (by simp) _
    have hb12 : Below w1.heap.size w1 w2 := hbs.trans (HB2.out.mono hbs.size)
    have ob := OB.out
    have hw1 : w.heap.size + 1 + 1 ≤ w1.heap.size := by have := ob.below.size; simp at this; omega
    refine ⟨⟨boxed_keep2 (boxed_keep2 (b1.alloc _) ob.below) hb12, boxed_keep2 (boxed_keep2 b2 ob.below) hb12, boxed_keep2 (b3.alloc _) HB2.out, boxed_keep2 b4 HB2.out, ?_⟩, ?_⟩
    · have := own_below ob.own hb12
      refine ⟨this.1, this.2.imp id ?_⟩
      rintro ⟨g, cap, cur, hv, hg, r⟩
      exact ⟨g, cap, cur, hv, by simp at hg; omega, r⟩
    · exact ((((Below.refl _ w).alloc (Nat.le_refl _) _).alloc (by simp) _).trans (ob.below.mono (by simp; omega))).trans (hb12.mono (by omega))
  obtain ⟨hF2, hW2⟩ := hF2
  have HF2 := Lib.hid hF2
  have HW2 := Lib.hid hW2
  clear hF2 hW2
  refine wpIn_loop_rounds 4 ?_
  rw [roundsIn_succ]
  gi_wp2_with fail
  have hx0 := turn_start w2 (.int .i64 0)
  obtain ⟨bT0, bA0, hBs0, hsz0⟩ := hx0
  have hmt0 := (hBs0.cell (p := ⟨0, 0, none⟩) (Nat.lt_of_lt_of_le H0.out HW2.out.size)).trans ((HW2.out.cell (p := ⟨0, 0, none⟩) H0.out).trans HM.out)
  refine wpIn_rangeFunc_ownG rfl (by omega) (gf := 38) (lb := #[.pointer (some ⟨w1.heap.size + 1, 0, none⟩)]) rfl trivial (enters_of Tryd.func38 (by kernel_rfl) rfl)
    (each_stops (7 - 1) (by omega) (w1.heap.size + 1) w2.heap.size s (by have := HW2.out.size; have := H0.out; omega) m _ (Nat.lt_of_lt_of_le HF2.out.tx.lt hBs0.size) (boxed_keep2 HF2.out.tx hBs0).cell hmt0) belowK_t (belowK_b (by rw [hsz0]; omega)) (Below.refl _ _) (fun _ => rfl)
    (fun pre W => ((pre <+: eachOf s.data.toList) ∧ Boxed W w2.heap.size 3 (.int .i64 0) ∧ Boxed W (w2.heap.size + 1) 3 (.int .i64 (pre.length : Nat))) ∧ Below w2.heap.size w2 W)
    (fun c pre W => ¬ (pre <+: eachOf s.data.toList))
    (OwnFrom.and (OwnFrom.and (ownFrom_pure _ _) (OwnFrom.and (_root_.Go.Own.from (boxed_own _ _ _) _) (_root_.Go.Own.from (boxed_own _ _ (fun pre : List (Int × ByteArray) => .int .i64 (pre.length : Nat))) _))) (ownFrom_below (Nat.le_refl _) (by rw [hsz0]; omega)))
    (fun _ _ _ _ _ hs _ _ => hs)
    ⟨⟨List.nil_prefix, bT0, bA0⟩, hBs0⟩
    (fun x => { tmps := #[.string s, .int .i64 stop, undef, .pointer (some ⟨w.heap.size, 0, none⟩), .pointer (some ⟨w.heap.size + 1, 0, none⟩), .pointer (some ⟨w1.heap.size, 0, none⟩), .int .i64 (codeS s), .func (.func 38) #[] #[.pointer (some ⟨w1.heap.size + 1, 0, none⟩)], .int .i64 0, .pointer (some ⟨w2.heap.size, 0, none⟩), .pointer (some ⟨w2.heap.size + 1, 0, none⟩), .int .i64 x.1, .string x.2, .tuple #[.slice Ab (splitS s).length cb, .int .i64 (codeS s)], .string s, .tuple #[.slice Ab (splitS s).length cb, .int .i64 (codeS s)], .slice Ab (splitS s).length cb, .int .i64 (codeS s), .string s, .func (.func 38) #[] #[.pointer (some ⟨w1.heap.size + 1, 0, none⟩)], .func (.func 38) #[] #[.pointer (some ⟨w1.heap.size + 1, 0, none⟩)], .bool false, .bool false, .bool true, .bool false, .bool false, .int .i64 0, .bool true, .int .i64 0, .func (.func 38) #[] #[.pointer (some ⟨w1.heap.size + 1, 0, none⟩)], .int .i64 x.1, .string x.2, undef, undef, undef, undef, undef, undef, undef, undef, undef, undef, undef, undef, undef, undef, undef, undef, undef, undef, undef, undef, undef, undef, undef, undef, undef, undef, undef, undef, undef, undef, undef, undef, undef, undef, undef, undef, undef, undef], defers := [] }) ?_ ?_ ?_ ?_
  · intro l x W K hK
    gi_wp2
    exact hK
  · rintro l pre x W ⟨⟨hpre, hbt, hba⟩, hB⟩ hlt
    have hF := HF2.out.keep hB
    have hB' : Below w.heap.size w W := HW2.out.trans (hB.mono HW2.out.size)
    obtain ⟨k, hk⟩ : ∃ k, pre.length = k := ⟨_, rfl⟩
    rw [hk] at hba hlt
    have hkn : k < (splitS s).length := by rw [← (lineV_each s).2]; exact hlt
    have hstp := each_step s pre x k hpre hk (by rw [hk]; exact hlt) hkn
    obtain ⟨g, cap, he, hcg⟩ := own_some3 hF.row (by omega)
    injection he with he1 he2 he3
    subst he1 he3
    have hcb := hF.bb.cell
    have hca := hba.cell
    have hfa := hba.frozen
    have hct := hbt.cell
    have hcs := hF.st.cell
    have hcr := hF.re.cell
    have hfr := hF.re.frozen
    have hck : W.cell? ⟨g, k, none⟩ = some (.string ((splitS s)[k])) := by
      have := hF.row.cells (g := g) rfl k (.string (splitS s)[k]) (strV_get _ _ hkn)
      rw [row_addr] at this; exact this
    obtain ⟨bk, hbk⟩ : ∃ bk, (splitS s)[k] = bk := ⟨_, rfl⟩
    rw [hbk] at hck
    rw [hbk] at hstp
    have HStp := Lib.hid hstp
    have HBa := Lib.hid hba
    have HBt := Lib.hid hbt
    have HBW := Lib.hid hB
    have HK := Lib.hid hk
    have hbw := HBW.out.size
    clear hstp hbk hk hF hba hbt hpre hB hB'
    by_cases hx1 : x.1 = (k : Int) + 1
    · have q1 : (x.1 != (k : Int) + 1) = false := by rw [hx1]; simp
      by_cases hx2 : x.2 = bk
      · have HP := Lib.hid ((HStp.out).2 ⟨hx1, hx2⟩)
        have q2 : (x.2.toList != bk.toList) = false := by rw [hx2]; simp
        have q3 : (x.2.toList == bk.toList) = true := by rw [hx2]; simp
        clear hx1 hx2
        gi_wp2
        exact ⟨(KeepsOthers.setCell _ _ _).from _, (Below.refl w2.heap.size W).setCell (p := ⟨w2.heap.size + 1, 0, none⟩) (by show w2.heap.size ≤ w2.heap.size + 1; omega) _, ⟨⟨HP.out, HBt.out.other (by omega) _, by rw [List.length_append, HK.out]; exact HBa.out.set _⟩, HBW.out.setCell (p := ⟨w2.heap.size + 1, 0, none⟩) (by show w2.heap.size ≤ w2.heap.size + 1; omega) _⟩⟩
      · have HNo : Hid (¬ (pre ++ [x] <+: eachOf s.data.toList)) := Lib.hid (fun h => hx2 (HStp.out.1 h).2)
        have q2 : (x.2.toList != bk.toList) = true := by rw [bne_iff_ne]; intro h; have := beq_str x.2 bk; rw [h] at this; simp at this; exact hx2 this
        have q3 : (x.2.toList == bk.toList) = false := by rw [beq_str]; simpa using hx2
        clear hx1 hx2
        gi_wp2
        exact ⟨(KeepsOthers.setCell _ _ _).from _, HNo.out⟩
    · have HNo : Hid (¬ (pre ++ [x] <+: eachOf s.data.toList)) := Lib.hid (fun h => hx1 (HStp.out.1 h).1)
      have q1 : (x.1 != (k : Int) + 1) = true := by rw [bne_iff_ne]; exact hx1
      clear hx1
      gi_wp2
      exact ⟨(KeepsOthers.setCell _ _ _).from _, HNo.out⟩
  · rintro D0 ys WD0 hD0 rfl ⟨⟨_, hbt, hba⟩, hB⟩ hK0
    rw [(lineV_each s).2] at hba
    have hc0 := hbt.cell
    have hc1 := hba.cell
    have HF3 := Lib.hid (HF2.out.keep hB)
    have HW3 := Lib.hid (HW2.out.trans (hB.mono HW2.out.size))
    have HB3 := Lib.hid hB
    have HK0 := Lib.hid hK0
    clear hbt hba hB hK0
    gi_wp2_with fail
    rw [roundsIn_succ]
    gi_wp2_with fail
    have hx1 := turn_start WD0 (.int .i64 1)
    obtain ⟨bT1, bA1, hBs1, hsz1⟩ := hx1
    have hmt1 := (hBs1.cell (p := ⟨0, 0, none⟩) (Nat.lt_of_lt_of_le H0.out HW3.out.size)).trans ((HW3.out.cell (p := ⟨0, 0, none⟩) H0.out).trans HM.out)
    refine wpIn_rangeFunc_ownG rfl (by omega) (gf := 38) (lb := #[.pointer (some ⟨w1.heap.size + 1, 0, none⟩)]) rfl trivial (enters_of Tryd.func38 (by kernel_rfl) rfl)
      (each_stops (7 - 1) (by omega) (w1.heap.size + 1) WD0.heap.size s (by have := HW3.out.size; have := H0.out; omega) m _ (Nat.lt_of_lt_of_le HF3.out.tx.lt hBs1.size) (boxed_keep2 HF3.out.tx hBs1).cell hmt1) belowK_t (belowK_b (by rw [hsz1]; omega)) (Below.refl _ _) (fun _ => rfl)
      (fun pre W => ((pre <+: eachOf s.data.toList) ∧ Boxed W WD0.heap.size 3 (.int .i64 1) ∧ Boxed W (WD0.heap.size + 1) 3 (.int .i64 (pre.length : Nat))) ∧ Below WD0.heap.size WD0 W)
      (fun c pre W => Brk WD0 (fun pre => ¬ (pre <+: eachOf s.data.toList)) c pre W)
      (OwnFrom.and (OwnFrom.and (ownFrom_pure _ _) (OwnFrom.and (_root_.Go.Own.from (boxed_own _ _ _) _) (_root_.Go.Own.from (boxed_own _ _ (fun pre : List (Int × ByteArray) => .int .i64 (pre.length : Nat))) _))) (ownFrom_below (Nat.le_refl _) (by rw [hsz1]; omega)))
      (fun c => brk_own WD0 _ c (by rw [hsz1]; omega))
      ⟨⟨List.nil_prefix, bT1, bA1⟩, hBs1⟩
      (fun x => { tmps := #[.string s, .int .i64 stop, undef, .pointer (some ⟨w.heap.size, 0, none⟩), .pointer (some ⟨w.heap.size + 1, 0, none⟩), .pointer (some ⟨w1.heap.size, 0, none⟩), .int .i64 (codeS s), .func (.func 38) #[] #[.pointer (some ⟨w1.heap.size + 1, 0, none⟩)], .int .i64 ((splitS s).length : Nat), .pointer (some ⟨WD0.heap.size, 0, none⟩), .pointer (some ⟨WD0.heap.size + 1, 0, none⟩), .int .i64 x.1, .string x.2, .tuple #[.slice Ab (splitS s).length cb, .int .i64 (codeS s)], .string s, .tuple #[.slice Ab (splitS s).length cb, .int .i64 (codeS s)], .slice Ab (splitS s).length cb, .int .i64 (codeS s), .string s, .func (.func 38) #[] #[.pointer (some ⟨w1.heap.size + 1, 0, none⟩)], .func (.func 38) #[] #[.pointer (some ⟨w1.heap.size + 1, 0, none⟩)], .bool false, .bool false, .bool true, .bool false, .bool false, .int .i64 1, .bool true, .int .i64 1, .func (.func 38) #[] #[.pointer (some ⟨w1.heap.size + 1, 0, none⟩)], .int .i64 x.1, .string x.2, undef, undef, undef, undef, undef, undef, undef, undef, undef, undef, undef, undef, undef, undef, undef, undef, undef, undef, undef, undef, undef, undef, undef, undef, undef, undef, undef, .int .i64 0, .bool true, .int .i64 0, .int .i64 ((splitS s).length : Nat), .int .i64 ((splitS s).length : Nat), .int .i64 1, undef, undef, undef, undef, undef], defers := [] }) ?_ ?_ ?_ ?_
    · intro l x W K hK
      gi_wp2
      exact hK
    · rintro l pre x W ⟨⟨hpre, hbt, hba⟩, hB⟩ hlt
      have hF := HF3.out.keep hB
      have hB' : Below w.heap.size w W := HW3.out.trans (hB.mono HW3.out.size)
      obtain ⟨k, hk⟩ : ∃ k, pre.length = k := ⟨_, rfl⟩
      rw [hk] at hba hlt
      have hkn : k < (splitS s).length := by rw [← (lineV_each s).2]; exact hlt
      have hstp := each_step s pre x k hpre hk (by rw [hk]; exact hlt) hkn
      obtain ⟨g, cap, he, hcg⟩ := own_some3 hF.row (by omega)
      injection he with he1 he2 he3
      subst he1 he3
      have hcb := hF.bb.cell
      have hca := hba.cell
      have hfa := hba.frozen
      have hct := hbt.cell
      have hcs := hF.st.cell
      have hcr := hF.re.cell
      have hfr := hF.re.frozen
      have hck : W.cell? ⟨g, k, none⟩ = some (.string ((splitS s)[k])) := by
        have := hF.row.cells (g := g) rfl k (.string (splitS s)[k]) (strV_get _ _ hkn)
        rw [row_addr] at this; exact this
      obtain ⟨bk, hbk⟩ : ∃ bk, (splitS s)[k] = bk := ⟨_, rfl⟩
      rw [hbk] at hck
      rw [hbk] at hstp
      have hcs2 : ∀ v, (W.setCell ⟨WD0.heap.size + 1, 0, none⟩ v).cell? ⟨w.heap.size, 0, none⟩ = some (.int .i64 stop) := fun v => (hF.st.other (by have := HW3.out.size; omega) v).cell
      have HStp := Lib.hid hstp
      have HBa := Lib.hid hba
      have HBt := Lib.hid hbt
      have HBW := Lib.hid hB
      have HK := Lib.hid hk
      have hbw := HBW.out.size
      clear hstp hbk hk hF hba hbt hpre hB hB'
      by_cases hx1 : x.1 = (k : Int) + 1
      · have q1 : (x.1 != (k : Int) + 1) = false := by rw [hx1]; simp
        by_cases hx2 : x.2 = bk
        · have HP := Lib.hid ((HStp.out).2 ⟨hx1, hx2⟩)
          have q2 : (x.2.toList != bk.toList) = false := by rw [hx2]; simp
          have q3 : (x.2.toList == bk.toList) = true := by rw [hx2]; simp
          clear hx1 hx2
          by_cases hst : stop ≤ (k : Int) + 1
          · gi_wp2
            exact ⟨(KeepsOthers.setCell _ _ _).from _, .inr ⟨rfl, k + 1, HBt.out.other (by omega) _, HBa.out.set _, by have := eachOf_len s.data.toList; omega, HBW.out.setCell (p := ⟨WD0.heap.size + 1, 0, none⟩) (by show WD0.heap.size ≤ WD0.heap.size + 1; omega) _⟩⟩
          · gi_wp2
            exact ⟨(KeepsOthers.setCell _ _ _).from _, (Below.refl WD0.heap.size W).setCell (p := ⟨WD0.heap.size + 1, 0, none⟩) (by show WD0.heap.size ≤ WD0.heap.size + 1; omega) _, ⟨⟨HP.out, HBt.out.other (by omega) _, by rw [List.length_append, HK.out]; exact HBa.out.set _⟩, HBW.out.setCell (p := ⟨WD0.heap.size + 1, 0, none⟩) (by show WD0.heap.size ≤ WD0.heap.size + 1; omega) _⟩⟩
        · have HNo : Hid (¬ (pre ++ [x] <+: eachOf s.data.toList)) := Lib.hid (fun h => hx2 (HStp.out.1 h).2)
          have q2 : (x.2.toList != bk.toList) = true := by rw [bne_iff_ne]; intro h; have := beq_str x.2 bk; rw [h] at this; simp at this; exact hx2 this
          have q3 : (x.2.toList == bk.toList) = false := by rw [beq_str]; simpa using hx2
          clear hx1 hx2
          gi_wp2
          exact ⟨(KeepsOthers.setCell _ _ _).from _, .inl HNo.out⟩
      · have HNo : Hid (¬ (pre ++ [x] <+: eachOf s.data.toList)) := Lib.hid (fun h => hx1 (HStp.out.1 h).1)
        have q1 : (x.1 != (k : Int) + 1) = true := by rw [bne_iff_ne]; exact hx1
        clear hx1
        gi_wp2
        exact ⟨(KeepsOthers.setCell _ _ _).from _, .inl HNo.out⟩
    · rintro D1 ys WD1 hD1 rfl ⟨⟨_, hbt, hba⟩, hB⟩ hK1
      rw [(lineV_each s).2] at hba
      have hc0 := hbt.cell
      have hc1 := hba.cell
      have HF4 := Lib.hid (HF3.out.keep hB)
      have HW4 := Lib.hid (HW3.out.trans (hB.mono HW3.out.size))
      have HB4 := Lib.hid hB
      have HK1 := Lib.hid hK1
      clear hbt hba hB hK1
      gi_wp2_with fail
      rw [roundsIn_succ]
      gi_wp2_with fail
      have hx2 := turn_start WD1 (.int .i64 2)
      obtain ⟨bT2, bA2, hBs2, hsz2⟩ := hx2
      have hmt2 := (hBs2.cell (p := ⟨0, 0, none⟩) (Nat.lt_of_lt_of_le H0.out HW4.out.size)).trans ((HW4.out.cell (p := ⟨0, 0, none⟩) H0.out).trans HM.out)
      refine wpIn_rangeFunc_ownG rfl (by omega) (gf := 38) (lb := #[.pointer (some ⟨w1.heap.size + 1, 0, none⟩)]) rfl trivial (enters_of Tryd.func38 (by kernel_rfl) rfl)
        (each_stops (7 - 1) (by omega) (w1.heap.size + 1) WD1.heap.size s (by have := HW4.out.size; have := H0.out; omega) m _ (Nat.lt_of_lt_of_le HF4.out.tx.lt hBs2.size) (boxed_keep2 HF4.out.tx hBs2).cell hmt2) belowK_t (belowK_b (by rw [hsz2]; omega)) (Below.refl _ _) (fun _ => rfl)
        (fun pre W => ((pre <+: eachOf s.data.toList) ∧ Boxed W WD1.heap.size 3 (.int .i64 2) ∧ Boxed W (WD1.heap.size + 1) 3 (.int .i64 (pre.length : Nat))) ∧ Below WD1.heap.size WD1 W)
        (fun c pre W => ¬ (pre <+: eachOf s.data.toList))
        (OwnFrom.and (OwnFrom.and (ownFrom_pure _ _) (OwnFrom.and (_root_.Go.Own.from (boxed_own _ _ _) _) (_root_.Go.Own.from (boxed_own _ _ (fun pre : List (Int × ByteArray) => .int .i64 (pre.length : Nat))) _))) (ownFrom_below (Nat.le_refl _) (by rw [hsz2]; omega)))
        (fun _ _ _ _ _ hs _ _ => hs)
        ⟨⟨List.nil_prefix, bT2, bA2⟩, hBs2⟩
        (fun x => { tmps := #[.string s, .int .i64 stop, undef, .pointer (some ⟨w.heap.size, 0, none⟩), .pointer (some ⟨w.heap.size + 1, 0, none⟩), .pointer (some ⟨w1.heap.size, 0, none⟩), .int .i64 (codeS s), .func (.func 38) #[] #[.pointer (some ⟨w1.heap.size + 1, 0, none⟩)], .int .i64 ((splitS s).length : Nat), .pointer (some ⟨WD1.heap.size, 0, none⟩), .pointer (some ⟨WD1.heap.size + 1, 0, none⟩), .int .i64 x.1, .string x.2, .tuple #[.slice Ab (splitS s).length cb, .int .i64 (codeS s)], .string s, .tuple #[.slice Ab (splitS s).length cb, .int .i64 (codeS s)], .slice Ab (splitS s).length cb, .int .i64 (codeS s), .string s, .func (.func 38) #[] #[.pointer (some ⟨w1.heap.size + 1, 0, none⟩)], .func (.func 38) #[] #[.pointer (some ⟨w1.heap.size + 1, 0, none⟩)], .bool false, .bool false, .bool true, .bool false, .bool false, .int .i64 2, .bool true, .int .i64 2, .func (.func 38) #[] #[.pointer (some ⟨w1.heap.size + 1, 0, none⟩)], .int .i64 x.1, .string x.2, undef, undef, undef, undef, undef, undef, undef, undef, undef, undef, undef, undef, undef, undef, undef, undef, undef, undef, undef, undef, undef, undef, undef, undef, undef, undef, undef, .int .i64 1, .bool false, .int .i64 0, .int .i64 ((splitS s).length : Nat), .int .i64 ((splitS s).length : Nat), .int .i64 2, undef, undef, undef, undef, undef], defers := [] }) ?_ ?_ ?_ ?_
      · intro l x W K hK
        gi_wp2
        exact hK
      · rintro l pre x W ⟨⟨hpre, hbt, hba⟩, hB⟩ hlt
        have hF := HF4.out.keep hB
        have hB' : Below w.heap.size w W := HW4.out.trans (hB.mono HW4.out.size)
        obtain ⟨k, hk⟩ : ∃ k, pre.length = k := ⟨_, rfl⟩
        rw [hk] at hba hlt
        have hkn : k < (splitS s).length := by rw [← (lineV_each s).2]; exact hlt
        have hstp := each_step s pre x k hpre hk (by rw [hk]; exact hlt) hkn
        obtain ⟨g, cap, he, hcg⟩ := own_some3 hF.row (by omega)
        injection he with he1 he2 he3
        subst he1 he3
        have hcb := hF.bb.cell
        have hca := hba.cell
        have hfa := hba.frozen
        have hct := hbt.cell
        have hcs := hF.st.cell
        have hcr := hF.re.cell
        have hfr := hF.re.frozen
        have hck : W.cell? ⟨g, k, none⟩ = some (.string ((splitS s)[k])) := by
          have := hF.row.cells (g := g) rfl k (.string (splitS s)[k]) (strV_get _ _ hkn)
          rw [row_addr] at this; exact this
        obtain ⟨bk, hbk⟩ : ∃ bk, (splitS s)[k] = bk := ⟨_, rfl⟩
        rw [hbk] at hck
        rw [hbk] at hstp
        have HStp := Lib.hid hstp
        have HBa := Lib.hid hba
        have HBt := Lib.hid hbt
        have HBW := Lib.hid hB
        have HK := Lib.hid hk
        have hbw := HBW.out.size
        clear hstp hbk hk hF hba hbt hpre hB hB'
        by_cases hx1 : x.1 = (k : Int) + 1
        · have q1 : (x.1 != (k : Int) + 1) = false := by rw [hx1]; simp
          by_cases hx2 : x.2 = bk
          · have HP := Lib.hid ((HStp.out).2 ⟨hx1, hx2⟩)
            have q2 : (x.2.toList != bk.toList) = false := by rw [hx2]; simp
            have q3 : (x.2.toList == bk.toList) = true := by rw [hx2]; simp
            clear hx1 hx2
            gi_wp2
            exact ⟨(KeepsOthers.setCell _ _ _).from _, (Below.refl WD1.heap.size W).setCell (p := ⟨WD1.heap.size + 1, 0, none⟩) (by show WD1.heap.size ≤ WD1.heap.size + 1; omega) _, ⟨⟨HP.out, HBt.out.other (by omega) _, by rw [List.length_append, HK.out]; exact HBa.out.set _⟩, HBW.out.setCell (p := ⟨WD1.heap.size + 1, 0, none⟩) (by show WD1.heap.size ≤ WD1.heap.size + 1; omega) _⟩⟩
          · have HNo : Hid (¬ (pre ++ [x] <+: eachOf s.data.toList)) := Lib.hid (fun h => hx2 (HStp.out.1 h).2)
            have q2 : (x.2.toList != bk.toList) = true := by rw [bne_iff_ne]; intro h; have := beq_str x.2 bk; rw [h] at this; simp at this; exact hx2 this
            have q3 : (x.2.toList == bk.toList) = false := by rw [beq_str]; simpa using hx2
            clear hx1 hx2
            gi_wp2
            exact ⟨(KeepsOthers.setCell _ _ _).from _, HNo.out⟩
        · have HNo : Hid (¬ (pre ++ [x] <+: eachOf s.data.toList)) := Lib.hid (fun h => hx1 (HStp.out.1 h).1)
          have q1 : (x.1 != (k : Int) + 1) = true := by rw [bne_iff_ne]; exact hx1
          clear hx1
          gi_wp2
          exact ⟨(KeepsOthers.setCell _ _ _).from _, HNo.out⟩
      · rintro D2 ys WD2 hD2 rfl ⟨⟨_, hbt, hba⟩, hB⟩ hK2
        rw [(lineV_each s).2] at hba
        have hc0 := hbt.cell
        have hc1 := hba.cell
        have HF5 := Lib.hid (HF4.out.keep hB)
        have HW5 := Lib.hid (HW4.out.trans (hB.mono HW4.out.size))
        have HB5 := Lib.hid hB
        have HK2 := Lib.hid hK2
        clear hbt hba hB hK2
        have hFz := HF5.out
        have hcr2 := hFz.re.cell
        have hfr2 := hFz.re.frozen
        have hcb2 := hFz.bb.cell
        clear hFz
        gi_wp2_with fail
        rw [roundsIn_succ]
        have hbe : (((splitS s).length : Int) + ((splitS s).length : Int) == 2 * ((splitS s).length : Int)) = true := by rw [beq_iff_eq]; omega
        gi_wp2_with fail
        exact eh_end w WD2 D0 D1 D2 _ HF5.out.re HW5.out HK2.out ((HB5.out.block D1 (block_lt HK1.out)).trans HK1.out) ((HB5.out.block D0 (Nat.lt_of_lt_of_le (block_lt HK0.out) HB4.out.size)).trans ((HB4.out.block D0 (block_lt HK0.out)).trans HK0.out)) ⟨by have h1 := HW2.out.size; have h2 := HF2.out.re.lt; rw [hsz0] at hD0; omega, by have h1 := block_lt HK0.out; rw [hsz1] at hD1; omega, by have h1 := block_lt HK1.out; rw [hsz2] at hD2; omega⟩ rfl
      · rintro D2 c pre WD2 hD2 hsp hix hK2
        exact absurd hsp hix
    · rintro D1 c pre WD1 hD1 hsp hix hK1
      rcases hix with hix | ⟨rfl, q, hbt, hba, hq, hB⟩
      · exact absurd hsp hix
      · skip
        have hc0 := hbt.cell
        have hc1 := hba.cell
        have HF4 := Lib.hid (HF3.out.keep hB)
        have HW4 := Lib.hid (HW3.out.trans (hB.mono HW3.out.size))
        have HB4 := Lib.hid hB
        have HK1 := Lib.hid hK1
        clear hbt hba hB hK1
        gi_wp2_with fail
        rw [roundsIn_succ]
        gi_wp2_with fail
        have hx2 := turn_start WD1 (.int .i64 2)
        obtain ⟨bT2, bA2, hBs2, hsz2⟩ := hx2
        have hmt2 := (hBs2.cell (p := ⟨0, 0, none⟩) (Nat.lt_of_lt_of_le H0.out HW4.out.size)).trans ((HW4.out.cell (p := ⟨0, 0, none⟩) H0.out).trans HM.out)
        refine wpIn_rangeFunc_ownG rfl (by omega) (gf := 38) (lb := #[.pointer (some ⟨w1.heap.size + 1, 0, none⟩)]) rfl trivial (enters_of Tryd.func38 (by kernel_rfl) rfl)
          (each_stops (7 - 1) (by omega) (w1.heap.size + 1) WD1.heap.size s (by have := HW4.out.size; have := H0.out; omega) m _ (Nat.lt_of_lt_of_le HF4.out.tx.lt hBs2.size) (boxed_keep2 HF4.out.tx hBs2).cell hmt2) belowK_t (belowK_b (by rw [hsz2]; omega)) (Below.refl _ _) (fun _ => rfl)
          (fun pre W => ((pre <+: eachOf s.data.toList) ∧ Boxed W WD1.heap.size 3 (.int .i64 2) ∧ Boxed W (WD1.heap.size + 1) 3 (.int .i64 (pre.length : Nat))) ∧ Below WD1.heap.size WD1 W)
          (fun c pre W => ¬ (pre <+: eachOf s.data.toList))
          (OwnFrom.and (OwnFrom.and (ownFrom_pure _ _) (OwnFrom.and (_root_.Go.Own.from (boxed_own _ _ _) _) (_root_.Go.Own.from (boxed_own _ _ (fun pre : List (Int × ByteArray) => .int .i64 (pre.length : Nat))) _))) (ownFrom_below (Nat.le_refl _) (by rw [hsz2]; omega)))
          (fun _ _ _ _ _ hs _ _ => hs)
          ⟨⟨List.nil_prefix, bT2, bA2⟩, hBs2⟩
          (fun x => { tmps := #[.string s, .int .i64 stop, undef, .pointer (some ⟨w.heap.size, 0, none⟩), .pointer (some ⟨w.heap.size + 1, 0, none⟩), .pointer (some ⟨w1.heap.size, 0, none⟩), .int .i64 (codeS s), .func (.func 38) #[] #[.pointer (some ⟨w1.heap.size + 1, 0, none⟩)], .int .i64 ((splitS s).length : Nat), .pointer (some ⟨WD1.heap.size, 0, none⟩), .pointer (some ⟨WD1.heap.size + 1, 0, none⟩), .int .i64 x.1, .string x.2, .tuple #[.slice Ab (splitS s).length cb, .int .i64 (codeS s)], .string s, .tuple #[.slice Ab (splitS s).length cb, .int .i64 (codeS s)], .slice Ab (splitS s).length cb, .int .i64 (codeS s), .string s, .func (.func 38) #[] #[.pointer (some ⟨w1.heap.size + 1, 0, none⟩)], .func (.func 38) #[] #[.pointer (some ⟨w1.heap.size + 1, 0, none⟩)], .bool false, .bool false, .bool true, .bool false, .bool false, .int .i64 2, .bool true, .int .i64 2, .func (.func 38) #[] #[.pointer (some ⟨w1.heap.size + 1, 0, none⟩)], .int .i64 x.1, .string x.2, undef, undef, undef, undef, undef, undef, undef, undef, undef, undef, undef, undef, undef, undef, undef, undef, undef, undef, undef, undef, undef, undef, undef, undef, undef, undef, undef, .int .i64 1, .bool false, .int .i64 0, .int .i64 ((splitS s).length : Nat), .int .i64 ((splitS s).length : Nat), .int .i64 2, undef, undef, undef, undef, undef], defers := [] }) ?_ ?_ ?_ ?_
        · intro l x W K hK
          gi_wp2
          exact hK
        · rintro l pre x W ⟨⟨hpre, hbt, hba⟩, hB⟩ hlt
          have hF := HF4.out.keep hB
          have hB' : Below w.heap.size w W := HW4.out.trans (hB.mono HW4.out.size)
          obtain ⟨k, hk⟩ : ∃ k, pre.length = k := ⟨_, rfl⟩
          rw [hk] at hba hlt
          have hkn : k < (splitS s).length := by rw [← (lineV_each s).2]; exact hlt
          have hstp := each_step s pre x k hpre hk (by rw [hk]; exact hlt) hkn
          obtain ⟨g, cap, he, hcg⟩ := own_some3 hF.row (by omega)
          injection he with he1 he2 he3
          subst he1 he3
          have hcb := hF.bb.cell
          have hca := hba.cell
          have hfa := hba.frozen
          have hct := hbt.cell
          have hcs := hF.st.cell
          have hcr := hF.re.cell
          have hfr := hF.re.frozen
          have hck : W.cell? ⟨g, k, none⟩ = some (.string ((splitS s)[k])) := by
            have := hF.row.cells (g := g) rfl k (.string (splitS s)[k]) (strV_get _ _ hkn)
            rw [row_addr] at this; exact this
          obtain ⟨bk, hbk⟩ : ∃ bk, (splitS s)[k] = bk := ⟨_, rfl⟩
          rw [hbk] at hck
          rw [hbk] at hstp
          have HStp := Lib.hid hstp
          have HBa := Lib.hid hba
          have HBt := Lib.hid hbt
          have HBW := Lib.hid hB
          have HK := Lib.hid hk
          have hbw := HBW.out.size
          clear hstp hbk hk hF hba hbt hpre hB hB'
          by_cases hx1 : x.1 = (k : Int) + 1
          · have q1 : (x.1 != (k : Int) + 1) = false := by rw [hx1]; simp
            by_cases hx2 : x.2 = bk
            · have HP := Lib.hid ((HStp.out).2 ⟨hx1, hx2⟩)
              have q2 : (x.2.toList != bk.toList) = false := by rw [hx2]; simp
              have q3 : (x.2.toList == bk.toList) = true := by rw [hx2]; simp
              clear hx1 hx2
              gi_wp2
              exact ⟨(KeepsOthers.setCell _ _ _).from _, (Below.refl WD1.heap.size W).setCell (p := ⟨WD1.heap.size + 1, 0, none⟩) (by show WD1.heap.size ≤ WD1.heap.size + 1; omega) _, ⟨⟨HP.out, HBt.out.other (by omega) _, by rw [List.length_append, HK.out]; exact HBa.out.set _⟩, HBW.out.setCell (p := ⟨WD1.heap.size + 1, 0, none⟩) (by show WD1.heap.size ≤ WD1.heap.size + 1; omega) _⟩⟩
            · have HNo : Hid (¬ (pre ++ [x] <+: eachOf s.data.toList)) := Lib.hid (fun h => hx2 (HStp.out.1 h).2)
              have q2 : (x.2.toList != bk.toList) = true := by rw [bne_iff_ne]; intro h; have := beq_str x.2 bk; rw [h] at this; simp at this; exact hx2 this
              have q3 : (x.2.toList == bk.toList) = false := by rw [beq_str]; simpa using hx2
              clear hx1 hx2
              gi_wp2
              exact ⟨(KeepsOthers.setCell _ _ _).from _, HNo.out⟩
          · have HNo : Hid (¬ (pre ++ [x] <+: eachOf s.data.toList)) := Lib.hid (fun h => hx1 (HStp.out.1 h).1)
            have q1 : (x.1 != (k : Int) + 1) = true := by rw [bne_iff_ne]; exact hx1
            clear hx1
            gi_wp2
            exact ⟨(KeepsOthers.setCell _ _ _).from _, HNo.out⟩
        · rintro D2 ys WD2 hD2 rfl ⟨⟨_, hbt, hba⟩, hB⟩ hK2
          rw [(lineV_each s).2] at hba
          have hc0 := hbt.cell
          have hc1 := hba.cell
          have HF5 := Lib.hid (HF4.out.keep hB)
          have HW5 := Lib.hid (HW4.out.trans (hB.mono HW4.out.size))
          have HB5 := Lib.hid hB
          have HK2 := Lib.hid hK2
          clear hbt hba hB hK2
          have hFz := HF5.out
          have hcr2 := hFz.re.cell
          have hfr2 := hFz.re.frozen
          have hcb2 := hFz.bb.cell
          clear hFz
          gi_wp2_with fail
          rw [roundsIn_succ]
          have hbe : (((splitS s).length : Int) + ((splitS s).length : Int) == 2 * ((splitS s).length : Int)) = true := by rw [beq_iff_eq]; omega
          gi_wp2_with fail
          exact eh_end w WD2 D0 D1 D2 _ HF5.out.re HW5.out HK2.out ((HB5.out.block D1 (block_lt HK1.out)).trans HK1.out) ((HB5.out.block D0 (Nat.lt_of_lt_of_le (block_lt HK0.out) HB4.out.size)).trans ((HB4.out.block D0 (block_lt HK0.out)).trans HK0.out)) ⟨by have h1 := HW2.out.size; have h2 := HF2.out.re.lt; rw [hsz0] at hD0; omega, by have h1 := block_lt HK0.out; rw [hsz1] at hD1; omega, by have h1 := block_lt HK1.out; rw [hsz2] at hD2; omega⟩ rfl
        · rintro D2 c pre WD2 hD2 hsp hix hK2
          exact absurd hsp hix
  · rintro D0 c pre WD0 hD0 hsp hix hK0
    exact absurd hsp hix
theorem linesEaches_sh (s : ByteArray) (stop : Int) (W : World) (h : W.ShapedOpen Tryd.prog) :
    Calls Tryd.prog 8 #[.string s, .int .i64 stop] W fun e w' => e = .returned (.bool true) ∧ Below W.heap.size W w' := by
  obtain ⟨m, hm⟩ := maxLen_of W h
  exact linesEaches_walk s stop m W (World.block_lt_of_cell? W _ hm) hm
end Go.Proofs.YtbhfkhfnljddhaaDoor
