/-
  The state of the split's loop: its boxes and the marks of its ranges.
-/
import Derived.Test.YthfndmpigpphoaaGreatRows
import Derived.Test.YthfndmpigpphoaaGreatJb7
import Derived.Test.YthfndmpigpphoaaGreatQin
import Derived.Test.YthfndmpigpphoaaGreatKC
import Derived.RangeFuncBound
import Derived.RangeFuncLeaves
import Derived.RangeFuncBox
import Derived.RangeFuncWrites
import Derived.RangeFuncNested
import Derived.RangeFuncKeeps
namespace Go.Proofs.YthfndmpigpphoaaGreat
open Go.RowKit Go.Shelf

theorem boxed_keep_ {W W' : World} {B t : Nat} {v : Value} (h : Boxed W B t v) (hb : Below W.heap.size W W') : Boxed W' B t v := (hb.block _ h.lt).trans h
/-- Of the loop: the slice so far, the box of the place, the marks. -/
structure SpI (W1 W : World) (Bi q m : Nat) (ds : List Nat) : Prop where
  below : Below W1.heap.size W1 W
  out : ∃ ov xs, Boxed W W1.heap.size 22 ov ∧ W.ownsRow (W1.heap.size + 1) 9 1 ov m xs
  ib : Boxed W Bi 3 (.int .i64 (q : Int))
  lo : W1.heap.size < Bi
  ms : ∀ D ∈ ds, W1.heap.size < D ∧ W.heap[D]? = some (.deferred (some []))
  nd : ds.Nodup
theorem sp_grown {W1 X Y : World} {Bi q m B : Nat} {ds : List Nat} (h : SpI W1 X Bi q m ds) {row : Option Nat} (hg : X.grownBy Y row) (hr : ∀ r, row = some r → B ≤ r ∧ ∃ o : Obj, X.heap[r]? = some o ∧ o.isCells = false) (hB : W1.heap.size ≤ B) (hds : ∀ D ∈ ds, D < B) : SpI W1 Y Bi q m ds := by
  have hne : ∀ (b : Nat) (cs : Array Value) (t : TypeId) (fr : Nat × Nat), X.heap[b]? = some (.cells cs t fr) → some b ≠ row := fun b cs t fr hb e => by
    obtain ⟨_, o, ho, hc⟩ := hr b e.symm
    rw [hb] at ho
    injection ho with ho
    rw [← ho] at hc
    cases hc
  have hK : Kept row.toList X Y := Kept.grown hg (fun k hk => by rw [hk]; simp)
  refine ⟨⟨hK.os.trans h.below.os, hK.tape.trans h.below.tape, hK.output.trans h.below.output, Nat.le_trans h.below.size hK.size, fun k hk => (hK.block k (Nat.lt_of_lt_of_le hk h.below.size) (fun hm => ?_)).trans (h.below.block k hk)⟩, ?_, h.ib.kept hg (hne _ _ _ _ h.ib), h.lo, fun D hD => ⟨(h.ms D hD).1, hK.at (h.ms D hD).2 (fun hm => ?_)⟩, h.nd⟩
  · have := (hr k (by simpa using hm)).1
    omega
  · obtain ⟨ov, xs, ho, hx⟩ := h.out
    refine ⟨ov, xs, ho.kept hg (hne _ _ _ _ ho), hK.own hx (fun g hgb hm => ?_)⟩
    rcases hx.2 with ⟨rfl, _⟩ | ⟨g', cap, cur, rfl, _, hgg, _⟩
    · cases hgb
    · injection hgb with hgb
      subst hgb
      exact hne _ _ _ _ hgg (by have h2 := hm; simp at h2; exact h2.symm)
  · have := (hr D (by simpa using hm)).1
    have := hds D hD
    omega
theorem sp_keep {W1 X Y : World} {Bi q m : Nat} {ds : List Nat} (h : SpI W1 X Bi q m ds) (hb : Below X.heap.size X Y) : SpI W1 Y Bi q m ds :=
  ⟨h.below.trans (hb.mono h.below.size), by obtain ⟨ov, xs, h1, h2⟩ := h.out; exact ⟨ov, xs, boxed_keep_ h1 hb, (Kept.of_below (E := []) hb).own h2 (fun _ _ => by simp)⟩, boxed_keep_ h.ib hb, h.lo, fun D hD => ⟨(h.ms D hD).1, (hb.block D (block_lt (h.ms D hD).2)).trans (h.ms D hD).2⟩, h.nd⟩
theorem sp_start (W1 : World) : SpI W1 ((W1.alloc (.cells #[.slice none 0 0] 22)).alloc (.cells #[.int .i64 0] 3)) (W1.heap.size + 1) 0 0 [] :=
  ⟨((Below.refl _ W1).alloc (Nat.le_refl _) _).alloc (by simp) _, ⟨.slice none 0 0, [], (Boxed.new W1 _ _).alloc _, World.ownsRow_nil _ _ _ _⟩, by have := Boxed.new (W1.alloc (.cells #[.slice none 0 0] 22)) 3 (.int .i64 0); rwa [World.size_alloc] at this, by omega, fun _ h => (by cases h), List.nodup_nil⟩
/-- The place's box anew, and one mark more. -/
theorem sp_next {W1 X : World} {Bi q m D : Nat} {ds : List Nat} (h : SpI W1 X Bi q m ds) (hD : X.heap[D]? = some (.deferred (some []))) (hlo : W1.heap.size < D) (hn : D ∉ ds) : SpI W1 (X.alloc (.cells #[.int .i64 (q : Int)] 3)) X.heap.size q m (D :: ds) := by
  have hb : Below X.heap.size X (X.alloc (.cells #[.int .i64 (q : Int)] 3)) := (Below.refl _ X).alloc (Nat.le_refl _) _
  have h' := sp_keep h hb
  refine ⟨h'.below, h'.out, Boxed.new X _ _, by have := h.lo; have := h.ib.lt; omega, fun D' hD' => ?_, List.nodup_cons.2 ⟨hn, h.nd⟩⟩
  rcases List.mem_cons.1 hD' with rfl | hD'
  · exact ⟨hlo, (hb.block _ (block_lt hD)).trans hD⟩
  · exact h'.ms D' hD'
/-- What is appended and stored. -/
theorem sp_push {W1 X Y : World} {Bi q k m : Nat} {ds : List Nat} {ov ov' : Value} {xs ys : List Value} (h : SpI W1 X Bi q m ds) (ho : Boxed X W1.heap.size 22 ov) (hx : X.ownsRow (W1.heap.size + 1) 9 1 ov m xs)
    (hg : X.grownBy Y ov.ownBlock) (hy : Y.ownsRow (W1.heap.size + 1) 9 1 ov' (m + 1) ys) : SpI W1 ((Y.setCell ⟨W1.heap.size, 0, none⟩ ov').setCell ⟨Bi, 0, none⟩ (.int .i64 (k : Int))) Bi k (m + 1) ds := by
  have hK : Kept ov.ownBlock.toList X Y := Kept.grown hg (fun k hk => by rw [hk]; simp)
  have hlo : ∀ g, ov.ownBlock = some g → W1.heap.size < g := fun g hgb => by
    have := (own_ty hx hgb).2
    omega
  have hoY := ho.kept hg (fun e => by have := hlo _ e.symm; omega)
  have hiY := h.ib.kept hg (h.ib.not_row (by decide) hx)
  have hbY : Below W1.heap.size W1 Y := h.below.trans (hK.below h.below.size (fun x hm => by have := hlo x (by simpa using hm); omega))
  have hb := (hbY.setCell (p := ⟨W1.heap.size, 0, none⟩) (Nat.le_refl _) ov').setCell (p := ⟨Bi, 0, none⟩) (Nat.le_of_lt h.lo) (.int .i64 (k : Int))
  have hK2 : Kept [W1.heap.size, Bi] Y ((Y.setCell ⟨W1.heap.size, 0, none⟩ ov').setCell ⟨Bi, 0, none⟩ (.int .i64 (k : Int))) := ((Kept.refl _ Y).set _ _ _ (.inl (by simp))).set _ _ _ (.inl (by simp))
  have hbo : Boxed (Y.setCell ⟨W1.heap.size, 0, none⟩ ov') Bi 3 (.int .i64 (q : Int)) := hiY.other (by have := h.lo; omega) _
  refine ⟨hb, ⟨ov', ys, (hoY.set _).other (by have := h.lo; omega) _, hK2.own hy (fun g hgb hm => ?_)⟩, hbo.set _, h.lo, fun D hD => ⟨(h.ms D hD).1, ?_⟩, h.nd⟩
  · have h1 := (own_ty hy hgb)
    simp only [List.mem_cons, List.not_mem_nil, or_false] at hm
    rcases hm with rfl | rfl
    · have := h1.2; omega
    · exact hiY.not_row (by decide) hy (by rw [hgb])
  · have hm := (h.ms D hD).2
    have hmc : ∀ (b : Nat) (cs : Array Value) (t : TypeId) (fr : Nat × Nat), X.heap[b]? = some (.cells cs t fr) → b ≠ D := fun b cs t fr hb e => by
      rw [← e, hb] at hm; cases hm
    have hY : Y.heap[D]? = some (.deferred (some [])) := hK.at hm (fun hmm => by
      have := own_ty hx (show ov.ownBlock = some D by simpa using hmm)
      rcases hx.2 with ⟨rfl, _⟩ | ⟨g', cap, cur, rfl, _, hgg, _⟩
      · simp [Value.ownBlock] at hmm
      · exact hmc _ _ _ _ hgg (by have h2 := hmm; simp [Value.ownBlock] at h2; exact h2.symm))
    exact hK2.at hY (by
      simp only [List.mem_cons, List.not_mem_nil, or_false]
      rintro (e | e)
      · exact hmc _ _ _ _ ho e.symm
      · exact hmc _ _ _ _ h.ib e.symm)

theorem sp_app {W1 X Y : World} {Bi q m : Nat} {ds : List Nat} {ov : Value} {xs : List Value} (h : SpI W1 X Bi q m ds) (ho : Boxed X W1.heap.size 22 ov) (hx : X.ownsRow (W1.heap.size + 1) 9 1 ov m xs) (hg : X.grownBy Y ov.ownBlock) :
    Boxed Y W1.heap.size 22 ov ∧ Boxed Y Bi 3 (.int .i64 (q : Int)) ∧ Below W1.heap.size X Y := by
  have hlo : ∀ g, ov.ownBlock = some g → W1.heap.size < g := fun g hgb => by
    have := (own_ty hx hgb).2
    omega
  have hK : Kept ov.ownBlock.toList X Y := Kept.grown hg (fun k hk => by rw [hk]; simp)
  exact ⟨ho.kept hg (fun e => by have := hlo _ e.symm; omega), h.ib.kept hg (h.ib.not_row (by decide) hx), hK.below h.below.size (fun x hm => by have := hlo x (by simpa using hm); omega)⟩
theorem ko_push {X Y : World} {B e n : Nat} {ov : Value} {xs : List Value} (hx : X.ownsRow B e 1 ov n xs) (hg : X.grownBy Y ov.ownBlock) : KeepsOthers X Y :=
  ⟨hg.size, fun k o hk ho => (hg.block k (block_lt hk) (fun e2 => by
    rcases hx.2 with ⟨rfl, _⟩ | ⟨g', cap, cur, rfl, _, hgg, _⟩
    · cases e2
    · simp only [Value.ownBlock, Option.some.injEq] at e2
      subst e2
      rw [hk] at hgg
      injection hgg with hgg
      rw [hgg] at ho
      cases ho)).trans hk⟩
theorem ko_below {X Y : World} (hb : Below X.heap.size X Y) : KeepsOthers X Y := ⟨hb.size, fun k _ hk _ => (hb.block k (block_lt hk)).trans hk⟩

/-- Behind the loop: its marks, none of them a call. -/
theorem marks_leave {B : Nat} {tmps : Array Value} {P : Option Addr} {m c : Nat} {R : Ending → World → Prop} (ht : tmps.getD 4 undef = .slice P m c) : ∀ (ds : List Nat) (W : World), ds.Nodup → (∀ D ∈ ds, B < D ∧ W.heap[D]? = some (.deferred (some []))) → (∀ W', Below B W W' → R (.returned (.slice P m c)) W') →
    LeavesInM Fence.wide 7 Tryz.prog Tryz.f39 tmps R (ds.map fun D => { target := .collected D, args := #[] }) .returning W
  | [], W, _, _, hR => by
    have ht' : tmps[4]?.getD undef = .slice P m c := by simpa using ht
    refine ⟨.slice P m c, ?_, hR W (Below.refl _ _)⟩
    simp [results, Tryz.results39, go_sem, ht']
  | D :: ds, W, hn, hm, hR => by
    obtain ⟨hd, hn'⟩ := List.nodup_cons.1 hn
    obtain ⟨hb, hD⟩ := hm D (by simp)
    refine ⟨by simp, .inl ⟨D, W.putObj D (.deferred none), rfl, run_takeDeferred hD, ?_⟩⟩
    have hbl : Below B W (W.putObj D (.deferred none)) := ⟨rfl, rfl, rfl, by simp, fun k hk => World.putObj_heap_other (by omega)⟩
    exact marks_leave ht ds _ hn' (fun D' hD' => ⟨(hm D' (by simp [hD'])).1, (World.putObj_heap_other (fun e => hd (by rw [← e]; exact hD'))).trans (hm D' (by simp [hD'])).2⟩) (fun W' hW' => hR W' (hbl.trans hW'))
/-- The piece that ends at k is the one to take. -/
def GoodK (n : Nat) (f : Nat → Nat) (q k : Nat) : Prop := (0 < q ∨ k < n) ∧ (k = n ∨ 0 < f k) ∧ f k + 1 = f q
/-- What the place's box holds. -/
def placeOf (a : Act) (w : World) : Nat :=
  match a.tmps.getD 7 undef with
  | .pointer (some p) => (intOf ((w.cell? p).getD undef)).toNat
  | _ => 0
theorem place_is {a : Act} {w : World} {B q : Nat} (ha : a.tmps.getD 7 undef = .pointer (some ⟨B, 0, none⟩)) (hc : w.cell? ⟨B, 0, none⟩ = some (.int .i64 (q : Int))) : placeOf a w = q := by
  unfold placeOf
  rw [ha]
  simp [hc, intOf]
theorem place_less {n : Nat} {a a' : Act} {w w' : World} {B B' q k : Nat} (ha : a.tmps.getD 7 undef = .pointer (some ⟨B, 0, none⟩)) (hc : w.cell? ⟨B, 0, none⟩ = some (.int .i64 (q : Int))) (ha' : a'.tmps.getD 7 undef = .pointer (some ⟨B', 0, none⟩)) (hc' : w'.cell? ⟨B', 0, none⟩ = some (.int .i64 (k : Int))) (hq : q < k) (hk : k ≤ n) :
    n - placeOf a' w' < n - placeOf a w := by
  rw [place_is ha hc, place_is ha' hc']
  omega
end Go.Proofs.YthfndmpigpphoaaGreat
