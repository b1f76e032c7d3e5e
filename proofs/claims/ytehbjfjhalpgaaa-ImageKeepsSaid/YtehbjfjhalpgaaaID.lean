/-
  An automaton's one shape: the reference's visit and Shape.
  An automaton's one shape: the reference's Shape.
  Sections read: the plain law; rows of edges and of states that a call makes.
  The reader: section.
  Decode's deferred closure: behind a fault, and behind none.
  Decode: what happens at its door.
  Decode: the memory that it goes through; a region that may panic in a function that defers.
-/
import Derived.Test.YtehbjfjhalpgaaaRows
import Derived.Test.YtehbjfjhalpgaaaIC
import Derived.Tactics
import Derived.Tactics2
import Derived.Defers
import Derived.Recover
import Derived.Laws.Pointers
import Derived.Deep.AppendLies
namespace Go.Proofs.Ytehbjfjhalpgaaa
section
open Go.RowKit
attribute [local go_sem ↓] Go.wp_at_zero Go.wp_at_succ

structure LookR (w : World) (lb sb : Nat) (av : Value) (N m : Nat) (d : Dn) : Prop where
  hd : ∃ cap, w.heap[lb]? = some (.cells #[av, .int .i64 (m : Int), .slice (some ⟨sb, 0, none⟩) N cap] 108 (0, 0))
  st : ∃ cs, w.heap[sb]? = some (.cells cs 4 (0, 0)) ∧ cs.size = N ∧ ∀ k, k < N → cs[k]? = some (.bool (d k))
  ne : lb ≠ sb
  no : ∀ k, m ≤ k → d k = false
theorem LookR.head {w : World} {l sb : Nat} {av : Value} {N m : Nat} {d : Dn} (h : LookR w l sb av N m d) :
    ∃ cap, w.cell? ⟨l, 0, none⟩ = some av ∧ w.cell? ⟨l, 1, none⟩ = some (.int .i64 (m : Int)) ∧ w.cell? ⟨l, 2, none⟩ = some (.slice (some ⟨sb, 0, none⟩) N cap) ∧ w.frozen? ⟨l, 1, none⟩ = false := by
  obtain ⟨cap, hc⟩ := h.hd
  exact ⟨cap, by rw [Lib.cell_of_heap hc]; rfl, by rw [Lib.cell_of_heap hc]; rfl, by rw [Lib.cell_of_heap hc]; rfl, Lib.frozen_of_heap hc 1⟩
theorem LookR.at_ {w : World} {l sb : Nat} {av : Value} {N m : Nat} {d : Dn} (h : LookR w l sb av N m d) (k : Nat) (hk : k < N) :
    w.cell? ⟨sb, k, none⟩ = some (.bool (d k)) ∧ w.frozen? ⟨sb, k, none⟩ = false := by
  obtain ⟨cs, hc, hn, hx⟩ := h.st
  exact ⟨by rw [Lib.cell_of_heap hc]; exact hx k hk, Lib.frozen_of_heap hc k⟩
theorem LookR.lt {w : World} {l sb : Nat} {av : Value} {N m : Nat} {d : Dn} (h : LookR w l sb av N m d) : l < w.heap.size ∧ sb < w.heap.size := by
  obtain ⟨⟨cap, hc⟩, ⟨cs, hs, _⟩, _⟩ := h
  exact ⟨block_lt hc, block_lt hs⟩
theorem LookR.kept {E : List Nat} {w w' : World} {l sb : Nat} {av : Value} {N m : Nat} {d : Dn} (h : LookR w l sb av N m d) (hk : Kept E w w') (h1 : l ∉ E) (h2 : sb ∉ E) : LookR w' l sb av N m d := by
  obtain ⟨⟨cap, hc⟩, ⟨cs, hs, r⟩, hne, hno⟩ := h
  exact ⟨⟨cap, hk.at hc h1⟩, ⟨cs, hk.at hs h2, r⟩, hne, hno⟩
theorem LookR.setMet {w : World} {l sb : Nat} {av : Value} {N m : Nat} {d : Dn} (h : LookR w l sb av N m d) : LookR (w.setCell ⟨l, 1, none⟩ (.int .i64 ((m + 1 : Nat) : Int))) l sb av N (m + 1) (updD d m false) := by
  obtain ⟨⟨cap, hc⟩, ⟨cs, hs, hn, hx⟩, hne, hno⟩ := h
  refine ⟨⟨cap, ?_⟩, ⟨cs, ?_, hn, fun k hk => ?_⟩, hne, fun k hk => ?_⟩
  · exact Go.heap_setCell_same w l 1 _ _ _ hc
  · rw [heap_setCell_other w ⟨l, 1, none⟩ sb _ (fun e => hne e.symm)]; exact hs
  · rw [hx k hk]
    by_cases e : k = m
    · subst e; simp [updD, hno k (Nat.le_refl _)]
    · simp [updD, e]
  · rw [updD, if_neg (by omega)]; exact hno k (by omega)
theorem LookR.setSt {w : World} {l sb : Nat} {av : Value} {N m : Nat} {d : Dn} (h : LookR w l sb av N m d) (n : Nat) (hn' : n < m) : LookR (w.setCell ⟨sb, n, none⟩ (.bool true)) l sb av N m (updD d n true) := by
  obtain ⟨⟨cap, hc⟩, ⟨cs, hs, hn, hx⟩, hne, hno⟩ := h
  refine ⟨⟨cap, ?_⟩, ⟨_, Go.heap_setCell_same w sb n _ _ _ hs, by simp [hn], fun k hk => ?_⟩, hne, fun k hk => ?_⟩
  · rw [heap_setCell_other w ⟨sb, n, none⟩ l _ hne]; exact hc
  · by_cases e : k = n
    · subst e; simp [updD, hn, hk]
    · rw [Array.getElem?_setIfInBounds_ne (Ne.symm e), hx k hk]; simp [updD, e]
  · rw [updD, if_neg (by omega)]; exact hno k hk
def PostVR (w : World) (lb sb : Nat) (av : Value) (N m : Nat) (r : Option (Nat × Dn)) (e : Ending) (w' : World) : Prop :=
  match r with
  | none => e = .returned (.bool false) ∧ Kept [lb, sb] w w'
  | some (m', d') => e = .returned (.bool true) ∧ Kept [lb, sb] w w' ∧ LookR w' lb sb av N m' d' ∧ m ≤ m' ∧ m' ≤ N
theorem wrap64_up1 (j n c : Nat) (h1 : n ≤ c) (h2 : c ≤ maxLen) (h3 : j + 1 ≤ n) : wrap64 ((j : Int) + 1) = (j : Int) + 1 := by
  unfold maxLen at h2; unfold wrap64; omega
theorem val_up1 (j n c : Nat) (h1 : n ≤ c) (h2 : c ≤ maxLen) (h3 : j + 1 ≤ n) : Value.int .i64 (wrap64 ((j : Int) + 1)) = Value.int .i64 ((j + 1 : Nat) : Int) := by
  rw [wrap64_up1 j n c h1 h2 h3]; rfl
theorem meas_up1 (j n c : Nat) (h1 : n ≤ c) (h2 : c ≤ maxLen) (h3 : j + 1 ≤ n) : n - (intOf (Value.int .i64 (wrap64 ((j : Int) + 1)))).toNat < n - (intOf (Value.int .i64 (j : Int))).toNat := by
  rw [wrap64_up1 j n c h1 h2 h3]
  show n - ((j : Int) + 1).toNat < n - (j : Int).toNat
  omega

set_option maxHeartbeats 4000000 in
set_option maxRecDepth 100000 in
theorem rvisit_any (A : List St) (lb sb : Nat) (av : Value) (hA1 : A.length ≤ 1048576) : ∀ (f : Nat) (n : Int) (m : Nat) (d : Dn) (w : World), A.length + 1 ≤ f + m → m ≤ A.length → LookR w lb sb av A.length m d → AutAt w (fun k => k ∉ [lb, sb]) av A →
    Calls Try.prog 50 #[.pointer (some ⟨lb, 0, none⟩), .int .i64 n] w (PostVR w lb sb av A.length m (vis A f n m d)) := by
  intro f
  induction f with
  | zero => intro n m d w hf hm; omega
  | succ f ih =>
    intro n m d w hf hm hL hA
    have HIH := Lib.hid ih
    clear ih
    obtain ⟨cap, c0, c1, c2, f1⟩ := hL.head
    have HL := Lib.hid hL
    have HA := Lib.hid hA
    by_cases hnm : n = (m : Int)
    · subst hnm
      by_cases hmN : m < A.length
      · obtain ⟨⟨fin, es⟩, hx⟩ : ∃ x, A[m] = x := ⟨_, rfl⟩
        have hx? : A[m]? = some (fin, es) := by rw [List.getElem?_eq_getElem hmN, hx]
        obtain ⟨Ax, cap0, rfl, hc0, hA0⟩ := hA
        obtain ⟨g, o, rfl, hg, hp, hcs⟩ := hA0.resolve_left (by omega)
        obtain ⟨e0, ev, e1, hE⟩ := hcs m hmN
        rw [hx] at e0 hE
        dsimp only at e0 hE
        have hE0 := hE
        obtain ⟨Ex, cap1, rfl, hc1, hE1⟩ := hE
        have HE := Lib.hid hE0
        have HC1 := Lib.hid hc1
        clear hc1
        obtain ⟨cs0, fs0⟩ := hL.at_ m hmN
        have hgl : g ≠ lb := fun e => hp (by simp [e])
        have hgs : g ≠ sb := fun e => hp (by simp [e])
        have hls := hL.ne
        have hlg := Ne.symm hgl
        have hsg := Ne.symm hgs
        have hsl := Ne.symm hls
        clear hL hcs hA0 hE0 hE1 hx
        have HV : Hid (vis A (f + 1) (m : Int) m d = if es.length = 0 ∧ fin = false ∧ A.length ≠ 1 then none else match visEs (vis A f) none es (m + 1) (updD d m false) with | none => none | some (m', d') => some (m', updD d' m true)) := Lib.hid (by
          rw [vis, if_neg (by simp), hx?]; rfl)
        have HW0 : Hid (∀ W0, (w.setCell ⟨lb, 1, none⟩ (Value.int .i64 ((m : Int) + 1))).alloc (Obj.cells #[Value.bool fin, Value.slice Ex es.length cap1] 112) = W0 →
            LookR W0 lb sb (Value.slice (some ⟨g, o, none⟩) A.length cap0) A.length (m + 1) (updD d m false) ∧ Kept [lb, sb] w W0 ∧ W0.heap[w.heap.size]? = some (.cells #[Value.bool fin, Value.slice Ex es.length cap1] 112)) := Lib.hid (by
          rintro W0 rfl
          have h1 := HL.out.setMet
          rw [Int.natCast_add] at h1
          refine ⟨h1.kept ((Kept.refl [] _).alloc _) (by simp) (by simp), ((Kept.refl _ _).set _ _ _ (.inl (by simp))).alloc _, ?_⟩
          have := heap_alloc_new (w.setCell ⟨lb, 1, none⟩ (Value.int .i64 ((m : Int) + 1))) (Obj.cells #[Value.bool fin, Value.slice Ex es.length cap1] 112)
          simpa [World.setCell] using this)
        have hq1 : ¬ (m : Int) < 0 := by omega
        have hq2 : ¬ (A.length : Int) ≤ (m : Int) := by omega
        by_cases hdead : es.length = 0 ∧ fin = false ∧ A.length ≠ 1
        · have HN := Lib.hid (HV.out.trans (if_pos hdead))
          obtain ⟨hd1, rfl, hd3⟩ := hdead
          have q1 : ((es.length : Int) == 0) = true := by simp [hd1]
          have hd4 : (1 : Int) < (A.length : Int) := by omega
          clear hx? hd1 hd3
          obtain ⟨_, cW, _⟩ := (HW0.out _ rfl).1.head
          go_enter Try.func50, Try.ntmps50
          go_wp2_with fail
          go_ret
          rw [HN.out]
          exact ⟨rfl, (HW0.out _ rfl).2.1⟩
        have HV' := Lib.hid (HV.out.trans (if_neg hdead))
        have hcs : (((es.length : Int) == 0) = false) ∨ (((es.length : Int) == 0) = true ∧ fin = true) ∨ (((es.length : Int) == 0) = true ∧ fin = false ∧ ¬ (1 : Int) < (A.length : Int)) := by
          by_cases h1 : es.length = 0
          · cases fin
            · exact .inr (.inr ⟨by simp [h1], rfl, fun h => hdead ⟨h1, rfl, by omega⟩⟩)
            · exact .inr (.inl ⟨by simp [h1], rfl⟩)
          · exact .inl (by rw [beq_eq_false_iff_ne]; omega)
        clear hx? hdead HV
        rcases hcs with q1 | ⟨q1, rfl⟩ | ⟨q1, rfl, q2⟩
        all_goals
          obtain ⟨_, cW, _⟩ := (HW0.out _ rfl).1.head
          go_enter Try.func50, Try.ntmps50
          go_wp2_with fail
          clear cW
          generalize hW0 : (w.setCell ⟨lb, 1, none⟩ (Value.int .i64 ((m : Int) + 1))).alloc _ = W0
          obtain ⟨hL0, hK0, hB0⟩ := HW0.out W0 hW0
          clear hW0
          have HL0 := Lib.hid hL0
          have HK0 := Lib.hid hK0
          have HB0 := Lib.hid hB0
          clear hL0 hK0 hB0 HW0 c0 c1 c2 f1 e0 e1 cs0 fs0
          clear q1
          go_loopw [6, 7] (fun i _ W => ∃ (k m' : Nat) (d' : Dn), k ≤ es.length ∧ i = .int .i64 k ∧ Hid (m + 1 ≤ m' ∧ m' ≤ A.length) ∧ Hid (Kept [lb, sb] W0 W) ∧ Hid (LookR W lb sb (Value.slice (some ⟨g, o, none⟩) A.length cap0) A.length m' d') ∧ Hid (visEs (vis A f) none es (m + 1) (updD d m false) = visEs (vis A f) (prevAt es k) (es.drop k) m' d')) (fun i _ _ => es.length - (intOf i).toNat)
          case atStart => exact ⟨0, m + 1, updD d m false, Nat.zero_le _, rfl, Lib.hid ⟨Nat.le_refl _, hmN⟩, Lib.hid (Kept.refl _ _), HL0, Lib.hid rfl⟩
          case round =>
            obtain ⟨k, m', d', hk, rfl, HM, HK, HLW, HVs⟩ := hrel
            have hlt1 := HLW.out.lt
            have hlt2 := HL.out.lt
            have hwr := HK.out.at HB0.out (by simp only [List.mem_cons, List.not_mem_nil, or_false]; omega)
            have t1 : wr.cell? ⟨w.heap.size, 1, none⟩ = some (Value.slice Ex es.length cap1) := by rw [Lib.cell_of_heap hwr]; rfl
            clear hwr
            by_cases hlt : k < es.length
            · obtain ⟨Ex', cap1', hEq, _, hE1⟩ := HE.out
              obtain ⟨eg, eo, rfl, heg, hep, hec⟩ := hE1.resolve_left (by omega)
              injection hEq with hq1' hq2' hq3'
              subst hq1' hq3'
              have hce : ∀ j, W0.cell? ⟨eg, j, none⟩ = w.cell? ⟨eg, j, none⟩ := fun j => HK0.out.cell (p := ⟨eg, j, none⟩) heg hep
              have hcw : ∀ j, wr.cell? ⟨eg, j, none⟩ = w.cell? ⟨eg, j, none⟩ := fun j => (HK.out.cell (p := ⟨eg, j, none⟩) (Nat.lt_of_lt_of_le heg HK0.out.size) hep).trans (hce j)
              have b0 := (hcw _).trans (hec k hlt).1
              have b1 := (hcw _).trans (hec k hlt).2
              have HLt : Hid (True → k + 1 ≤ es.length) := Lib.hid (fun _ => hlt)
              have HPrev : Hid (0 < k → wr.cell? ⟨eg, eo + (k - 1) * 2, none⟩ = some (.int .u8 ((es[k - 1]'(by omega)).1.toNat : Int))) := Lib.hid (fun h0 => (hcw _).trans (hec (k - 1) (by omega)).1)
              have HN : Hid (∀ r, vis A f es[k].2 m' d' = r → badAt es k = false → visEs (vis A f) none es (m + 1) (updD d m false) = match r with | none => none | some (m', d') => visEs (vis A f) (prevAt es (k + 1)) (es.drop (k + 1)) m' d') := Lib.hid (fun r hr hb => by
                rw [HVs.out, visEs_step _ _ _ _ _ hlt hb, hr]; rcases r with _ | ⟨_, _⟩ <;> rfl)
              have HBad : Hid (badAt es k = true → visEs (vis A f) none es (m + 1) (updD d m false) = none) := Lib.hid (fun hb => by rw [HVs.out, visEs_bad _ _ _ _ _ hlt hb])
              have HCall : Hid (∀ W', Kept [] wr W' → Calls Try.prog 50 #[.pointer (some ⟨lb, 0, none⟩), .int .i64 es[k].2] W' (PostVR W' lb sb (Value.slice (some ⟨g, o, none⟩) A.length cap0) A.length m' (vis A f es[k].2 m' d'))) := Lib.hid (fun W' hW' => by
                have := HM.out
                exact HIH.out _ m' d' W' (by omega) this.2 (HLW.out.kept hW' (by simp) (by simp)) ((((HA.out.kept HK0.out (by simp)).kept HK.out (by simp)).kept hW' (by simp))))
              have HBs : Hid (0 < k → badAt es k = decide (es[k].1.toNat ≤ (es[k - 1]'(by omega)).1.toNat)) := Lib.hid (badAt_s es k hlt)
              have HB0k : Hid (k = 0 → badAt es k = false) := Lib.hid (by rintro rfl; exact badAt_0 es)
              obtain ⟨⟨eb, et⟩, hek⟩ : ∃ x, es[k] = x := ⟨_, rfl⟩
              rw [hek] at b0 b1 HN HCall HBs
              dsimp only at b0 b1 HN HCall HBs
              clear hek hec hcw hce hE1 HVs
              by_cases h0 : 0 < k
              · obtain ⟨j, rfl⟩ : ∃ j, k = j + 1 := ⟨k - 1, by omega⟩
                have pc := HPrev.out h0
                have hbs := HBs.out h0
                simp only [Nat.add_sub_cancel] at pc hbs
                obtain ⟨⟨pb, pt⟩, hpk⟩ : ∃ x, es[j]'(by omega) = x := ⟨_, rfl⟩
                rw [hpk] at pc hbs
                dsimp only at pc hbs
                clear hpk
                have hw1 : IntKind.i64.wrap (j : Int) = (j : Int) := by have := HC1.out.1; have := HC1.out.2; unfold maxLen at this; rw [IntKind.wrap_i64]; omega
                have hjl : (j : Int) < (es.length : Int) := by omega
                have hj0 : (0 : Int) ≤ (j : Int) + 1 := by omega
                by_cases hb : eb.toNat ≤ pb.toNat
                · have HNb := Lib.hid (HBad.out (hbs.trans (decide_eq_true hb)))
                  have hb1 : decide ((eb.toNat : Int) ≤ (pb.toNat : Int)) = true := by simpa using hb
                  clear HN HBad HPrev HBs HB0k HCall hbs
                  go_wp2_with fail
                  refine wp_region_held_drew (S := fun w' => w'.cell? ⟨w.heap.size, 1, none⟩ = some (Value.slice (some ⟨eg, eo, none⟩) es.length cap1) ∧ w'.cell? ⟨eg, eo + (j + 1) * 2, none⟩ = some (.int .u8 (eb.toNat : Int)) ∧ w'.cell? ⟨eg, eo + j * 2, none⟩ = some (.int .u8 (pb.toNat : Int))) (by kernel_rfl) ?_ (fun hHeld => ?_)
                  · exact ⟨t1, b0, pc⟩
                  refine takeH (i := 0) (d := some 79) (v := ?_) rfl rfl (by kernel_rfl) (by kernel_rfl) (by kernel_rfl) (fun _ _ _ h => h) (Or.inl ⟨by kernel_rfl, ?_⟩) hHeld ?_
                  rotate_left
                  · intro w hSw; (try dsimp only at hSw); go_simp; try with_reducible rfl
                  try simp only [Act.put, List.setIfInBounds_toArray, List.set_cons_zero, List.set_cons_succ]
                  refine takeH (i := 1) (d := some 80) (v := ?_) rfl rfl (by kernel_rfl) (by kernel_rfl) (by kernel_rfl) (fun _ _ _ h => h) (Or.inl ⟨by kernel_rfl, ?_⟩) hHeld ?_
                  rotate_left
                  · intro w hSw; (try dsimp only at hSw); go_simp; try with_reducible rfl
                  try simp only [Act.put, List.setIfInBounds_toArray, List.set_cons_zero, List.set_cons_succ]
                  refine takeH (i := 2) (d := some 81) (v := ?_) rfl rfl (by kernel_rfl) (by kernel_rfl) (by kernel_rfl) (fun _ _ _ h => h) (Or.inl ⟨by kernel_rfl, ?_⟩) hHeld ?_
                  rotate_left
                  · intro w hSw; (try dsimp only at hSw); go_simp; try with_reducible rfl
                  try simp only [Act.put, List.setIfInBounds_toArray, List.set_cons_zero, List.set_cons_succ]
                  refine takeH (i := 3) (d := some 82) (v := ?_) rfl rfl (by kernel_rfl) (by kernel_rfl) (by kernel_rfl) (fun _ _ _ h => h) (Or.inl ⟨by kernel_rfl, ?_⟩) hHeld ?_
                  rotate_left
                  · intro w hSw; (try dsimp only at hSw); go_simp; try with_reducible rfl
                  try simp only [Act.put, List.setIfInBounds_toArray, List.set_cons_zero, List.set_cons_succ]
                  refine takeH (i := 4) (d := some 83) (v := ?_) rfl rfl (by kernel_rfl) (by kernel_rfl) (by kernel_rfl) (fun _ _ _ h => h) (Or.inl ⟨by kernel_rfl, ?_⟩) hHeld ?_
                  rotate_left
                  · intro w hSw; (try dsimp only at hSw); go_simp; try with_reducible rfl
                  try simp only [Act.put, List.setIfInBounds_toArray, List.set_cons_zero, List.set_cons_succ]
                  refine takeH (i := 5) (d := some 84) (v := ?_) rfl rfl (by kernel_rfl) (by kernel_rfl) (by kernel_rfl) (fun _ _ _ h => h) (Or.inl ⟨by kernel_rfl, ?_⟩) hHeld ?_
                  rotate_left
                  · intro w hSw; (try dsimp only at hSw); go_simp; try with_reducible rfl
                  try simp only [Act.put, List.setIfInBounds_toArray, List.set_cons_zero, List.set_cons_succ]
                  refine takeH (i := 6) (d := some 85) (v := ?_) rfl rfl (by kernel_rfl) (by kernel_rfl) (by kernel_rfl) (fun _ _ _ h => h) (Or.inl ⟨by kernel_rfl, ?_⟩) hHeld ?_
                  rotate_left
                  · intro w hSw; (try dsimp only at hSw); go_simp; try with_reducible rfl
                  try simp only [Act.put, List.setIfInBounds_toArray, List.set_cons_zero, List.set_cons_succ]
                  refine takeH (i := 7) (d := some 86) (v := ?_) rfl rfl (by kernel_rfl) (by kernel_rfl) (by kernel_rfl) (fun _ _ _ h => h) (Or.inl ⟨by kernel_rfl, ?_⟩) hHeld ?_
                  rotate_left
                  · intro w hSw; (try dsimp only at hSw); go_simp; try with_reducible rfl
                  try simp only [Act.put, List.setIfInBounds_toArray, List.set_cons_zero, List.set_cons_succ]
                  refine takeH (i := 8) (d := some 87) (v := ?_) rfl rfl (by kernel_rfl) (by kernel_rfl) (by kernel_rfl) (fun _ _ _ h => h) (Or.inl ⟨by kernel_rfl, ?_⟩) hHeld ?_
                  rotate_left
                  · intro w hSw; (try dsimp only at hSw); go_simp; try with_reducible rfl
                  try simp only [Act.put, List.setIfInBounds_toArray, List.set_cons_zero, List.set_cons_succ]
                  refine takeH (i := 9) (d := some 88) (v := ?_) rfl rfl (by kernel_rfl) (by kernel_rfl) (by kernel_rfl) (fun _ _ _ h => h) (Or.inl ⟨by kernel_rfl, ?_⟩) hHeld ?_
                  rotate_left
                  · intro w hSw; (try dsimp only at hSw); go_simp; try with_reducible rfl
                  try simp only [Act.put, List.setIfInBounds_toArray, List.set_cons_zero, List.set_cons_succ]
                  refine takeH (i := 10) (d := some 89) (v := ?_) rfl rfl (by kernel_rfl) (by kernel_rfl) (by kernel_rfl) (fun _ _ _ h => h) (Or.inl ⟨by kernel_rfl, ?_⟩) hHeld ?_
                  rotate_left
                  · intro w hSw; (try dsimp only at hSw); go_simp; try with_reducible rfl
                  try simp only [Act.put, List.setIfInBounds_toArray, List.set_cons_zero, List.set_cons_succ]
                  refine takeH (i := 11) (d := some 90) (v := ?_) rfl rfl (by kernel_rfl) (by kernel_rfl) (by kernel_rfl) (fun _ _ _ h => h) (Or.inl ⟨by kernel_rfl, ?_⟩) hHeld ?_
                  rotate_left
                  · intro w hSw; (try dsimp only at hSw); go_simp; try with_reducible rfl
                  try simp only [Act.put, List.setIfInBounds_toArray, List.set_cons_zero, List.set_cons_succ]
                  refine takeH (i := 12) (d := some 91) (v := ?_) rfl rfl (by kernel_rfl) (by kernel_rfl) (by kernel_rfl) (fun _ _ _ h => h) (Or.inl ⟨by kernel_rfl, ?_⟩) hHeld ?_
                  rotate_left
                  · intro w hSw; (try dsimp only at hSw); go_simp; try with_reducible rfl
                  try simp only [Act.put, List.setIfInBounds_toArray, List.set_cons_zero, List.set_cons_succ]
                  refine takeH (i := 13) (d := some 92) (v := ?_) rfl rfl (by kernel_rfl) (by kernel_rfl) (by kernel_rfl) (fun _ _ _ h => h) (Or.inl ⟨by kernel_rfl, ?_⟩) hHeld ?_
                  rotate_left
                  · intro w hSw; (try dsimp only at hSw); go_simp; try with_reducible rfl
                  try simp only [Act.put, List.setIfInBounds_toArray, List.set_cons_zero, List.set_cons_succ]
                  refine takeH (i := 14) (d := some 93) (v := ?_) rfl rfl (by kernel_rfl) (by kernel_rfl) (by kernel_rfl) (fun _ _ _ h => h) (Or.inl ⟨by kernel_rfl, ?_⟩) hHeld ?_
                  rotate_left
                  · intro w hSw; (try dsimp only at hSw); go_simp; try with_reducible rfl
                  try simp only [Act.put, List.setIfInBounds_toArray, List.set_cons_zero, List.set_cons_succ]
                  refine takeH (i := 15) (d := some 94) (v := ?_) rfl rfl (by kernel_rfl) (by kernel_rfl) (by kernel_rfl) (fun _ _ _ h => h) (Or.inl ⟨by kernel_rfl, ?_⟩) hHeld ?_
                  rotate_left
                  · intro w hSw; (try dsimp only at hSw); go_simp; try with_reducible rfl
                  try simp only [Act.put, List.setIfInBounds_toArray, List.set_cons_zero, List.set_cons_succ]
                  refine takeH (i := 16) (d := some 95) (v := ?_) rfl rfl (by kernel_rfl) (by kernel_rfl) (by kernel_rfl) (fun _ _ _ h => h) (Or.inl ⟨by kernel_rfl, ?_⟩) hHeld ?_
                  rotate_left
                  · intro w hSw; (try dsimp only at hSw); go_simp; try with_reducible rfl
                  try simp only [Act.put, List.setIfInBounds_toArray, List.set_cons_zero, List.set_cons_succ]
                  refine takeH (i := 17) (d := some 96) (v := ?_) rfl rfl (by kernel_rfl) (by kernel_rfl) (by kernel_rfl) (fun _ _ _ h => h) (Or.inl ⟨by kernel_rfl, ?_⟩) hHeld ?_
                  rotate_left
                  · intro w hSw; (try dsimp only at hSw); go_simp; try with_reducible rfl
                  try simp only [Act.put, List.setIfInBounds_toArray, List.set_cons_zero, List.set_cons_succ]
                  refine wpAnyH_done (by kernel_rfl) ?_ _
                  go_wp2_with fail
                  go_ret
                  rw [HV'.out, HNb.out]
                  exact ⟨rfl, HK0.out.trans HK.out.drew⟩
                · have hb1 : decide ((eb.toNat : Int) ≤ (pb.toNat : Int)) = false := by simpa using hb
                  have HNb := Lib.hid (hbs.trans (decide_eq_false hb))
                  obtain ⟨r, hr⟩ : ∃ r, vis A f et m' d' = r := ⟨_, rfl⟩
                  have HN2 := Lib.hid (HN.out r hr HNb.out)
                  rw [hr] at HCall
                  clear hr HN HBad HPrev HBs HB0k hbs
                  go_wp2_with fail
                  refine wp_region_held_drew (S := fun w' => w'.cell? ⟨w.heap.size, 1, none⟩ = some (Value.slice (some ⟨eg, eo, none⟩) es.length cap1) ∧ w'.cell? ⟨eg, eo + (j + 1) * 2, none⟩ = some (.int .u8 (eb.toNat : Int)) ∧ w'.cell? ⟨eg, eo + j * 2, none⟩ = some (.int .u8 (pb.toNat : Int))) (by kernel_rfl) ?_ (fun hHeld => ?_)
                  · exact ⟨t1, b0, pc⟩
                  refine takeH (i := 0) (d := some 79) (v := ?_) rfl rfl (by kernel_rfl) (by kernel_rfl) (by kernel_rfl) (fun _ _ _ h => h) (Or.inl ⟨by kernel_rfl, ?_⟩) hHeld ?_
                  rotate_left
                  · intro w hSw; (try dsimp only at hSw); go_simp; try with_reducible rfl
                  try simp only [Act.put, List.setIfInBounds_toArray, List.set_cons_zero, List.set_cons_succ]
                  refine takeH (i := 1) (d := some 80) (v := ?_) rfl rfl (by kernel_rfl) (by kernel_rfl) (by kernel_rfl) (fun _ _ _ h => h) (Or.inl ⟨by kernel_rfl, ?_⟩) hHeld ?_
                  rotate_left
                  · intro w hSw; (try dsimp only at hSw); go_simp; try with_reducible rfl
                  try simp only [Act.put, List.setIfInBounds_toArray, List.set_cons_zero, List.set_cons_succ]
                  refine takeH (i := 2) (d := some 81) (v := ?_) rfl rfl (by kernel_rfl) (by kernel_rfl) (by kernel_rfl) (fun _ _ _ h => h) (Or.inl ⟨by kernel_rfl, ?_⟩) hHeld ?_
                  rotate_left
                  · intro w hSw; (try dsimp only at hSw); go_simp; try with_reducible rfl
                  try simp only [Act.put, List.setIfInBounds_toArray, List.set_cons_zero, List.set_cons_succ]
                  refine takeH (i := 3) (d := some 82) (v := ?_) rfl rfl (by kernel_rfl) (by kernel_rfl) (by kernel_rfl) (fun _ _ _ h => h) (Or.inl ⟨by kernel_rfl, ?_⟩) hHeld ?_
                  rotate_left
                  · intro w hSw; (try dsimp only at hSw); go_simp; try with_reducible rfl
                  try simp only [Act.put, List.setIfInBounds_toArray, List.set_cons_zero, List.set_cons_succ]
                  refine takeH (i := 4) (d := some 83) (v := ?_) rfl rfl (by kernel_rfl) (by kernel_rfl) (by kernel_rfl) (fun _ _ _ h => h) (Or.inl ⟨by kernel_rfl, ?_⟩) hHeld ?_
                  rotate_left
                  · intro w hSw; (try dsimp only at hSw); go_simp; try with_reducible rfl
                  try simp only [Act.put, List.setIfInBounds_toArray, List.set_cons_zero, List.set_cons_succ]
                  refine takeH (i := 5) (d := some 84) (v := ?_) rfl rfl (by kernel_rfl) (by kernel_rfl) (by kernel_rfl) (fun _ _ _ h => h) (Or.inl ⟨by kernel_rfl, ?_⟩) hHeld ?_
                  rotate_left
                  · intro w hSw; (try dsimp only at hSw); go_simp; try with_reducible rfl
                  try simp only [Act.put, List.setIfInBounds_toArray, List.set_cons_zero, List.set_cons_succ]
                  refine takeH (i := 6) (d := some 85) (v := ?_) rfl rfl (by kernel_rfl) (by kernel_rfl) (by kernel_rfl) (fun _ _ _ h => h) (Or.inl ⟨by kernel_rfl, ?_⟩) hHeld ?_
                  rotate_left
                  · intro w hSw; (try dsimp only at hSw); go_simp; try with_reducible rfl
                  try simp only [Act.put, List.setIfInBounds_toArray, List.set_cons_zero, List.set_cons_succ]
                  refine takeH (i := 7) (d := some 86) (v := ?_) rfl rfl (by kernel_rfl) (by kernel_rfl) (by kernel_rfl) (fun _ _ _ h => h) (Or.inl ⟨by kernel_rfl, ?_⟩) hHeld ?_
                  rotate_left
                  · intro w hSw; (try dsimp only at hSw); go_simp; try with_reducible rfl
                  try simp only [Act.put, List.setIfInBounds_toArray, List.set_cons_zero, List.set_cons_succ]
                  refine takeH (i := 8) (d := some 87) (v := ?_) rfl rfl (by kernel_rfl) (by kernel_rfl) (by kernel_rfl) (fun _ _ _ h => h) (Or.inl ⟨by kernel_rfl, ?_⟩) hHeld ?_
                  rotate_left
                  · intro w hSw; (try dsimp only at hSw); go_simp; try with_reducible rfl
                  try simp only [Act.put, List.setIfInBounds_toArray, List.set_cons_zero, List.set_cons_succ]
                  refine takeH (i := 9) (d := some 88) (v := ?_) rfl rfl (by kernel_rfl) (by kernel_rfl) (by kernel_rfl) (fun _ _ _ h => h) (Or.inl ⟨by kernel_rfl, ?_⟩) hHeld ?_
                  rotate_left
                  · intro w hSw; (try dsimp only at hSw); go_simp; try with_reducible rfl
                  try simp only [Act.put, List.setIfInBounds_toArray, List.set_cons_zero, List.set_cons_succ]
                  refine takeH (i := 10) (d := some 89) (v := ?_) rfl rfl (by kernel_rfl) (by kernel_rfl) (by kernel_rfl) (fun _ _ _ h => h) (Or.inl ⟨by kernel_rfl, ?_⟩) hHeld ?_
                  rotate_left
                  · intro w hSw; (try dsimp only at hSw); go_simp; try with_reducible rfl
                  try simp only [Act.put, List.setIfInBounds_toArray, List.set_cons_zero, List.set_cons_succ]
                  refine takeH (i := 11) (d := some 90) (v := ?_) rfl rfl (by kernel_rfl) (by kernel_rfl) (by kernel_rfl) (fun _ _ _ h => h) (Or.inl ⟨by kernel_rfl, ?_⟩) hHeld ?_
                  rotate_left
                  · intro w hSw; (try dsimp only at hSw); go_simp; try with_reducible rfl
                  try simp only [Act.put, List.setIfInBounds_toArray, List.set_cons_zero, List.set_cons_succ]
                  refine takeH (i := 12) (d := some 91) (v := ?_) rfl rfl (by kernel_rfl) (by kernel_rfl) (by kernel_rfl) (fun _ _ _ h => h) (Or.inl ⟨by kernel_rfl, ?_⟩) hHeld ?_
                  rotate_left
                  · intro w hSw; (try dsimp only at hSw); go_simp; try with_reducible rfl
                  try simp only [Act.put, List.setIfInBounds_toArray, List.set_cons_zero, List.set_cons_succ]
                  refine takeH (i := 13) (d := some 92) (v := ?_) rfl rfl (by kernel_rfl) (by kernel_rfl) (by kernel_rfl) (fun _ _ _ h => h) (Or.inl ⟨by kernel_rfl, ?_⟩) hHeld ?_
                  rotate_left
                  · intro w hSw; (try dsimp only at hSw); go_simp; try with_reducible rfl
                  try simp only [Act.put, List.setIfInBounds_toArray, List.set_cons_zero, List.set_cons_succ]
                  refine takeH (i := 14) (d := some 93) (v := ?_) rfl rfl (by kernel_rfl) (by kernel_rfl) (by kernel_rfl) (fun _ _ _ h => h) (Or.inl ⟨by kernel_rfl, ?_⟩) hHeld ?_
                  rotate_left
                  · intro w hSw; (try dsimp only at hSw); go_simp; try with_reducible rfl
                  try simp only [Act.put, List.setIfInBounds_toArray, List.set_cons_zero, List.set_cons_succ]
                  refine takeH (i := 15) (d := some 94) (v := ?_) rfl rfl (by kernel_rfl) (by kernel_rfl) (by kernel_rfl) (fun _ _ _ h => h) (Or.inl ⟨by kernel_rfl, ?_⟩) hHeld ?_
                  rotate_left
                  · intro w hSw; (try dsimp only at hSw); go_simp; try with_reducible rfl
                  try simp only [Act.put, List.setIfInBounds_toArray, List.set_cons_zero, List.set_cons_succ]
                  refine takeH (i := 16) (d := some 95) (v := ?_) rfl rfl (by kernel_rfl) (by kernel_rfl) (by kernel_rfl) (fun _ _ _ h => h) (Or.inl ⟨by kernel_rfl, ?_⟩) hHeld ?_
                  rotate_left
                  · intro w hSw; (try dsimp only at hSw); go_simp; try with_reducible rfl
                  try simp only [Act.put, List.setIfInBounds_toArray, List.set_cons_zero, List.set_cons_succ]
                  refine takeH (i := 17) (d := some 96) (v := ?_) rfl rfl (by kernel_rfl) (by kernel_rfl) (by kernel_rfl) (fun _ _ _ h => h) (Or.inl ⟨by kernel_rfl, ?_⟩) hHeld ?_
                  rotate_left
                  · intro w hSw; (try dsimp only at hSw); go_simp; try with_reducible rfl
                  try simp only [Act.put, List.setIfInBounds_toArray, List.set_cons_zero, List.set_cons_succ]
                  refine wpAnyH_done (by kernel_rfl) ?_ _
                  go_wp2_with fail
                  refine (HCall.out _ (Kept.refl _ _).drew).mono ?_
                  rcases r with _ | ⟨m2, d2⟩
                  · rintro e w' ⟨rfl, hk⟩
                    have HKc := Lib.hid hk
                    clear hk
                    go_wp2_with fail
                    go_ret
                    rw [HV'.out, HN2.out]
                    exact ⟨rfl, HK0.out.trans (HK.out.drew.trans HKc.out)⟩
                  · rintro e w' ⟨rfl, hk, hl, hm1, hm2⟩
                    have HKc := Lib.hid hk
                    have HLc := Lib.hid hl
                    have HMc := Lib.hid (And.intro hm1 hm2)
                    clear hk hl hm1 hm2
                    go_wp2_with fail
                    go_roundw
                    case rel => exact ⟨j + 1 + 1, m2, d2, HLt.out trivial, val_up2 j es.length cap1 HC1.out.1 HC1.out.2 (HLt.out trivial), Lib.hid (by have := HM.out; have := HMc.out; omega), Lib.hid (HK.out.drew.trans HKc.out), HLc, HN2⟩
                    case measure => exact meas_up2 j es.length cap1 HC1.out.1 HC1.out.2 (HLt.out trivial)
              · obtain rfl : k = 0 := by omega
                simp only [Nat.zero_mul, Nat.add_zero] at b0 b1
                have HNb := Lib.hid (HB0k.out rfl)
                obtain ⟨r, hr⟩ : ∃ r, vis A f et m' d' = r := ⟨_, rfl⟩
                have HN2 := Lib.hid (HN.out r hr HNb.out)
                rw [hr] at HCall
                clear hr HN HBad HPrev HBs HB0k
                go_wp2_with fail
                refine wp_region_held_drew (S := fun w' => True) (by kernel_rfl) ?_ (fun hHeld => ?_)
                · trivial
                refine takeH (i := 0) (d := some 79) (v := ?_) rfl rfl (by kernel_rfl) (by kernel_rfl) (by kernel_rfl) (fun _ _ _ h => h) (Or.inl ⟨by kernel_rfl, ?_⟩) hHeld ?_
                rotate_left
                · intro w hSw; (try dsimp only at hSw); go_simp; try with_reducible rfl
                try simp only [Act.put, List.setIfInBounds_toArray, List.set_cons_zero, List.set_cons_succ]
                refine takeH (i := 1) (d := some 80) (v := ?_) rfl rfl (by kernel_rfl) (by kernel_rfl) (by kernel_rfl) (fun _ _ _ h => h) (Or.inl ⟨by kernel_rfl, ?_⟩) hHeld ?_
                rotate_left
                · intro w hSw; (try dsimp only at hSw); go_simp; try with_reducible rfl
                try simp only [Act.put, List.setIfInBounds_toArray, List.set_cons_zero, List.set_cons_succ]
                refine takeH (i := 2) (d := some 81) (v := ?_) rfl rfl (by kernel_rfl) (by kernel_rfl) (by kernel_rfl) (fun _ _ _ h => h) (Or.inl ⟨by kernel_rfl, ?_⟩) hHeld ?_
                rotate_left
                · intro w hSw; (try dsimp only at hSw); go_simp; try with_reducible rfl
                try simp only [Act.put, List.setIfInBounds_toArray, List.set_cons_zero, List.set_cons_succ]
                refine takeH (i := 3) (d := some 82) (v := undef) rfl rfl (by kernel_rfl) (by kernel_rfl) (by kernel_rfl) (fun _ _ _ h => h) (Or.inr ⟨by kernel_rfl, rfl⟩) hHeld ?_
                try simp only [Act.put, List.setIfInBounds_toArray, List.set_cons_zero, List.set_cons_succ]
                refine takeH (i := 4) (d := some 83) (v := undef) rfl rfl (by kernel_rfl) (by kernel_rfl) (by kernel_rfl) (fun _ _ _ h => h) (Or.inr ⟨by kernel_rfl, rfl⟩) hHeld ?_
                try simp only [Act.put, List.setIfInBounds_toArray, List.set_cons_zero, List.set_cons_succ]
                refine takeH (i := 5) (d := some 84) (v := undef) rfl rfl (by kernel_rfl) (by kernel_rfl) (by kernel_rfl) (fun _ _ _ h => h) (Or.inr ⟨by kernel_rfl, rfl⟩) hHeld ?_
                try simp only [Act.put, List.setIfInBounds_toArray, List.set_cons_zero, List.set_cons_succ]
                refine takeH (i := 6) (d := some 85) (v := undef) rfl rfl (by kernel_rfl) (by kernel_rfl) (by kernel_rfl) (fun _ _ _ h => h) (Or.inr ⟨by kernel_rfl, rfl⟩) hHeld ?_
                try simp only [Act.put, List.setIfInBounds_toArray, List.set_cons_zero, List.set_cons_succ]
                refine takeH (i := 7) (d := some 86) (v := undef) rfl rfl (by kernel_rfl) (by kernel_rfl) (by kernel_rfl) (fun _ _ _ h => h) (Or.inr ⟨by kernel_rfl, rfl⟩) hHeld ?_
                try simp only [Act.put, List.setIfInBounds_toArray, List.set_cons_zero, List.set_cons_succ]
                refine takeH (i := 8) (d := some 87) (v := undef) rfl rfl (by kernel_rfl) (by kernel_rfl) (by kernel_rfl) (fun _ _ _ h => h) (Or.inr ⟨by kernel_rfl, rfl⟩) hHeld ?_
                try simp only [Act.put, List.setIfInBounds_toArray, List.set_cons_zero, List.set_cons_succ]
                refine takeH (i := 9) (d := some 88) (v := undef) rfl rfl (by kernel_rfl) (by kernel_rfl) (by kernel_rfl) (fun _ _ _ h => h) (Or.inr ⟨by kernel_rfl, rfl⟩) hHeld ?_
                try simp only [Act.put, List.setIfInBounds_toArray, List.set_cons_zero, List.set_cons_succ]
                refine takeH (i := 10) (d := some 89) (v := undef) rfl rfl (by kernel_rfl) (by kernel_rfl) (by kernel_rfl) (fun _ _ _ h => h) (Or.inr ⟨by kernel_rfl, rfl⟩) hHeld ?_
                try simp only [Act.put, List.setIfInBounds_toArray, List.set_cons_zero, List.set_cons_succ]
                refine takeH (i := 11) (d := some 90) (v := undef) rfl rfl (by kernel_rfl) (by kernel_rfl) (by kernel_rfl) (fun _ _ _ h => h) (Or.inr ⟨by kernel_rfl, rfl⟩) hHeld ?_
                try simp only [Act.put, List.setIfInBounds_toArray, List.set_cons_zero, List.set_cons_succ]
                refine takeH (i := 12) (d := some 91) (v := undef) rfl rfl (by kernel_rfl) (by kernel_rfl) (by kernel_rfl) (fun _ _ _ h => h) (Or.inr ⟨by kernel_rfl, rfl⟩) hHeld ?_
                try simp only [Act.put, List.setIfInBounds_toArray, List.set_cons_zero, List.set_cons_succ]
                refine takeH (i := 13) (d := some 92) (v := undef) rfl rfl (by kernel_rfl) (by kernel_rfl) (by kernel_rfl) (fun _ _ _ h => h) (Or.inr ⟨by kernel_rfl, rfl⟩) hHeld ?_
                try simp only [Act.put, List.setIfInBounds_toArray, List.set_cons_zero, List.set_cons_succ]
                refine takeH (i := 14) (d := some 93) (v := undef) rfl rfl (by kernel_rfl) (by kernel_rfl) (by kernel_rfl) (fun _ _ _ h => h) (Or.inr ⟨by kernel_rfl, rfl⟩) hHeld ?_
                try simp only [Act.put, List.setIfInBounds_toArray, List.set_cons_zero, List.set_cons_succ]
                refine takeH (i := 15) (d := some 94) (v := undef) rfl rfl (by kernel_rfl) (by kernel_rfl) (by kernel_rfl) (fun _ _ _ h => h) (Or.inr ⟨by kernel_rfl, rfl⟩) hHeld ?_
                try simp only [Act.put, List.setIfInBounds_toArray, List.set_cons_zero, List.set_cons_succ]
                refine takeH (i := 16) (d := some 95) (v := undef) rfl rfl (by kernel_rfl) (by kernel_rfl) (by kernel_rfl) (fun _ _ _ h => h) (Or.inr ⟨by kernel_rfl, rfl⟩) hHeld ?_
                try simp only [Act.put, List.setIfInBounds_toArray, List.set_cons_zero, List.set_cons_succ]
                refine takeH (i := 17) (d := some 96) (v := ?_) rfl rfl (by kernel_rfl) (by kernel_rfl) (by kernel_rfl) (fun _ _ _ h => h) (Or.inl ⟨by kernel_rfl, ?_⟩) hHeld ?_
                rotate_left
                · intro w hSw; (try dsimp only at hSw); go_simp; try with_reducible rfl
                try simp only [Act.put, List.setIfInBounds_toArray, List.set_cons_zero, List.set_cons_succ]
                refine wpAnyH_done (by kernel_rfl) ?_ _
                go_wp2_with fail
                refine (HCall.out _ (Kept.refl _ _).drew).mono ?_
                rcases r with _ | ⟨m2, d2⟩
                · rintro e w' ⟨rfl, hk⟩
                  have HKc := Lib.hid hk
                  clear hk
                  go_wp2_with fail
                  go_ret
                  rw [HV'.out, HN2.out]
                  exact ⟨rfl, HK0.out.trans (HK.out.drew.trans HKc.out)⟩
                · rintro e w' ⟨rfl, hk, hl, hm1, hm2⟩
                  have HKc := Lib.hid hk
                  have HLc := Lib.hid hl
                  have HMc := Lib.hid (And.intro hm1 hm2)
                  clear hk hl hm1 hm2
                  go_wp2_with fail
                  go_roundw
                  case rel => exact ⟨0 + 1, m2, d2, by omega, by go_num, Lib.hid (by have := HM.out; have := HMc.out; omega), Lib.hid (HK.out.drew.trans HKc.out), HLc, HN2⟩
                  case measure => simp [intOf]; omega
            · obtain rfl : k = es.length := by omega
              have HVe : Hid (visEs (vis A f) none es (m + 1) (updD d m false) = some (m', d')) := Lib.hid (by rw [HVs.out, List.drop_length]; rfl)
              obtain ⟨capw, c0, c1, c2, f1⟩ := HLW.out.head
              obtain ⟨cs0, fs0⟩ := HLW.out.at_ m hmN
              have HSt := Lib.hid (HLW.out.setSt m (by have := HM.out; omega))
              clear hlt1 hlt2 HIH HVs
              go_wp2_with fail
              go_ret
              rw [HV'.out, HVe.out]
              exact ⟨rfl, (HK0.out.trans HK.out).set _ _ _ (.inl (by simp)), HSt.out, by have := HM.out; omega, HM.out.2⟩
      · have HV : Hid (vis A (f + 1) (m : Int) m d = none) := Lib.hid (by
          rw [vis, if_neg (by simp), List.getElem?_eq_none (by omega)])
        obtain ⟨Ax, cap0, rfl, hc0, hA0⟩ := hA
        have hq2 : (A.length : Int) ≤ (m : Int) := by omega
        clear hL hA0 hc0
        go_enter Try.func50, Try.ntmps50
        go_wp2_with fail
        go_ret
        rw [HV.out]
        exact ⟨rfl, Kept.refl _ _⟩
    · have hne : (n != (m : Int)) = true := by simpa using hnm
      by_cases h0 : 0 ≤ n
      · obtain ⟨k, rfl⟩ : ∃ k : Nat, n = (k : Int) := ⟨n.toNat, by omega⟩
        by_cases hk : k < m
        · obtain ⟨cx, _⟩ := hL.at_ k (by omega)
          obtain ⟨Ax, cap0, rfl, hc0, hA0⟩ := hA
          have HV : Hid (vis A (f + 1) (k : Int) m d = if d k = true then some (m, d) else none) := Lib.hid (by
            rw [vis, if_pos hnm]
            by_cases e : d k = true
            · rw [if_pos ⟨h0, by omega, by simpa using e⟩, if_pos e]
            · rw [if_neg (fun h => e (by simpa using h.2.2)), if_neg e])
          have hq1 : ¬ (k : Int) < 0 := by omega
          have hq2 : ¬ (A.length : Int) ≤ (k : Int) := by omega
          have hq3 : ¬ (m : Int) < (k : Int) := by omega
          have hq4 : k < A.length := by omega
          clear hL hA0 hc0
          go_enter Try.func50, Try.ntmps50
          go_wp2_with fail
          go_ret
          rw [HV.out]
          cases hd : d k
          · rw [if_neg (by simp)]; exact ⟨rfl, Kept.refl _ _⟩
          · rw [if_pos rfl]; exact ⟨rfl, Kept.refl _ _, HL.out, Nat.le_refl _, hm⟩
        · have HV : Hid (vis A (f + 1) (k : Int) m d = none) := Lib.hid (by
            rw [vis, if_pos hnm, if_neg (fun h => hk (by omega))])
          obtain ⟨Ax, cap0, rfl, hc0, hA0⟩ := hA
          have hq1 : ¬ (k : Int) < 0 := by omega
          have hq3 : (m : Int) < (k : Int) := by omega
          clear hL hA0 hc0 hk hnm hne
          by_cases hq2 : (A.length : Int) ≤ (k : Int)
          all_goals
            go_enter Try.func50, Try.ntmps50
            go_wp2_with fail
            go_ret
            rw [HV.out]
            exact ⟨rfl, Kept.refl _ _⟩
      · have HV : Hid (vis A (f + 1) n m d = none) := Lib.hid (by
          rw [vis, if_pos hnm, if_neg (fun h => h0 h.1)])
        have hq1 : n < 0 := by omega
        clear hL hA hnm hne
        go_enter Try.func50, Try.ntmps50
        go_wp2_with fail
        go_ret
        rw [HV.out]
        exact ⟨rfl, Kept.refl _ _⟩
end

section
open Go.RowKit

theorem rlook_new (w : World) (av : Value) (N : Nat) :
    LookR ((w.alloc (.cells (madeCells #[Value.bool false] N) 4)).alloc (.cells #[av, .int .i64 0, .slice (some ⟨w.heap.size, 0, none⟩) N N] 108)) (w.heap.size + 1) w.heap.size av N 0 (fun _ => false) := by
  refine ⟨⟨N, ?_⟩, ⟨madeCells #[Value.bool false] N, ?_, size_madeCells _ _, fun k hk => ?_⟩, by omega, fun _ _ => rfl⟩
  · have := heap_alloc_new (w.alloc (.cells (madeCells #[Value.bool false] N) 4)) (.cells #[av, .int .i64 0, .slice (some ⟨w.heap.size, 0, none⟩) N N] 108)
    simpa using this
  · rw [Below.heap_alloc _ _ _ (by simp)]
    exact heap_alloc_new w _
  · rw [← Array.getElem?_toList, toList_madeCells_one]; simp [hk]

theorem bool_info' : (Try.prog.info? 4).map (fun i => (i.zero, i.size, i.bytes)) = some (some (.bool false), 1, 1) := by kernel_rfl

set_option maxHeartbeats 4000000 in
set_option maxRecDepth 100000 in
theorem rShape_any (A : List St) (v : Value) (w : World) (hA : AutAt w (fun _ => True) v A) :
    Calls Try.prog 27 #[v] w fun e w' => e = .returned (.int .i64 (shapeV A)) ∧ Below w.heap.size w w' := by
  have hA' := hA
  obtain ⟨Ax, cap0, rfl, hc0, _⟩ := hA
  have HC0 := Lib.hid hc0
  clear hc0
  by_cases h0 : A.length = 0
  · have HV := Lib.hid (shapeV_len A (.inl h0))
    have h0' : (A.length : Int) < 1 := by omega
    clear hA' h0
    go_enter Try.func27, Try.ntmps27
    go_wp2_with fail
    go_ret
    exact ⟨by rw [HV.out]; rfl, Below.refl _ _⟩
  · have h0' : ¬ (A.length : Int) < 1 := by omega
    by_cases h1 : 1048576 < A.length
    · have HV := Lib.hid (shapeV_len A (.inr h1))
      clear hA' h0
      go_enter Try.func27, Try.ntmps27
      go_wp2_with fail
      go_ret
      exact ⟨by rw [HV.out]; rfl, Below.refl _ _⟩
    · have hmk := run_make_row' (P := Try.prog) 106 4 (.bool false) 1 Try.underlying106 bool_info' rfl .i64 .i64 A.length (by omega) (by omega) w
      have HL := Lib.hid (rlook_new w (.slice Ax A.length cap0) A.length)
      have HA := Lib.hid hA'
      have H0 := Lib.hid h0
      have H1 := Lib.hid h1
      obtain ⟨r, hr⟩ : ∃ r, vis A (A.length + 1) 0 0 (fun _ => false) = r := ⟨_, rfl⟩
      have HCall : Hid (Calls Try.prog 50 #[.pointer (some ⟨w.heap.size + 1, 0, none⟩), .int .i64 0] ((w.alloc (.cells (madeCells #[Value.bool false] A.length) 4)).alloc (.cells #[.slice Ax A.length cap0, .int .i64 0, .slice (some ⟨w.heap.size, 0, none⟩) A.length A.length] 108))
          (PostVR ((w.alloc (.cells (madeCells #[Value.bool false] A.length) 4)).alloc (.cells #[.slice Ax A.length cap0, .int .i64 0, .slice (some ⟨w.heap.size, 0, none⟩) A.length A.length] 108)) (w.heap.size + 1) w.heap.size (.slice Ax A.length cap0) A.length 0 r)) := Lib.hid (by
        rw [← hr]
        refine rvisit_any A _ _ _ (by omega) (A.length + 1) 0 0 _ _ (by omega) (by omega) HL.out ?_
        refine AutAt.mono ((HA.out.lt).kept ((((Kept.refl [] w).alloc _).alloc _)) (by simp)) (fun k hk => ?_)
        simp only [List.mem_cons, List.not_mem_nil, or_false]
        omega)
      have HKB : Hid (∀ W', Kept [w.heap.size + 1, w.heap.size] ((w.alloc (.cells (madeCells #[Value.bool false] A.length) 4)).alloc (.cells #[.slice Ax A.length cap0, .int .i64 0, .slice (some ⟨w.heap.size, 0, none⟩) A.length A.length] 108)) W' → Below w.heap.size w W') := Lib.hid (fun W' h =>
        ((((Kept.refl [w.heap.size + 1, w.heap.size] w).alloc _).alloc _).trans h).below (Nat.le_refl _) (by simp))
      rcases r with _ | ⟨m, d⟩
      · have HV := Lib.hid (shapeV_none A hr)
        clear hA' h0 hr HL HA
        go_enter Try.func27, Try.ntmps27
        go_wp2_with fail
        refine HCall.out.mono ?_
        rintro e w1 ⟨rfl, hk⟩
        have HB := Lib.hid (HKB.out _ hk)
        clear hk
        go_wp2_with fail
        go_ret
        exact ⟨by rw [HV.out]; rfl, HB.out⟩
      · have HV := Lib.hid (shapeV_some A (by omega) (by omega) m d hr)
        clear hA' h0 hr HL HA
        go_enter Try.func27, Try.ntmps27
        go_wp2_with fail
        refine HCall.out.mono ?_
        rintro e w1 ⟨rfl, hk, hl, hm1, hm2⟩
        have HB := Lib.hid (HKB.out _ hk)
        obtain ⟨cap, _, c1, _, _⟩ := hl.head
        clear hk hl hm1 hm2
        by_cases hm : m = A.length
        · have hm' : ((m : Int) != (A.length : Int)) = false := by simp [hm]
          have HV' := Lib.hid (HV.out.trans (if_pos hm))
          clear hm
          go_wp2_with fail
          go_ret
          exact ⟨by rw [HV'.out]; rfl, HB.out⟩
        · have hm' : ((m : Int) != (A.length : Int)) = true := by simp; omega
          have HV' := Lib.hid (HV.out.trans (if_neg hm))
          clear hm
          go_wp2_with fail
          go_ret
          exact ⟨by rw [HV'.out]; rfl, HB.out⟩
end

section
open Go.RowKit

def edgR (s : ByteArray) (n a : Nat) : Except Nat (Ed × Nat) :=
  if s.size < a + 1 then .error 60
  else match numR s (a + 1) with
    | .error c => .error c
    | .ok (t, q) => if n ≤ t then .error 190 else .ok ((byteAt s.data.toList a, (t : Int)), q)
def edgesR (s : ByteArray) (n : Nat) : Nat → Nat → Except Nat (List Ed × Nat)
  | 0, a => .ok ([], a)
  | k + 1, a => match edgR s n a with
    | .error c => .error c
    | .ok (e, q) => match edgesR s n k q with
      | .error c => .error c
      | .ok (es, p) => .ok (e :: es, p)
def staR (s : ByteArray) (n a : Nat) : Except Nat (St × Nat) :=
  match numR s a with
  | .error c => .error c
  | .ok (v, q) => if 256 < v / 2 then .error 190 else match edgesR s n (v / 2) q with
    | .error c => .error c
    | .ok (es, p) => .ok ((decide (v % 2 = 1), es), p)
def statesR (s : ByteArray) (n : Nat) : Nat → Nat → Except Nat (List St × Nat)
  | 0, a => .ok ([], a)
  | k + 1, a => match staR s n a with
    | .error c => .error c
    | .ok (x, q) => match statesR s n k q with
      | .error c => .error c
      | .ok (xs, p) => .ok (x :: xs, p)
def secR (s : ByteArray) (a : Nat) : Except Nat (List St × Nat) :=
  match numR s a with
  | .error c => .error c
  | .ok (n, q) => if n = 0 ∨ 1048576 < n then .error 190 else match statesR s n n q with
    | .error c => .error c
    | .ok (A, p) => if shapeB A then .ok (A, p) else .error 190
def prep {α : Type} (l : List α) : Except Nat (List α × Nat) → Except Nat (List α × Nat)
  | .error c => .error c
  | .ok (m, p) => .ok (l ++ m, p)
theorem prep_nil {α : Type} (r : Except Nat (List α × Nat)) : prep [] r = r := by cases r <;> rfl
theorem edgesR_step (s : ByteArray) (n k a : Nat) (l : List Ed) (e : Ed) (q : Nat) (h : edgR s n a = .ok (e, q)) : prep l (edgesR s n (k + 1) a) = prep (l ++ [e]) (edgesR s n k q) := by
  simp only [edgesR, h]
  cases edgesR s n k q with
  | error c => rfl
  | ok r => obtain ⟨a, b⟩ := r; simp [prep]
theorem edgesR_err (s : ByteArray) (n k a : Nat) (l : List Ed) (c : Nat) (h : edgR s n a = .error c) : prep l (edgesR s n (k + 1) a) = .error c := by
  rw [edgesR, h]; rfl
theorem statesR_step (s : ByteArray) (n k a : Nat) (l : List St) (e : St) (q : Nat) (h : staR s n a = .ok (e, q)) : prep l (statesR s n (k + 1) a) = prep (l ++ [e]) (statesR s n k q) := by
  simp only [statesR, h]
  cases statesR s n k q with
  | error c => rfl
  | ok r => obtain ⟨a, b⟩ := r; simp [prep]
theorem statesR_err (s : ByteArray) (n k a : Nat) (l : List St) (c : Nat) (h : staR s n a = .error c) : prep l (statesR s n (k + 1) a) = .error c := by
  rw [statesR, h]; rfl

/-! ### Rows that a call makes -/
def Ty (w : World) (t g : Nat) : Prop := ∃ cs, w.heap[g]? = some (.cells cs t (0, 0))
def edCells (es : List Ed) : List Value := es.flatMap fun e => [.int .u8 (e.1.toNat : Int), .int .i64 e.2]
def stCells (L : List (St × Value)) : List Value := L.flatMap fun x => [.bool x.1.1, x.2]
theorem two_len {α : Type} (f g : α → Value) (l : List α) : (l.flatMap fun x => [f x, g x]).length = l.length * 2 := by
  induction l with
  | nil => rfl
  | cons a l ih => simp [List.flatMap_cons, ih]; omega
theorem two_get {α : Type} (f g : α → Value) : ∀ (l : List α) (k : Nat) (h : k < l.length), (l.flatMap fun x => [f x, g x])[k * 2]? = some (f l[k]) ∧ (l.flatMap fun x => [f x, g x])[k * 2 + 1]? = some (g l[k])
  | a :: l, 0, _ => ⟨rfl, rfl⟩
  | a :: l, k + 1, h => by
    have ih := two_get f g l k (by simpa using h)
    rw [List.flatMap_cons, show (k + 1) * 2 = k * 2 + 2 by omega, show k * 2 + 2 + 1 = k * 2 + 1 + 2 by omega]
    exact ih
theorem edCells_snoc (es : List Ed) (e : Ed) : edCells es ++ [.int .u8 (e.1.toNat : Int), .int .i64 e.2] = edCells (es ++ [e]) := by simp [edCells]
theorem stCells_snoc (L : List (St × Value)) (x : St × Value) : stCells L ++ [.bool x.1.1, x.2] = stCells (L ++ [x]) := by simp [stCells]
theorem eds_of_own {w : World} {B t : Nat} {v : Value} {n : Nat} {es : List Ed} (h : w.ownsRow B t 2 v n (edCells es)) : EdsAt w (fun g => B ≤ g ∧ Ty w t g) v es := by
  have hl := h.1
  rw [edCells, two_len] at hl
  obtain rfl : es.length = n := by omega
  rcases h.2 with ⟨rfl, h0⟩ | ⟨g, cap, cur, rfl, hb, hg, hn, hm, _, _⟩
  · exact ⟨none, 0, by rw [h0], by unfold maxLen; omega, .inl h0⟩
  · refine ⟨_, cap, rfl, ⟨hn, hm⟩, .inr ⟨g, 0, rfl, block_lt hg, ⟨hb, cur, hg⟩, fun k hk => ?_⟩⟩
    have hc := h.cells (g := g) rfl
    obtain ⟨h1, h2⟩ := two_get (fun e : Ed => Value.int .u8 (e.1.toNat : Int)) (fun e => Value.int .i64 e.2) es k hk
    have g1 := hc _ _ h1
    have g2 := hc _ _ h2
    rw [row_addr] at g1 g2
    rw [Nat.zero_add]
    exact ⟨g1, g2⟩
theorem EdsAt.keptTy {E : List Nat} {w w' : World} {B t : Nat} {v : Value} {es : List Ed} (h : EdsAt w (fun g => B ≤ g ∧ Ty w t g) v es) (hk : Kept E w w') (hE : ∀ g ∈ E, g < B ∨ ¬ Ty w t g) : EdsAt w' (fun g => B ≤ g ∧ Ty w' t g) v es := by
  obtain ⟨A, cap, hv, hc, h0⟩ := h
  refine ⟨A, cap, hv, hc, ?_⟩
  rcases h0 with h0 | ⟨g, o, hA, hg, ⟨hp, cs, hty⟩, hcs⟩
  · exact .inl h0
  · have hne : g ∉ E := fun hm => by
      rcases hE g hm with h1 | h1
      · omega
      · exact h1 ⟨cs, hty⟩
    exact .inr ⟨g, o, hA, Nat.lt_of_lt_of_le hg hk.size, ⟨hp, cs, hk.at hty hne⟩, fun k h => ⟨(hk.cell (p := ⟨g, _, none⟩) hg hne).trans (hcs k h).1, (hk.cell (p := ⟨g, _, none⟩) hg hne).trans (hcs k h).2⟩⟩
theorem EdsAt.base {w : World} {B B' t : Nat} {v : Value} {es : List Ed} (h : EdsAt w (fun g => B ≤ g ∧ Ty w t g) v es) (hB : B' ≤ B) : EdsAt w (fun g => B' ≤ g ∧ Ty w t g) v es :=
  h.mono fun g hg => ⟨by omega, hg.2⟩
/-- A row of states with its rows of edges, all made since the heap had B blocks. -/
structure OutAt (w : World) (B ts te : Nat) (v : Value) (L : List (St × Value)) : Prop where
  own : w.ownsRow B ts 2 v L.length (stCells L)
  eds : ∀ x ∈ L, EdsAt w (fun g => B ≤ g ∧ Ty w te g) x.2 x.1.2
theorem OutAt.nil_ (w : World) (B ts te : Nat) : OutAt w B ts te (.slice none 0 0) [] := ⟨World.ownsRow_nil _ _ _ _, fun _ h => by cases h⟩
theorem own_ty {w : World} {B e size n g : Nat} {v : Value} {xs : List Value} (h : w.ownsRow B e size v n xs) (hv : v.ownBlock = some g) : Ty w e g ∧ B ≤ g := by
  rcases h.2 with ⟨rfl, _⟩ | ⟨g', cap, cur, rfl, hb, hg, _⟩
  · cases hv
  · injection hv with hv
    subst hv
    exact ⟨⟨cur, hg⟩, hb⟩
theorem Ty.uniq {w : World} {t t' g : Nat} (h : Ty w t g) (h' : Ty w t' g) : t = t' := by
  obtain ⟨cs, h⟩ := h
  obtain ⟨cs', h'⟩ := h'
  rw [h] at h'
  injection h' with h'
  injection h' with _ h2
theorem OutAt.kept {E : List Nat} {w w' : World} {B ts te : Nat} {v : Value} {L : List (St × Value)} (h : OutAt w B ts te v L) (hk : Kept E w w') (hE : ∀ g ∈ E, g < B) : OutAt w' B ts te v L :=
  ⟨hk.own h.own (fun g hg hm => by have := (own_ty h.own hg).2; have := hE g hm; omega), fun x hx => (h.eds x hx).keptTy hk (fun g hg => .inl (hE g hg))⟩
/-- Behind a state appended. -/
theorem OutAt.push {w w' : World} {B ts te : Nat} {v v' : Value} {L : List (St × Value)} {x : St × Value} (h : OutAt w B ts te v L) (hne : ts ≠ te) (hx : EdsAt w (fun g => B ≤ g ∧ Ty w te g) x.2 x.1.2)
    (ho : w'.ownsRow B ts 2 v' (L.length + 1) (stCells L ++ [.bool x.1.1, x.2])) (hg : w.grownBy w' v.ownBlock) : OutAt w' B ts te v' (L ++ [x]) := by
  have hk : Kept v.ownBlock.toList w w' := Kept.grown hg (fun k hk => by rw [hk]; simp)
  have hE : ∀ g ∈ v.ownBlock.toList, g < B ∨ ¬ Ty w te g := fun g hg => .inr (fun ht => by
    have := own_ty h.own (show v.ownBlock = some g by simpa using hg)
    exact hne (this.1.uniq ht))
  refine ⟨by rw [List.length_append, List.length_singleton, ← stCells_snoc]; exact ho, fun y hy => ?_⟩
  rcases List.mem_append.1 hy with hy | hy
  · exact (h.eds y hy).keptTy hk hE
  · simp only [List.mem_singleton] at hy
    subst hy
    exact hx.keptTy hk hE
theorem OutAt.aut {w : World} {B ts te : Nat} {v : Value} {L : List (St × Value)} (h : OutAt w B ts te v L) : AutAt w (fun g => B ≤ g) v (L.map (·.1)) := by
  rcases h.own.2 with ⟨rfl, h0⟩ | ⟨g, cap, cur, rfl, hb, hg, hn, hm, _, _⟩
  · exact ⟨none, 0, by rw [List.length_map, h0], by rw [List.length_map]; unfold maxLen; omega, .inl (by rw [List.length_map]; exact h0)⟩
  · refine ⟨_, cap, by rw [List.length_map], by rw [List.length_map]; exact ⟨hn, hm⟩, .inr ⟨g, 0, rfl, block_lt hg, hb, fun k hk => ?_⟩⟩
    rw [List.length_map] at hk
    have hc := h.own.cells (g := g) rfl
    obtain ⟨h1, h2⟩ := two_get (fun x : St × Value => Value.bool x.1.1) (fun x => x.2) L k hk
    have g1 := hc _ _ h1
    have g2 := hc _ _ h2
    rw [row_addr] at g1 g2
    rw [Nat.zero_add]
    refine ⟨by rw [List.getElem_map]; exact g1, L[k].2, g2, ?_⟩
    rw [List.getElem_map]
    exact (h.eds _ (List.getElem_mem hk)).mono fun _ hg => hg.1
theorem OutAt.autTy {w : World} {B ts te : Nat} {v : Value} {L : List (St × Value)} (h : OutAt w B ts te v L) : AutAt w (fun g => B ≤ g ∧ ∃ t, Ty w t g) v (L.map (·.1)) := by
  rcases h.own.2 with ⟨rfl, h0⟩ | ⟨g, cap, cur, rfl, hb, hg, hn, hm, _, _⟩
  · exact ⟨none, 0, by rw [List.length_map, h0], by rw [List.length_map]; unfold maxLen; omega, .inl (by rw [List.length_map]; exact h0)⟩
  · refine ⟨_, cap, by rw [List.length_map], by rw [List.length_map]; exact ⟨hn, hm⟩, .inr ⟨g, 0, rfl, block_lt hg, ⟨hb, ts, cur, hg⟩, fun k hk => ?_⟩⟩
    rw [List.length_map] at hk
    have hc := h.own.cells (g := g) rfl
    obtain ⟨h1, h2⟩ := two_get (fun x : St × Value => Value.bool x.1.1) (fun x => x.2) L k hk
    have g1 := hc _ _ h1
    have g2 := hc _ _ h2
    rw [row_addr] at g1 g2
    rw [Nat.zero_add]
    refine ⟨by rw [List.getElem_map]; exact g1, L[k].2, g2, ?_⟩
    rw [List.getElem_map]
    exact (h.eds _ (List.getElem_mem hk)).mono fun _ hg => ⟨hg.1, te, hg.2⟩
theorem Kept.push {E : List Nat} {w0 w w' : World} {B e size n : Nat} {v : Value} {xs : List Value} (K : Kept E w0 w) (ho : w.ownsRow B e size v n xs) (hB : w0.heap.size ≤ B) (hg : w.grownBy w' v.ownBlock) : Kept E w0 w' :=
  K.trans' (Kept.grown hg (E := v.ownBlock.toList) (fun k hk => by rw [hk]; simp)) (fun x hx => .inr (by have := (own_ty ho (show v.ownBlock = some x by simpa using hx)).2; omega))
/-- Each state's edges lie in a row of their own. -/
structure RowsD (w : World) (B te : Nat) (L : List (St × Value)) : Prop where
  rows : ∀ x ∈ L, w.ownsRow B te 2 x.2 x.1.2.length (edCells x.1.2)
  dist : L.Pairwise fun x y => ∀ g, x.2.ownBlock = some g → y.2.ownBlock ≠ some g
theorem own_keptTy {E : List Nat} {w w' : World} {B e size n : Nat} {v : Value} {xs : List Value} (h : w.ownsRow B e size v n xs) (hk : Kept E w w') (hE : ∀ g ∈ E, g < B ∨ ¬ Ty w e g) : w'.ownsRow B e size v n xs :=
  hk.own h (fun g hg hm => by
    have h1 := own_ty h hg
    rcases hE g hm with h2 | h2
    · omega
    · exact h2 h1.1)
theorem RowsD.nil_ {w : World} {B te : Nat} : RowsD w B te [] := ⟨(fun _ h => by cases h), List.Pairwise.nil⟩
theorem RowsD.kept {E : List Nat} {w w' : World} {B te : Nat} {L : List (St × Value)} (h : RowsD w B te L) (hk : Kept E w w') (hE : ∀ g ∈ E, g < B ∨ ¬ Ty w te g) : RowsD w' B te L := ⟨fun x hx => own_keptTy (h.rows x hx) hk hE, h.dist⟩
theorem RowsD.push {w : World} {B Bx te : Nat} {L : List (St × Value)} {x : St × Value} (h : RowsD w B te L) (hx : w.ownsRow Bx te 2 x.2 x.1.2.length (edCells x.1.2)) (hB : B ≤ Bx) (hlt : ∀ y ∈ L, ∀ g, y.2.ownBlock = some g → g < Bx) : RowsD w B te (L ++ [x]) := by
  refine ⟨fun y hy => ?_, ?_⟩
  · rcases List.mem_append.1 hy with hy | hy
    · exact h.rows y hy
    · obtain rfl : y = x := by simpa using hy
      refine ⟨hx.1, ?_⟩
      rcases hx.2 with hn | ⟨g, cap, cur, hv, hg, r⟩
      · exact .inl hn
      · exact .inr ⟨g, cap, cur, hv, Nat.le_trans hB hg, r⟩
  · rw [List.pairwise_append]
    refine ⟨h.dist, List.pairwise_singleton _ _, fun a ha b hb g hg e => ?_⟩
    obtain rfl : b = x := by simpa using hb
    have h1 := (own_ty hx e).2
    have h2 := hlt a ha g hg
    omega
theorem edge_info : (Try.prog.info? 55).map (fun i => (i.zero, i.size, i.bytes)) = some (some (.agg #[.int .u8 0, .int .i64 0]), 2, 16) := by kernel_rfl
theorem state_info : (Try.prog.info? 53).map (fun i => (i.zero, i.size, i.bytes)) = some (some (.agg #[.bool false, .slice none 0 0]), 2, 32) := by kernel_rfl
end

section
open Go.RowKit

theorem rdGo_lt (L : List UInt8) (a : Nat) : ∀ (f i acc : Nat), i + f = 10 → acc < 2 ^ (7 * i) → (rdGo L a f i acc).1 < 18446744073709551616
  | 0, i, acc, _, _ => by rw [rdGo]; decide
  | f + 1, i, acc, hi, hacc => by
    rw [rdGo]
    split
    · decide
    · split
      · exact rdGo_lt L a f _ _ (by omega) (step_lt _ _ _ (Nat.mod_lt _ (by decide)) hacc)
      · rename_i h2
        split
        · decide
        · rename_i h3
          dsimp only
          by_cases h9 : i = 9
          · subst h9
            have hx : (byteAt L (a + 9)).toNat % 128 ≤ 1 := by omega
            have := Nat.mul_le_mul_right (2 ^ (7 * 9)) hx
            have e : (2 : Nat) ^ (7 * 9) = 9223372036854775808 := by decide
            rw [e] at *
            omega
          · have h1 := step_lt acc ((byteAt L (a + i)).toNat % 128) i (Nat.mod_lt _ (by decide)) hacc
            have h2 := pow7_le (i + 1) (by omega)
            omega
theorem numR_lt {s : ByteArray} {a n p : Nat} (h : numR s a = .ok (n, p)) : n < 18446744073709551616 := by
  unfold numR at h
  split at h
  · injection h with h
    injection h with h1 h2
    subst h1
    unfold rdU
    split
    · decide
    · exact rdGo_lt _ _ _ _ _ rfl (by decide)
  · cases h

def PostS (b : Nat) (s : ByteArray) (w : World) (r : Except Nat (List St × Nat)) (e : Ending) (w' : World) : Prop :=
  match r with
  | .ok (A, p) => ∃ v L, e = .returned v ∧ Kept [b] w w' ∧ RdrAt w' b s p ∧ OutAt w' w.heap.size 53 55 v L ∧ RowsD w' w.heap.size 55 L ∧ L.map (·.1) = A
  | .error c => e = .panicked [flt c] ∧ Kept [b] w w'

set_option maxHeartbeats 4000000 in
set_option maxRecDepth 100000 in
theorem section_any (b : Nat) (s : ByteArray) (a : Nat) (w : World) (hr : RdrAt w b s a) (hs : s.size ≤ 562949953421312) (ha : a ≤ s.size) :
    Calls Try.prog 40 #[.pointer (some ⟨b, 0, none⟩)] w (PostS b s w (secR s a)) := by
  have HBW := Lib.hid (block_lt hr)
  obtain ⟨i0, hi, hz0, hz1, hz2⟩ := info_parts edge_info
  obtain ⟨i1, hj, hy0, hy1, hy2⟩ := info_parts state_info
  have hN := num_any b s a w hr hs ha
  have HNum : Hid (∀ W p, RdrAt W b s p → p ≤ s.size → Calls Try.prog 37 #[.pointer (some ⟨b, 0, none⟩)] W (PostR b s W (fun n : Nat => .int .u64 (n : Int)) (numR s p))) := Lib.hid (fun W p h hp => num_any b s p W h hs hp)
  have HTake : Hid (∀ W p, RdrAt W b s p → p ≤ s.size → Calls Try.prog 54 #[.pointer (some ⟨b, 0, none⟩), .int .i64 1] W (PostR b s W Value.string (if s.size < p + 1 then .error 60 else .ok (s.extract p (p + 1), p + 1)))) := Lib.hid (fun W p h hp => take_any b s p 1 W h hs hp (by omega))
  obtain ⟨R, hR⟩ : ∃ R, secR s a = R := ⟨_, rfl⟩
  rw [hR]
  have HR := Lib.hid hR
  clear hR hr
  cases hn : numR s a with
  | error c =>
    rw [hn] at hN
    have HR' : Hid (R = .error c) := Lib.hid (by rw [← HR.out, secR, hn])
    have HN := Lib.hid hN
    clear hN hn
    go_enter Try.func40, Try.ntmps40
    go_wp2_with fail
    refine HN.out.mono ?_
    rintro e w' ⟨rfl, hk⟩
    exact ⟨rfl, by rw [HR'.out]; exact ⟨rfl, hk⟩⟩
  | ok r =>
    obtain ⟨n, q⟩ := r
    rw [hn] at hN
    have HQ := Lib.hid (numR_le hn).2
    have HN := Lib.hid hN
    clear hN
    by_cases hbad : n = 0 ∨ 1048576 < n
    · have HR' : Hid (R = .error 190) := Lib.hid (by rw [← HR.out, secR, hn]; exact if_pos hbad)
      clear hn HNum HTake
      rcases hbad with rfl | hbad
      all_goals
        go_enter Try.func40, Try.ntmps40
        go_wp2_with fail
        refine HN.out.mono ?_
        rintro e w1 ⟨rfl, hk, hr⟩
        have HK1 := Lib.hid hk
        clear hk hr
        go_wp2_with fail
        refine (must_any _ _ _ _).mono ?_
        rintro e w' ⟨⟨hc, rfl⟩ | ⟨hc, rfl⟩, rfl⟩
        · exact absurd hc (by simp <;> omega)
        · exact ⟨rfl, by rw [HR'.out]; exact ⟨rfl, HK1.out⟩⟩
    · have hn0 : (0 : Int) < (n : Int) := by omega
      have hn1 : n ≤ 1048576 := by omega
      have HR' : Hid (R = match statesR s n n q with | .error c => .error c | .ok (A, p) => if shapeB A then .ok (A, p) else .error 190) := Lib.hid (by rw [← HR.out, secR, hn]; exact if_neg hbad)
      clear hn hbad HR
      obtain ⟨RS, hRS⟩ : ∃ RS, statesR s n n q = RS := ⟨_, rfl⟩
      rw [hRS] at HR'
      have HRS := Lib.hid hRS
      clear hRS
      go_enter Try.func40, Try.ntmps40
      go_wp2_with fail
      refine HN.out.mono ?_
      rintro e w1 ⟨rfl, hk, hr⟩
      have HK1 := Lib.hid hk
      have HR1 := Lib.hid hr
      clear hk hr HN
      go_wp2_with fail
      refine (must_any _ _ _ _).mono ?_
      rintro e w2 ⟨⟨hc, rfl⟩ | ⟨hc, rfl⟩, rfl⟩
      rotate_left
      · exact absurd hc (by simp <;> omega)
      clear hc
      go_wp2_with fail
      go_loopw [4, 5, 6, 7, 8, 20, 35] (fun v4 _ _ _ _ i _ W => ∃ (k p : Nat) (L : List (St × Value)), k ≤ n ∧ i = .int .u64 k ∧ Hid (L.length = k ∧ p ≤ s.size) ∧ Hid (Kept [b] w W) ∧ Hid (RdrAt W b s p) ∧ Hid (OutAt W w.heap.size 53 55 v4 L) ∧ Hid (RowsD W w.heap.size 55 L) ∧ Hid (RS = prep (L.map (·.1)) (statesR s n (n - k) p))) (fun _ _ _ _ _ i _ _ => n - (intOf i).toNat)
      case atStart => exact ⟨0, q, [], Nat.zero_le _, rfl, Lib.hid ⟨rfl, HQ.out⟩, HK1, HR1, Lib.hid (OutAt.nil_ _ _ _ _), Lib.hid RowsD.nil_, Lib.hid (by rw [← HRS.out]; exact (prep_nil _).symm)⟩
      case round =>
        obtain ⟨k, p, L, hk, rfl, HL, HK, HRd, HO, HD, HS⟩ := hrel
        by_cases hlt : k < n
        · obtain ⟨t, ht⟩ : ∃ t, n - k = t + 1 := ⟨n - k - 1, by omega⟩
          have HS1 : Hid (RS = prep (L.map (·.1)) (statesR s n (t + 1) p)) := Lib.hid (by rw [HS.out, ht])
          have HT : Hid (n - (k + 1) = t) := Lib.hid (by omega)
          clear ht HS
          have hN := HNum.out wr p HRd.out HL.out.2
          cases hv : numR s p with
          | error c =>
            rw [hv] at hN
            have HR2 : Hid (R = .error c) := Lib.hid (by rw [HR'.out, HS1.out, statesR_err s n t p _ c (by rw [staR, hv])])
            have HN := Lib.hid hN
            clear hN hv
            go_wp2_with fail
            refine HN.out.mono ?_
            rintro e w' ⟨rfl, hk⟩
            exact ⟨rfl, by rw [HR2.out]; exact ⟨rfl, HK.out.trans hk⟩⟩
          | ok r =>
            obtain ⟨v, q1⟩ := r
            rw [hv] at hN
            have HQ1 := Lib.hid (numR_le hv).2
            have HN := Lib.hid hN
            clear hN
            by_cases h256 : 256 < v / 2
            · have HR2 : Hid (R = .error 190) := Lib.hid (by rw [HR'.out, HS1.out, statesR_err s n t p _ 190 (by rw [staR, hv]; exact if_pos h256)])
              have hvl := numR_lt hv
              have hvw : IntKind.u64.wrap ((v : Int) / 2) = (v : Int) / 2 := by rw [IntKind.wrap_u64]; omega
              clear hv
              go_wp2_with fail
              refine HN.out.mono ?_
              rintro e w3 ⟨rfl, hk, hr⟩
              have HK3 := Lib.hid (HK.out.trans hk)
              clear hk hr
              go_wp2_with fail
              refine (must_any _ _ _ _).mono ?_
              rintro e w' ⟨⟨hc, rfl⟩ | ⟨hc, rfl⟩, rfl⟩
              · exact absurd hc (by simp <;> omega)
              · exact ⟨rfl, by rw [HR2.out]; exact ⟨rfl, HK3.out⟩⟩
            · have HSt : Hid (staR s n p = match edgesR s n (v / 2) q1 with | .error c => .error c | .ok (es, p) => .ok ((decide (v % 2 = 1), es), p)) := Lib.hid (by rw [staR, hv]; exact if_neg h256)
              have HV2 : Hid (v / 2 ≤ 256) := Lib.hid (by omega)
              clear hv
              go_wp2_with fail
              refine HN.out.mono ?_
              rintro e w3 ⟨rfl, hk, hr⟩
              have HK3 := Lib.hid (HK.out.trans hk)
              have HR3 := Lib.hid hr
              have HO3 := Lib.hid (HO.out.kept hk (by have := HBW.out; simp; omega))
              have HD3 := Lib.hid (HD.out.kept hk (fun g hg => .inl (by have := HBW.out; simp at hg; omega)))
              clear hk hr HN
              go_wp2_with fail
              refine (must_any _ _ _ _).mono ?_
              rintro e w4 ⟨⟨hc, rfl⟩ | ⟨hc, rfl⟩, rfl⟩
              rotate_left
              · exact absurd hc (by have := HV2.out; simp <;> omega)
              clear hc
              go_wp2_with fail
              obtain ⟨fv, hfv⟩ : ∃ fv, ((v : Int) % 2 == 1) = fv := ⟨_, rfl⟩
              have HFv : Hid (fv = decide (v % 2 = 1)) := Lib.hid (by rw [← hfv, Bool.eq_iff_iff]; simp; omega)
              rw [hfv]
              clear hfv
              generalize hW0 : w3.alloc (Obj.cells #[Value.bool fv, Value.slice none 0 0] 53) = W0
              have HX0 : Hid (W0.heap[w3.heap.size]? = some (.cells #[Value.bool fv, Value.slice none 0 0] 53 (0, 0))) := Lib.hid (by rw [← hW0]; exact heap_alloc_new w3 _)
              have HSz : Hid (w.heap.size ≤ w3.heap.size) := Lib.hid HK3.out.size
              have HZ0 : Hid (W0.heap.size = w3.heap.size + 1) := Lib.hid (by rw [← hW0]; exact World.size_alloc _ _)
              have HK0 : Hid (Kept [b] w W0) := Lib.hid (by rw [← hW0]; exact HK3.out.alloc _)
              have HR0 : Hid (RdrAt W0 b s q1) := Lib.hid (by rw [← hW0]; exact ((Kept.refl [] w3).alloc _).at HR3.out (by simp))
              have HO0 : Hid (∀ W, Kept [b, w3.heap.size] W0 W → OutAt W w.heap.size 53 55 u4 L) := Lib.hid (fun W hW => by
                have hk : Kept [b, w3.heap.size] w3 W := by
                  rw [← hW0] at hW
                  exact ((Kept.refl [b, w3.heap.size] w3).alloc _).trans hW
                have hbw := HBW.out
                refine ⟨hk.own HO3.out.own (fun g hg hm => ?_), fun x hx => (HO3.out.eds x hx).keptTy hk (fun g hg => ?_)⟩
                · obtain ⟨⟨cs, h1⟩, h2⟩ := own_ty HO3.out.own hg
                  have := block_lt h1
                  simp at hm; omega
                · simp only [List.mem_cons, List.not_mem_nil, or_false] at hg
                  rcases hg with rfl | rfl
                  · exact .inl hbw
                  · exact .inr (fun ⟨cs, h1⟩ => by have := block_lt h1; omega))
              have HD0 : Hid (∀ W, Kept [b, w3.heap.size] W0 W → RowsD W w.heap.size 55 L) := Lib.hid (fun W hW => by
                have hk : Kept [b, w3.heap.size] w3 W := by
                  rw [← hW0] at hW
                  exact ((Kept.refl [b, w3.heap.size] w3).alloc _).trans hW
                have hbw := HBW.out
                refine HD3.out.kept hk (fun g hg => ?_)
                simp only [List.mem_cons, List.not_mem_nil, or_false] at hg
                rcases hg with rfl | rfl
                · exact .inl hbw
                · exact .inr (fun ⟨cs, h1⟩ => by have := block_lt h1; omega))
              have HDl : Hid (∀ y ∈ L, ∀ g, y.2.ownBlock = some g → g < W0.heap.size) := Lib.hid (fun y hy g hg => by
                obtain ⟨⟨cs, h1⟩, _⟩ := own_ty (HD3.out.rows y hy) hg
                have := block_lt h1
                have := HZ0.out
                omega)
              have HKX : Hid (∀ W, Kept [b, w3.heap.size] W0 W → Kept [b] w W) := Lib.hid (fun W h => HK0.out.trans' h (fun x hx => by
                have := HK3.out.size
                simp only [List.mem_cons, List.not_mem_nil, or_false] at hx ⊢
                omega))
              clear hW0 HO3 HR3 HO HRd HK HK3 HD HD3
              obtain ⟨RE, hRE⟩ : ∃ RE, edgesR s n (v / 2) q1 = RE := ⟨_, rfl⟩
              rw [hRE] at HSt
              have HRE := Lib.hid hRE
              clear hRE
              go_loopw [7, 8, 35] (fun _ _ j W => ∃ (u p : Nat) (es : List Ed), u ≤ v / 2 ∧ j = .int .u64 u ∧ Hid (es.length = u ∧ p ≤ s.size) ∧ Hid (Kept [b, w3.heap.size] W0 W) ∧ Hid (RdrAt W b s p) ∧ Hid (∃ sv, W.heap[w3.heap.size]? = some (.cells #[Value.bool fv, sv] 53 (0, 0)) ∧ W.ownsRow W0.heap.size 55 2 sv es.length (edCells es)) ∧ Hid (RE = prep es (edgesR s n (v / 2 - u) p))) (fun _ _ j _ => v / 2 - (intOf j).toNat)
              case atStart => exact ⟨0, q1, [], Nat.zero_le _, rfl, Lib.hid ⟨rfl, HQ1.out⟩, Lib.hid (Kept.refl _ _), HR0, Lib.hid ⟨_, HX0.out, World.ownsRow_nil _ _ _ _⟩, Lib.hid (by rw [← HRE.out]; exact (prep_nil _).symm)⟩
              case round =>
                obtain ⟨u, p', es, hu, rfl, HE, HKw, HRw, HXw, HEs⟩ := hrel
                by_cases hlu : u < v / 2
                · obtain ⟨t', ht'⟩ : ∃ t, v / 2 - u = t + 1 := ⟨v / 2 - u - 1, by omega⟩
                  have HE1 : Hid (RE = prep es (edgesR s n (t' + 1) p')) := Lib.hid (by rw [HEs.out, ht'])
                  have HT' : Hid (v / 2 - (u + 1) = t') := Lib.hid (by omega)
                  have hju : (u : Int) < (v : Int) / 2 := by omega
                  have HErr : Hid (∀ c, edgR s n p' = .error c → R = .error c) := Lib.hid (fun c hc => by
                    have h1 : RE = .error c := HE1.out.trans (edgesR_err s n t' p' es c hc)
                    rw [HR'.out, HS1.out, statesR_err s n t p _ c (by rw [HSt.out, h1])])
                  clear ht' HEs
                  have hTk := HTake.out wr p' HRw.out HE.out.2
                  by_cases hsh : s.size < p' + 1
                  · rw [if_pos hsh] at hTk
                    have HR2 := Lib.hid (HErr.out 60 (if_pos hsh))
                    have HTk := Lib.hid hTk
                    clear hTk
                    go_wp2_with fail
                    refine HTk.out.mono ?_
                    rintro e w' ⟨rfl, hk⟩
                    exact ⟨rfl, by rw [HR2.out]; exact ⟨rfl, HKX.out _ (HKw.out.trans (hk.mono (by simp)))⟩⟩
                  rw [if_neg hsh] at hTk
                  obtain ⟨T, hT⟩ : ∃ T, s.extract p' (p' + 1) = T := ⟨_, rfl⟩
                  have hTs : T.size = 1 := by rw [← hT, ByteArray.size_extract]; omega
                  have HTb : Hid (∀ h : 0 < T.size, T[0]'h = byteAt s.data.toList p') := Lib.hid (by
                    subst hT
                    intro h
                    rw [byteAt_lt s p' (by omega)]
                    simp [ByteArray.getElem_extract])
                  rw [hT] at hTk
                  have HTk := Lib.hid hTk
                  have HSh := Lib.hid hsh
                  clear hTk hT hsh
                  have hBW := HBW.out
                  obtain ⟨sv, hX, hOw⟩ := HXw.out
                  have HXr := Lib.hid hX
                  have HOw := Lib.hid hOw
                  clear hX hOw hBW HXw
                  go_wp2_with fail
                  refine HTk.out.mono ?_
                  rintro e w5 ⟨rfl, hk5, hr5⟩
                  have HK5 := Lib.hid hk5
                  have HR5 := Lib.hid hr5
                  clear hk5 hr5
                  have hN2 := HNum.out w5 (p' + 1) HR5.out (by have := HSh.out; omega)
                  cases hv2 : numR s (p' + 1) with
                  | error c =>
                    rw [hv2] at hN2
                    have HR2 := Lib.hid (HErr.out c (by rw [edgR, if_neg HSh.out, hv2]))
                    have HN2 := Lib.hid hN2
                    clear hN2 hv2
                    go_wp2_with fail
                    refine HN2.out.mono ?_
                    rintro e w' ⟨rfl, hk⟩
                    exact ⟨rfl, by rw [HR2.out]; exact ⟨rfl, HKX.out _ (HKw.out.trans ((HK5.out.trans hk).mono (by simp)))⟩⟩
                  | ok r2 =>
                    obtain ⟨to, p2⟩ := r2
                    rw [hv2] at hN2
                    have HP2 := Lib.hid (numR_le hv2).2
                    have HN2 := Lib.hid hN2
                    clear hN2
                    by_cases hto : n ≤ to
                    · have HR2 := Lib.hid (HErr.out 190 (by rw [edgR, if_neg HSh.out, hv2]; exact if_pos hto))
                      clear hv2
                      go_wp2_with fail
                      refine HN2.out.mono ?_
                      rintro e w6 ⟨rfl, hk, hr⟩
                      have HK6 := Lib.hid (HK5.out.trans hk)
                      clear hk hr
                      go_wp2_with fail
                      refine (must_any _ _ _ _).mono ?_
                      rintro e w' ⟨⟨hc, rfl⟩ | ⟨hc, rfl⟩, rfl⟩
                      · exact absurd hc (by simp <;> omega)
                      · exact ⟨rfl, by rw [HR2.out]; exact ⟨rfl, HKX.out _ (HKw.out.trans (HK6.out.mono (by simp)))⟩⟩
                    · have HEd : Hid (edgR s n p' = .ok ((byteAt s.data.toList p', (to : Int)), p2)) := Lib.hid (by rw [edgR, if_neg HSh.out, hv2]; exact if_neg hto)
                      have HTo : Hid (to < n) := Lib.hid (by omega)
                      have HS2 : Hid (RE = prep (es ++ [(byteAt s.data.toList p', (to : Int))]) (edgesR s n t' p2)) := Lib.hid (by rw [HE1.out, edgesR_step s n t' p' es _ p2 HEd.out])
                      clear hv2
                      go_wp2_with fail
                      refine HN2.out.mono ?_
                      rintro e w6 ⟨rfl, hk6, hr6⟩
                      have HK6 := Lib.hid (HK5.out.trans hk6)
                      have HR6 := Lib.hid hr6
                      clear hk6 hr6
                      go_wp2_with fail
                      refine (must_any _ _ _ _).mono ?_
                      rintro e w7 ⟨⟨hc, rfl⟩ | ⟨hc, rfl⟩, rfl⟩
                      rotate_left
                      · exact absurd hc (by have := HTo.out; simp <;> omega)
                      clear hc
                      have HO6 : Hid (w6.ownsRow W0.heap.size 55 2 sv es.length (edCells es)) := Lib.hid (HK6.out.own HOw.out (fun g hg hm => by
                        have h1 := (own_ty HOw.out hg).2
                        have h2 := HBW.out
                        have h3 := HK0.out.size
                        simp at hm; omega))
                      have HX6 : Hid (w6.heap[w3.heap.size]? = some (.cells #[Value.bool fv, sv] 53 (0, 0))) := Lib.hid (HK6.out.at HXr.out (by
                        have h2 := HBW.out
                        have h3 := HK1.out.size
                        have h4 := HZ0.out
                        have h5 := HSz.out
                        simp; omega))
                      have x6 : w6.cell? ⟨w3.heap.size, 1, none⟩ = some sv := by rw [Lib.cell_of_heap HX6.out]; rfl
                      have HX8 : Hid (∀ w8, w6.grownBy w8 sv.ownBlock → w8.heap[w3.heap.size]? = some (.cells #[Value.bool fv, sv] 53 (0, 0))) := Lib.hid (fun w8 hg => by
                        rw [hg.block _ (block_lt HX6.out) (fun e => by
                          have h1 := (own_ty HO6.out e.symm).2
                          have h2 := HZ0.out
                          omega)]
                        exact HX6.out)
                      have hwt : IntKind.i64.wrap (to : Int) = (to : Int) := by have := HTo.out; rw [IntKind.wrap_i64]; omega
                      have HEl : Hid (es.length ≤ 256 ∧ W0.heap.size ≤ w6.heap.size) := Lib.hid ⟨by have := HE.out.1; have := HV2.out; omega, Nat.le_trans HKw.out.size HK6.out.size⟩
                      go_wp2_with (at_builtin; refine wpList_push rfl _ _ 51 rfl W0.heap.size 55 i0 _ 2 16 Try.underlying51 hi hz0 hz1 hz2 rfl (by decide) _ es.length (edCells es) rfl HO6.out _ rfl (by intro x hx; simp at hx; rcases hx with rfl | rfl <;> rfl) rfl (by have := HEl.out.1; unfold maxLen; omega) (by have := HEl.out.1; omega) HEl.out.2 ?_; intro gg cc w8 hown hg8; have hx8 := HX8.out _ hg8; have c8 : w8.cell? ⟨w3.heap.size, 1, none⟩ = some sv := (by rw [Lib.cell_of_heap hx8]; rfl); have f8 : w8.frozen? ⟨w3.heap.size, 1, none⟩ = false := Lib.frozen_of_heap hx8 1; have HX9 := Lib.hid hx8; have HO8 := Lib.hid hown; have HG8 : Hid (w6.grownBy w8 sv.ownBlock) := Lib.hid hg8; clear hx8 hown hg8)
                      have hbx : b ≠ w3.heap.size := by have h2 := HBW.out; have h5 := HSz.out; omega
                      have HK8 : Hid (Kept [b, w3.heap.size] W0 w8) := Lib.hid ((HKw.out.trans (HK6.out.mono (by simp))).push HO6.out (Nat.le_refl _) HG8.out)
                      refine ⟨⟨u + 1, p2, es ++ [(byteAt s.data.toList p', (to : Int))], by omega, rfl, Lib.hid ⟨by rw [List.length_append, HE.out.1]; rfl, HP2.out⟩, Lib.hid (HK8.out.set _ _ _ (.inl (by simp))), Lib.hid ?_, Lib.hid ⟨_, Go.heap_setCell_same w8 _ 1 _ _ _ HX9.out, ?_⟩, Lib.hid (by rw [HT'.out]; exact HS2.out)⟩, ?_⟩
                      · show RdrAt _ b s p2
                        unfold RdrAt
                        rw [heap_setCell_other w8 _ b _ hbx, HG8.out.block b (block_lt HR6.out) (fun e => by
                          have h1 := (own_ty HO6.out e.symm).2
                          have h2 := HBW.out
                          have h3 := HK0.out.size
                          omega)]
                        exact HR6.out
                      · rw [← edCells_snoc, List.length_append, List.length_singleton]
                        refine ((Kept.refl [w3.heap.size] w8).set _ _ _ (.inl (by simp))).own ?_ (fun g hg hm => ?_)
                        · have h1 := HO8.out
                          have h2 := HTb.out (by omega)
                          rw [← h2]
                          exact h1
                        · have h1 := (own_ty HO8.out hg).2
                          have h2 := HZ0.out
                          simp at hm; omega
                      · simp [intOf]; omega
                · obtain rfl : u = v / 2 := by omega
                  have HE2 : Hid (RE = .ok (es, p')) := Lib.hid (by rw [HEs.out, Nat.sub_self, edgesR]; simp [prep])
                  have HS3 : Hid (RS = prep ((L ++ [((fv, es), Value.bool false)]).map (·.1)) (statesR s n t p')) := Lib.hid (by
                    rw [HS1.out, statesR_step s n t p _ (fv, es) p' (by rw [HSt.out, HE2.out, HFv.out])]; simp)
                  obtain ⟨sv, hX, hOw⟩ := HXw.out
                  have x0 : wr.cell? ⟨w3.heap.size, 0, none⟩ = some (.bool fv) := by rw [Lib.cell_of_heap hX]; rfl
                  have x1 : wr.cell? ⟨w3.heap.size, 1, none⟩ = some sv := by rw [Lib.cell_of_heap hX]; rfl
                  have HEd := Lib.hid ((eds_of_own hOw).base (B' := w.heap.size) (by have := HZ0.out; have := HSz.out; omega))
                  have HOo := Lib.hid (HO0.out wr HKw.out)
                  have HDn := Lib.hid ((HD0.out wr HKw.out).push (x := ((fv, es), sv)) hOw (by have := HZ0.out; have := HSz.out; omega) HDl.out)
                  have HKr := Lib.hid (HKX.out wr HKw.out)
                  have HOne : Hid (sv.oneCell' = true) := Lib.hid (by rcases hOw.2 with ⟨h, _⟩ | ⟨_, _, _, h, _⟩ <;> rw [h] <;> rfl)
                  clear hX hOw HXw HEs
                  go_wp2_with (at_builtin; refine wpList_push rfl _ _ 23 rfl w.heap.size 53 i1 _ 2 32 Try.underlying23 hj hy0 hy1 hy2 rfl (by decide) _ L.length (stCells L) rfl HOo.out.own _ rfl (by intro x hx; simp at hx; rcases hx with rfl | rfl; rfl; exact HOne.out) rfl (by have := HL.out.1; unfold maxLen; omega) (by have := HL.out.1; omega) HKr.out.size ?_; intro gg cc w8 hown hg8; have HO8 := Lib.hid hown; have HG8 : Hid (wr.grownBy w8 u4.ownBlock) := Lib.hid hg8; clear hown hg8)
                  refine ⟨⟨k + 1, p', L ++ [((fv, es), sv)], by omega, rfl, Lib.hid ⟨by rw [List.length_append, HL.out.1]; rfl, HE.out.2⟩, Lib.hid (HKr.out.push HOo.out.own (Nat.le_refl _) HG8.out), Lib.hid ?_, Lib.hid (HOo.out.push (by decide) HEd.out (x := ((fv, es), sv)) HO8.out HG8.out), Lib.hid (HDn.out.kept (Kept.grown HG8.out (E := u4.ownBlock.toList) (fun k hk => by rw [hk]; simp)) (fun g hg => .inr (fun ht => absurd ((own_ty HOo.out.own (show u4.ownBlock = some g by simpa using hg)).1.uniq ht) (by decide)))), Lib.hid ?_⟩, by simp [intOf]; omega⟩
                  · show w8.heap[b]? = _
                    rw [HG8.out.block b (block_lt HRw.out) (fun e => by
                      have h1 := (own_ty HOo.out.own e.symm).2
                      have h2 := HBW.out
                      omega)]
                    exact HRw.out
                  · rw [HT.out, HS3.out]; simp
        · obtain rfl : k = n := by omega
          have HR3 : Hid (R = if shapeB (L.map (·.1)) then .ok (L.map (·.1), p) else .error 190) := Lib.hid (by rw [HR'.out, HS.out, Nat.sub_self, statesR]; simp [prep])
          have hSh := fun W (h : Kept [] wr W) => Shape_any (L.map (·.1)) u4 W ((HO.out.aut.mono (fun _ _ => trivial)).kept h (by simp))
          have HSh := Lib.hid hSh
          clear hSh HNum HTake HS
          by_cases hshp : shapeB (L.map (·.1)) = true
          · have HR4 := Lib.hid (HR3.out.trans (if_pos hshp))
            have HV : Hid (shapeV (L.map (·.1)) = 0) := Lib.hid (if_pos hshp)
            clear hshp
            go_wp2_with fail
            refine (HSh.out _ (Kept.refl _ _)).mono ?_
            rw [HV.out]
            rintro e w5 ⟨rfl, hb⟩
            have HK5 : Hid (Kept [] wr w5) := Lib.hid (Kept.of_below hb)
            clear hb
            go_wp2_with fail
            refine (must_any _ _ _ _).mono ?_
            rintro e w6 ⟨⟨hc, rfl⟩ | ⟨hc, rfl⟩, rfl⟩
            rotate_left
            · exact absurd hc (by simp)
            clear hc
            go_wp2_with fail
            go_ret
            rw [HR4.out]
            exact ⟨_, L, rfl, HK.out.trans (HK5.out.mono (by simp)), HK5.out.at HRd.out (by simp), HO.out.kept HK5.out (by simp), HD.out.kept HK5.out (by simp), rfl⟩
          · have HR4 := Lib.hid (HR3.out.trans (if_neg hshp))
            have HV : Hid (shapeV (L.map (·.1)) = 190) := Lib.hid (if_neg hshp)
            clear hshp
            go_wp2_with fail
            refine (HSh.out _ (Kept.refl _ _)).mono ?_
            rw [HV.out]
            rintro e w5 ⟨rfl, hb⟩
            have HK5 : Hid (Kept [b] wr w5) := Lib.hid (Kept.of_below hb)
            clear hb
            go_wp2_with fail
            refine (must_any _ _ _ _).mono ?_
            rintro e w6 ⟨⟨hc, rfl⟩ | ⟨hc, rfl⟩, rfl⟩
            · exact absurd hc (by simp)
            · exact ⟨rfl, by rw [HR4.out]; exact ⟨rfl, HK.out.trans HK5.out⟩⟩
end

section
open Go.RowKit

theorem errno_info : (Try.prog.info? 28).map (·.zero) = some (some (.int .i64 0)) := by kernel_rfl
theorem assert_fault (xT : TypeId) (c : Int) (w : World) : (Instr.typeAssert (.iface 28 (.int .i64 c)) xT 28 true).run Try.prog w = .ok (.tuple #[.int .i64 c, .bool true]) w := by
  simp [Instr.typeAssert, run_underlying Try.underlying28, go_sem, Result.andThen]
theorem assert_nil (xT : TypeId) (w : World) : (Instr.typeAssert .nilIface xT 28 true).run Try.prog w = .ok (.tuple #[.int .i64 0, .bool false]) w := by
  obtain ⟨i, hi, hz⟩ := Option.map_eq_some_iff.1 errno_info
  simp [Instr.typeAssert, run_underlying Try.underlying28, go_sem, Result.andThen, typeInfo, zeroValue, hi, hz]

set_option maxHeartbeats 2000000 in
theorem catch_fault (bb eb : Nat) (x0 x1 x2 x3 x4 x5 x6 y : Value) (c : Int) (older : List PanicEntry) (w : World) (hb : w.heap[bb]? = some (.cells #[x0, x1, x2, x3, x4, x5, x6] 26 (0, 0))) (he : w.heap[eb]? = some (.cells #[y] 28 (0, 0))) (hne : bb ≠ eb) :
    CallsD Try.prog 36 #[.pointer (some ⟨bb, 0, none⟩), .pointer (some ⟨eb, 0, none⟩)] (.panicking ({ v := .iface 28 (.int .i64 c), recovered := false } :: older)) w fun e u' w' =>
      e = .returned (.tuple #[]) ∧ u' = .panicking ({ v := .iface 28 (.int .i64 c), recovered := true } :: older) ∧ Kept [bb, eb] w w' ∧
      w'.heap[bb]? = some (.cells #[.int .i64 0, .string ⟨#[]⟩, .slice none 0 0, .slice none 0 0, .slice none 0 0, .slice none 0 0, .slice none 0 0] 26 (0, 0)) ∧ w'.heap[eb]? = some (.cells #[.int .i64 c] 28 (0, 0)) := by
  have b0 : w.cell? ⟨bb, 0, none⟩ = some x0 := by rw [Lib.cell_of_heap hb]; rfl
  have b1 : w.cell? ⟨bb, 1, none⟩ = some x1 := by rw [Lib.cell_of_heap hb]; rfl
  have b2 : w.cell? ⟨bb, 2, none⟩ = some x2 := by rw [Lib.cell_of_heap hb]; rfl
  have b3 : w.cell? ⟨bb, 3, none⟩ = some x3 := by rw [Lib.cell_of_heap hb]; rfl
  have b4 : w.cell? ⟨bb, 4, none⟩ = some x4 := by rw [Lib.cell_of_heap hb]; rfl
  have b5 : w.cell? ⟨bb, 5, none⟩ = some x5 := by rw [Lib.cell_of_heap hb]; rfl
  have b6 : w.cell? ⟨bb, 6, none⟩ = some x6 := by rw [Lib.cell_of_heap hb]; rfl
  have bf : ∀ i, w.frozen? ⟨bb, i, none⟩ = false := Lib.frozen_of_heap hb
  have e0 : w.cell? ⟨eb, 0, none⟩ = some y := by rw [Lib.cell_of_heap he]; rfl
  have ef : w.frozen? ⟨eb, 0, none⟩ = false := Lib.frozen_of_heap he 0
  have hne' := Ne.symm hne
  refine callsD_of_wpS Try.func36 rfl fun c₀ cs hu => ?_
  apply wpS_seq
  apply wpS_region
  simp [wpOpsS, go_sem, recoverD, hu, assert_fault, Try.ntmps36, Exit.thenS]
  apply wpS_seq
  apply wpS_region
  simp [wpOpsS, go_sem, Exit.thenS]
  refine wpS_cond (t := true) (by simp [Act.eval, Array.replicate]) ?_
  simp only [if_true]
  refine wpS_of_wp ?_
  simp only [Array.replicate, List.replicate, List.setIfInBounds_toArray, List.set_cons_zero, List.set_cons_succ, List.append_toArray]
  go_wp2_with fail
  have hz := heap_setCell_same _ bb 6 _ _ (Value.slice none 0 0) (heap_setCell_same _ bb 5 _ _ (Value.slice none 0 0) (heap_setCell_same _ bb 4 _ _ (Value.slice none 0 0) (heap_setCell_same _ bb 3 _ _ (Value.slice none 0 0) (heap_setCell_same _ bb 2 _ _ (Value.slice none 0 0) (heap_setCell_same _ bb 1 _ _ (Value.string ⟨#[]⟩) (heap_setCell_same _ bb 0 _ _ (Value.int .i64 0) hb))))))
  simp only [List.setIfInBounds_toArray, List.set_cons_zero, List.set_cons_succ] at hz
  refine ⟨rfl, _, rfl, .tuple #[], by simp [results, Try.results36], rfl, rfl, ?_, ?_, ?_⟩
  · exact ((((((((Kept.refl [bb, eb] w).set _ _ _ (.inl (by simp))).set _ _ _ (.inl (by simp))).set _ _ _ (.inl (by simp))).set _ _ _ (.inl (by simp))).set _ _ _ (.inl (by simp))).set _ _ _ (.inl (by simp))).set _ _ _ (.inl (by simp))).set _ _ _ (.inl (by simp))
  · rw [heap_setCell_other _ ⟨eb, 0, none⟩ bb _ hne]
    exact hz
  · refine heap_setCell_same _ eb 0 #[y] _ _ ?_
    rw [heap_setCell_other _ ⟨bb, 6, none⟩ eb _ hne', heap_setCell_other _ ⟨bb, 5, none⟩ eb _ hne', heap_setCell_other _ ⟨bb, 4, none⟩ eb _ hne', heap_setCell_other _ ⟨bb, 3, none⟩ eb _ hne', heap_setCell_other _ ⟨bb, 2, none⟩ eb _ hne', heap_setCell_other _ ⟨bb, 1, none⟩ eb _ hne', heap_setCell_other _ ⟨bb, 0, none⟩ eb _ hne']
    exact he
theorem catch_none (bb eb : Nat) (w : World) :
    CallsD Try.prog 36 #[.pointer (some ⟨bb, 0, none⟩), .pointer (some ⟨eb, 0, none⟩)] .returning w fun e u' w' => e = .returned (.tuple #[]) ∧ u' = .returning ∧ w' = w := by
  refine callsD_of_wpS Try.func36 rfl fun c₀ cs hu => ?_
  apply wpS_seq
  apply wpS_region
  simp [wpOpsS, go_sem, recoverD, hu, assert_nil, Try.ntmps36, Exit.thenS]
  apply wpS_seq
  apply wpS_region
  simp [wpOpsS, go_sem, Exit.thenS]
  refine wpS_cond (t := false) (by simp [Act.eval, Array.replicate]) ?_
  simp only [Bool.false_eq_true, if_false]
  refine wpS_of_wp (wp_skip ?_)
  cases c₀
  simp_all [bodyPostS, results, Try.results36]
end

section
open Go.RowKit

def zeroBook : Value := .agg #[.int .i64 0, .string ⟨#[]⟩, .slice none 0 0, .slice none 0 0, .slice none 0 0, .slice none 0 0, .slice none 0 0]
abbrev theDefer (bb eb : Nat) : Deferred := { target := .fn (Fn.func 36) #[.pointer (some ⟨bb, 0, none⟩), .pointer (some ⟨eb, 0, none⟩)], args := #[] }
set_option maxHeartbeats 2000000 in
theorem results_book (bb eb : Nat) (x0 x1 x2 x3 x4 x5 x6 y : Value) (w : World) (tmps : Array Value) (h2 : tmps[2]?.getD undef = .pointer (some ⟨bb, 0, none⟩)) (h3 : tmps[3]?.getD undef = .pointer (some ⟨eb, 0, none⟩))
    (hb : w.heap[bb]? = some (.cells #[x0, x1, x2, x3, x4, x5, x6] 26 (0, 0))) (he : w.heap[eb]? = some (.cells #[y] 28 (0, 0))) :
    (results Try.f15 tmps).run Try.prog w = .ok (.tuple #[.agg #[x0, x1, x2, x3, x4, x5, x6], y]) w := by
  have b0 : w.cell? ⟨bb, 0, none⟩ = some x0 := by rw [Lib.cell_of_heap hb]; rfl
  have b1 : w.cell? ⟨bb, 1, none⟩ = some x1 := by rw [Lib.cell_of_heap hb]; rfl
  have b2 : w.cell? ⟨bb, 2, none⟩ = some x2 := by rw [Lib.cell_of_heap hb]; rfl
  have b3 : w.cell? ⟨bb, 3, none⟩ = some x3 := by rw [Lib.cell_of_heap hb]; rfl
  have b4 : w.cell? ⟨bb, 4, none⟩ = some x4 := by rw [Lib.cell_of_heap hb]; rfl
  have b5 : w.cell? ⟨bb, 5, none⟩ = some x5 := by rw [Lib.cell_of_heap hb]; rfl
  have b6 : w.cell? ⟨bb, 6, none⟩ = some x6 := by rw [Lib.cell_of_heap hb]; rfl
  have e0 : w.cell? ⟨eb, 0, none⟩ = some y := by rw [Lib.cell_of_heap he]; rfl
  simp [results, Try.results15, go_sem, h2, h3, b0, b1, b2, b3, b4, b5, b6, e0]
set_option maxHeartbeats 2000000 in
theorem leave_fault (bb eb : Nat) (x0 x1 x2 x3 x4 x5 x6 y : Value) (c : Nat) (W : World) (tmps : Array Value) (R : Ending → World → Prop) (h2 : tmps[2]?.getD undef = .pointer (some ⟨bb, 0, none⟩)) (h3 : tmps[3]?.getD undef = .pointer (some ⟨eb, 0, none⟩))
    (hb : W.heap[bb]? = some (.cells #[x0, x1, x2, x3, x4, x5, x6] 26 (0, 0))) (he : W.heap[eb]? = some (.cells #[y] 28 (0, 0))) (hne : bb ≠ eb)
    (hR : ∀ W', Kept [bb, eb] W W' → R (.returned (.tuple #[zeroBook, .int .i64 (c : Int)])) W') :
    bodyPostD Try.prog Try.f15 R (Exit.panic [flt c]) { tmps := tmps, defers := [theDefer bb eb] } W := by
  show Leaves Try.prog Try.f15 tmps R [theDefer bb eb] (.panicking [flt c]) W
  refine leaves_cons (f := 36) (args := #[.pointer (some ⟨bb, 0, none⟩), .pointer (some ⟨eb, 0, none⟩)]) (by simp) (by simp [go_sem]) ?_
  refine (catch_fault bb eb x0 x1 x2 x3 x4 x5 x6 y (c : Int) [] W hb he hne).mono ?_
  rintro e u' w'' ⟨rfl, rfl, hk, hb', he'⟩
  simp only [settle]
  exact ⟨_, results_book bb eb _ _ _ _ _ _ _ _ w'' tmps h2 h3 hb' he', hR w'' hk⟩
set_option maxHeartbeats 2000000 in
theorem leave_ok (bb eb : Nat) (x0 x1 x2 x3 x4 x5 x6 y : Value) (W : World) (tmps : Array Value) (R : Ending → World → Prop) (h2 : tmps[2]?.getD undef = .pointer (some ⟨bb, 0, none⟩)) (h3 : tmps[3]?.getD undef = .pointer (some ⟨eb, 0, none⟩))
    (hb : W.heap[bb]? = some (.cells #[x0, x1, x2, x3, x4, x5, x6] 26 (0, 0))) (he : W.heap[eb]? = some (.cells #[y] 28 (0, 0)))
    (hR : R (.returned (.tuple #[.agg #[x0, x1, x2, x3, x4, x5, x6], y])) W) :
    bodyPostD Try.prog Try.f15 R Exit.ret { tmps := tmps, defers := [theDefer bb eb] } W := by
  show Leaves Try.prog Try.f15 tmps R [theDefer bb eb] .returning W
  refine leaves_cons (f := 36) (args := #[.pointer (some ⟨bb, 0, none⟩), .pointer (some ⟨eb, 0, none⟩)]) (by simp) (by simp [go_sem]) ?_
  refine (catch_none bb eb W).mono ?_
  rintro e u' w'' ⟨rfl, rfl, rfl⟩
  exact ⟨_, results_book bb eb _ _ _ _ _ _ _ _ w'' tmps h2 h3 hb he, hR⟩
/-- Without a deferred call: where the beginning is another. -/
theorem leave_now (bb eb : Nat) (x0 x1 x2 x3 x4 x5 x6 y : Value) (W : World) (tmps : Array Value) (R : Ending → World → Prop) (h2 : tmps[2]?.getD undef = .pointer (some ⟨bb, 0, none⟩)) (h3 : tmps[3]?.getD undef = .pointer (some ⟨eb, 0, none⟩))
    (hb : W.heap[bb]? = some (.cells #[x0, x1, x2, x3, x4, x5, x6] 26 (0, 0))) (he : W.heap[eb]? = some (.cells #[y] 28 (0, 0)))
    (hR : R (.returned (.tuple #[.agg #[x0, x1, x2, x3, x4, x5, x6], y])) W) :
    bodyPostD Try.prog Try.f15 R Exit.ret { tmps := tmps, defers := [] } W :=
  ⟨_, results_book bb eb _ _ _ _ _ _ _ _ W tmps h2 h3 hb he, hR⟩

/-! ### The plain law -/
abbrev Rp := ByteArray × ByteArray
def repR (s : ByteArray) (a : Nat) : Except Nat (Rp × Nat) :=
  match frmR s a with
  | .error c => .error c
  | .ok (f, q) => match frmR s q with
    | .error c => .error c
    | .ok (t, p) => .ok ((f, t), p)
def manyR {α : Type} (f : Nat → Except Nat (α × Nat)) : Nat → Nat → Except Nat (List α × Nat)
  | 0, a => .ok ([], a)
  | k + 1, a => match f a with
    | .error c => .error c
    | .ok (x, q) => match manyR f k q with
      | .error c => .error c
      | .ok (xs, p) => .ok (x :: xs, p)
theorem manyR_step {α : Type} (f : Nat → Except Nat (α × Nat)) (k a : Nat) (l : List α) (e : α) (q : Nat) (h : f a = .ok (e, q)) : prep l (manyR f (k + 1) a) = prep (l ++ [e]) (manyR f k q) := by
  simp only [manyR, h]
  cases manyR f k q with
  | error c => rfl
  | ok r => obtain ⟨a, b⟩ := r; simp [prep]
theorem manyR_err {α : Type} (f : Nat → Except Nat (α × Nat)) (k a : Nat) (l : List α) (c : Nat) (h : f a = .error c) : prep l (manyR f (k + 1) a) = .error c := by
  rw [manyR, h]; rfl
structure Bk where
  least : Nat
  tryT : ByteArray
  reps : List Rp
  secs : List (List St)
def leastV (l : Nat) : Nat := if l ≤ 64 then l else 0
def endR (s : ByteArray) (b : Bk) (p : Nat) : Except Nat Bk := if p = s.size then .ok b else .error 202
def secsR (s : ByteArray) (l : Nat) (t : ByteArray) (rs : List Rp) (a : Nat) : Except Nat Bk :=
  if settingsB (leastV l : Nat) t rs = false then .error 201 else match manyR (secR s) 4 a with
    | .error c => .error c
    | .ok (As, p) => endR s ⟨leastV l, t, rs, As⟩ p
def repsR (s : ByteArray) (l : Nat) (t : ByteArray) (a : Nat) : Except Nat Bk :=
  match numR s a with
  | .error c => .error c
  | .ok (n, q) => if 256 < n then .error 201 else match manyR (repR s) n q with
    | .error c => .error c
    | .ok (rs, p) => secsR s l t rs p
def bookR (s : ByteArray) : Except Nat Bk :=
  match numR s 4 with
  | .error c => .error c
  | .ok (l, q) => match frmR s q with
    | .error c => .error c
    | .ok (t, p) => repsR s l t p
def magicS : ByteArray := ⟨#[72, 66, 75, 49]⟩
def decR (s : ByteArray) : Except Nat Bk := if Lib.hasPrefix s.data.toList magicS.data.toList then bookR s else .error 200
end

section
open Go.RowKit

/-- Where Decode stands: the book's, the fault's and the reader's variables lie behind the heap as it was. -/
structure DSt (w : World) (s : ByteArray) (W : World) (p : Nat) (cs : Array Value) : Prop where
  below : Below w.heap.size w W
  size : w.heap.size + 3 ≤ W.heap.size
  book : W.heap[w.heap.size]? = some (.cells cs 26 (0, 0))
  err : W.heap[w.heap.size + 1]? = some (.cells #[.int .i64 0] 28 (0, 0))
  rdr : RdrAt W (w.heap.size + 1 + 1) s p
theorem DSt.call {w W W' : World} {s : ByteArray} {p p' : Nat} {cs : Array Value} (h : DSt w s W p cs) (hk : Kept [w.heap.size + 1 + 1] W W') (hr : RdrAt W' (w.heap.size + 1 + 1) s p') : DSt w s W' p' cs :=
  ⟨h.below.trans (hk.below (by have := h.size; omega) (by simp <;> omega)), Nat.le_trans h.size hk.size, hk.at h.book (by simp <;> omega), hk.at h.err (by simp <;> omega), hr⟩
theorem DSt.kept {w W W' : World} {s : ByteArray} {p : Nat} {cs : Array Value} (h : DSt w s W p cs) (hk : Kept [] W W') : DSt w s W' p cs :=
  h.call (hk.mono (by simp <;> omega)) (hk.at h.rdr (by simp <;> omega))
theorem DSt.set {w W : World} {s : ByteArray} {p : Nat} {cs : Array Value} (h : DSt w s W p cs) (i : Nat) (v : Value) : DSt w s (W.setCell ⟨w.heap.size, i, none⟩ v) p (cs.setIfInBounds i v) :=
  ⟨h.below.trans (((Kept.refl [w.heap.size] W).set _ _ _ (.inl (by simp <;> omega))).below (by have := h.size; omega) (by simp <;> omega)), by simpa [World.setCell] using h.size, heap_setCell_same W _ i _ _ _ h.book,
    by rw [heap_setCell_other W _ _ _ (by simp <;> omega)]; exact h.err, by unfold RdrAt; rw [heap_setCell_other W _ _ _ (by simp <;> omega)]; exact h.rdr⟩
theorem DSt.push {w W W' : World} {s : ByteArray} {p : Nat} {cs : Array Value} {e size n : Nat} {v : Value} {xs : List Value} (h : DSt w s W p cs) (ho : W.ownsRow w.heap.size e size v n xs) (h1 : e ≠ 26) (h2 : e ≠ 28) (h3 : e ≠ 86) (hg : W.grownBy W' v.ownBlock) : DSt w s W' p cs := by
  have hk : Kept v.ownBlock.toList W W' := Kept.grown hg (fun k hk => by rw [hk]; simp)
  have key : ∀ (g t : Nat) (cs : Array Value), W.heap[g]? = some (.cells cs t (0, 0)) → e ≠ t → g ∉ v.ownBlock.toList := fun g t cs hg' hne hm =>
    hne ((own_ty ho (show v.ownBlock = some g by simpa using hm)).1.uniq ⟨cs, hg'⟩)
  exact ⟨h.below.trans (hk.below (by have := h.size; omega) (fun x hx => (own_ty ho (show v.ownBlock = some x by simpa using hx)).2)), Nat.le_trans h.size hk.size, hk.at h.book (key _ _ _ h.book h1), hk.at h.err (key _ _ _ h.err h2), hk.at h.rdr (key _ _ _ h.rdr h3)⟩
theorem DSt.cell {w W : World} {s : ByteArray} {p : Nat} {cs : Array Value} (h : DSt w s W p cs) (i : Nat) {x : Value} (hx : cs[i]? = some x) : W.cell? ⟨w.heap.size, i, none⟩ = some x := by rw [Lib.cell_of_heap h.book]; exact hx
theorem DSt.fz {w W : World} {s : ByteArray} {p : Nat} {cs : Array Value} (h : DSt w s W p cs) (i : Nat) : W.frozen? ⟨w.heap.size, i, none⟩ = false := Lib.frozen_of_heap h.book i
theorem DSt.start (w : World) (s : ByteArray) : DSt w s (((w.alloc (.cells #[.int .i64 0, .string ⟨#[]⟩, .slice none 0 0, .slice none 0 0, .slice none 0 0, .slice none 0 0, .slice none 0 0] 26)).alloc (.cells #[.int .i64 0] 28)).alloc (.cells #[.string s, .int .i64 4] 86)) 4
    #[.int .i64 0, .string ⟨#[]⟩, .slice none 0 0, .slice none 0 0, .slice none 0 0, .slice none 0 0, .slice none 0 0] := by
  refine ⟨(((Below.refl _ _).alloc (Nat.le_refl _) _).alloc (by simp <;> omega) _).alloc (by simp; omega) _, by simp, ?_, ?_, ?_⟩
  · rw [Below.heap_alloc _ _ _ (by simp; omega), Below.heap_alloc _ _ _ (by simp <;> omega)]
    exact heap_alloc_new w _
  · rw [Below.heap_alloc _ _ _ (by simp <;> omega)]
    have := heap_alloc_new (w.alloc (.cells #[.int .i64 0, .string ⟨#[]⟩, .slice none 0 0, .slice none 0 0, .slice none 0 0, .slice none 0 0, .slice none 0 0] 26)) (.cells #[.int .i64 0] 28)
    simpa using this
  · have := heap_alloc_new ((w.alloc (.cells #[.int .i64 0, .string ⟨#[]⟩, .slice none 0 0, .slice none 0 0, .slice none 0 0, .slice none 0 0, .slice none 0 0] 26)).alloc (.cells #[.int .i64 0] 28)) (.cells #[.string s, .int .i64 4] 86)
    simpa [RdrAt] using this
theorem leastV_le {l : Nat} (h : l ≤ 64) : leastV l = l := if_pos h
theorem leastV_gt {l : Nat} (h : ¬ l ≤ 64) : leastV l = 0 := if_neg h
def SecP (w : World) (p : Nat → Prop) (vs : List Value) (As : List (List St)) : Prop := ∀ j (h : j < As.length), AutAt w p (vs.getD j undef) As[j]
/-- A section's memory lies between two marks. -/
structure SecAt (W : World) (lo hi : Nat) (v : Value) (L : List (St × Value)) : Prop where
  out : OutAt W lo 53 55 v L
  rows : RowsD W lo 55 L
  vlt : ∀ g, v.ownBlock = some g → g < hi
  rlt : ∀ x ∈ L, ∀ g, x.2.ownBlock = some g → g < hi
theorem SecAt.kept {E : List Nat} {W W' : World} {lo hi : Nat} {v : Value} {L : List (St × Value)} (h : SecAt W lo hi v L) (hk : Kept E W W') (hE : ∀ g ∈ E, g < lo) : SecAt W' lo hi v L :=
  ⟨h.out.kept hk hE, h.rows.kept hk (fun g hg => .inl (hE g hg)), h.vlt, h.rlt⟩
theorem SecAt.new {W : World} {lo : Nat} {v : Value} {L : List (St × Value)} (ho : OutAt W lo 53 55 v L) (hr : RowsD W lo 55 L) : SecAt W lo W.heap.size v L :=
  ⟨ho, hr, fun _ hg => block_lt (own_ty ho.own hg).1.choose_spec, fun x hx _ hg => block_lt (own_ty (hr.rows x hx) hg).1.choose_spec⟩
/-- Each section's memory lies between two marks of its own. -/
def SecR (W : World) (lo : Nat) (vs : List Value) (As : List (List St)) : Prop := ∃ (B : Nat → Nat) (Ls : Nat → List (St × Value)), lo ≤ B 0 ∧ (∀ j, B j ≤ B (j + 1)) ∧ B As.length ≤ W.heap.size ∧ ∀ j (h : j < As.length), SecAt W (B j) (B (j + 1)) (vs.getD j undef) (Ls j) ∧ (Ls j).map (·.1) = As[j]
theorem marks_le {B : Nat → Nat} (h : ∀ j, B j ≤ B (j + 1)) (i k : Nat) : B i ≤ B (i + k) := by
  induction k with
  | zero => exact Nat.le_refl _
  | succ k ih => exact Nat.le_trans ih (h (i + k))
theorem marks_0 {B : Nat → Nat} (h : ∀ j, B j ≤ B (j + 1)) (k : Nat) : B 0 ≤ B k := by
  have := marks_le h 0 k
  rwa [Nat.zero_add] at this
theorem SecR.secP {W : World} {lo : Nat} {vs : List Value} {As : List (List St)} (h : SecR W lo vs As) : SecP W (fun g => lo ≤ g) vs As := by
  obtain ⟨B, Ls, h0, h1, _, h3⟩ := h
  intro j hj
  obtain ⟨h4, h5⟩ := h3 j hj
  have h6 := h4.out.aut
  rw [h5] at h6
  exact h6.mono (fun g hg => Nat.le_trans h0 (Nat.le_trans (marks_0 h1 j) hg))
theorem SecR.kept {E : List Nat} {W W' : World} {lo : Nat} {vs : List Value} {As : List (List St)} (h : SecR W lo vs As) (hk : Kept E W W') (hE : ∀ x ∈ E, x < lo) : SecR W' lo vs As := by
  obtain ⟨B, Ls, h0, h1, h2, h3⟩ := h
  exact ⟨B, Ls, h0, h1, Nat.le_trans h2 hk.size, fun j hj => ⟨(h3 j hj).1.kept hk (fun x hx => Nat.lt_of_lt_of_le (hE x hx) (Nat.le_trans h0 (marks_0 h1 j))), (h3 j hj).2⟩⟩
theorem SecR.nil_ (W : World) (lo : Nat) (vs : List Value) (h : lo ≤ W.heap.size) : SecR W lo vs [] := ⟨fun _ => lo, fun _ => [], Nat.le_refl _, fun _ => Nat.le_refl _, h, fun _ h => by cases h⟩
theorem SecR.lower {W : World} {lo lo' : Nat} {vs : List Value} {As : List (List St)} (h : SecR W lo vs As) (hl : lo' ≤ lo) : SecR W lo' vs As := by
  obtain ⟨B, Ls, h0, h1⟩ := h
  exact ⟨B, Ls, by omega, h1⟩
theorem SecR.snoc {E : List Nat} {W W' : World} {lo : Nat} {vs vs' : List Value} {As : List (List St)} {A : List St} {v : Value} {L : List (St × Value)} (h : SecR W lo vs As) (hk : Kept E W W') (hE : ∀ x ∈ E, x < lo) (hO : OutAt W' W.heap.size 53 55 v L) (hR : RowsD W' W.heap.size 55 L) (hL : L.map (·.1) = A)
    (hv : vs'.getD As.length undef = v) (hs : ∀ j, j < As.length → vs'.getD j undef = vs.getD j undef) : SecR W' lo vs' (As ++ [A]) := by
  obtain ⟨B', Ls, e0, e1, e2, e3⟩ := h
  have hks := hk.size
  have hle : ∀ j, j ≤ As.length → B' j ≤ W.heap.size := fun j hj => by
    have := marks_le e1 j (As.length - j)
    rw [show j + (As.length - j) = As.length by omega] at this
    omega
  obtain ⟨B, hB⟩ : ∃ B : Nat → Nat, ∀ j, B j = if j < As.length then B' j else if j = As.length then W.heap.size else W'.heap.size := ⟨_, fun _ => rfl⟩
  obtain ⟨M, hM⟩ : ∃ M : Nat → List (St × Value), ∀ j, M j = if j < As.length then Ls j else L := ⟨_, fun _ => rfl⟩
  have b1 : ∀ j, j < As.length → B j = B' j := fun j h => by rw [hB, if_pos h]
  have b2 : B As.length = W.heap.size := by rw [hB, if_neg (by omega), if_pos rfl]
  have b3 : ∀ j, As.length < j → B j = W'.heap.size := fun j h => by rw [hB, if_neg (by omega), if_neg (by omega)]
  refine ⟨B, M, ?_, fun j => ?_, ?_, fun j hj => ?_⟩
  · by_cases h0 : 0 < As.length
    · rw [b1 0 h0]; exact e0
    · have h1 := hle 0 (Nat.zero_le _)
      have h2 : B 0 = W.heap.size := by
        have h3 : As.length = 0 := by omega
        rw [h3] at b2
        exact b2
      omega
  · by_cases h1 : j + 1 < As.length
    · rw [b1 j (by omega), b1 _ h1]; exact e1 j
    · by_cases h2 : j + 1 = As.length
      · rw [b1 j (by omega), h2, b2]; exact hle j (by omega)
      · by_cases h3 : j = As.length
        · rw [h3, b2, b3 _ (by omega)]; exact hks
        · rw [b3 j (by omega), b3 _ (by omega)]; exact Nat.le_refl _
  · rw [List.length_append, List.length_singleton, b3 _ (by omega)]; exact Nat.le_refl _
  · by_cases e : j < As.length
    · rw [hs j e, List.getElem_append_left e, hM, if_pos e, b1 j e]
      obtain ⟨h4, h5⟩ := e3 j e
      have h6 := h4.kept hk (fun x hx => Nat.lt_of_lt_of_le (hE x hx) (Nat.le_trans e0 (marks_0 e1 j)))
      have h7 : B' (j + 1) ≤ B (j + 1) := by
        by_cases h8 : j + 1 < As.length
        · rw [b1 _ h8]; exact Nat.le_refl _
        · rw [show j + 1 = As.length by omega, b2]; exact hle _ (Nat.le_refl _)
      exact ⟨⟨h6.out, h6.rows, fun g hg => Nat.lt_of_lt_of_le (h6.vlt g hg) h7, fun x hx g hg => Nat.lt_of_lt_of_le (h6.rlt x hx g hg) h7⟩, h5⟩
    · have : j = As.length := by simp at hj; omega
      subst this
      rw [hv, List.getElem_append_right (Nat.le_refl _), hM, if_neg (by omega), b2, b3 _ (by omega)]
      simp only [Nat.sub_self, List.getElem_cons_zero]
      exact ⟨SecAt.new hO hR, hL⟩
def PostD (w : World) (r : Except Nat Bk) (e : Ending) (w' : World) : Prop :=
  match r with
  | .error c => e = .returned (.tuple #[zeroBook, .int .i64 (c : Int)]) ∧ Below w.heap.size w w'
  | .ok b => ∃ vr v0 v1 v2 v3, e = .returned (.tuple #[.agg #[.int .i64 (b.least : Int), .string b.tryT, vr, v0, v1, v2, v3], .int .i64 0]) ∧ Below w.heap.size w w' ∧ w'.ownsRow w.heap.size 50 2 vr b.reps.length (b.reps.flatMap fun x => [.string x.1, .string x.2]) ∧ b.secs.length = 4 ∧ SecR w' w.heap.size [v0, v1, v2, v3] b.secs
/-- A fault, wherever it comes. -/
theorem DSt.fault {w W W' : World} {s : ByteArray} {p : Nat} {x0 x1 x2 x3 x4 x5 x6 : Value} (h : DSt w s W p #[x0, x1, x2, x3, x4, x5, x6]) (hk : Kept [w.heap.size + 1 + 1] W W') (c : Nat) (r : Except Nat Bk) (hr : r = .error c) (tmps : Array Value)
    (h2 : tmps[2]?.getD undef = .pointer (some ⟨w.heap.size, 0, none⟩)) (h3 : tmps[3]?.getD undef = .pointer (some ⟨w.heap.size + 1, 0, none⟩)) :
    bodyPostD Try.prog Try.f15 (PostD w r) (Exit.panic [flt c]) { tmps := tmps, defers := [theDefer w.heap.size (w.heap.size + 1)] } W' := by
  subst hr
  refine leave_fault _ _ _ _ _ _ _ _ _ _ c W' tmps _ h2 h3 (hk.at h.book (by simp <;> omega)) (hk.at h.err (by simp <;> omega)) (by omega) (fun W'' hk' => ⟨rfl, ?_⟩)
  have hb1 := h.below.trans (hk.below (by have := h.size; omega) (by simp <;> omega))
  exact hb1.trans (hk'.below hb1.size (by simp <;> omega))

/-- A post that asks of a panic what a fault leaves: it doesn't hang on the slots that a region fills. -/
def PanicQ (w : World) (K : List PanicEntry → World → Prop) (Q : Exit → Act → World → Prop) : Exit → Act → World → Prop
  | .panic c, a, W => a.tmps[2]?.getD undef = .pointer (some ⟨w.heap.size, 0, none⟩) ∧ a.tmps[3]?.getD undef = .pointer (some ⟨w.heap.size + 1, 0, none⟩) ∧ a.defers = [theDefer w.heap.size (w.heap.size + 1)] ∧ K c W
  | e, a, W => Q e a W
theorem PanicQ.put {w : World} {K : List PanicEntry → World → Prop} {Q : Exit → Act → World → Prop} {c : List PanicEntry} {a : Act} {W : World} {d : Option Tmp} {v : Value} (hd : d ≠ some 2 ∧ d ≠ some 3) (h : PanicQ w K Q (.panic c) (a.put d v) W) : PanicQ w K Q (.panic c) a W := by
  obtain ⟨h2, h3, hdf, hk⟩ := h
  cases d with
  | none => exact ⟨h2, h3, hdf, hk⟩
  | some t =>
    have e2 : t ≠ 2 := fun e => hd.1 (by rw [e])
    have e3 : t ≠ 3 := fun e => hd.2 (by rw [e])
    simp only [Act.put] at h2 h3 hdf
    rw [Array.getElem?_setIfInBounds_ne e2] at h2
    rw [Array.getElem?_setIfInBounds_ne e3] at h3
    exact ⟨h2, h3, hdf, hk⟩
theorem PanicQ.imp {w : World} {K : List PanicEntry → World → Prop} {Q : Exit → Act → World → Prop}
    (h : ∀ c tmps W, tmps[2]?.getD undef = .pointer (some ⟨w.heap.size, 0, none⟩) → tmps[3]?.getD undef = .pointer (some ⟨w.heap.size + 1, 0, none⟩) → K c W → Q (.panic c) { tmps := tmps, defers := [theDefer w.heap.size (w.heap.size + 1)] } W) :
    ∀ e a W, PanicQ w K Q e a W → Q e a W := fun e a W hq => by
  cases e
  case panic c =>
    obtain ⟨h2, h3, hd, hk⟩ := hq
    obtain ⟨tmps, dfs⟩ := a
    simp only at h2 h3 hd
    subst hd
    exact h c tmps W h2 h3 hk
  all_goals exact hq
theorem own_set {w W : World} {s : ByteArray} {p : Nat} {cs : Array Value} {e size n i : Nat} {v u : Value} {xs : List Value} (h : DSt w s W p cs) (ho : W.ownsRow w.heap.size e size v n xs) (h1 : e ≠ 26) : (W.setCell ⟨w.heap.size, i, none⟩ u).ownsRow w.heap.size e size v n xs :=
  ((Kept.refl [w.heap.size] W).set _ _ _ (.inl (by simp))).own ho (fun g hg hm => by
    have := (own_ty ho hg).1
    simp only [List.mem_cons, List.not_mem_nil, or_false] at hm
    subst hm
    exact h1 (this.uniq ⟨_, h.book⟩))
/-- An append of one element at a step of a region that draws, its cells laid just before. -/
theorem step_push {P : Program} {w : World} {ops : Array Oper} {o : Oper} {a : Act} {K : Act → World → Prop} {Q : Exit → Act → World → Prop} {E : Prop} (hgd : o.guard = none) (s x : Operand) (t : TypeId)
    (ho : o.op = .call { callee := .builtin .append, args := #[s, x], argTypes := #[t, t] })
    (base : Nat) (e : TypeId) (i : TypeInfo) (z : Value) (size bytes : Nat) (ht : P.underlying t = some (.slice e)) (hi : P.info? e = some i) (hz : i.zero = some z)
    (hsize : i.size = size) (hby : i.bytes = bytes) (hzs : z.cells.size = size) (hsz : 0 < size)
    (v : Value) (n : Nat) (xs : List Value) (hs : a.eval s = v) (hown : w.ownsRow base e size v n xs)
    (us : Array Value) (hus : us.size = size) (h1 : ∀ u ∈ us.toList, u.oneCell' = true) (hx : a.eval x = .slice (some ⟨w.heap.size, 0, none⟩) 1 1)
    (h63 : n + 1 ≤ maxLen) (hbytes : (n + 1) * bytes ≤ 140737488355328) (hbase : base ≤ w.heap.size)
    (h : ∀ g cap w', w'.ownsRow base e size (.slice (some ⟨g, 0, none⟩) (n + 1) cap) (n + 1) (xs ++ us.toList) → w.grownBy w' v.ownBlock → K (a.put o.dst (.slice (some ⟨g, 0, none⟩) (n + 1) cap)) w') :
    if Region.wanted o (yielded ops a.tmps) = true then Oper.wp P o a (w.alloc (.cells us e)) K Q else E := by
  refine step_append_lies _ hgd s x t ho base e i z size bytes ht hi hz hsize hby hzs hsz v n xs hs (hown.alloc _) ⟨w.heap.size, 0, none⟩ 1 1 us.toList hx (by simp [hus]) ?_ h1 (by decide) h63 hbytes (by simp; omega) _ rfl ?_
  · intro j u hj
    rw [row_addr, cell_of_row (w.alloc (.cells us e)) w.heap.size j us e (0, 0) (heap_alloc_new w _)]
    simpa using hj
  · intro g cap w' hown' hgrow _ _
    exact h g cap w' hown' (grown_of_alloc hgrow)
theorem frmR_size {s t : ByteArray} {a p : Nat} (h : frmR s a = .ok (t, p)) : t.size ≤ 255 := by
  unfold frmR at h
  split at h
  · cases h
  · split at h
    · cases h
    · split at h
      · cases h
      · injection h with h
        injection h with h1 h2
        rw [← h1, ByteArray.size_extract]; omega
def repCells (rs : List Rp) : List Value := rs.flatMap fun x => [.string x.1, .string x.2]
theorem repCells_snoc (rs : List Rp) (x : Rp) : repCells rs ++ [.string x.1, .string x.2] = repCells (rs ++ [x]) := by simp [repCells]
theorem reps_of_own {w : World} {B t n : Nat} {v : Value} {rs : List Rp} (h : w.ownsRow B t 2 v n (repCells rs)) : RepsAt w v rs := by
  have hl := h.1
  rw [repCells, two_len] at hl
  obtain rfl : rs.length = n := by omega
  rcases h.2 with ⟨rfl, h0⟩ | ⟨g, cap, cur, rfl, hb, hg, hn, hm, _, _⟩
  · exact ⟨none, 0, by rw [h0], .inl h0⟩
  · refine ⟨_, cap, rfl, .inr ⟨g, 0, rfl, block_lt hg, fun k hk => ?_⟩⟩
    have hc := h.cells (g := g) rfl
    obtain ⟨h1, h2⟩ := two_get (fun x : Rp => Value.string x.1) (fun x => .string x.2) rs k hk
    have g1 := hc _ _ h1
    have g2 := hc _ _ h2
    rw [row_addr] at g1 g2
    rw [Nat.zero_add]
    exact ⟨g1, g2⟩
theorem rep_info : (Try.prog.info? 50).map (fun i => (i.zero, i.size, i.bytes)) = some (some (.agg #[.string ⟨#[]⟩, .string ⟨#[]⟩]), 2, 32) := by kernel_rfl
end
end Go.Proofs.Ytehbjfjhalpgaaa
