/-
  An automaton's one shape: the reference's visit and Shape.
-/
import Derived.Test.YtehbjfjhalpgaaaRows
import Derived.Test.YtehbjfjhalpgaaaImg18
namespace Go.Proofs.Ytehbjfjhalpgaaa
open Go.RowKit
attribute [local go_sem ↓] Go.wp_at_zero Go.wp_at_succ

structure LookR (w : World) (lb sb : Nat) (av : Value) (N m : Nat) (d : Dn) : Prop where
  hd : ∃ cap, w.heap[lb]? = some (.cells #[av, .int .i64 (m : Int), .slice (some ⟨sb, 0, none⟩) N cap] 108 (0, 0))
  st : ∃ cs, w.heap[sb]? = some (.cells cs 4 (0, 0)) ∧ cs.size = N ∧ ∀ k, k < N → cs[k]? = some (.bool (d k))
  ne : lb ≠ sb
  no : ∀ k, m ≤ k → d k = false
theorem LookR.head {w : World} {l sb : Nat} {av : Value} {N m : Nat} {d : Dn} (h : LookR w l sb av N m d) :
    ∃ cap, w.cell? ⟨l, 0, none⟩ = some av ∧ w.cell? ⟨l, 1, none⟩ = some (.int .i64 (m : Int)) ∧ w.cell? ⟨l, 2, none⟩ = some (.slice (some ⟨sb, 0, none⟩) N cap) ∧ w.frozen? ⟨l, 1, none⟩ = false := by
  obtain ⟨cap, hc⟩ := h.hd
  exact ⟨cap, by rw [Lib.cell_of_heap hc]; rfl, by rw [Lib.cell_of_heap hc]; rfl, by rw [Lib.cell_of_heap hc]; rfl, Lib.frozen_of_heap hc 1⟩
theorem LookR.at_ {w : World} {l sb : Nat} {av : Value} {N m : Nat} {d : Dn} (h : LookR w l sb av N m d) (k : Nat) (hk : k < N) :
    w.cell? ⟨sb, k, none⟩ = some (.bool (d k)) ∧ w.frozen? ⟨sb, k, none⟩ = false := by
  obtain ⟨cs, hc, hn, hx⟩ := h.st
  exact ⟨by rw [Lib.cell_of_heap hc]; exact hx k hk, Lib.frozen_of_heap hc k⟩
theorem LookR.lt {w : World} {l sb : Nat} {av : Value} {N m : Nat} {d : Dn} (h : LookR w l sb av N m d) : l < w.heap.size ∧ sb < w.heap.size := by
  obtain ⟨⟨cap, hc⟩, ⟨cs, hs, _⟩, _⟩ := h
  exact ⟨block_lt hc, block_lt hs⟩
theorem LookR.kept {E : List Nat} {w w' : World} {l sb : Nat} {av : Value} {N m : Nat} {d : Dn} (h : LookR w l sb av N m d) (hk : Kept E w w') (h1 : l ∉ E) (h2 : sb ∉ E) : LookR w' l sb av N m d := by
  obtain ⟨⟨cap, hc⟩, ⟨cs, hs, r⟩, hne, hno⟩ := h
  exact ⟨⟨cap, hk.at hc h1⟩, ⟨cs, hk.at hs h2, r⟩, hne, hno⟩
theorem LookR.setMet {w : World} {l sb : Nat} {av : Value} {N m : Nat} {d : Dn} (h : LookR w l sb av N m d) : LookR (w.setCell ⟨l, 1, none⟩ (.int .i64 ((m + 1 : Nat) : Int))) l sb av N (m + 1) (updD d m false) := by
  obtain ⟨⟨cap, hc⟩, ⟨cs, hs, hn, hx⟩, hne, hno⟩ := h
  refine ⟨⟨cap, ?_⟩, ⟨cs, ?_, hn, fun k hk => ?_⟩, hne, fun k hk => ?_⟩
  · exact Go.heap_setCell_same w l 1 _ _ _ hc
  · rw [heap_setCell_other w ⟨l, 1, none⟩ sb _ (fun e => hne e.symm)]; exact hs
  · rw [hx k hk]
    by_cases e : k = m
    · subst e; simp [updD, hno k (Nat.le_refl _)]
    · simp [updD, e]
  · rw [updD, if_neg (by omega)]; exact hno k (by omega)
theorem LookR.setSt {w : World} {l sb : Nat} {av : Value} {N m : Nat} {d : Dn} (h : LookR w l sb av N m d) (n : Nat) (hn' : n < m) : LookR (w.setCell ⟨sb, n, none⟩ (.bool true)) l sb av N m (updD d n true) := by
  obtain ⟨⟨cap, hc⟩, ⟨cs, hs, hn, hx⟩, hne, hno⟩ := h
  refine ⟨⟨cap, ?_⟩, ⟨_, Go.heap_setCell_same w sb n _ _ _ hs, by simp [hn], fun k hk => ?_⟩, hne, fun k hk => ?_⟩
  · rw [heap_setCell_other w ⟨sb, n, none⟩ l _ hne]; exact hc
  · by_cases e : k = n
    · subst e; simp [updD, hn, hk]
    · rw [Array.getElem?_setIfInBounds_ne (Ne.symm e), hx k hk]; simp [updD, e]
  · rw [updD, if_neg (by omega)]; exact hno k hk
def PostVR (w : World) (lb sb : Nat) (av : Value) (N m : Nat) (r : Option (Nat × Dn)) (e : Ending) (w' : World) : Prop :=
  match r with
  | none => e = .returned (.bool false) ∧ Kept [lb, sb] w w'
  | some (m', d') => e = .returned (.bool true) ∧ Kept [lb, sb] w w' ∧ LookR w' lb sb av N m' d' ∧ m ≤ m' ∧ m' ≤ N
theorem wrap64_up1 (j n c : Nat) (h1 : n ≤ c) (h2 : c ≤ maxLen) (h3 : j + 1 ≤ n) : wrap64 ((j : Int) + 1) = (j : Int) + 1 := by
  unfold maxLen at h2; unfold wrap64; omega
theorem val_up1 (j n c : Nat) (h1 : n ≤ c) (h2 : c ≤ maxLen) (h3 : j + 1 ≤ n) : Value.int .i64 (wrap64 ((j : Int) + 1)) = Value.int .i64 ((j + 1 : Nat) : Int) := by
  rw [wrap64_up1 j n c h1 h2 h3]; rfl
theorem meas_up1 (j n c : Nat) (h1 : n ≤ c) (h2 : c ≤ maxLen) (h3 : j + 1 ≤ n) : n - (intOf (Value.int .i64 (wrap64 ((j : Int) + 1)))).toNat < n - (intOf (Value.int .i64 (j : Int))).toNat := by
  rw [wrap64_up1 j n c h1 h2 h3]
  show n - ((j : Int) + 1).toNat < n - (j : Int).toNat
  omega

set_option maxHeartbeats 4000000 in
set_option maxRecDepth 100000 in
theorem rvisit_any (A : List St) (lb sb : Nat) (av : Value) (hA1 : A.length ≤ 1048576) : ∀ (f : Nat) (n : Int) (m : Nat) (d : Dn) (w : World), A.length + 1 ≤ f + m → m ≤ A.length → LookR w lb sb av A.length m d → AutAt w (fun k => k ∉ [lb, sb]) av A →
    Calls Try.prog 50 #[.pointer (some ⟨lb, 0, none⟩), .int .i64 n] w (PostVR w lb sb av A.length m (vis A f n m d)) := by
  intro f
  induction f with
  | zero => intro n m d w hf hm; omega
  | succ f ih =>
    intro n m d w hf hm hL hA
    have HIH := Lib.hid ih
    clear ih
    obtain ⟨cap, c0, c1, c2, f1⟩ := hL.head
    have HL := Lib.hid hL
    have HA := Lib.hid hA
    by_cases hnm : n = (m : Int)
    · subst hnm
      by_cases hmN : m < A.length
      · obtain ⟨⟨fin, es⟩, hx⟩ : ∃ x, A[m] = x := ⟨_, rfl⟩
        have hx? : A[m]? = some (fin, es) := by rw [List.getElem?_eq_getElem hmN, hx]
        obtain ⟨Ax, cap0, rfl, hc0, hA0⟩ := hA
        obtain ⟨g, o, rfl, hg, hp, hcs⟩ := hA0.resolve_left (by omega)
        obtain ⟨e0, ev, e1, hE⟩ := hcs m hmN
        rw [hx] at e0 hE
        dsimp only at e0 hE
        have hE0 := hE
        obtain ⟨Ex, cap1, rfl, hc1, hE1⟩ := hE
        have HE := Lib.hid hE0
        have HC1 := Lib.hid hc1
        clear hc1
        obtain ⟨cs0, fs0⟩ := hL.at_ m hmN
        have hgl : g ≠ lb := fun e => hp (by simp [e])
        have hgs : g ≠ sb := fun e => hp (by simp [e])
        have hls := hL.ne
        have hlg := Ne.symm hgl
        have hsg := Ne.symm hgs
        have hsl := Ne.symm hls
        clear hL hcs hA0 hE0 hE1 hx
        have HV : Hid (vis A (f + 1) (m : Int) m d = if es.length = 0 ∧ fin = false ∧ A.length ≠ 1 then none else match visEs (vis A f) none es (m + 1) (updD d m false) with | none => none | some (m', d') => some (m', updD d' m true)) := Lib.hid (by
          rw [vis, if_neg (by simp), hx?]; rfl)
        have HW0 : Hid (∀ W0, (w.setCell ⟨lb, 1, none⟩ (Value.int .i64 ((m : Int) + 1))).alloc (Obj.cells #[Value.bool fin, Value.slice Ex es.length cap1] 112) = W0 →
            LookR W0 lb sb (Value.slice (some ⟨g, o, none⟩) A.length cap0) A.length (m + 1) (updD d m false) ∧ Kept [lb, sb] w W0 ∧ W0.heap[w.heap.size]? = some (.cells #[Value.bool fin, Value.slice Ex es.length cap1] 112)) := Lib.hid (by
          rintro W0 rfl
          have h1 := HL.out.setMet
          rw [Int.natCast_add] at h1
          refine ⟨h1.kept ((Kept.refl [] _).alloc _) (by simp) (by simp), ((Kept.refl _ _).set _ _ _ (.inl (by simp))).alloc _, ?_⟩
          have := heap_alloc_new (w.setCell ⟨lb, 1, none⟩ (Value.int .i64 ((m : Int) + 1))) (Obj.cells #[Value.bool fin, Value.slice Ex es.length cap1] 112)
          simpa [World.setCell] using this)
        have hq1 : ¬ (m : Int) < 0 := by omega
        have hq2 : ¬ (A.length : Int) ≤ (m : Int) := by omega
        by_cases hdead : es.length = 0 ∧ fin = false ∧ A.length ≠ 1
        · have HN := Lib.hid (HV.out.trans (if_pos hdead))
          obtain ⟨hd1, rfl, hd3⟩ := hdead
          have q1 : ((es.length : Int) == 0) = true := by simp [hd1]
          have hd4 : (1 : Int) < (A.length : Int) := by omega
          clear hx? hd1 hd3
          obtain ⟨_, cW, _⟩ := (HW0.out _ rfl).1.head
          go_enter Try.func50, Try.ntmps50
          go_wp2_with fail
          go_ret
          rw [HN.out]
          exact ⟨rfl, (HW0.out _ rfl).2.1⟩
        have HV' := Lib.hid (HV.out.trans (if_neg hdead))
        have hcs : (((es.length : Int) == 0) = false) ∨ (((es.length : Int) == 0) = true ∧ fin = true) ∨ (((es.length : Int) == 0) = true ∧ fin = false ∧ ¬ (1 : Int) < (A.length : Int)) := by
          by_cases h1 : es.length = 0
          · cases fin
            · exact .inr (.inr ⟨by simp [h1], rfl, fun h => hdead ⟨h1, rfl, by omega⟩⟩)
            · exact .inr (.inl ⟨by simp [h1], rfl⟩)
          · exact .inl (by rw [beq_eq_false_iff_ne]; omega)
        clear hx? hdead HV
        rcases hcs with q1 | ⟨q1, rfl⟩ | ⟨q1, rfl, q2⟩
        all_goals
          obtain ⟨_, cW, _⟩ := (HW0.out _ rfl).1.head
          go_enter Try.func50, Try.ntmps50
          go_wp2_with fail
          clear cW
          generalize hW0 : (w.setCell ⟨lb, 1, none⟩ (Value.int .i64 ((m : Int) + 1))).alloc _ = W0
          obtain ⟨hL0, hK0, hB0⟩ := HW0.out W0 hW0
          clear hW0
          have HL0 := Lib.hid hL0
          have HK0 := Lib.hid hK0
          have HB0 := Lib.hid hB0
          clear hL0 hK0 hB0 HW0 c0 c1 c2 f1 e0 e1 cs0 fs0
          clear q1
          go_loopw [6, 7] (fun i _ W => ∃ (k m' : Nat) (d' : Dn), k ≤ es.length ∧ i = .int .i64 k ∧ Hid (m + 1 ≤ m' ∧ m' ≤ A.length) ∧ Hid (Kept [lb, sb] W0 W) ∧ Hid (LookR W lb sb (Value.slice (some ⟨g, o, none⟩) A.length cap0) A.length m' d') ∧ Hid (visEs (vis A f) none es (m + 1) (updD d m false) = visEs (vis A f) (prevAt es k) (es.drop k) m' d')) (fun i _ _ => es.length - (intOf i).toNat)
          case atStart => exact ⟨0, m + 1, updD d m false, Nat.zero_le _, rfl, Lib.hid ⟨Nat.le_refl _, hmN⟩, Lib.hid (Kept.refl _ _), HL0, Lib.hid rfl⟩
          case round =>
            obtain ⟨k, m', d', hk, rfl, HM, HK, HLW, HVs⟩ := hrel
            have hlt1 := HLW.out.lt
            have hlt2 := HL.out.lt
            have hwr := HK.out.at HB0.out (by simp only [List.mem_cons, List.not_mem_nil, or_false]; omega)
            have t1 : wr.cell? ⟨w.heap.size, 1, none⟩ = some (Value.slice Ex es.length cap1) := by rw [Lib.cell_of_heap hwr]; rfl
            clear hwr
            by_cases hlt : k < es.length
            · obtain ⟨Ex', cap1', hEq, _, hE1⟩ := HE.out
              obtain ⟨eg, eo, rfl, heg, hep, hec⟩ := hE1.resolve_left (by omega)
              injection hEq with hq1' hq2' hq3'
              subst hq1' hq3'
              have hce : ∀ j, W0.cell? ⟨eg, j, none⟩ = w.cell? ⟨eg, j, none⟩ := fun j => HK0.out.cell (p := ⟨eg, j, none⟩) heg hep
              have hcw : ∀ j, wr.cell? ⟨eg, j, none⟩ = w.cell? ⟨eg, j, none⟩ := fun j => (HK.out.cell (p := ⟨eg, j, none⟩) (Nat.lt_of_lt_of_le heg HK0.out.size) hep).trans (hce j)
              have b0 := (hcw _).trans (hec k hlt).1
              have b1 := (hcw _).trans (hec k hlt).2
              have HLt : Hid (True → k + 1 ≤ es.length) := Lib.hid (fun _ => hlt)
              have HPrev : Hid (0 < k → wr.cell? ⟨eg, eo + (k - 1) * 2, none⟩ = some (.int .u8 ((es[k - 1]'(by omega)).1.toNat : Int))) := Lib.hid (fun h0 => (hcw _).trans (hec (k - 1) (by omega)).1)
              have HN : Hid (∀ r, vis A f es[k].2 m' d' = r → badAt es k = false → visEs (vis A f) none es (m + 1) (updD d m false) = match r with | none => none | some (m', d') => visEs (vis A f) (prevAt es (k + 1)) (es.drop (k + 1)) m' d') := Lib.hid (fun r hr hb => by
                rw [HVs.out, visEs_step _ _ _ _ _ hlt hb, hr]; rcases r with _ | ⟨_, _⟩ <;> rfl)
              have HBad : Hid (badAt es k = true → visEs (vis A f) none es (m + 1) (updD d m false) = none) := Lib.hid (fun hb => by rw [HVs.out, visEs_bad _ _ _ _ _ hlt hb])
              have HCall : Hid (∀ W', Kept [] wr W' → Calls Try.prog 50 #[.pointer (some ⟨lb, 0, none⟩), .int .i64 es[k].2] W' (PostVR W' lb sb (Value.slice (some ⟨g, o, none⟩) A.length cap0) A.length m' (vis A f es[k].2 m' d'))) := Lib.hid (fun W' hW' => by
                have := HM.out
                exact HIH.out _ m' d' W' (by omega) this.2 (HLW.out.kept hW' (by simp) (by simp)) ((((HA.out.kept HK0.out (by simp)).kept HK.out (by simp)).kept hW' (by simp))))
              have HBs : Hid (0 < k → badAt es k = decide (es[k].1.toNat ≤ (es[k - 1]'(by omega)).1.toNat)) := Lib.hid (badAt_s es k hlt)
              have HB0k : Hid (k = 0 → badAt es k = false) := Lib.hid (by rintro rfl; exact badAt_0 es)
              obtain ⟨⟨eb, et⟩, hek⟩ : ∃ x, es[k] = x := ⟨_, rfl⟩
              rw [hek] at b0 b1 HN HCall HBs
              dsimp only at b0 b1 HN HCall HBs
              clear hek hec hcw hce hE1 HVs
              by_cases h0 : 0 < k
              · obtain ⟨j, rfl⟩ : ∃ j, k = j + 1 := ⟨k - 1, by omega⟩
                have pc := HPrev.out h0
                have hbs := HBs.out h0
                simp only [Nat.add_sub_cancel] at pc hbs
                obtain ⟨⟨pb, pt⟩, hpk⟩ : ∃ x, es[j]'(by omega) = x := ⟨_, rfl⟩
                rw [hpk] at pc hbs
                dsimp only at pc hbs
                clear hpk
                have hw1 : IntKind.i64.wrap (j : Int) = (j : Int) := by have := HC1.out.1; have := HC1.out.2; unfold maxLen at this; rw [IntKind.wrap_i64]; omega
                have hjl : (j : Int) < (es.length : Int) := by omega
                have hj0 : (0 : Int) ≤ (j : Int) + 1 := by omega
                by_cases hb : eb.toNat ≤ pb.toNat
                · have HNb := Lib.hid (HBad.out (hbs.trans (decide_eq_true hb)))
                  have hb1 : decide ((eb.toNat : Int) ≤ (pb.toNat : Int)) = true := by simpa using hb
                  clear HN HBad HPrev HBs HB0k HCall hbs
                  go_wp2_with fail
                  refine wp_region_held_drew (S := fun w' => w'.cell? ⟨w.heap.size, 1, none⟩ = some (Value.slice (some ⟨eg, eo, none⟩) es.length cap1) ∧ w'.cell? ⟨eg, eo + (j + 1) * 2, none⟩ = some (.int .u8 (eb.toNat : Int)) ∧ w'.cell? ⟨eg, eo + j * 2, none⟩ = some (.int .u8 (pb.toNat : Int))) (by kernel_rfl) ?_ (fun hHeld => ?_)
                  · exact ⟨t1, b0, pc⟩
                  refine takeH (i := 0) (d := some 79) (v := ?_) rfl rfl (by kernel_rfl) (by kernel_rfl) (by kernel_rfl) (fun _ _ _ h => h) (Or.inl ⟨by kernel_rfl, ?_⟩) hHeld ?_
                  rotate_left
                  · intro w hSw; (try dsimp only at hSw); go_simp; try with_reducible rfl
                  try simp only [Act.put, List.setIfInBounds_toArray, List.set_cons_zero, List.set_cons_succ]
                  refine takeH (i := 1) (d := some 80) (v := ?_) rfl rfl (by kernel_rfl) (by kernel_rfl) (by kernel_rfl) (fun _ _ _ h => h) (Or.inl ⟨by kernel_rfl, ?_⟩) hHeld ?_
                  rotate_left
                  · intro w hSw; (try dsimp only at hSw); go_simp; try with_reducible rfl
                  try simp only [Act.put, List.setIfInBounds_toArray, List.set_cons_zero, List.set_cons_succ]
                  refine takeH (i := 2) (d := some 81) (v := ?_) rfl rfl (by kernel_rfl) (by kernel_rfl) (by kernel_rfl) (fun _ _ _ h => h) (Or.inl ⟨by kernel_rfl, ?_⟩) hHeld ?_
                  rotate_left
                  · intro w hSw; (try dsimp only at hSw); go_simp; try with_reducible rfl
                  try simp only [Act.put, List.setIfInBounds_toArray, List.set_cons_zero, List.set_cons_succ]
                  refine takeH (i := 3) (d := some 82) (v := ?_) rfl rfl (by kernel_rfl) (by kernel_rfl) (by kernel_rfl) (fun _ _ _ h => h) (Or.inl ⟨by kernel_rfl, ?_⟩) hHeld ?_
                  rotate_left
                  · intro w hSw; (try dsimp only at hSw); go_simp; try with_reducible rfl
                  try simp only [Act.put, List.setIfInBounds_toArray, List.set_cons_zero, List.set_cons_succ]
                  refine takeH (i := 4) (d := some 83) (v := ?_) rfl rfl (by kernel_rfl) (by kernel_rfl) (by kernel_rfl) (fun _ _ _ h => h) (Or.inl ⟨by kernel_rfl, ?_⟩) hHeld ?_
                  rotate_left
                  · intro w hSw; (try dsimp only at hSw); go_simp; try with_reducible rfl
                  try simp only [Act.put, List.setIfInBounds_toArray, List.set_cons_zero, List.set_cons_succ]
                  refine takeH (i := 5) (d := some 84) (v := ?_) rfl rfl (by kernel_rfl) (by kernel_rfl) (by kernel_rfl) (fun _ _ _ h => h) (Or.inl ⟨by kernel_rfl, ?_⟩) hHeld ?_
                  rotate_left
                  · intro w hSw; (try dsimp only at hSw); go_simp; try with_reducible rfl
                  try simp only [Act.put, List.setIfInBounds_toArray, List.set_cons_zero, List.set_cons_succ]
                  refine takeH (i := 6) (d := some 85) (v := ?_) rfl rfl (by kernel_rfl) (by kernel_rfl) (by kernel_rfl) (fun _ _ _ h => h) (Or.inl ⟨by kernel_rfl, ?_⟩) hHeld ?_
                  rotate_left
                  · intro w hSw; (try dsimp only at hSw); go_simp; try with_reducible rfl
                  try simp only [Act.put, List.setIfInBounds_toArray, List.set_cons_zero, List.set_cons_succ]
                  refine takeH (i := 7) (d := some 86) (v := ?_) rfl rfl (by kernel_rfl) (by kernel_rfl) (by kernel_rfl) (fun _ _ _ h => h) (Or.inl ⟨by kernel_rfl, ?_⟩) hHeld ?_
                  rotate_left
                  · intro w hSw; (try dsimp only at hSw); go_simp; try with_reducible rfl
                  try simp only [Act.put, List.setIfInBounds_toArray, List.set_cons_zero, List.set_cons_succ]
                  refine takeH (i := 8) (d := some 87) (v := ?_) rfl rfl (by kernel_rfl) (by kernel_rfl) (by kernel_rfl) (fun _ _ _ h => h) (Or.inl ⟨by kernel_rfl, ?_⟩) hHeld ?_
                  rotate_left
                  · intro w hSw; (try dsimp only at hSw); go_simp; try with_reducible rfl
                  try simp only [Act.put, List.setIfInBounds_toArray, List.set_cons_zero, List.set_cons_succ]
                  refine takeH (i := 9) (d := some 88) (v := ?_) rfl rfl (by kernel_rfl) (by kernel_rfl) (by kernel_rfl) (fun _ _ _ h => h) (Or.inl ⟨by kernel_rfl, ?_⟩) hHeld ?_
                  rotate_left
                  · intro w hSw; (try dsimp only at hSw); go_simp; try with_reducible rfl
                  try simp only [Act.put, List.setIfInBounds_toArray, List.set_cons_zero, List.set_cons_succ]
                  refine takeH (i := 10) (d := some 89) (v := ?_) rfl rfl (by kernel_rfl) (by kernel_rfl) (by kernel_rfl) (fun _ _ _ h => h) (Or.inl ⟨by kernel_rfl, ?_⟩) hHeld ?_
                  rotate_left
                  · intro w hSw; (try dsimp only at hSw); go_simp; try with_reducible rfl
                  try simp only [Act.put, List.setIfInBounds_toArray, List.set_cons_zero, List.set_cons_succ]
                  refine takeH (i := 11) (d := some 90) (v := ?_) rfl rfl (by kernel_rfl) (by kernel_rfl) (by kernel_rfl) (fun _ _ _ h => h) (Or.inl ⟨by kernel_rfl, ?_⟩) hHeld ?_
                  rotate_left
                  · intro w hSw; (try dsimp only at hSw); go_simp; try with_reducible rfl
                  try simp only [Act.put, List.setIfInBounds_toArray, List.set_cons_zero, List.set_cons_succ]
                  refine takeH (i := 12) (d := some 91) (v := ?_) rfl rfl (by kernel_rfl) (by kernel_rfl) (by kernel_rfl) (fun _ _ _ h => h) (Or.inl ⟨by kernel_rfl, ?_⟩) hHeld ?_
                  rotate_left
                  · intro w hSw; (try dsimp only at hSw); go_simp; try with_reducible rfl
                  try simp only [Act.put, List.setIfInBounds_toArray, List.set_cons_zero, List.set_cons_succ]
                  refine takeH (i := 13) (d := some 92) (v := ?_) rfl rfl (by kernel_rfl) (by kernel_rfl) (by kernel_rfl) (fun _ _ _ h => h) (Or.inl ⟨by kernel_rfl, ?_⟩) hHeld ?_
                  rotate_left
                  · intro w hSw; (try dsimp only at hSw); go_simp; try with_reducible rfl
                  try simp only [Act.put, List.setIfInBounds_toArray, List.set_cons_zero, List.set_cons_succ]
                  refine takeH (i := 14) (d := some 93) (v := ?_) rfl rfl (by kernel_rfl) (by kernel_rfl) (by kernel_rfl) (fun _ _ _ h => h) (Or.inl ⟨by kernel_rfl, ?_⟩) hHeld ?_
                  rotate_left
                  · intro w hSw; (try dsimp only at hSw); go_simp; try with_reducible rfl
                  try simp only [Act.put, List.setIfInBounds_toArray, List.set_cons_zero, List.set_cons_succ]
                  refine takeH (i := 15) (d := some 94) (v := ?_) rfl rfl (by kernel_rfl) (by kernel_rfl) (by kernel_rfl) (fun _ _ _ h => h) (Or.inl ⟨by kernel_rfl, ?_⟩) hHeld ?_
                  rotate_left
                  · intro w hSw; (try dsimp only at hSw); go_simp; try with_reducible rfl
                  try simp only [Act.put, List.setIfInBounds_toArray, List.set_cons_zero, List.set_cons_succ]
                  refine takeH (i := 16) (d := some 95) (v := ?_) rfl rfl (by kernel_rfl) (by kernel_rfl) (by kernel_rfl) (fun _ _ _ h => h) (Or.inl ⟨by kernel_rfl, ?_⟩) hHeld ?_
                  rotate_left
                  · intro w hSw; (try dsimp only at hSw); go_simp; try with_reducible rfl
                  try simp only [Act.put, List.setIfInBounds_toArray, List.set_cons_zero, List.set_cons_succ]
                  refine takeH (i := 17) (d := some 96) (v := ?_) rfl rfl (by kernel_rfl) (by kernel_rfl) (by kernel_rfl) (fun _ _ _ h => h) (Or.inl ⟨by kernel_rfl, ?_⟩) hHeld ?_
                  rotate_left
                  · intro w hSw; (try dsimp only at hSw); go_simp; try with_reducible rfl
                  try simp only [Act.put, List.setIfInBounds_toArray, List.set_cons_zero, List.set_cons_succ]
                  refine wpAnyH_done (by kernel_rfl) ?_ _
                  go_wp2_with fail
                  go_ret
                  rw [HV'.out, HNb.out]
                  exact ⟨rfl, HK0.out.trans HK.out.drew⟩
                · have hb1 : decide ((eb.toNat : Int) ≤ (pb.toNat : Int)) = false := by simpa using hb
                  have HNb := Lib.hid (hbs.trans (decide_eq_false hb))
                  obtain ⟨r, hr⟩ : ∃ r, vis A f et m' d' = r := ⟨_, rfl⟩
                  have HN2 := Lib.hid (HN.out r hr HNb.out)
                  rw [hr] at HCall
                  clear hr HN HBad HPrev HBs HB0k hbs
                  go_wp2_with fail
                  refine wp_region_held_drew (S := fun w' => w'.cell? ⟨w.heap.size, 1, none⟩ = some (Value.slice (some ⟨eg, eo, none⟩) es.length cap1) ∧ w'.cell? ⟨eg, eo + (j + 1) * 2, none⟩ = some (.int .u8 (eb.toNat : Int)) ∧ w'.cell? ⟨eg, eo + j * 2, none⟩ = some (.int .u8 (pb.toNat : Int))) (by kernel_rfl) ?_ (fun hHeld => ?_)
                  · exact ⟨t1, b0, pc⟩
                  refine takeH (i := 0) (d := some 79) (v := ?_) rfl rfl (by kernel_rfl) (by kernel_rfl) (by kernel_rfl) (fun _ _ _ h => h) (Or.inl ⟨by kernel_rfl, ?_⟩) hHeld ?_
                  rotate_left
                  · intro w hSw; (try dsimp only at hSw); go_simp; try with_reducible rfl
                  try simp only [Act.put, List.setIfInBounds_toArray, List.set_cons_zero, List.set_cons_succ]
                  refine takeH (i := 1) (d := some 80) (v := ?_) rfl rfl (by kernel_rfl) (by kernel_rfl) (by kernel_rfl) (fun _ _ _ h => h) (Or.inl ⟨by kernel_rfl, ?_⟩) hHeld ?_
                  rotate_left
                  · intro w hSw; (try dsimp only at hSw); go_simp; try with_reducible rfl
                  try simp only [Act.put, List.setIfInBounds_toArray, List.set_cons_zero, List.set_cons_succ]
                  refine takeH (i := 2) (d := some 81) (v := ?_) rfl rfl (by kernel_rfl) (by kernel_rfl) (by kernel_rfl) (fun _ _ _ h => h) (Or.inl ⟨by kernel_rfl, ?_⟩) hHeld ?_
                  rotate_left
                  · intro w hSw; (try dsimp only at hSw); go_simp; try with_reducible rfl
                  try simp only [Act.put, List.setIfInBounds_toArray, List.set_cons_zero, List.set_cons_succ]
                  refine takeH (i := 3) (d := some 82) (v := ?_) rfl rfl (by kernel_rfl) (by kernel_rfl) (by kernel_rfl) (fun _ _ _ h => h) (Or.inl ⟨by kernel_rfl, ?_⟩) hHeld ?_
                  rotate_left
                  · intro w hSw; (try dsimp only at hSw); go_simp; try with_reducible rfl
                  try simp only [Act.put, List.setIfInBounds_toArray, List.set_cons_zero, List.set_cons_succ]
                  refine takeH (i := 4) (d := some 83) (v := ?_) rfl rfl (by kernel_rfl) (by kernel_rfl) (by kernel_rfl) (fun _ _ _ h => h) (Or.inl ⟨by kernel_rfl, ?_⟩) hHeld ?_
                  rotate_left
                  · intro w hSw; (try dsimp only at hSw); go_simp; try with_reducible rfl
                  try simp only [Act.put, List.setIfInBounds_toArray, List.set_cons_zero, List.set_cons_succ]
                  refine takeH (i := 5) (d := some 84) (v := ?_) rfl rfl (by kernel_rfl) (by kernel_rfl) (by kernel_rfl) (fun _ _ _ h => h) (Or.inl ⟨by kernel_rfl, ?_⟩) hHeld ?_
                  rotate_left
                  · intro w hSw; (try dsimp only at hSw); go_simp; try with_reducible rfl
                  try simp only [Act.put, List.setIfInBounds_toArray, List.set_cons_zero, List.set_cons_succ]
                  refine takeH (i := 6) (d := some 85) (v := ?_) rfl rfl (by kernel_rfl) (by kernel_rfl) (by kernel_rfl) (fun _ _ _ h => h) (Or.inl ⟨by kernel_rfl, ?_⟩) hHeld ?_
                  rotate_left
                  · intro w hSw; (try dsimp only at hSw); go_simp; try with_reducible rfl
                  try simp only [Act.put, List.setIfInBounds_toArray, List.set_cons_zero, List.set_cons_succ]
                  refine takeH (i := 7) (d := some 86) (v := ?_) rfl rfl (by kernel_rfl) (by kernel_rfl) (by kernel_rfl) (fun _ _ _ h => h) (Or.inl ⟨by kernel_rfl, ?_⟩) hHeld ?_
                  rotate_left
                  · intro w hSw; (try dsimp only at hSw); go_simp; try with_reducible rfl
                  try simp only [Act.put, List.setIfInBounds_toArray, List.set_cons_zero, List.set_cons_succ]
                  refine takeH (i := 8) (d := some 87) (v := ?_) rfl rfl (by kernel_rfl) (by kernel_rfl) (by kernel_rfl) (fun _ _ _ h => h) (Or.inl ⟨by kernel_rfl, ?_⟩) hHeld ?_
                  rotate_left
                  · intro w hSw; (try dsimp only at hSw); go_simp; try with_reducible rfl
                  try simp only [Act.put, List.setIfInBounds_toArray, List.set_cons_zero, List.set_cons_succ]
                  refine takeH (i := 9) (d := some 88) (v := ?_) rfl rfl (by kernel_rfl) (by kernel_rfl) (by kernel_rfl) (fun _ _ _ h => h) (Or.inl ⟨by kernel_rfl, ?_⟩) hHeld ?_
                  rotate_left
                  · intro w hSw; (try dsimp only at hSw); go_simp; try with_reducible rfl
                  try simp only [Act.put, List.setIfInBounds_toArray, List.set_cons_zero, List.set_cons_succ]
                  refine takeH (i := 10) (d := some 89) (v := ?_) rfl rfl (by kernel_rfl) (by kernel_rfl) (by kernel_rfl) (fun _ _ _ h => h) (Or.inl ⟨by kernel_rfl, ?_⟩) hHeld ?_
                  rotate_left
                  · intro w hSw; (try dsimp only at hSw); go_simp; try with_reducible rfl
                  try simp only [Act.put, List.setIfInBounds_toArray, List.set_cons_zero, List.set_cons_succ]
                  refine takeH (i := 11) (d := some 90) (v := ?_) rfl rfl (by kernel_rfl) (by kernel_rfl) (by kernel_rfl) (fun _ _ _ h => h) (Or.inl ⟨by kernel_rfl, ?_⟩) hHeld ?_
                  rotate_left
                  · intro w hSw; (try dsimp only at hSw); go_simp; try with_reducible rfl
                  try simp only [Act.put, List.setIfInBounds_toArray, List.set_cons_zero, List.set_cons_succ]
                  refine takeH (i := 12) (d := some 91) (v := ?_) rfl rfl (by kernel_rfl) (by kernel_rfl) (by kernel_rfl) (fun _ _ _ h => h) (Or.inl ⟨by kernel_rfl, ?_⟩) hHeld ?_
                  rotate_left
                  · intro w hSw; (try dsimp only at hSw); go_simp; try with_reducible rfl
                  try simp only [Act.put, List.setIfInBounds_toArray, List.set_cons_zero, List.set_cons_succ]
                  refine takeH (i := 13) (d := some 92) (v := ?_) rfl rfl (by kernel_rfl) (by kernel_rfl) (by kernel_rfl) (fun _ _ _ h => h) (Or.inl ⟨by kernel_rfl, ?_⟩) hHeld ?_
                  rotate_left
                  · intro w hSw; (try dsimp only at hSw); go_simp; try with_reducible rfl
                  try simp only [Act.put, List.setIfInBounds_toArray, List.set_cons_zero, List.set_cons_succ]
                  refine takeH (i := 14) (d := some 93) (v := ?_) rfl rfl (by kernel_rfl) (by kernel_rfl) (by kernel_rfl) (fun _ _ _ h => h) (Or.inl ⟨by kernel_rfl, ?_⟩) hHeld ?_
                  rotate_left
                  · intro w hSw; (try dsimp only at hSw); go_simp; try with_reducible rfl
                  try simp only [Act.put, List.setIfInBounds_toArray, List.set_cons_zero, List.set_cons_succ]
                  refine takeH (i := 15) (d := some 94) (v := ?_) rfl rfl (by kernel_rfl) (by kernel_rfl) (by kernel_rfl) (fun _ _ _ h => h) (Or.inl ⟨by kernel_rfl, ?_⟩) hHeld ?_
                  rotate_left
                  · intro w hSw; (try dsimp only at hSw); go_simp; try with_reducible rfl
                  try simp only [Act.put, List.setIfInBounds_toArray, List.set_cons_zero, List.set_cons_succ]
                  refine takeH (i := 16) (d := some 95) (v := ?_) rfl rfl (by kernel_rfl) (by kernel_rfl) (by kernel_rfl) (fun _ _ _ h => h) (Or.inl ⟨by kernel_rfl, ?_⟩) hHeld ?_
                  rotate_left
                  · intro w hSw; (try dsimp only at hSw); go_simp; try with_reducible rfl
                  try simp only [Act.put, List.setIfInBounds_toArray, List.set_cons_zero, List.set_cons_succ]
                  refine takeH (i := 17) (d := some 96) (v := ?_) rfl rfl (by kernel_rfl) (by kernel_rfl) (by kernel_rfl) (fun _ _ _ h => h) (Or.inl ⟨by kernel_rfl, ?_⟩) hHeld ?_
                  rotate_left
                  · intro w hSw; (try dsimp only at hSw); go_simp; try with_reducible rfl
                  try simp only [Act.put, List.setIfInBounds_toArray, List.set_cons_zero, List.set_cons_succ]
                  refine wpAnyH_done (by kernel_rfl) ?_ _
                  go_wp2_with fail
                  refine (HCall.out _ (Kept.refl _ _).drew).mono ?_
                  rcases r with _ | ⟨m2, d2⟩
                  · rintro e w' ⟨rfl, hk⟩
                    have HKc := Lib.hid hk
                    clear hk
                    go_wp2_with fail
                    go_ret
                    rw [HV'.out, HN2.out]
                    exact ⟨rfl, HK0.out.trans (HK.out.drew.trans HKc.out)⟩
                  · rintro e w' ⟨rfl, hk, hl, hm1, hm2⟩
                    have HKc := Lib.hid hk
                    have HLc := Lib.hid hl
                    have HMc := Lib.hid (And.intro hm1 hm2)
                    clear hk hl hm1 hm2
                    go_wp2_with fail
                    go_roundw
                    case rel => exact ⟨j + 1 + 1, m2, d2, HLt.out trivial, val_up2 j es.length cap1 HC1.out.1 HC1.out.2 (HLt.out trivial), Lib.hid (by have := HM.out; have := HMc.out; omega), Lib.hid (HK.out.drew.trans HKc.out), HLc, HN2⟩
                    case measure => exact meas_up2 j es.length cap1 HC1.out.1 HC1.out.2 (HLt.out trivial)
              · obtain rfl : k = 0 := by omega
                simp only [Nat.zero_mul, Nat.add_zero] at b0 b1
                have HNb := Lib.hid (HB0k.out rfl)
                obtain ⟨r, hr⟩ : ∃ r, vis A f et m' d' = r := ⟨_, rfl⟩
                have HN2 := Lib.hid (HN.out r hr HNb.out)
                rw [hr] at HCall
                clear hr HN HBad HPrev HBs HB0k
                go_wp2_with fail
                refine wp_region_held_drew (S := fun w' => True) (by kernel_rfl) ?_ (fun hHeld => ?_)
                · trivial
                refine takeH (i := 0) (d := some 79) (v := ?_) rfl rfl (by kernel_rfl) (by kernel_rfl) (by kernel_rfl) (fun _ _ _ h => h) (Or.inl ⟨by kernel_rfl, ?_⟩) hHeld ?_
                rotate_left
                · intro w hSw; (try dsimp only at hSw); go_simp; try with_reducible rfl
                try simp only [Act.put, List.setIfInBounds_toArray, List.set_cons_zero, List.set_cons_succ]
                refine takeH (i := 1) (d := some 80) (v := ?_) rfl rfl (by kernel_rfl) (by kernel_rfl) (by kernel_rfl) (fun _ _ _ h => h) (Or.inl ⟨by kernel_rfl, ?_⟩) hHeld ?_
                rotate_left
                · intro w hSw; (try dsimp only at hSw); go_simp; try with_reducible rfl
                try simp only [Act.put, List.setIfInBounds_toArray, List.set_cons_zero, List.set_cons_succ]
                refine takeH (i := 2) (d := some 81) (v := ?_) rfl rfl (by kernel_rfl) (by kernel_rfl) (by kernel_rfl) (fun _ _ _ h => h) (Or.inl ⟨by kernel_rfl, ?_⟩) hHeld ?_
                rotate_left
                · intro w hSw; (try dsimp only at hSw); go_simp; try with_reducible rfl
                try simp only [Act.put, List.setIfInBounds_toArray, List.set_cons_zero, List.set_cons_succ]
                refine takeH (i := 3) (d := some 82) (v := undef) rfl rfl (by kernel_rfl) (by kernel_rfl) (by kernel_rfl) (fun _ _ _ h => h) (Or.inr ⟨by kernel_rfl, rfl⟩) hHeld ?_
                try simp only [Act.put, List.setIfInBounds_toArray, List.set_cons_zero, List.set_cons_succ]
                refine takeH (i := 4) (d := some 83) (v := undef) rfl rfl (by kernel_rfl) (by kernel_rfl) (by kernel_rfl) (fun _ _ _ h => h) (Or.inr ⟨by kernel_rfl, rfl⟩) hHeld ?_
                try simp only [Act.put, List.setIfInBounds_toArray, List.set_cons_zero, List.set_cons_succ]
                refine takeH (i := 5) (d := some 84) (v := undef) rfl rfl (by kernel_rfl) (by kernel_rfl) (by kernel_rfl) (fun _ _ _ h => h) (Or.inr ⟨by kernel_rfl, rfl⟩) hHeld ?_
                try simp only [Act.put, List.setIfInBounds_toArray, List.set_cons_zero, List.set_cons_succ]
                refine takeH (i := 6) (d := some 85) (v := undef) rfl rfl (by kernel_rfl) (by kernel_rfl) (by kernel_rfl) (fun _ _ _ h => h) (Or.inr ⟨by kernel_rfl, rfl⟩) hHeld ?_
                try simp only [Act.put, List.setIfInBounds_toArray, List.set_cons_zero, List.set_cons_succ]
                refine takeH (i := 7) (d := some 86) (v := undef) rfl rfl (by kernel_rfl) (by kernel_rfl) (by kernel_rfl) (fun _ _ _ h => h) (Or.inr ⟨by kernel_rfl, rfl⟩) hHeld ?_
                try simp only [Act.put, List.setIfInBounds_toArray, List.set_cons_zero, List.set_cons_succ]
                refine takeH (i := 8) (d := some 87) (v := undef) rfl rfl (by kernel_rfl) (by kernel_rfl) (by kernel_rfl) (fun _ _ _ h => h) (Or.inr ⟨by kernel_rfl, rfl⟩) hHeld ?_
                try simp only [Act.put, List.setIfInBounds_toArray, List.set_cons_zero, List.set_cons_succ]
                refine takeH (i := 9) (d := some 88) (v := undef) rfl rfl (by kernel_rfl) (by kernel_rfl) (by kernel_rfl) (fun _ _ _ h => h) (Or.inr ⟨by kernel_rfl, rfl⟩) hHeld ?_
                try simp only [Act.put, List.setIfInBounds_toArray, List.set_cons_zero, List.set_cons_succ]
                refine takeH (i := 10) (d := some 89) (v := undef) rfl rfl (by kernel_rfl) (by kernel_rfl) (by kernel_rfl) (fun _ _ _ h => h) (Or.inr ⟨by kernel_rfl, rfl⟩) hHeld ?_
                try simp only [Act.put, List.setIfInBounds_toArray, List.set_cons_zero, List.set_cons_succ]
                refine takeH (i := 11) (d := some 90) (v := undef) rfl rfl (by kernel_rfl) (by kernel_rfl) (by kernel_rfl) (fun _ _ _ h => h) (Or.inr ⟨by kernel_rfl, rfl⟩) hHeld ?_
                try simp only [Act.put, List.setIfInBounds_toArray, List.set_cons_zero, List.set_cons_succ]
                refine takeH (i := 12) (d := some 91) (v := undef) rfl rfl (by kernel_rfl) (by kernel_rfl) (by kernel_rfl) (fun _ _ _ h => h) (Or.inr ⟨by kernel_rfl, rfl⟩) hHeld ?_
                try simp only [Act.put, List.setIfInBounds_toArray, List.set_cons_zero, List.set_cons_succ]
                refine takeH (i := 13) (d := some 92) (v := undef) rfl rfl (by kernel_rfl) (by kernel_rfl) (by kernel_rfl) (fun _ _ _ h => h) (Or.inr ⟨by kernel_rfl, rfl⟩) hHeld ?_
                try simp only [Act.put, List.setIfInBounds_toArray, List.set_cons_zero, List.set_cons_succ]
                refine takeH (i := 14) (d := some 93) (v := undef) rfl rfl (by kernel_rfl) (by kernel_rfl) (by kernel_rfl) (fun _ _ _ h => h) (Or.inr ⟨by kernel_rfl, rfl⟩) hHeld ?_
                try simp only [Act.put, List.setIfInBounds_toArray, List.set_cons_zero, List.set_cons_succ]
                refine takeH (i := 15) (d := some 94) (v := undef) rfl rfl (by kernel_rfl) (by kernel_rfl) (by kernel_rfl) (fun _ _ _ h => h) (Or.inr ⟨by kernel_rfl, rfl⟩) hHeld ?_
                try simp only [Act.put, List.setIfInBounds_toArray, List.set_cons_zero, List.set_cons_succ]
                refine takeH (i := 16) (d := some 95) (v := undef) rfl rfl (by kernel_rfl) (by kernel_rfl) (by kernel_rfl) (fun _ _ _ h => h) (Or.inr ⟨by kernel_rfl, rfl⟩) hHeld ?_
                try simp only [Act.put, List.setIfInBounds_toArray, List.set_cons_zero, List.set_cons_succ]
                refine takeH (i := 17) (d := some 96) (v := ?_) rfl rfl (by kernel_rfl) (by kernel_rfl) (by kernel_rfl) (fun _ _ _ h => h) (Or.inl ⟨by kernel_rfl, ?_⟩) hHeld ?_
                rotate_left
                · intro w hSw; (try dsimp only at hSw); go_simp; try with_reducible rfl
                try simp only [Act.put, List.setIfInBounds_toArray, List.set_cons_zero, List.set_cons_succ]
                refine wpAnyH_done (by kernel_rfl) ?_ _
                go_wp2_with fail
                refine (HCall.out _ (Kept.refl _ _).drew).mono ?_
                rcases r with _ | ⟨m2, d2⟩
                · rintro e w' ⟨rfl, hk⟩
                  have HKc := Lib.hid hk
                  clear hk
                  go_wp2_with fail
                  go_ret
                  rw [HV'.out, HN2.out]
                  exact ⟨rfl, HK0.out.trans (HK.out.drew.trans HKc.out)⟩
                · rintro e w' ⟨rfl, hk, hl, hm1, hm2⟩
                  have HKc := Lib.hid hk
                  have HLc := Lib.hid hl
                  have HMc := Lib.hid (And.intro hm1 hm2)
                  clear hk hl hm1 hm2
                  go_wp2_with fail
                  go_roundw
                  case rel => exact ⟨0 + 1, m2, d2, by omega, by go_num, Lib.hid (by have := HM.out; have := HMc.out; omega), Lib.hid (HK.out.drew.trans HKc.out), HLc, HN2⟩
                  case measure => simp [intOf]; omega
            · obtain rfl : k = es.length := by omega
              have HVe : Hid (visEs (vis A f) none es (m + 1) (updD d m false) = some (m', d')) := Lib.hid (by rw [HVs.out, List.drop_length]; rfl)
              obtain ⟨capw, c0, c1, c2, f1⟩ := HLW.out.head
              obtain ⟨cs0, fs0⟩ := HLW.out.at_ m hmN
              have HSt := Lib.hid (HLW.out.setSt m (by have := HM.out; omega))
              clear hlt1 hlt2 HIH HVs
              go_wp2_with fail
              go_ret
              rw [HV'.out, HVe.out]
              exact ⟨rfl, (HK0.out.trans HK.out).set _ _ _ (.inl (by simp)), HSt.out, by have := HM.out; omega, HM.out.2⟩
      · have HV : Hid (vis A (f + 1) (m : Int) m d = none) := Lib.hid (by
          rw [vis, if_neg (by simp), List.getElem?_eq_none (by omega)])
        obtain ⟨Ax, cap0, rfl, hc0, hA0⟩ := hA
        have hq2 : (A.length : Int) ≤ (m : Int) := by omega
        clear hL hA0 hc0
        go_enter Try.func50, Try.ntmps50
        go_wp2_with fail
        go_ret
        rw [HV.out]
        exact ⟨rfl, Kept.refl _ _⟩
    · have hne : (n != (m : Int)) = true := by simpa using hnm
      by_cases h0 : 0 ≤ n
      · obtain ⟨k, rfl⟩ : ∃ k : Nat, n = (k : Int) := ⟨n.toNat, by omega⟩
        by_cases hk : k < m
        · obtain ⟨cx, _⟩ := hL.at_ k (by omega)
          obtain ⟨Ax, cap0, rfl, hc0, hA0⟩ := hA
          have HV : Hid (vis A (f + 1) (k : Int) m d = if d k = true then some (m, d) else none) := Lib.hid (by
            rw [vis, if_pos hnm]
            by_cases e : d k = true
            · rw [if_pos ⟨h0, by omega, by simpa using e⟩, if_pos e]
            · rw [if_neg (fun h => e (by simpa using h.2.2)), if_neg e])
          have hq1 : ¬ (k : Int) < 0 := by omega
          have hq2 : ¬ (A.length : Int) ≤ (k : Int) := by omega
          have hq3 : ¬ (m : Int) < (k : Int) := by omega
          have hq4 : k < A.length := by omega
          clear hL hA0 hc0
          go_enter Try.func50, Try.ntmps50
          go_wp2_with fail
          go_ret
          rw [HV.out]
          cases hd : d k
          · rw [if_neg (by simp)]; exact ⟨rfl, Kept.refl _ _⟩
          · rw [if_pos rfl]; exact ⟨rfl, Kept.refl _ _, HL.out, Nat.le_refl _, hm⟩
        · have HV : Hid (vis A (f + 1) (k : Int) m d = none) := Lib.hid (by
            rw [vis, if_pos hnm, if_neg (fun h => hk (by omega))])
          obtain ⟨Ax, cap0, rfl, hc0, hA0⟩ := hA
          have hq1 : ¬ (k : Int) < 0 := by omega
          have hq3 : (m : Int) < (k : Int) := by omega
          clear hL hA0 hc0 hk hnm hne
          by_cases hq2 : (A.length : Int) ≤ (k : Int)
          all_goals
            go_enter Try.func50, Try.ntmps50
            go_wp2_with fail
            go_ret
            rw [HV.out]
            exact ⟨rfl, Kept.refl _ _⟩
      · have HV : Hid (vis A (f + 1) n m d = none) := Lib.hid (by
          rw [vis, if_pos hnm, if_neg (fun h => h0 h.1)])
        have hq1 : n < 0 := by omega
        clear hL hA hnm hne
        go_enter Try.func50, Try.ntmps50
        go_wp2_with fail
        go_ret
        rw [HV.out]
        exact ⟨rfl, Kept.refl _ _⟩
end Go.Proofs.Ytehbjfjhalpgaaa
