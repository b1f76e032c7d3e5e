/-
  An automaton's one shape: the plain law, and the program's visit.
-/
import Derived.Test.YtehbjfjhalpgaaaRows
import Derived.Test.YtehbjfjhalpgaaaImg16
import Derived.Test.YtehbjfjhalpgaaaHeld
namespace Go.Proofs.Ytehbjfjhalpgaaa
open Go.RowKit
attribute [local go_sem ↓] Go.wp_at_zero Go.wp_at_succ

abbrev Dn := Nat → Bool
def updD (d : Dn) (n : Nat) (b : Bool) : Dn := fun k => if k = n then b else d k
def visEs (rec : Int → Nat → Dn → Option (Nat × Dn)) : Option UInt8 → List Ed → Nat → Dn → Option (Nat × Dn)
  | _, [], m, d => some (m, d)
  | prev, e :: es, m, d =>
    if (match prev with | none => false | some p => decide (e.1.toNat ≤ p.toNat)) then none
    else match rec e.2 m d with
      | none => none
      | some (m', d') => visEs rec (some e.1) es m' d'
theorem visEs_cons (rec : Int → Nat → Dn → Option (Nat × Dn)) (prev : Option UInt8) (e : Ed) (es : List Ed) (m : Nat) (d : Dn) :
    visEs rec prev (e :: es) m d = if (match prev with | none => false | some p => decide (e.1.toNat ≤ p.toNat)) then none else match rec e.2 m d with | none => none | some (m', d') => visEs rec (some e.1) es m' d' := by
  conv => lhs; unfold visEs
/-- From the state n on: m states were met, d tells which are done. -/
def vis (A : List St) : Nat → Int → Nat → Dn → Option (Nat × Dn)
  | 0, _, _, _ => none
  | f + 1, n, m, d =>
    if n ≠ (m : Int) then (if 0 ≤ n ∧ n < (m : Int) ∧ d n.toNat = true then some (m, d) else none)
    else match A[m]? with
      | none => none
      | some x => if x.2.length = 0 ∧ x.1 = false ∧ A.length ≠ 1 then none
        else match visEs (vis A f) none x.2 (m + 1) (updD d m false) with
          | none => none
          | some (m', d') => some (m', updD d' m true)
def shapeB (A : List St) : Bool :=
  decide (0 < A.length) && decide (A.length ≤ 1048576) && (match vis A (A.length + 1) 0 0 (fun _ => false) with | none => false | some (m, _) => decide (m = A.length))

structure LookP (w : World) (lb sb : Nat) (av : Value) (N m : Nat) (d : Dn) : Prop where
  hd : ∃ cap, w.heap[lb]? = some (.cells #[av, .int .i64 (m : Int), .slice (some ⟨sb, 0, none⟩) N cap] 98 (0, 0))
  st : ∃ cs, w.heap[sb]? = some (.cells cs 5 (0, 0)) ∧ cs.size = N ∧ ∀ k, k < N → ∃ x : Int, cs[k]? = some (.int .u8 x) ∧ (x = 2 ↔ d k = true)
  ne : lb ≠ sb
theorem LookP.head {w : World} {l sb : Nat} {av : Value} {N m : Nat} {d : Dn} (h : LookP w l sb av N m d) :
    ∃ cap, w.cell? ⟨l, 0, none⟩ = some av ∧ w.cell? ⟨l, 1, none⟩ = some (.int .i64 (m : Int)) ∧ w.cell? ⟨l, 2, none⟩ = some (.slice (some ⟨sb, 0, none⟩) N cap) ∧ w.frozen? ⟨l, 1, none⟩ = false := by
  obtain ⟨cap, hc⟩ := h.hd
  exact ⟨cap, by rw [Lib.cell_of_heap hc]; rfl, by rw [Lib.cell_of_heap hc]; rfl, by rw [Lib.cell_of_heap hc]; rfl, Lib.frozen_of_heap hc 1⟩
theorem LookP.at_ {w : World} {l sb : Nat} {av : Value} {N m : Nat} {d : Dn} (h : LookP w l sb av N m d) (k : Nat) (hk : k < N) :
    ∃ x : Int, w.cell? ⟨sb, k, none⟩ = some (.int .u8 x) ∧ (x = 2 ↔ d k = true) ∧ w.frozen? ⟨sb, k, none⟩ = false := by
  obtain ⟨cs, hc, hn, hx⟩ := h.st
  obtain ⟨x, h1, h2⟩ := hx k hk
  exact ⟨x, by rw [Lib.cell_of_heap hc]; exact h1, h2, Lib.frozen_of_heap hc k⟩
theorem LookP.lt {w : World} {l sb : Nat} {av : Value} {N m : Nat} {d : Dn} (h : LookP w l sb av N m d) : l < w.heap.size ∧ sb < w.heap.size := by
  obtain ⟨⟨cap, hc⟩, ⟨cs, hs, _⟩, _⟩ := h
  exact ⟨block_lt hc, block_lt hs⟩
theorem LookP.kept {E : List Nat} {w w' : World} {l sb : Nat} {av : Value} {N m : Nat} {d : Dn} (h : LookP w l sb av N m d) (hk : Kept E w w') (h1 : l ∉ E) (h2 : sb ∉ E) : LookP w' l sb av N m d := by
  obtain ⟨⟨cap, hc⟩, ⟨cs, hs, r⟩, hne⟩ := h
  exact ⟨⟨cap, hk.at hc h1⟩, ⟨cs, hk.at hs h2, r⟩, hne⟩
theorem LookP.setMet {w : World} {l sb : Nat} {av : Value} {N m : Nat} {d : Dn} (h : LookP w l sb av N m d) (p : Nat) : LookP (w.setCell ⟨l, 1, none⟩ (.int .i64 (p : Int))) l sb av N p d := by
  obtain ⟨⟨cap, hc⟩, ⟨cs, hs, r⟩, hne⟩ := h
  refine ⟨⟨cap, ?_⟩, ⟨cs, ?_, r⟩, hne⟩
  · exact Go.heap_setCell_same w l 1 _ _ _ hc
  · rw [heap_setCell_other w ⟨l, 1, none⟩ sb _ (fun e => hne e.symm)]; exact hs
theorem LookP.setSt {w : World} {l sb : Nat} {av : Value} {N m : Nat} {d : Dn} (h : LookP w l sb av N m d) (n : Nat) (x : Int) (b : Bool) (hb : x = 2 ↔ b = true) : LookP (w.setCell ⟨sb, n, none⟩ (.int .u8 x)) l sb av N m (updD d n b) := by
  obtain ⟨⟨cap, hc⟩, ⟨cs, hs, hn, hx⟩, hne⟩ := h
  refine ⟨⟨cap, ?_⟩, ⟨_, Go.heap_setCell_same w sb n _ _ _ hs, by simp [hn], fun k hk => ?_⟩, hne⟩
  · rw [heap_setCell_other w ⟨sb, n, none⟩ l _ hne]; exact hc
  · by_cases e : k = n
    · subst e
      exact ⟨x, by simp [hn, hk], by simp [updD, hb]⟩
    · obtain ⟨y, h1, h2⟩ := hx k hk
      exact ⟨y, by rw [Array.getElem?_setIfInBounds_ne (Ne.symm e)]; exact h1, by simp [updD, e, h2]⟩

def prevAt (es : List Ed) (k : Nat) : Option UInt8 := if k = 0 then none else (es[k - 1]?).map (·.1)
def badAt (es : List Ed) (k : Nat) : Bool := match prevAt es k, es[k]? with | some p, some e => decide (e.1.toNat ≤ p.toNat) | _, _ => false
theorem visEs_bad (rec : Int → Nat → Dn → Option (Nat × Dn)) (es : List Ed) (k m : Nat) (d : Dn) (hk : k < es.length) (hb : badAt es k = true) : visEs rec (prevAt es k) (es.drop k) m d = none := by
  unfold badAt at hb
  rw [List.drop_eq_getElem_cons hk, visEs_cons]
  rw [List.getElem?_eq_getElem hk] at hb
  cases hp : prevAt es k with
  | none => rw [hp] at hb; cases hb
  | some p => rw [hp] at hb; simp only at hb ⊢; rw [if_pos hb]
theorem visEs_step (rec : Int → Nat → Dn → Option (Nat × Dn)) (es : List Ed) (k m : Nat) (d : Dn) (hk : k < es.length) (hb : badAt es k = false) :
    visEs rec (prevAt es k) (es.drop k) m d = match rec es[k].2 m d with | none => none | some (m', d') => visEs rec (prevAt es (k + 1)) (es.drop (k + 1)) m' d' := by
  unfold badAt at hb
  rw [List.drop_eq_getElem_cons hk, visEs_cons]
  rw [List.getElem?_eq_getElem hk] at hb
  have hn : prevAt es (k + 1) = some es[k].1 := by simp [prevAt, List.getElem?_eq_getElem hk]
  rw [hn]
  cases hp : prevAt es k with
  | none => simp only [Bool.false_eq_true, if_false]
  | some p => rw [hp] at hb; simp only at hb ⊢; rw [if_neg (by simp only [hb]; simp)]
theorem badAt_0 (es : List Ed) : badAt es 0 = false := by simp [badAt, prevAt]
theorem badAt_s (es : List Ed) (k : Nat) (hk : k < es.length) (h0 : 0 < k) : badAt es k = decide (es[k].1.toNat ≤ (es[k - 1]'(by omega)).1.toNat) := by
  unfold badAt prevAt
  rw [if_neg (by omega), List.getElem?_eq_getElem (show k - 1 < es.length by omega), List.getElem?_eq_getElem hk]
  rfl

theorem wrap64_up2 (j n c : Nat) (h1 : n ≤ c) (h2 : c ≤ maxLen) (h3 : j + 1 + 1 ≤ n) : wrap64 ((j : Int) + 1 + 1) = (j : Int) + 1 + 1 := by
  unfold maxLen at h2; unfold wrap64; omega
theorem val_up2 (j n c : Nat) (h1 : n ≤ c) (h2 : c ≤ maxLen) (h3 : j + 1 + 1 ≤ n) : Value.int .i64 (wrap64 ((j : Int) + 1 + 1)) = Value.int .i64 ((j + 1 + 1 : Nat) : Int) := by
  rw [wrap64_up2 j n c h1 h2 h3]; rfl
theorem meas_up2 (j n c : Nat) (h1 : n ≤ c) (h2 : c ≤ maxLen) (h3 : j + 1 + 1 ≤ n) : n - (intOf (Value.int .i64 (wrap64 ((j : Int) + 1 + 1)))).toNat < n - (intOf (Value.int .i64 ((j : Int) + 1))).toNat := by
  rw [wrap64_up2 j n c h1 h2 h3]
  show n - ((j : Int) + 1 + 1).toNat < n - ((j : Int) + 1).toNat
  omega
/-- What a visit answers. -/
def PostV (w : World) (lb sb : Nat) (av : Value) (N m : Nat) (r : Option (Nat × Dn)) (e : Ending) (w' : World) : Prop :=
  match r with
  | none => e = .returned (.bool false) ∧ Kept [lb, sb] w w'
  | some (m', d') => e = .returned (.bool true) ∧ Kept [lb, sb] w w' ∧ LookP w' lb sb av N m' d' ∧ m ≤ m' ∧ m' ≤ N

set_option maxHeartbeats 4000000 in
set_option maxRecDepth 100000 in
theorem visit_any (A : List St) (lb sb : Nat) (av : Value) (hA1 : A.length ≤ 1048576) : ∀ (f : Nat) (n : Int) (m : Nat) (d : Dn) (w : World), A.length + 1 ≤ f + m → m ≤ A.length → LookP w lb sb av A.length m d → AutAt w (fun k => k ∉ [lb, sb]) av A →
    Calls Try.prog 44 #[.pointer (some ⟨lb, 0, none⟩), .int .i64 n] w (PostV w lb sb av A.length m (vis A f n m d)) := by
  intro f
  induction f with
  | zero => intro n m d w hf hm; omega
  | succ f ih =>
    intro n m d w hf hm hL hA
    have HIH := Lib.hid ih
    clear ih
    obtain ⟨cap, c0, c1, c2, f1⟩ := hL.head
    have HL := Lib.hid hL
    have HA := Lib.hid hA
    by_cases hnm : n = (m : Int)
    · subst hnm
      by_cases hmN : m < A.length
      · obtain ⟨⟨fin, es⟩, hx⟩ : ∃ x, A[m] = x := ⟨_, rfl⟩
        have hx? : A[m]? = some (fin, es) := by rw [List.getElem?_eq_getElem hmN, hx]
        obtain ⟨Ax, cap0, rfl, hc0, hA0⟩ := hA
        obtain ⟨g, o, rfl, hg, hp, hcs⟩ := hA0.resolve_left (by omega)
        obtain ⟨e0, ev, e1, hE⟩ := hcs m hmN
        rw [hx] at e0 hE
        dsimp only at e0 hE
        have hE0 := hE
        obtain ⟨Ex, cap1, rfl, hc1, hE1⟩ := hE
        have HE := Lib.hid hE0
        have HC1 := Lib.hid hc1
        clear hc1
        obtain ⟨sx, cs0, _, fs0⟩ := hL.at_ m hmN
        have hgl : g ≠ lb := fun e => hp (by simp [e])
        have hgs : g ≠ sb := fun e => hp (by simp [e])
        have hls := hL.ne
        have hlg := Ne.symm hgl
        have hsg := Ne.symm hgs
        have hsl := Ne.symm hls
        clear hL hcs hA0 hE0 hE1 hx
        have HV : Hid (vis A (f + 1) (m : Int) m d = if es.length = 0 ∧ fin = false ∧ A.length ≠ 1 then none else match visEs (vis A f) none es (m + 1) (updD d m false) with | none => none | some (m', d') => some (m', updD d' m true)) := Lib.hid (by
          rw [vis, if_neg (by simp), hx?])
        have HW0 : Hid (∀ W0, ((w.setCell ⟨lb, 1, none⟩ (Value.int .i64 ((m : Int) + 1))).setCell ⟨sb, m, none⟩ (Value.int .u8 1)).alloc (Obj.cells #[Value.bool fin, Value.slice Ex es.length cap1] 53) = W0 →
            LookP W0 lb sb (Value.slice (some ⟨g, o, none⟩) A.length cap0) A.length (m + 1) (updD d m false) ∧ Kept [lb, sb] w W0 ∧ W0.heap[w.heap.size]? = some (.cells #[Value.bool fin, Value.slice Ex es.length cap1] 53)) := Lib.hid (by
          rintro W0 rfl
          have h1 := (HL.out.setMet (m + 1)).setSt m 1 false (by simp)
          rw [Int.natCast_add] at h1
          refine ⟨h1.kept ((Kept.refl [] _).alloc _) (by simp) (by simp), (((Kept.refl _ _).set _ _ _ (.inl (by simp))).set _ _ _ (.inl (by simp))).alloc _, ?_⟩
          have := heap_alloc_new ((w.setCell ⟨lb, 1, none⟩ (Value.int .i64 ((m : Int) + 1))).setCell ⟨sb, m, none⟩ (Value.int .u8 1)) (Obj.cells #[Value.bool fin, Value.slice Ex es.length cap1] 53)
          simpa [World.setCell] using this)
        clear hx?
        go_enter Try.func44, Try.ntmps44
        go_wp2_with fail
        obtain ⟨W0, hW0⟩ : ∃ W0, ((w.setCell ⟨lb, 1, none⟩ (Value.int .i64 ((m : Int) + 1))).setCell ⟨sb, m, none⟩ (Value.int .u8 1)).alloc (Obj.cells #[Value.bool fin, Value.slice Ex es.length cap1] 53) = W0 := ⟨_, rfl⟩
        obtain ⟨hL0, hK0, hB0⟩ := HW0.out W0 hW0
        rw [hW0]
        clear hW0
        have HL0 := Lib.hid hL0
        have HK0 := Lib.hid hK0
        have HB0 := Lib.hid hB0
        clear hL0 hK0 hB0 HW0 c0 c1 c2 f1 e0 e1 cs0 fs0
        simp only [show decide (A.length ≤ m) = false from decide_eq_false (by omega)]
        go_loopw [6, 7, 64] (fun _ _ i W => ∃ (k m' : Nat) (d' : Dn), k ≤ es.length ∧ i = .int .i64 k ∧ Hid (m + 1 ≤ m' ∧ m' ≤ A.length) ∧ Hid (Kept [lb, sb] W0 W) ∧ Hid (LookP W lb sb (Value.slice (some ⟨g, o, none⟩) A.length cap0) A.length m' d') ∧ Hid (visEs (vis A f) none es (m + 1) (updD d m false) = visEs (vis A f) (prevAt es k) (es.drop k) m' d')) (fun _ _ i _ => es.length - (intOf i).toNat)
        case atStart => exact ⟨0, m + 1, updD d m false, Nat.zero_le _, rfl, Lib.hid ⟨Nat.le_refl _, hmN⟩, Lib.hid (Kept.refl _ _), HL0, Lib.hid rfl⟩
        case round =>
          obtain ⟨k, m', d', hk, rfl, HM, HK, HLW, HVs⟩ := hrel
          by_cases hlt : k < es.length
          · obtain ⟨Ex', cap1', hEq, _, hE1⟩ := HE.out
            obtain ⟨eg, eo, rfl, heg, hep, hec⟩ := hE1.resolve_left (by omega)
            injection hEq with hq1 hq2 hq3
            subst hq1 hq3
            have hce : ∀ j, W0.cell? ⟨eg, j, none⟩ = w.cell? ⟨eg, j, none⟩ := fun j => HK0.out.cell (p := ⟨eg, j, none⟩) heg hep
            have hcw : ∀ j, wr.cell? ⟨eg, j, none⟩ = w.cell? ⟨eg, j, none⟩ := fun j => (HK.out.cell (p := ⟨eg, j, none⟩) (Nat.lt_of_lt_of_le heg HK0.out.size) hep).trans (hce j)
            have b0 := (hcw _).trans (hec k hlt).1
            have b1 := (hcw _).trans (hec k hlt).2
            have hwr := HK.out.at HB0.out (by have := HL.out.lt; simp only [List.mem_cons, List.not_mem_nil, or_false]; omega)
            have t1 : wr.cell? ⟨w.heap.size, 1, none⟩ = some (Value.slice (some ⟨eg, eo, none⟩) es.length cap1) := by rw [Lib.cell_of_heap hwr]; rfl
            have HLt : Hid (True → k + 1 ≤ es.length) := Lib.hid (fun _ => hlt)
            have HPrev : Hid (0 < k → wr.cell? ⟨eg, eo + (k - 1) * 2, none⟩ = some (.int .u8 ((es[k - 1]'(by omega)).1.toNat : Int))) := Lib.hid (fun h0 => (hcw _).trans (hec (k - 1) (by omega)).1)
            have HN : Hid (∀ r, vis A f es[k].2 m' d' = r → badAt es k = false → visEs (vis A f) none es (m + 1) (updD d m false) = match r with | none => none | some (m', d') => visEs (vis A f) (prevAt es (k + 1)) (es.drop (k + 1)) m' d') := Lib.hid (fun r hr hb => by
              rw [HVs.out, visEs_step _ _ _ _ _ hlt hb, hr])
            have HBad : Hid (badAt es k = true → visEs (vis A f) none es (m + 1) (updD d m false) = none) := Lib.hid (fun hb => by rw [HVs.out, visEs_bad _ _ _ _ _ hlt hb])
            have HCall : Hid (∀ W', Kept [] wr W' → Calls Try.prog 44 #[.pointer (some ⟨lb, 0, none⟩), .int .i64 es[k].2] W' (PostV W' lb sb (Value.slice (some ⟨g, o, none⟩) A.length cap0) A.length m' (vis A f es[k].2 m' d'))) := Lib.hid (fun W' hW' => by
              have := HM.out
              exact HIH.out _ m' d' W' (by omega) this.2 (HLW.out.kept hW' (by simp) (by simp)) ((((HA.out.kept HK0.out (by simp)).kept HK.out (by simp)).kept hW' (by simp))))
            have HBs : Hid (0 < k → badAt es k = decide (es[k].1.toNat ≤ (es[k - 1]'(by omega)).1.toNat)) := Lib.hid (badAt_s es k hlt)
            have HB0k : Hid (k = 0 → badAt es k = false) := Lib.hid (by rintro rfl; exact badAt_0 es)
            obtain ⟨⟨eb, et⟩, hek⟩ : ∃ x, es[k] = x := ⟨_, rfl⟩
            rw [hek] at b0 b1 HN HCall HBs
            dsimp only at b0 b1 HN HCall HBs
            clear hek hec hcw hce hE1 hwr HVs HIH
            by_cases h0 : 0 < k
            · obtain ⟨j, rfl⟩ : ∃ j, k = j + 1 := ⟨k - 1, by omega⟩
              have pc := HPrev.out h0
              have hbs := HBs.out h0
              simp only [Nat.add_sub_cancel] at pc hbs
              obtain ⟨⟨pb, pt⟩, hpk⟩ : ∃ x, es[j]'(by omega) = x := ⟨_, rfl⟩
              rw [hpk] at pc hbs
              dsimp only at pc hbs
              clear hpk
              have hw1 : IntKind.i64.wrap (j : Int) = (j : Int) := by have := HC1.out.1; have := HC1.out.2; unfold maxLen at this; rw [IntKind.wrap_i64]; omega
              have hjl : (j : Int) < (es.length : Int) := by omega
              have HKp : Hid (∀ W', Kept [lb, sb] (wr.alloc (.cells #[.int .u8 (eb.toNat : Int), .int .i64 et] 55)).drew W' → W'.cell? ⟨w.heap.size, 1, none⟩ = some (Value.slice (some ⟨eg, eo, none⟩) es.length cap1) ∧ W'.cell? ⟨eg, eo + j * 2, none⟩ = some (.int .u8 (pb.toNat : Int)) ∧ W'.cell? ⟨wr.heap.size, 0, none⟩ = some (.int .u8 (eb.toNat : Int)) ∧ W'.cell? ⟨wr.heap.size, 1, none⟩ = some (.int .i64 et)) := Lib.hid (fun W' h => by
                have hlt1 := HLW.out.lt
                have hlt2 := HL.out.lt
                have hsz := HK.out.size
                have hsz0 := HK0.out.size
                have hbl := block_lt (HK.out.at HB0.out (by simp only [List.mem_cons, List.not_mem_nil, or_false]; omega))
                have h1 : (wr.alloc (.cells #[.int .u8 (eb.toNat : Int), .int .i64 et] 55)).drew.heap[wr.heap.size]? = some (.cells #[.int .u8 (eb.toNat : Int), .int .i64 et] 55) := heap_alloc_new wr _
                have h2 := h.at h1 (by simp only [List.mem_cons, List.not_mem_nil, or_false]; omega)
                have hkk : Kept [lb, sb] wr W' := (((Kept.refl _ _).alloc _).drew).trans h
                refine ⟨?_, ?_, ?_, ?_⟩
                · rw [hkk.cell (p := ⟨w.heap.size, 1, none⟩) hbl (by simp only [List.mem_cons, List.not_mem_nil, or_false]; omega)]; exact t1
                · rw [hkk.cell (p := ⟨eg, eo + j * 2, none⟩) (by show eg < _; omega) hep]; exact pc
                · rw [Lib.cell_of_heap h2]; rfl
                · rw [Lib.cell_of_heap h2]; rfl)
              by_cases hb : eb.toNat ≤ pb.toNat
              · have HNb := Lib.hid (HBad.out (hbs.trans (decide_eq_true hb)))
                have hb1 : decide ((eb.toNat : Int) ≤ (pb.toNat : Int)) = true := by simpa using hb
                clear HN HBad HPrev HBs HB0k HCall hbs
                go_wp2_with fail
                refine wp_region_held_drew (S := fun w' => w'.cell? ⟨w.heap.size, 1, none⟩ = some (Value.slice (some ⟨eg, eo, none⟩) es.length cap1) ∧ w'.cell? ⟨eg, eo + j * 2, none⟩ = some (.int .u8 (pb.toNat : Int)) ∧ w'.cell? ⟨wr.heap.size, 0, none⟩ = some (.int .u8 (eb.toNat : Int)) ∧ w'.cell? ⟨wr.heap.size, 1, none⟩ = some (.int .i64 et)) (by kernel_rfl) ?_ (fun hHeld => ?_)
                · exact HKp.out _ (Kept.refl _ _)
                refine takeH (i := 0) (d := some 69) (v := ?_) rfl rfl (by kernel_rfl) (by kernel_rfl) (by kernel_rfl) (fun _ _ _ h => h) (Or.inl ⟨by kernel_rfl, ?_⟩) hHeld ?_
                rotate_left
                · intro w hSw; (try dsimp only at hSw); go_simp; try with_reducible rfl
                try simp only [Act.put, List.setIfInBounds_toArray, List.set_cons_zero, List.set_cons_succ]
                refine takeH (i := 1) (d := some 70) (v := ?_) rfl rfl (by kernel_rfl) (by kernel_rfl) (by kernel_rfl) (fun _ _ _ h => h) (Or.inl ⟨by kernel_rfl, ?_⟩) hHeld ?_
                rotate_left
                · intro w hSw; (try dsimp only at hSw); go_simp; try with_reducible rfl
                try simp only [Act.put, List.setIfInBounds_toArray, List.set_cons_zero, List.set_cons_succ]
                refine takeH (i := 2) (d := some 71) (v := ?_) rfl rfl (by kernel_rfl) (by kernel_rfl) (by kernel_rfl) (fun _ _ _ h => h) (Or.inl ⟨by kernel_rfl, ?_⟩) hHeld ?_
                rotate_left
                · intro w hSw; (try dsimp only at hSw); go_simp; try with_reducible rfl
                try simp only [Act.put, List.setIfInBounds_toArray, List.set_cons_zero, List.set_cons_succ]
                refine takeH (i := 3) (d := some 72) (v := ?_) rfl rfl (by kernel_rfl) (by kernel_rfl) (by kernel_rfl) (fun _ _ _ h => h) (Or.inl ⟨by kernel_rfl, ?_⟩) hHeld ?_
                rotate_left
                · intro w hSw; (try dsimp only at hSw); go_simp; try with_reducible rfl
                try simp only [Act.put, List.setIfInBounds_toArray, List.set_cons_zero, List.set_cons_succ]
                refine takeH (i := 4) (d := some 73) (v := ?_) rfl rfl (by kernel_rfl) (by kernel_rfl) (by kernel_rfl) (fun _ _ _ h => h) (Or.inl ⟨by kernel_rfl, ?_⟩) hHeld ?_
                rotate_left
                · intro w hSw; (try dsimp only at hSw); go_simp; try with_reducible rfl
                try simp only [Act.put, List.setIfInBounds_toArray, List.set_cons_zero, List.set_cons_succ]
                refine takeH (i := 5) (d := some 74) (v := ?_) rfl rfl (by kernel_rfl) (by kernel_rfl) (by kernel_rfl) (fun _ _ _ h => h) (Or.inl ⟨by kernel_rfl, ?_⟩) hHeld ?_
                rotate_left
                · intro w hSw; (try dsimp only at hSw); go_simp; try with_reducible rfl
                try simp only [Act.put, List.setIfInBounds_toArray, List.set_cons_zero, List.set_cons_succ]
                refine takeH (i := 6) (d := some 75) (v := ?_) rfl rfl (by kernel_rfl) (by kernel_rfl) (by kernel_rfl) (fun _ _ _ h => h) (Or.inl ⟨by kernel_rfl, ?_⟩) hHeld ?_
                rotate_left
                · intro w hSw; (try dsimp only at hSw); go_simp; try with_reducible rfl
                try simp only [Act.put, List.setIfInBounds_toArray, List.set_cons_zero, List.set_cons_succ]
                refine takeH (i := 7) (d := some 76) (v := ?_) rfl rfl (by kernel_rfl) (by kernel_rfl) (by kernel_rfl) (fun _ _ _ h => h) (Or.inl ⟨by kernel_rfl, ?_⟩) hHeld ?_
                rotate_left
                · intro w hSw; (try dsimp only at hSw); go_simp; try with_reducible rfl
                try simp only [Act.put, List.setIfInBounds_toArray, List.set_cons_zero, List.set_cons_succ]
                refine takeH (i := 8) (d := some 77) (v := ?_) rfl rfl (by kernel_rfl) (by kernel_rfl) (by kernel_rfl) (fun _ _ _ h => h) (Or.inl ⟨by kernel_rfl, ?_⟩) hHeld ?_
                rotate_left
                · intro w hSw; (try dsimp only at hSw); go_simp; try with_reducible rfl
                try simp only [Act.put, List.setIfInBounds_toArray, List.set_cons_zero, List.set_cons_succ]
                refine takeH (i := 9) (d := some 78) (v := ?_) rfl rfl (by kernel_rfl) (by kernel_rfl) (by kernel_rfl) (fun _ _ _ h => h) (Or.inl ⟨by kernel_rfl, ?_⟩) hHeld ?_
                rotate_left
                · intro w hSw; (try dsimp only at hSw); go_simp; try with_reducible rfl
                try simp only [Act.put, List.setIfInBounds_toArray, List.set_cons_zero, List.set_cons_succ]
                refine takeH (i := 10) (d := some 79) (v := ?_) rfl rfl (by kernel_rfl) (by kernel_rfl) (by kernel_rfl) (fun _ _ _ h => h) (Or.inl ⟨by kernel_rfl, ?_⟩) hHeld ?_
                rotate_left
                · intro w hSw; (try dsimp only at hSw); go_simp; try with_reducible rfl
                try simp only [Act.put, List.setIfInBounds_toArray, List.set_cons_zero, List.set_cons_succ]
                refine takeH (i := 11) (d := some 80) (v := ?_) rfl rfl (by kernel_rfl) (by kernel_rfl) (by kernel_rfl) (fun _ _ _ h => h) (Or.inl ⟨by kernel_rfl, ?_⟩) hHeld ?_
                rotate_left
                · intro w hSw; (try dsimp only at hSw); go_simp; try with_reducible rfl
                try simp only [Act.put, List.setIfInBounds_toArray, List.set_cons_zero, List.set_cons_succ]
                refine takeH (i := 12) (d := some 81) (v := ?_) rfl rfl (by kernel_rfl) (by kernel_rfl) (by kernel_rfl) (fun _ _ _ h => h) (Or.inl ⟨by kernel_rfl, ?_⟩) hHeld ?_
                rotate_left
                · intro w hSw; (try dsimp only at hSw); go_simp; try with_reducible rfl
                try simp only [Act.put, List.setIfInBounds_toArray, List.set_cons_zero, List.set_cons_succ]
                refine takeH (i := 13) (d := some 82) (v := ?_) rfl rfl (by kernel_rfl) (by kernel_rfl) (by kernel_rfl) (fun _ _ _ h => h) (Or.inl ⟨by kernel_rfl, ?_⟩) hHeld ?_
                rotate_left
                · intro w hSw; (try dsimp only at hSw); go_simp; try with_reducible rfl
                try simp only [Act.put, List.setIfInBounds_toArray, List.set_cons_zero, List.set_cons_succ]
                refine takeH (i := 14) (d := some 83) (v := ?_) rfl rfl (by kernel_rfl) (by kernel_rfl) (by kernel_rfl) (fun _ _ _ h => h) (Or.inl ⟨by kernel_rfl, ?_⟩) hHeld ?_
                rotate_left
                · intro w hSw; (try dsimp only at hSw); go_simp; try with_reducible rfl
                try simp only [Act.put, List.setIfInBounds_toArray, List.set_cons_zero, List.set_cons_succ]
                refine takeH (i := 15) (d := some 84) (v := undef) rfl rfl (by kernel_rfl) (by kernel_rfl) (by kernel_rfl) (fun _ _ _ h => h) (Or.inr ⟨by kernel_rfl, rfl⟩) hHeld ?_
                try simp only [Act.put, List.setIfInBounds_toArray, List.set_cons_zero, List.set_cons_succ]
                refine takeH (i := 16) (d := some 85) (v := undef) rfl rfl (by kernel_rfl) (by kernel_rfl) (by kernel_rfl) (fun _ _ _ h => h) (Or.inr ⟨by kernel_rfl, rfl⟩) hHeld ?_
                try simp only [Act.put, List.setIfInBounds_toArray, List.set_cons_zero, List.set_cons_succ]
                refine takeH (i := 17) (d := some 86) (v := undef) rfl rfl (by kernel_rfl) (by kernel_rfl) (by kernel_rfl) (fun _ _ _ h => h) (Or.inr ⟨by kernel_rfl, rfl⟩) hHeld ?_
                try simp only [Act.put, List.setIfInBounds_toArray, List.set_cons_zero, List.set_cons_succ]
                refine takeH (i := 18) (d := some 87) (v := undef) rfl rfl (by kernel_rfl) (by kernel_rfl) (by kernel_rfl) (fun _ _ _ h => h) (Or.inr ⟨by kernel_rfl, rfl⟩) hHeld ?_
                try simp only [Act.put, List.setIfInBounds_toArray, List.set_cons_zero, List.set_cons_succ]
                refine takeH (i := 19) (d := some 88) (v := undef) rfl rfl (by kernel_rfl) (by kernel_rfl) (by kernel_rfl) (fun _ _ _ h => h) (Or.inr ⟨by kernel_rfl, rfl⟩) hHeld ?_
                try simp only [Act.put, List.setIfInBounds_toArray, List.set_cons_zero, List.set_cons_succ]
                refine takeH (i := 20) (d := some 89) (v := ?_) rfl rfl (by kernel_rfl) (by kernel_rfl) (by kernel_rfl) (fun _ _ _ h => h) (Or.inl ⟨by kernel_rfl, ?_⟩) hHeld ?_
                rotate_left
                · intro w hSw; (try dsimp only at hSw); go_simp; try with_reducible rfl
                try simp only [Act.put, List.setIfInBounds_toArray, List.set_cons_zero, List.set_cons_succ]
                refine wpAnyH_done (by kernel_rfl) ?_ _
                go_wp2_with fail
                go_ret
                rw [HV.out, HNb.out, ite_self]
                exact ⟨rfl, HK0.out.trans (HK.out.trans (((Kept.refl _ _).alloc _).drew))⟩
              · have hb1 : decide ((eb.toNat : Int) ≤ (pb.toNat : Int)) = false := by simpa using hb
                have HNb := Lib.hid (hbs.trans (decide_eq_false hb))
                obtain ⟨r, hr⟩ : ∃ r, vis A f et m' d' = r := ⟨_, rfl⟩
                have HN2 := Lib.hid (HN.out r hr HNb.out)
                rw [hr] at HCall
                clear hr HN HBad HPrev HBs HB0k hbs
                rcases r with _ | ⟨m2, d2⟩
                · go_wp2_with fail
                  refine wp_region_held_drew (S := fun w' => w'.cell? ⟨w.heap.size, 1, none⟩ = some (Value.slice (some ⟨eg, eo, none⟩) es.length cap1) ∧ w'.cell? ⟨eg, eo + j * 2, none⟩ = some (.int .u8 (pb.toNat : Int)) ∧ w'.cell? ⟨wr.heap.size, 0, none⟩ = some (.int .u8 (eb.toNat : Int)) ∧ w'.cell? ⟨wr.heap.size, 1, none⟩ = some (.int .i64 et)) (by kernel_rfl) ?_ (fun hHeld => ?_)
                  · exact HKp.out _ (Kept.refl _ _)
                  refine takeH (i := 0) (d := some 69) (v := ?_) rfl rfl (by kernel_rfl) (by kernel_rfl) (by kernel_rfl) (fun _ _ _ h => h) (Or.inl ⟨by kernel_rfl, ?_⟩) hHeld ?_
                  rotate_left
                  · intro w hSw; (try dsimp only at hSw); go_simp; try with_reducible rfl
                  try simp only [Act.put, List.setIfInBounds_toArray, List.set_cons_zero, List.set_cons_succ]
                  refine takeH (i := 1) (d := some 70) (v := ?_) rfl rfl (by kernel_rfl) (by kernel_rfl) (by kernel_rfl) (fun _ _ _ h => h) (Or.inl ⟨by kernel_rfl, ?_⟩) hHeld ?_
                  rotate_left
                  · intro w hSw; (try dsimp only at hSw); go_simp; try with_reducible rfl
                  try simp only [Act.put, List.setIfInBounds_toArray, List.set_cons_zero, List.set_cons_succ]
                  refine takeH (i := 2) (d := some 71) (v := ?_) rfl rfl (by kernel_rfl) (by kernel_rfl) (by kernel_rfl) (fun _ _ _ h => h) (Or.inl ⟨by kernel_rfl, ?_⟩) hHeld ?_
                  rotate_left
                  · intro w hSw; (try dsimp only at hSw); go_simp; try with_reducible rfl
                  try simp only [Act.put, List.setIfInBounds_toArray, List.set_cons_zero, List.set_cons_succ]
                  refine takeH (i := 3) (d := some 72) (v := ?_) rfl rfl (by kernel_rfl) (by kernel_rfl) (by kernel_rfl) (fun _ _ _ h => h) (Or.inl ⟨by kernel_rfl, ?_⟩) hHeld ?_
                  rotate_left
                  · intro w hSw; (try dsimp only at hSw); go_simp; try with_reducible rfl
                  try simp only [Act.put, List.setIfInBounds_toArray, List.set_cons_zero, List.set_cons_succ]
                  refine takeH (i := 4) (d := some 73) (v := ?_) rfl rfl (by kernel_rfl) (by kernel_rfl) (by kernel_rfl) (fun _ _ _ h => h) (Or.inl ⟨by kernel_rfl, ?_⟩) hHeld ?_
                  rotate_left
                  · intro w hSw; (try dsimp only at hSw); go_simp; try with_reducible rfl
                  try simp only [Act.put, List.setIfInBounds_toArray, List.set_cons_zero, List.set_cons_succ]
                  refine takeH (i := 5) (d := some 74) (v := ?_) rfl rfl (by kernel_rfl) (by kernel_rfl) (by kernel_rfl) (fun _ _ _ h => h) (Or.inl ⟨by kernel_rfl, ?_⟩) hHeld ?_
                  rotate_left
                  · intro w hSw; (try dsimp only at hSw); go_simp; try with_reducible rfl
                  try simp only [Act.put, List.setIfInBounds_toArray, List.set_cons_zero, List.set_cons_succ]
                  refine takeH (i := 6) (d := some 75) (v := ?_) rfl rfl (by kernel_rfl) (by kernel_rfl) (by kernel_rfl) (fun _ _ _ h => h) (Or.inl ⟨by kernel_rfl, ?_⟩) hHeld ?_
                  rotate_left
                  · intro w hSw; (try dsimp only at hSw); go_simp; try with_reducible rfl
                  try simp only [Act.put, List.setIfInBounds_toArray, List.set_cons_zero, List.set_cons_succ]
                  refine takeH (i := 7) (d := some 76) (v := ?_) rfl rfl (by kernel_rfl) (by kernel_rfl) (by kernel_rfl) (fun _ _ _ h => h) (Or.inl ⟨by kernel_rfl, ?_⟩) hHeld ?_
                  rotate_left
                  · intro w hSw; (try dsimp only at hSw); go_simp; try with_reducible rfl
                  try simp only [Act.put, List.setIfInBounds_toArray, List.set_cons_zero, List.set_cons_succ]
                  refine takeH (i := 8) (d := some 77) (v := ?_) rfl rfl (by kernel_rfl) (by kernel_rfl) (by kernel_rfl) (fun _ _ _ h => h) (Or.inl ⟨by kernel_rfl, ?_⟩) hHeld ?_
                  rotate_left
                  · intro w hSw; (try dsimp only at hSw); go_simp; try with_reducible rfl
                  try simp only [Act.put, List.setIfInBounds_toArray, List.set_cons_zero, List.set_cons_succ]
                  refine takeH (i := 9) (d := some 78) (v := ?_) rfl rfl (by kernel_rfl) (by kernel_rfl) (by kernel_rfl) (fun _ _ _ h => h) (Or.inl ⟨by kernel_rfl, ?_⟩) hHeld ?_
                  rotate_left
                  · intro w hSw; (try dsimp only at hSw); go_simp; try with_reducible rfl
                  try simp only [Act.put, List.setIfInBounds_toArray, List.set_cons_zero, List.set_cons_succ]
                  refine takeH (i := 10) (d := some 79) (v := ?_) rfl rfl (by kernel_rfl) (by kernel_rfl) (by kernel_rfl) (fun _ _ _ h => h) (Or.inl ⟨by kernel_rfl, ?_⟩) hHeld ?_
                  rotate_left
                  · intro w hSw; (try dsimp only at hSw); go_simp; try with_reducible rfl
                  try simp only [Act.put, List.setIfInBounds_toArray, List.set_cons_zero, List.set_cons_succ]
                  refine takeH (i := 11) (d := some 80) (v := ?_) rfl rfl (by kernel_rfl) (by kernel_rfl) (by kernel_rfl) (fun _ _ _ h => h) (Or.inl ⟨by kernel_rfl, ?_⟩) hHeld ?_
                  rotate_left
                  · intro w hSw; (try dsimp only at hSw); go_simp; try with_reducible rfl
                  try simp only [Act.put, List.setIfInBounds_toArray, List.set_cons_zero, List.set_cons_succ]
                  refine takeH (i := 12) (d := some 81) (v := ?_) rfl rfl (by kernel_rfl) (by kernel_rfl) (by kernel_rfl) (fun _ _ _ h => h) (Or.inl ⟨by kernel_rfl, ?_⟩) hHeld ?_
                  rotate_left
                  · intro w hSw; (try dsimp only at hSw); go_simp; try with_reducible rfl
                  try simp only [Act.put, List.setIfInBounds_toArray, List.set_cons_zero, List.set_cons_succ]
                  refine takeH (i := 13) (d := some 82) (v := ?_) rfl rfl (by kernel_rfl) (by kernel_rfl) (by kernel_rfl) (fun _ _ _ h => h) (Or.inl ⟨by kernel_rfl, ?_⟩) hHeld ?_
                  rotate_left
                  · intro w hSw; (try dsimp only at hSw); go_simp; try with_reducible rfl
                  try simp only [Act.put, List.setIfInBounds_toArray, List.set_cons_zero, List.set_cons_succ]
                  refine takeH (i := 14) (d := some 83) (v := ?_) rfl rfl (by kernel_rfl) (by kernel_rfl) (by kernel_rfl) (fun _ _ _ h => h) (Or.inl ⟨by kernel_rfl, ?_⟩) hHeld ?_
                  rotate_left
                  · intro w hSw; (try dsimp only at hSw); go_simp; try with_reducible rfl
                  try simp only [Act.put, List.setIfInBounds_toArray, List.set_cons_zero, List.set_cons_succ]
                  refine takeH (i := 15) (d := some 84) (v := ?_) rfl rfl (by kernel_rfl) (by kernel_rfl) (by kernel_rfl) (fun _ _ _ h => h) (Or.inl ⟨by kernel_rfl, ?_⟩) hHeld ?_
                  rotate_left
                  · intro w hSw; (try dsimp only at hSw); go_simp; try with_reducible rfl
                  try simp only [Act.put, List.setIfInBounds_toArray, List.set_cons_zero, List.set_cons_succ]
                  refine takeH (i := 16) (d := some 85) (v := ?_) rfl rfl (by kernel_rfl) (by kernel_rfl) (by kernel_rfl) (fun _ _ _ h => h) (Or.inl ⟨by kernel_rfl, ?_⟩) hHeld ?_
                  rotate_left
                  · intro w hSw; (try dsimp only at hSw); go_simp; try with_reducible rfl
                  try simp only [Act.put, List.setIfInBounds_toArray, List.set_cons_zero, List.set_cons_succ]
                  refine takeH (i := 17) (d := some 86) (v := ?_) rfl rfl (by kernel_rfl) (by kernel_rfl) (by kernel_rfl) (fun _ _ _ h => h) (Or.inl ⟨by kernel_rfl, ?_⟩) hHeld ?_
                  rotate_left
                  · intro w hSw; (try dsimp only at hSw); go_simp; try with_reducible rfl
                  try simp only [Act.put, List.setIfInBounds_toArray, List.set_cons_zero, List.set_cons_succ]
                  refine wpAnyH_ready (rs := [18]) (by kernel_rfl) (by simp) ?_
                  refine AllReadyH.cons rfl (fun K hK => ?_) AllReadyH.nil
                  go_simp
                  refine (HCall.out _ (((Kept.refl _ _).alloc _).drew)).mono ?_
                  rintro e w' ⟨rfl, hk⟩
                  refine hK.out _ _ ?_ (fun hHeld => ?_)
                  · exact HKp.out w' hk
                  have HKc := Lib.hid hk
                  clear hk
                  clear hK K
                  refine takeH (i := 19) (d := some 88) (v := ?_) rfl rfl (by kernel_rfl) (by kernel_rfl) (by kernel_rfl) (fun _ _ _ h => h) (Or.inl ⟨by kernel_rfl, ?_⟩) hHeld ?_
                  rotate_left
                  · intro w hSw; (try dsimp only at hSw); go_simp; try with_reducible rfl
                  try simp only [Act.put, List.setIfInBounds_toArray, List.set_cons_zero, List.set_cons_succ]
                  refine takeH (i := 20) (d := some 89) (v := ?_) rfl rfl (by kernel_rfl) (by kernel_rfl) (by kernel_rfl) (fun _ _ _ h => h) (Or.inl ⟨by kernel_rfl, ?_⟩) hHeld ?_
                  rotate_left
                  · intro w hSw; (try dsimp only at hSw); go_simp; try with_reducible rfl
                  try simp only [Act.put, List.setIfInBounds_toArray, List.set_cons_zero, List.set_cons_succ]
                  refine wpAnyH_done (by kernel_rfl) ?_ _
                  go_wp2_with fail
                  go_ret
                  rw [HV.out, HN2.out, ite_self]
                  exact ⟨rfl, HK0.out.trans (HK.out.trans ((((Kept.refl _ _).alloc _).drew).trans HKc.out))⟩
                · go_wp2_with fail
                  refine wp_region_held_drew (S := fun w' => w'.cell? ⟨w.heap.size, 1, none⟩ = some (Value.slice (some ⟨eg, eo, none⟩) es.length cap1) ∧ w'.cell? ⟨eg, eo + j * 2, none⟩ = some (.int .u8 (pb.toNat : Int)) ∧ w'.cell? ⟨wr.heap.size, 0, none⟩ = some (.int .u8 (eb.toNat : Int)) ∧ w'.cell? ⟨wr.heap.size, 1, none⟩ = some (.int .i64 et)) (by kernel_rfl) ?_ (fun hHeld => ?_)
                  · exact HKp.out _ (Kept.refl _ _)
                  refine takeH (i := 0) (d := some 69) (v := ?_) rfl rfl (by kernel_rfl) (by kernel_rfl) (by kernel_rfl) (fun _ _ _ h => h) (Or.inl ⟨by kernel_rfl, ?_⟩) hHeld ?_
                  rotate_left
                  · intro w hSw; (try dsimp only at hSw); go_simp; try with_reducible rfl
                  try simp only [Act.put, List.setIfInBounds_toArray, List.set_cons_zero, List.set_cons_succ]
                  refine takeH (i := 1) (d := some 70) (v := ?_) rfl rfl (by kernel_rfl) (by kernel_rfl) (by kernel_rfl) (fun _ _ _ h => h) (Or.inl ⟨by kernel_rfl, ?_⟩) hHeld ?_
                  rotate_left
                  · intro w hSw; (try dsimp only at hSw); go_simp; try with_reducible rfl
                  try simp only [Act.put, List.setIfInBounds_toArray, List.set_cons_zero, List.set_cons_succ]
                  refine takeH (i := 2) (d := some 71) (v := ?_) rfl rfl (by kernel_rfl) (by kernel_rfl) (by kernel_rfl) (fun _ _ _ h => h) (Or.inl ⟨by kernel_rfl, ?_⟩) hHeld ?_
                  rotate_left
                  · intro w hSw; (try dsimp only at hSw); go_simp; try with_reducible rfl
                  try simp only [Act.put, List.setIfInBounds_toArray, List.set_cons_zero, List.set_cons_succ]
                  refine takeH (i := 3) (d := some 72) (v := ?_) rfl rfl (by kernel_rfl) (by kernel_rfl) (by kernel_rfl) (fun _ _ _ h => h) (Or.inl ⟨by kernel_rfl, ?_⟩) hHeld ?_
                  rotate_left
                  · intro w hSw; (try dsimp only at hSw); go_simp; try with_reducible rfl
                  try simp only [Act.put, List.setIfInBounds_toArray, List.set_cons_zero, List.set_cons_succ]
                  refine takeH (i := 4) (d := some 73) (v := ?_) rfl rfl (by kernel_rfl) (by kernel_rfl) (by kernel_rfl) (fun _ _ _ h => h) (Or.inl ⟨by kernel_rfl, ?_⟩) hHeld ?_
                  rotate_left
                  · intro w hSw; (try dsimp only at hSw); go_simp; try with_reducible rfl
                  try simp only [Act.put, List.setIfInBounds_toArray, List.set_cons_zero, List.set_cons_succ]
                  refine takeH (i := 5) (d := some 74) (v := ?_) rfl rfl (by kernel_rfl) (by kernel_rfl) (by kernel_rfl) (fun _ _ _ h => h) (Or.inl ⟨by kernel_rfl, ?_⟩) hHeld ?_
                  rotate_left
                  · intro w hSw; (try dsimp only at hSw); go_simp; try with_reducible rfl
                  try simp only [Act.put, List.setIfInBounds_toArray, List.set_cons_zero, List.set_cons_succ]
                  refine takeH (i := 6) (d := some 75) (v := ?_) rfl rfl (by kernel_rfl) (by kernel_rfl) (by kernel_rfl) (fun _ _ _ h => h) (Or.inl ⟨by kernel_rfl, ?_⟩) hHeld ?_
                  rotate_left
                  · intro w hSw; (try dsimp only at hSw); go_simp; try with_reducible rfl
                  try simp only [Act.put, List.setIfInBounds_toArray, List.set_cons_zero, List.set_cons_succ]
                  refine takeH (i := 7) (d := some 76) (v := ?_) rfl rfl (by kernel_rfl) (by kernel_rfl) (by kernel_rfl) (fun _ _ _ h => h) (Or.inl ⟨by kernel_rfl, ?_⟩) hHeld ?_
                  rotate_left
                  · intro w hSw; (try dsimp only at hSw); go_simp; try with_reducible rfl
                  try simp only [Act.put, List.setIfInBounds_toArray, List.set_cons_zero, List.set_cons_succ]
                  refine takeH (i := 8) (d := some 77) (v := ?_) rfl rfl (by kernel_rfl) (by kernel_rfl) (by kernel_rfl) (fun _ _ _ h => h) (Or.inl ⟨by kernel_rfl, ?_⟩) hHeld ?_
                  rotate_left
                  · intro w hSw; (try dsimp only at hSw); go_simp; try with_reducible rfl
                  try simp only [Act.put, List.setIfInBounds_toArray, List.set_cons_zero, List.set_cons_succ]
                  refine takeH (i := 9) (d := some 78) (v := ?_) rfl rfl (by kernel_rfl) (by kernel_rfl) (by kernel_rfl) (fun _ _ _ h => h) (Or.inl ⟨by kernel_rfl, ?_⟩) hHeld ?_
                  rotate_left
                  · intro w hSw; (try dsimp only at hSw); go_simp; try with_reducible rfl
                  try simp only [Act.put, List.setIfInBounds_toArray, List.set_cons_zero, List.set_cons_succ]
                  refine takeH (i := 10) (d := some 79) (v := ?_) rfl rfl (by kernel_rfl) (by kernel_rfl) (by kernel_rfl) (fun _ _ _ h => h) (Or.inl ⟨by kernel_rfl, ?_⟩) hHeld ?_
                  rotate_left
                  · intro w hSw; (try dsimp only at hSw); go_simp; try with_reducible rfl
                  try simp only [Act.put, List.setIfInBounds_toArray, List.set_cons_zero, List.set_cons_succ]
                  refine takeH (i := 11) (d := some 80) (v := ?_) rfl rfl (by kernel_rfl) (by kernel_rfl) (by kernel_rfl) (fun _ _ _ h => h) (Or.inl ⟨by kernel_rfl, ?_⟩) hHeld ?_
                  rotate_left
                  · intro w hSw; (try dsimp only at hSw); go_simp; try with_reducible rfl
                  try simp only [Act.put, List.setIfInBounds_toArray, List.set_cons_zero, List.set_cons_succ]
                  refine takeH (i := 12) (d := some 81) (v := ?_) rfl rfl (by kernel_rfl) (by kernel_rfl) (by kernel_rfl) (fun _ _ _ h => h) (Or.inl ⟨by kernel_rfl, ?_⟩) hHeld ?_
                  rotate_left
                  · intro w hSw; (try dsimp only at hSw); go_simp; try with_reducible rfl
                  try simp only [Act.put, List.setIfInBounds_toArray, List.set_cons_zero, List.set_cons_succ]
                  refine takeH (i := 13) (d := some 82) (v := ?_) rfl rfl (by kernel_rfl) (by kernel_rfl) (by kernel_rfl) (fun _ _ _ h => h) (Or.inl ⟨by kernel_rfl, ?_⟩) hHeld ?_
                  rotate_left
                  · intro w hSw; (try dsimp only at hSw); go_simp; try with_reducible rfl
                  try simp only [Act.put, List.setIfInBounds_toArray, List.set_cons_zero, List.set_cons_succ]
                  refine takeH (i := 14) (d := some 83) (v := ?_) rfl rfl (by kernel_rfl) (by kernel_rfl) (by kernel_rfl) (fun _ _ _ h => h) (Or.inl ⟨by kernel_rfl, ?_⟩) hHeld ?_
                  rotate_left
                  · intro w hSw; (try dsimp only at hSw); go_simp; try with_reducible rfl
                  try simp only [Act.put, List.setIfInBounds_toArray, List.set_cons_zero, List.set_cons_succ]
                  refine takeH (i := 15) (d := some 84) (v := ?_) rfl rfl (by kernel_rfl) (by kernel_rfl) (by kernel_rfl) (fun _ _ _ h => h) (Or.inl ⟨by kernel_rfl, ?_⟩) hHeld ?_
                  rotate_left
                  · intro w hSw; (try dsimp only at hSw); go_simp; try with_reducible rfl
                  try simp only [Act.put, List.setIfInBounds_toArray, List.set_cons_zero, List.set_cons_succ]
                  refine takeH (i := 16) (d := some 85) (v := ?_) rfl rfl (by kernel_rfl) (by kernel_rfl) (by kernel_rfl) (fun _ _ _ h => h) (Or.inl ⟨by kernel_rfl, ?_⟩) hHeld ?_
                  rotate_left
                  · intro w hSw; (try dsimp only at hSw); go_simp; try with_reducible rfl
                  try simp only [Act.put, List.setIfInBounds_toArray, List.set_cons_zero, List.set_cons_succ]
                  refine takeH (i := 17) (d := some 86) (v := ?_) rfl rfl (by kernel_rfl) (by kernel_rfl) (by kernel_rfl) (fun _ _ _ h => h) (Or.inl ⟨by kernel_rfl, ?_⟩) hHeld ?_
                  rotate_left
                  · intro w hSw; (try dsimp only at hSw); go_simp; try with_reducible rfl
                  try simp only [Act.put, List.setIfInBounds_toArray, List.set_cons_zero, List.set_cons_succ]
                  refine wpAnyH_ready (rs := [18]) (by kernel_rfl) (by simp) ?_
                  refine AllReadyH.cons rfl (fun K hK => ?_) AllReadyH.nil
                  go_simp
                  refine (HCall.out _ (((Kept.refl _ _).alloc _).drew)).mono ?_
                  rintro e w' ⟨rfl, hk, hl, hm1, hm2⟩
                  refine hK.out _ _ ?_ (fun hHeld => ?_)
                  · exact HKp.out w' hk
                  have HKc := Lib.hid hk
                  clear hk
                  have HLc := Lib.hid hl
                  have HMc := Lib.hid (And.intro hm1 hm2)
                  clear hl hm1 hm2
                  clear hK K
                  refine takeH (i := 19) (d := some 88) (v := ?_) rfl rfl (by kernel_rfl) (by kernel_rfl) (by kernel_rfl) (fun _ _ _ h => h) (Or.inl ⟨by kernel_rfl, ?_⟩) hHeld ?_
                  rotate_left
                  · intro w hSw; (try dsimp only at hSw); go_simp; try with_reducible rfl
                  try simp only [Act.put, List.setIfInBounds_toArray, List.set_cons_zero, List.set_cons_succ]
                  refine takeH (i := 20) (d := some 89) (v := ?_) rfl rfl (by kernel_rfl) (by kernel_rfl) (by kernel_rfl) (fun _ _ _ h => h) (Or.inl ⟨by kernel_rfl, ?_⟩) hHeld ?_
                  rotate_left
                  · intro w hSw; (try dsimp only at hSw); go_simp; try with_reducible rfl
                  try simp only [Act.put, List.setIfInBounds_toArray, List.set_cons_zero, List.set_cons_succ]
                  refine wpAnyH_done (by kernel_rfl) ?_ _
                  go_wp2_with fail
                  go_roundw
                  case rel => exact ⟨j + 1 + 1, m2, d2, HLt.out trivial, val_up2 j es.length cap1 HC1.out.1 HC1.out.2 (HLt.out trivial), Lib.hid (by have := HM.out; have := HMc.out; omega), Lib.hid (HK.out.trans ((((Kept.refl _ _).alloc _).drew).trans HKc.out)), HLc, HN2⟩
                  case measure => exact meas_up2 j es.length cap1 HC1.out.1 HC1.out.2 (HLt.out trivial)
            · obtain rfl : k = 0 := by omega
              simp only [Nat.zero_mul, Nat.add_zero] at b0 b1
              have HKp : Hid (∀ W', Kept [lb, sb] (wr.alloc (.cells #[.int .u8 (eb.toNat : Int), .int .i64 et] 55)).drew W' → W'.cell? ⟨wr.heap.size, 1, none⟩ = some (.int .i64 et)) := Lib.hid (fun W' h => by
                have := HLW.out.lt
                have h1 : (wr.alloc (.cells #[.int .u8 (eb.toNat : Int), .int .i64 et] 55)).drew.heap[wr.heap.size]? = some (.cells #[.int .u8 (eb.toNat : Int), .int .i64 et] 55) := heap_alloc_new wr _
                rw [Lib.cell_of_heap (h.at h1 (by simp only [List.mem_cons, List.not_mem_nil, or_false]; omega))]; rfl)
              have HNb := Lib.hid (HB0k.out rfl)
              obtain ⟨r, hr⟩ : ∃ r, vis A f et m' d' = r := ⟨_, rfl⟩
              have HN2 := Lib.hid (HN.out r hr HNb.out)
              rw [hr] at HCall
              clear hr HN HBad HPrev HBs HB0k
              rcases r with _ | ⟨m2, d2⟩
              · go_wp2_with fail
                refine wp_region_held_drew (S := fun w' => w'.cell? ⟨wr.heap.size, 1, none⟩ = some (.int .i64 et)) (by kernel_rfl) ?_ (fun hHeld => ?_)
                · exact HKp.out _ (Kept.refl _ _)
                refine takeH (i := 0) (d := some 69) (v := ?_) rfl rfl (by kernel_rfl) (by kernel_rfl) (by kernel_rfl) (fun _ _ _ h => h) (Or.inl ⟨by kernel_rfl, ?_⟩) hHeld ?_
                rotate_left
                · intro w hSw; (try dsimp only at hSw); go_simp; try with_reducible rfl
                try simp only [Act.put, List.setIfInBounds_toArray, List.set_cons_zero, List.set_cons_succ]
                refine takeH (i := 1) (d := some 70) (v := ?_) rfl rfl (by kernel_rfl) (by kernel_rfl) (by kernel_rfl) (fun _ _ _ h => h) (Or.inl ⟨by kernel_rfl, ?_⟩) hHeld ?_
                rotate_left
                · intro w hSw; (try dsimp only at hSw); go_simp; try with_reducible rfl
                try simp only [Act.put, List.setIfInBounds_toArray, List.set_cons_zero, List.set_cons_succ]
                refine takeH (i := 2) (d := some 71) (v := ?_) rfl rfl (by kernel_rfl) (by kernel_rfl) (by kernel_rfl) (fun _ _ _ h => h) (Or.inl ⟨by kernel_rfl, ?_⟩) hHeld ?_
                rotate_left
                · intro w hSw; (try dsimp only at hSw); go_simp; try with_reducible rfl
                try simp only [Act.put, List.setIfInBounds_toArray, List.set_cons_zero, List.set_cons_succ]
                refine takeH (i := 3) (d := some 72) (v := undef) rfl rfl (by kernel_rfl) (by kernel_rfl) (by kernel_rfl) (fun _ _ _ h => h) (Or.inr ⟨by kernel_rfl, rfl⟩) hHeld ?_
                try simp only [Act.put, List.setIfInBounds_toArray, List.set_cons_zero, List.set_cons_succ]
                refine takeH (i := 4) (d := some 73) (v := undef) rfl rfl (by kernel_rfl) (by kernel_rfl) (by kernel_rfl) (fun _ _ _ h => h) (Or.inr ⟨by kernel_rfl, rfl⟩) hHeld ?_
                try simp only [Act.put, List.setIfInBounds_toArray, List.set_cons_zero, List.set_cons_succ]
                refine takeH (i := 5) (d := some 74) (v := undef) rfl rfl (by kernel_rfl) (by kernel_rfl) (by kernel_rfl) (fun _ _ _ h => h) (Or.inr ⟨by kernel_rfl, rfl⟩) hHeld ?_
                try simp only [Act.put, List.setIfInBounds_toArray, List.set_cons_zero, List.set_cons_succ]
                refine takeH (i := 6) (d := some 75) (v := undef) rfl rfl (by kernel_rfl) (by kernel_rfl) (by kernel_rfl) (fun _ _ _ h => h) (Or.inr ⟨by kernel_rfl, rfl⟩) hHeld ?_
                try simp only [Act.put, List.setIfInBounds_toArray, List.set_cons_zero, List.set_cons_succ]
                refine takeH (i := 7) (d := some 76) (v := undef) rfl rfl (by kernel_rfl) (by kernel_rfl) (by kernel_rfl) (fun _ _ _ h => h) (Or.inr ⟨by kernel_rfl, rfl⟩) hHeld ?_
                try simp only [Act.put, List.setIfInBounds_toArray, List.set_cons_zero, List.set_cons_succ]
                refine takeH (i := 8) (d := some 77) (v := undef) rfl rfl (by kernel_rfl) (by kernel_rfl) (by kernel_rfl) (fun _ _ _ h => h) (Or.inr ⟨by kernel_rfl, rfl⟩) hHeld ?_
                try simp only [Act.put, List.setIfInBounds_toArray, List.set_cons_zero, List.set_cons_succ]
                refine takeH (i := 9) (d := some 78) (v := undef) rfl rfl (by kernel_rfl) (by kernel_rfl) (by kernel_rfl) (fun _ _ _ h => h) (Or.inr ⟨by kernel_rfl, rfl⟩) hHeld ?_
                try simp only [Act.put, List.setIfInBounds_toArray, List.set_cons_zero, List.set_cons_succ]
                refine takeH (i := 10) (d := some 79) (v := undef) rfl rfl (by kernel_rfl) (by kernel_rfl) (by kernel_rfl) (fun _ _ _ h => h) (Or.inr ⟨by kernel_rfl, rfl⟩) hHeld ?_
                try simp only [Act.put, List.setIfInBounds_toArray, List.set_cons_zero, List.set_cons_succ]
                refine takeH (i := 11) (d := some 80) (v := undef) rfl rfl (by kernel_rfl) (by kernel_rfl) (by kernel_rfl) (fun _ _ _ h => h) (Or.inr ⟨by kernel_rfl, rfl⟩) hHeld ?_
                try simp only [Act.put, List.setIfInBounds_toArray, List.set_cons_zero, List.set_cons_succ]
                refine takeH (i := 12) (d := some 81) (v := undef) rfl rfl (by kernel_rfl) (by kernel_rfl) (by kernel_rfl) (fun _ _ _ h => h) (Or.inr ⟨by kernel_rfl, rfl⟩) hHeld ?_
                try simp only [Act.put, List.setIfInBounds_toArray, List.set_cons_zero, List.set_cons_succ]
                refine takeH (i := 13) (d := some 82) (v := ?_) rfl rfl (by kernel_rfl) (by kernel_rfl) (by kernel_rfl) (fun _ _ _ h => h) (Or.inl ⟨by kernel_rfl, ?_⟩) hHeld ?_
                rotate_left
                · intro w hSw; (try dsimp only at hSw); go_simp; try with_reducible rfl
                try simp only [Act.put, List.setIfInBounds_toArray, List.set_cons_zero, List.set_cons_succ]
                refine takeH (i := 14) (d := some 83) (v := ?_) rfl rfl (by kernel_rfl) (by kernel_rfl) (by kernel_rfl) (fun _ _ _ h => h) (Or.inl ⟨by kernel_rfl, ?_⟩) hHeld ?_
                rotate_left
                · intro w hSw; (try dsimp only at hSw); go_simp; try with_reducible rfl
                try simp only [Act.put, List.setIfInBounds_toArray, List.set_cons_zero, List.set_cons_succ]
                refine takeH (i := 15) (d := some 84) (v := ?_) rfl rfl (by kernel_rfl) (by kernel_rfl) (by kernel_rfl) (fun _ _ _ h => h) (Or.inl ⟨by kernel_rfl, ?_⟩) hHeld ?_
                rotate_left
                · intro w hSw; (try dsimp only at hSw); go_simp; try with_reducible rfl
                try simp only [Act.put, List.setIfInBounds_toArray, List.set_cons_zero, List.set_cons_succ]
                refine takeH (i := 16) (d := some 85) (v := ?_) rfl rfl (by kernel_rfl) (by kernel_rfl) (by kernel_rfl) (fun _ _ _ h => h) (Or.inl ⟨by kernel_rfl, ?_⟩) hHeld ?_
                rotate_left
                · intro w hSw; (try dsimp only at hSw); go_simp; try with_reducible rfl
                try simp only [Act.put, List.setIfInBounds_toArray, List.set_cons_zero, List.set_cons_succ]
                refine takeH (i := 17) (d := some 86) (v := ?_) rfl rfl (by kernel_rfl) (by kernel_rfl) (by kernel_rfl) (fun _ _ _ h => h) (Or.inl ⟨by kernel_rfl, ?_⟩) hHeld ?_
                rotate_left
                · intro w hSw; (try dsimp only at hSw); go_simp; try with_reducible rfl
                try simp only [Act.put, List.setIfInBounds_toArray, List.set_cons_zero, List.set_cons_succ]
                refine wpAnyH_ready (rs := [18]) (by kernel_rfl) (by simp) ?_
                refine AllReadyH.cons rfl (fun K hK => ?_) AllReadyH.nil
                go_simp
                refine (HCall.out _ (((Kept.refl _ _).alloc _).drew)).mono ?_
                rintro e w' ⟨rfl, hk⟩
                refine hK.out _ _ ?_ (fun hHeld => ?_)
                · exact HKp.out w' hk
                have HKc := Lib.hid hk
                clear hk
                clear hK K
                refine takeH (i := 19) (d := some 88) (v := ?_) rfl rfl (by kernel_rfl) (by kernel_rfl) (by kernel_rfl) (fun _ _ _ h => h) (Or.inl ⟨by kernel_rfl, ?_⟩) hHeld ?_
                rotate_left
                · intro w hSw; (try dsimp only at hSw); go_simp; try with_reducible rfl
                try simp only [Act.put, List.setIfInBounds_toArray, List.set_cons_zero, List.set_cons_succ]
                refine takeH (i := 20) (d := some 89) (v := ?_) rfl rfl (by kernel_rfl) (by kernel_rfl) (by kernel_rfl) (fun _ _ _ h => h) (Or.inl ⟨by kernel_rfl, ?_⟩) hHeld ?_
                rotate_left
                · intro w hSw; (try dsimp only at hSw); go_simp; try with_reducible rfl
                try simp only [Act.put, List.setIfInBounds_toArray, List.set_cons_zero, List.set_cons_succ]
                refine wpAnyH_done (by kernel_rfl) ?_ _
                go_wp2_with fail
                go_ret
                rw [HV.out, HN2.out, ite_self]
                exact ⟨rfl, HK0.out.trans (HK.out.trans ((((Kept.refl _ _).alloc _).drew).trans HKc.out))⟩
              · go_wp2_with fail
                refine wp_region_held_drew (S := fun w' => w'.cell? ⟨wr.heap.size, 1, none⟩ = some (.int .i64 et)) (by kernel_rfl) ?_ (fun hHeld => ?_)
                · exact HKp.out _ (Kept.refl _ _)
                refine takeH (i := 0) (d := some 69) (v := ?_) rfl rfl (by kernel_rfl) (by kernel_rfl) (by kernel_rfl) (fun _ _ _ h => h) (Or.inl ⟨by kernel_rfl, ?_⟩) hHeld ?_
                rotate_left
                · intro w hSw; (try dsimp only at hSw); go_simp; try with_reducible rfl
                try simp only [Act.put, List.setIfInBounds_toArray, List.set_cons_zero, List.set_cons_succ]
                refine takeH (i := 1) (d := some 70) (v := ?_) rfl rfl (by kernel_rfl) (by kernel_rfl) (by kernel_rfl) (fun _ _ _ h => h) (Or.inl ⟨by kernel_rfl, ?_⟩) hHeld ?_
                rotate_left
                · intro w hSw; (try dsimp only at hSw); go_simp; try with_reducible rfl
                try simp only [Act.put, List.setIfInBounds_toArray, List.set_cons_zero, List.set_cons_succ]
                refine takeH (i := 2) (d := some 71) (v := ?_) rfl rfl (by kernel_rfl) (by kernel_rfl) (by kernel_rfl) (fun _ _ _ h => h) (Or.inl ⟨by kernel_rfl, ?_⟩) hHeld ?_
                rotate_left
                · intro w hSw; (try dsimp only at hSw); go_simp; try with_reducible rfl
                try simp only [Act.put, List.setIfInBounds_toArray, List.set_cons_zero, List.set_cons_succ]
                refine takeH (i := 3) (d := some 72) (v := undef) rfl rfl (by kernel_rfl) (by kernel_rfl) (by kernel_rfl) (fun _ _ _ h => h) (Or.inr ⟨by kernel_rfl, rfl⟩) hHeld ?_
                try simp only [Act.put, List.setIfInBounds_toArray, List.set_cons_zero, List.set_cons_succ]
                refine takeH (i := 4) (d := some 73) (v := undef) rfl rfl (by kernel_rfl) (by kernel_rfl) (by kernel_rfl) (fun _ _ _ h => h) (Or.inr ⟨by kernel_rfl, rfl⟩) hHeld ?_
                try simp only [Act.put, List.setIfInBounds_toArray, List.set_cons_zero, List.set_cons_succ]
                refine takeH (i := 5) (d := some 74) (v := undef) rfl rfl (by kernel_rfl) (by kernel_rfl) (by kernel_rfl) (fun _ _ _ h => h) (Or.inr ⟨by kernel_rfl, rfl⟩) hHeld ?_
                try simp only [Act.put, List.setIfInBounds_toArray, List.set_cons_zero, List.set_cons_succ]
                refine takeH (i := 6) (d := some 75) (v := undef) rfl rfl (by kernel_rfl) (by kernel_rfl) (by kernel_rfl) (fun _ _ _ h => h) (Or.inr ⟨by kernel_rfl, rfl⟩) hHeld ?_
                try simp only [Act.put, List.setIfInBounds_toArray, List.set_cons_zero, List.set_cons_succ]
                refine takeH (i := 7) (d := some 76) (v := undef) rfl rfl (by kernel_rfl) (by kernel_rfl) (by kernel_rfl) (fun _ _ _ h => h) (Or.inr ⟨by kernel_rfl, rfl⟩) hHeld ?_
                try simp only [Act.put, List.setIfInBounds_toArray, List.set_cons_zero, List.set_cons_succ]
                refine takeH (i := 8) (d := some 77) (v := undef) rfl rfl (by kernel_rfl) (by kernel_rfl) (by kernel_rfl) (fun _ _ _ h => h) (Or.inr ⟨by kernel_rfl, rfl⟩) hHeld ?_
                try simp only [Act.put, List.setIfInBounds_toArray, List.set_cons_zero, List.set_cons_succ]
                refine takeH (i := 9) (d := some 78) (v := undef) rfl rfl (by kernel_rfl) (by kernel_rfl) (by kernel_rfl) (fun _ _ _ h => h) (Or.inr ⟨by kernel_rfl, rfl⟩) hHeld ?_
                try simp only [Act.put, List.setIfInBounds_toArray, List.set_cons_zero, List.set_cons_succ]
                refine takeH (i := 10) (d := some 79) (v := undef) rfl rfl (by kernel_rfl) (by kernel_rfl) (by kernel_rfl) (fun _ _ _ h => h) (Or.inr ⟨by kernel_rfl, rfl⟩) hHeld ?_
                try simp only [Act.put, List.setIfInBounds_toArray, List.set_cons_zero, List.set_cons_succ]
                refine takeH (i := 11) (d := some 80) (v := undef) rfl rfl (by kernel_rfl) (by kernel_rfl) (by kernel_rfl) (fun _ _ _ h => h) (Or.inr ⟨by kernel_rfl, rfl⟩) hHeld ?_
                try simp only [Act.put, List.setIfInBounds_toArray, List.set_cons_zero, List.set_cons_succ]
                refine takeH (i := 12) (d := some 81) (v := undef) rfl rfl (by kernel_rfl) (by kernel_rfl) (by kernel_rfl) (fun _ _ _ h => h) (Or.inr ⟨by kernel_rfl, rfl⟩) hHeld ?_
                try simp only [Act.put, List.setIfInBounds_toArray, List.set_cons_zero, List.set_cons_succ]
                refine takeH (i := 13) (d := some 82) (v := ?_) rfl rfl (by kernel_rfl) (by kernel_rfl) (by kernel_rfl) (fun _ _ _ h => h) (Or.inl ⟨by kernel_rfl, ?_⟩) hHeld ?_
                rotate_left
                · intro w hSw; (try dsimp only at hSw); go_simp; try with_reducible rfl
                try simp only [Act.put, List.setIfInBounds_toArray, List.set_cons_zero, List.set_cons_succ]
                refine takeH (i := 14) (d := some 83) (v := ?_) rfl rfl (by kernel_rfl) (by kernel_rfl) (by kernel_rfl) (fun _ _ _ h => h) (Or.inl ⟨by kernel_rfl, ?_⟩) hHeld ?_
                rotate_left
                · intro w hSw; (try dsimp only at hSw); go_simp; try with_reducible rfl
                try simp only [Act.put, List.setIfInBounds_toArray, List.set_cons_zero, List.set_cons_succ]
                refine takeH (i := 15) (d := some 84) (v := ?_) rfl rfl (by kernel_rfl) (by kernel_rfl) (by kernel_rfl) (fun _ _ _ h => h) (Or.inl ⟨by kernel_rfl, ?_⟩) hHeld ?_
                rotate_left
                · intro w hSw; (try dsimp only at hSw); go_simp; try with_reducible rfl
                try simp only [Act.put, List.setIfInBounds_toArray, List.set_cons_zero, List.set_cons_succ]
                refine takeH (i := 16) (d := some 85) (v := ?_) rfl rfl (by kernel_rfl) (by kernel_rfl) (by kernel_rfl) (fun _ _ _ h => h) (Or.inl ⟨by kernel_rfl, ?_⟩) hHeld ?_
                rotate_left
                · intro w hSw; (try dsimp only at hSw); go_simp; try with_reducible rfl
                try simp only [Act.put, List.setIfInBounds_toArray, List.set_cons_zero, List.set_cons_succ]
                refine takeH (i := 17) (d := some 86) (v := ?_) rfl rfl (by kernel_rfl) (by kernel_rfl) (by kernel_rfl) (fun _ _ _ h => h) (Or.inl ⟨by kernel_rfl, ?_⟩) hHeld ?_
                rotate_left
                · intro w hSw; (try dsimp only at hSw); go_simp; try with_reducible rfl
                try simp only [Act.put, List.setIfInBounds_toArray, List.set_cons_zero, List.set_cons_succ]
                refine wpAnyH_ready (rs := [18]) (by kernel_rfl) (by simp) ?_
                refine AllReadyH.cons rfl (fun K hK => ?_) AllReadyH.nil
                go_simp
                refine (HCall.out _ (((Kept.refl _ _).alloc _).drew)).mono ?_
                rintro e w' ⟨rfl, hk, hl, hm1, hm2⟩
                refine hK.out _ _ ?_ (fun hHeld => ?_)
                · exact HKp.out w' hk
                have HKc := Lib.hid hk
                clear hk
                have HLc := Lib.hid hl
                have HMc := Lib.hid (And.intro hm1 hm2)
                clear hl hm1 hm2
                clear hK K
                refine takeH (i := 19) (d := some 88) (v := ?_) rfl rfl (by kernel_rfl) (by kernel_rfl) (by kernel_rfl) (fun _ _ _ h => h) (Or.inl ⟨by kernel_rfl, ?_⟩) hHeld ?_
                rotate_left
                · intro w hSw; (try dsimp only at hSw); go_simp; try with_reducible rfl
                try simp only [Act.put, List.setIfInBounds_toArray, List.set_cons_zero, List.set_cons_succ]
                refine takeH (i := 20) (d := some 89) (v := ?_) rfl rfl (by kernel_rfl) (by kernel_rfl) (by kernel_rfl) (fun _ _ _ h => h) (Or.inl ⟨by kernel_rfl, ?_⟩) hHeld ?_
                rotate_left
                · intro w hSw; (try dsimp only at hSw); go_simp; try with_reducible rfl
                try simp only [Act.put, List.setIfInBounds_toArray, List.set_cons_zero, List.set_cons_succ]
                refine wpAnyH_done (by kernel_rfl) ?_ _
                go_wp2_with fail
                go_roundw
                case rel => exact ⟨0 + 1, m2, d2, by omega, by go_num, Lib.hid (by have := HM.out; have := HMc.out; omega), Lib.hid (HK.out.trans ((((Kept.refl _ _).alloc _).drew).trans HKc.out)), HLc, HN2⟩
                case measure => simp [intOf]; omega
          · obtain rfl : k = es.length := by omega
            have HVe : Hid (visEs (vis A f) none es (m + 1) (updD d m false) = some (m', d')) := Lib.hid (by rw [HVs.out, List.drop_length]; rfl)
            have hlt1 := HLW.out.lt
            have hlt2 := HL.out.lt
            have hwr := HK.out.at HB0.out (by simp only [List.mem_cons, List.not_mem_nil, or_false]; omega)
            have t0 : wr.cell? ⟨w.heap.size, 0, none⟩ = some (Value.bool fin) := by rw [Lib.cell_of_heap hwr]; rfl
            have t1 : wr.cell? ⟨w.heap.size, 1, none⟩ = some (Value.slice Ex es.length cap1) := by rw [Lib.cell_of_heap hwr]; rfl
            obtain ⟨capw, c0, c1, c2, f1⟩ := HLW.out.head
            obtain ⟨sx, cs0, _, fs0⟩ := HLW.out.at_ m hmN
            have HSt := Lib.hid (HLW.out.setSt m 2 true (by simp))
            have hne1 : w.heap.size ≠ sb := by omega
            have hne2 : sb ≠ w.heap.size := by omega
            have hres : (0 < es.length ∧ Hid (vis A (f + 1) (m : Int) m d = some (m', updD d' m true))) ∨ (es = [] ∧ fin = true ∧ Hid (vis A (f + 1) (m : Int) m d = some (m', updD d' m true))) ∨ (es = [] ∧ fin = false ∧ ((A.length : Int) == 1) = true ∧ Hid (vis A (f + 1) (m : Int) m d = some (m', updD d' m true))) ∨ (es = [] ∧ fin = false ∧ ((A.length : Int) == 1) = false ∧ Hid (vis A (f + 1) (m : Int) m d = none)) := by
              rw [HV.out, HVe.out]
              by_cases h1 : es = []
              · subst h1
                cases fin
                · cases h2 : ((A.length : Int) == 1)
                  · exact .inr (.inr (.inr ⟨rfl, rfl, rfl, Lib.hid (if_pos ⟨rfl, rfl, fun e => by rw [e] at h2; cases h2⟩)⟩))
                  · exact .inr (.inr (.inl ⟨rfl, rfl, rfl, Lib.hid (if_neg (fun h => h.2.2 (by have := beq_iff_eq.1 h2; omega)))⟩))
                · exact .inr (.inl ⟨rfl, rfl, Lib.hid (if_neg (fun h => by cases h.2.1))⟩)
              · exact .inl ⟨List.length_pos_iff.2 h1, Lib.hid (if_neg (fun h => h1 (List.length_eq_zero_iff.1 h.1)))⟩
            clear hlt1 hlt2 hwr HIH HV HVs HVe
            rcases hres with ⟨q1, HR⟩ | ⟨q1, rfl, HR⟩ | ⟨q1, rfl, q3, HR⟩ | ⟨q1, rfl, q3, HR⟩
            · go_wp2_with fail
              go_ret
              rw [HR.out]
              exact ⟨by simp [q1], (HK0.out.trans HK.out).set _ _ _ (.inl (by simp)), HSt.out, by have := HM.out; omega, HM.out.2⟩
            all_goals subst q1
            · go_wp2_with fail
              go_ret
              rw [HR.out]
              exact ⟨rfl, (HK0.out.trans HK.out).set _ _ _ (.inl (by simp)), HSt.out, by have := HM.out; omega, HM.out.2⟩
            · go_wp2_with fail
              go_ret
              rw [HR.out]
              exact ⟨rfl, (HK0.out.trans HK.out).set _ _ _ (.inl (by simp)), HSt.out, by have := HM.out; omega, HM.out.2⟩
            · go_wp2_with fail
              go_ret
              rw [HR.out]
              exact ⟨rfl, (HK0.out.trans HK.out).set _ _ _ (.inl (by simp))⟩
      · have HV : Hid (vis A (f + 1) (m : Int) m d = none) := Lib.hid (by
          rw [vis, if_neg (by simp), List.getElem?_eq_none (by omega)])
        obtain ⟨Ax, cap0, rfl, hc0, hA0⟩ := hA
        clear hL hA0
        go_enter Try.func44, Try.ntmps44
        go_wp2_with fail
        go_ret
        rw [HV.out]
        exact ⟨rfl, Kept.refl _ _⟩
    · have hne : (n != (m : Int)) = true := by simpa using hnm
      by_cases h0 : 0 ≤ n
      · obtain ⟨k, rfl⟩ : ∃ k : Nat, n = (k : Int) := ⟨n.toNat, by omega⟩
        by_cases hk : k < m
        · obtain ⟨x, cx, hx, _⟩ := hL.at_ k (by omega)
          have HX := Lib.hid hx
          have HV : Hid (vis A (f + 1) (k : Int) m d = if d k = true then some (m, d) else none) := Lib.hid (by
            rw [vis, if_pos hnm]
            by_cases e : d k = true
            · rw [if_pos ⟨h0, by omega, by simpa using e⟩, if_pos e]
            · rw [if_neg (fun h => e (by simpa using h.2.2)), if_neg e])
          clear hL hA hx
          by_cases hx2 : (x == 2) = true
          all_goals
            go_enter Try.func44, Try.ntmps44
            go_wp2_with fail
            go_ret
            rw [HV.out]
            first
              | (rw [if_pos (HX.out.1 (by simpa using hx2))]; exact ⟨by simp [hx2], Kept.refl _ _, HL.out, Nat.le_refl _, hm⟩)
              | (rw [if_neg (fun e => hx2 (by simpa using HX.out.2 e))]; exact ⟨by simp at hx2; simp [hx2], Kept.refl _ _⟩)
        · have HV : Hid (vis A (f + 1) (k : Int) m d = none) := Lib.hid (by
            rw [vis, if_pos hnm, if_neg (fun h => hk (by omega))])
          clear hL hA
          go_enter Try.func44, Try.ntmps44
          go_wp2_with fail
          go_ret
          rw [HV.out]
          exact ⟨rfl, Kept.refl _ _⟩
      · have HV : Hid (vis A (f + 1) n m d = none) := Lib.hid (by
          rw [vis, if_pos hnm, if_neg (fun h => h0 h.1)])
        clear hL hA
        go_enter Try.func44, Try.ntmps44
        go_wp2_with fail
        go_ret
        rw [HV.out]
        exact ⟨rfl, Kept.refl _ _⟩
end Go.Proofs.Ytehbjfjhalpgaaa
