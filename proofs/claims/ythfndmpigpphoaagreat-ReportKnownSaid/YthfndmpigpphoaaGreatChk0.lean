/-
  An automaton in its one shape: from each state all ways end; its edges rise. The way of a text along it: the plain laws.
-/
import Derived.Test.YthfndmpigpphoaaGreatRows
import Derived.Test.YthfndmpigpphoaaGreatKH
import Derived.Test.YthfndmpigpphoaaGreatCasesP
namespace Go.Proofs.YthfndmpigpphoaaGreat
open Go.RowKit

/-- The state n stands, its edges rise, and no way on from it is longer than h. -/
def Low (A : List St) : Nat → Int → Prop
  | 0, _ => False
  | h + 1, n => 0 ≤ n ∧ ∃ x, A[n.toNat]? = some x ∧ x.2.Pairwise (fun a b => a.1.toNat < b.1.toNat) ∧ ∀ e ∈ x.2, Low A h e.2
theorem Low.mono {A : List St} : ∀ {h k : Nat} {n : Int}, Low A h n → h ≤ k → Low A k n
  | 0, _, _, h, _ => by cases h
  | h + 1, 0, _, _, hk => by omega
  | h + 1, k + 1, n, ⟨h0, x, h1, h2, h3⟩, hk => ⟨h0, x, h1, h2, fun e he => (h3 e he).mono (by omega)⟩
theorem Low.nn {A : List St} {h : Nat} {n : Int} (k : Low A h n) : 0 ≤ n := by cases h with
  | zero => cases k
  | succ h => exact k.1
theorem Low.lt {A : List St} {h : Nat} {n : Int} (k : Low A h n) : n.toNat < A.length := by cases h with
  | zero => cases k
  | succ h => obtain ⟨_, x, hx, _⟩ := k; exact (List.getElem?_eq_some_iff.1 hx).1

theorem visEs_some {rec : Int → Nat → Dn → Option (Nat × Dn)} {prev : Option UInt8} {e : Ed} {es : List Ed} {m : Nat} {d : Dn} {r : Nat × Dn} (h : visEs rec prev (e :: es) m d = some r) :
    (∀ p, prev = some p → p.toNat < e.1.toNat) ∧ ∃ m1 d1, rec e.2 m d = some (m1, d1) ∧ visEs rec (some e.1) es m1 d1 = some r := by
  rw [visEs_cons] at h
  cases prev with
  | none =>
    simp only [Bool.false_eq_true, if_false] at h
    cases hr : rec e.2 m d with
    | none => rw [hr] at h; cases h
    | some q =>
      obtain ⟨m1, d1⟩ := q
      rw [hr] at h
      exact ⟨(fun p hp => by cases hp), m1, d1, rfl, h⟩
  | some p =>
    simp only at h
    split at h
    · cases h
    · rename_i hp
      cases hr : rec e.2 m d with
      | none => rw [hr] at h; cases h
      | some q =>
        obtain ⟨m1, d1⟩ := q
        rw [hr] at h
        refine ⟨fun p' hp' => ?_, m1, d1, rfl, h⟩
        injection hp' with hp'
        subst hp'
        simpa using hp
theorem visEs_low {A : List St} {rec : Int → Nat → Dn → Option (Nat × Dn)}
    (hrec : ∀ n m d m' d' c, rec n m d = some (m', d') → (∀ k : Nat, d k = true → Low A c (k : Int)) → m ≤ m' ∧ (∀ k : Nat, d' k = true → Low A (c + (m' - m)) (k : Int)) ∧ Low A (c + (m' - m)) n) :
    ∀ (es : List Ed) (prev : Option UInt8) (m : Nat) (d : Dn) (m' : Nat) (d' : Dn) (c : Nat), visEs rec prev es m d = some (m', d') → (∀ k : Nat, d k = true → Low A c (k : Int)) →
      m ≤ m' ∧ (∀ k : Nat, d' k = true → Low A (c + (m' - m)) (k : Int)) ∧ (∀ e ∈ es, Low A (c + (m' - m)) e.2) ∧ es.Pairwise (fun a b => a.1.toNat < b.1.toNat) ∧ ∀ p, prev = some p → ∀ e ∈ es, p.toNat < e.1.toNat
  | [], prev, m, d, m', d', c, h, hd => by
    rw [visEs] at h
    injection h with h
    injection h with h1 h2
    subst h1 h2
    exact ⟨Nat.le_refl _, fun k hk => (hd k hk).mono (by omega), (fun e he => by cases he), List.Pairwise.nil, fun p _ e he => by cases he⟩
  | e :: es, prev, m, d, m', d', c, h, hd => by
    obtain ⟨hp, m1, d1, hr, h⟩ := visEs_some h
    obtain ⟨g1, g2, g3⟩ := hrec _ _ _ _ _ c hr hd
    obtain ⟨k1, k2, k3, k4, k5⟩ := visEs_low hrec es (some e.1) m1 d1 m' d' _ h g2
    refine ⟨by omega, fun k hk => (k2 k hk).mono (by omega), fun x hx => ?_, ?_, fun p hpe x hx => ?_⟩
    · rcases List.mem_cons.1 hx with rfl | hx
      · exact g3.mono (by omega)
      · exact (k3 x hx).mono (by omega)
    · exact List.Pairwise.cons (fun x hx => k5 _ rfl x hx) k4
    · subst hpe
      have hp' : p.toNat < e.1.toNat := hp p rfl
      rcases List.mem_cons.1 hx with rfl | hx
      · exact hp'
      · exact Nat.lt_trans hp' (k5 _ rfl x hx)
theorem vis_low {A : List St} : ∀ (f : Nat) (n : Int) (m : Nat) (d : Dn) (m' : Nat) (d' : Dn) (c : Nat), vis A f n m d = some (m', d') → (∀ k : Nat, d k = true → Low A c (k : Int)) →
    m ≤ m' ∧ (∀ k : Nat, d' k = true → Low A (c + (m' - m)) (k : Int)) ∧ Low A (c + (m' - m)) n
  | 0, n, m, d, m', d', c, h, hd => by rw [vis] at h; cases h
  | f + 1, n, m, d, m', d', c, h, hd => by
    rw [vis] at h
    split at h
    · split at h
      · rename_i hq
        injection h with h
        injection h with h1 h2
        subst h1 h2
        refine ⟨Nat.le_refl _, fun k hk => (hd k hk).mono (by omega), ?_⟩
        have := hd _ hq.2.2
        rw [Int.toNat_of_nonneg hq.1] at this
        exact this.mono (by omega)
      · cases h
    · rename_i hn
      have hn : n = (m : Int) := by simpa using hn
      split at h
      · cases h
      · rename_i x hx
        split at h
        · cases h
        · split at h
          · cases h
          · rename_i m1 d1 hv
            injection h with h
            injection h with h1 h2
            subst h1 h2
            obtain ⟨k1, k2, k3, k4, _⟩ := visEs_low (fun n m d m' d' c => vis_low f n m d m' d' c) x.2 none (m + 1) (updD d m false) m1 d1 c hv (fun k hk => by
              unfold updD at hk
              split at hk
              · cases hk
              · exact hd k hk)
            have hlow : Low A (c + (m1 - m)) (m : Int) := by
              have e : c + (m1 - m) = (c + (m1 - (m + 1))) + 1 := by omega
              rw [e]
              exact ⟨by omega, x, by simpa using hx, k4, k3⟩
            refine ⟨by omega, fun k hk => ?_, by rw [hn]; exact hlow⟩
            unfold updD at hk
            split at hk
            · rename_i hkm
              rw [hkm]; exact hlow
            · exact (k2 k hk).mono (by omega)
theorem shape_low {A : List St} (h : shapeB A = true) : Low A A.length 0 ∧ 0 < A.length ∧ A.length ≤ 1048576 := by
  unfold shapeB at h
  rw [Bool.and_eq_true, Bool.and_eq_true] at h
  obtain ⟨⟨h1, h2⟩, h3⟩ := h
  refine ⟨?_, of_decide_eq_true h1, of_decide_eq_true h2⟩
  split at h3
  · cases h3
  · rename_i m d hv
    have hm : m = A.length := of_decide_eq_true h3
    subst hm
    have := (vis_low _ _ _ _ _ _ 0 hv (fun k hk => by cases hk)).2.2
    simpa using this

/-- The state behind a byte. -/
def stepE (es : List Ed) (b : UInt8) : Option Int := (es.find? (fun e => e.1 == b)).map (·.2)
/-- The state behind a text, from the state n on. -/
def alongGo (A : List St) : Int → List UInt8 → Option Int
  | n, [] => some n
  | n, b :: l => match stepE (A.getD n.toNat (false, [])).2 b with
    | none => none
    | some t => alongGo A t l
def finB (A : List St) (n : Int) : Bool := (A.getD n.toNat (false, [])).1
/-- Is the text accepted? -/
def accB (A : List St) (l : List UInt8) : Bool := match alongGo A 0 l with | none => false | some n => finB A n
theorem stepE_mem {es : List Ed} {b : UInt8} {t : Int} (h : stepE es b = some t) : ∃ e ∈ es, e.2 = t ∧ e.1 = b := by
  unfold stepE at h
  cases hf : es.find? (fun e => e.1 == b) with
  | none => rw [hf] at h; cases h
  | some e =>
    rw [hf] at h
    simp at h
    exact ⟨e, List.mem_of_find?_eq_some hf, h, by simpa using List.find?_some hf⟩
theorem Low.step {A : List St} {h : Nat} {n t : Int} {b : UInt8} (k : Low A (h + 1) n) (hs : stepE (A.getD n.toNat (false, [])).2 b = some t) : Low A h t := by
  obtain ⟨_, x, hx, _, h3⟩ := k
  have e : A.getD n.toNat (false, []) = x := by simp [List.getD, hx]
  rw [e] at hs
  obtain ⟨e, he, rfl, _⟩ := stepE_mem hs
  exact h3 e he
theorem alongGo_append (A : List St) : ∀ (l : List UInt8) (n : Int) (m : List UInt8), alongGo A n (l ++ m) = (alongGo A n l).bind (fun k => alongGo A k m)
  | [], n, m => rfl
  | b :: l, n, m => by
    rw [List.cons_append, alongGo, alongGo]
    split
    · rfl
    · exact alongGo_append A l _ m
theorem stepE_hit {es : List Ed} {b : UInt8} {k : Nat} (hk : k < es.length) (hb : es[k].1 = b) (hne : ∀ j, (hj : j < k) → (es[j]'(by omega)).1 ≠ b) : stepE es b = some es[k].2 := by
  have : es.find? (fun e => e.1 == b) = some es[k] := by
    rw [List.find?_eq_some_iff_getElem]
    exact ⟨by simp [hb], k, hk, rfl, fun j hj => by simpa using hne j hj⟩
  unfold stepE; rw [this]; rfl
theorem stepE_miss {es : List Ed} {b : UInt8} (hne : ∀ j, (hj : j < es.length) → es[j].1 ≠ b) : stepE es b = none := by
  have : es.find? (fun e => e.1 == b) = none := by
    rw [List.find?_eq_none]
    intro x hx
    obtain ⟨j, hj, rfl⟩ := List.getElem_of_mem hx
    simpa using hne j hj
  unfold stepE; rw [this]; rfl
/-- Which form of a word is found: P tells whether a text is a word, Q whether it must stand as it is. -/
def chkGo (P Q : ByteArray → Bool) : Bool → List ByteArray → Option ByteArray
  | _, [] => none
  | first, f :: fs => if P f && (first || !Q f) then some f else chkGo P Q false fs
def accS (A : List St) (s : ByteArray) : Bool := accB A s.data.toList
def chkB (P Q : ByteArray → Bool) (w : ByteArray) : Option ByteArray := chkGo P Q true (formsOf w)
theorem chkGo_none (Q : ByteArray → Bool) : ∀ (b : Bool) (l : List ByteArray), chkGo (fun _ => false) Q b l = none
  | _, [] => rfl
  | b, f :: l => by rw [chkGo]; simp [chkGo_none Q false l]
/-- What Check answers. -/
def chkV : Option ByteArray → Value
  | some f => .tuple #[.string f, .bool true]
  | none => .tuple #[.string ⟨#[]⟩, .bool false]
end Go.Proofs.YthfndmpigpphoaaGreat
