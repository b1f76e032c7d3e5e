/-
  Joined words: the plain law of the fewest pieces.
-/
import Derived.Test.YthfndmpigpphoaaGreatRows
import Derived.Test.YthfndmpigpphoaaGreatChk0
namespace Go.Proofs.YthfndmpigpphoaaGreat
open Go.RowKit

/-- The ends of the pieces that begin at the place i: from the state q and the place m on. -/
def pcs (A : List St) (least : Int) (i : Nat) : Int → Nat → List UInt8 → List Nat
  | _, _, [] => []
  | q, m, b :: l => match stepE (A.getD q.toNat (false, [])).2 b with
    | none => []
    | some t => (if finB A t && decide (least ≤ ((m + 1 : Nat) : Int) - i) then [m + 1] else []) ++ pcs A least i t (m + 1) l
def endsOf (A : List St) (least : Int) (L : List UInt8) (i : Nat) : List Nat := pcs A least i 0 i (L.drop i)
theorem pcs_bd {A : List St} {least : Int} {i : Nat} : ∀ {l : List UInt8} {q : Int} {m k : Nat}, k ∈ pcs A least i q m l → m < k ∧ k ≤ m + l.length
  | [], q, m, k, h => by rw [pcs] at h; cases h
  | b :: l, q, m, k, h => by
    rw [pcs] at h
    split at h
    · cases h
    · rename_i t _
      rcases List.mem_append.1 h with h | h
      · split at h
        · have : k = m + 1 := by simpa using h
          rw [List.length_cons]; omega
        · cases h
      · have := pcs_bd h
        rw [List.length_cons]; omega
theorem endsOf_bd {A : List St} {least : Int} {L : List UInt8} {i k : Nat} (hi : i ≤ L.length) (h : k ∈ endsOf A least L i) : i < k ∧ k ≤ L.length := by
  have := pcs_bd h
  rw [List.length_drop] at this
  omega

/-- May the piece from i to k be taken? -/
def okK (n i : Nat) (f : Nat → Nat) (k : Nat) : Prop := ¬ ((k < n ∧ f k = 0) ∨ (i = 0 ∧ k = n))
instance (n i : Nat) (f : Nat → Nat) (k : Nat) : Decidable (okK n i f k) := by unfold okK; infer_instance
def stepK (n i : Nat) (f : Nat → Nat) (a k : Nat) : Nat := if okK n i f k then (if a = 0 ∨ f k + 1 ≤ a then f k + 1 else a) else a
/-- The fewest pieces from i on; 0: none. -/
def fewK (n i : Nat) (f : Nat → Nat) (ks : List Nat) : Nat := ks.foldl (stepK n i f) 0
theorem foldK {n i : Nat} {f : Nat → Nat} : ∀ (ks : List Nat) (a : Nat),
    (ks.foldl (stepK n i f) a = a ∨ ∃ k ∈ ks, okK n i f k ∧ f k + 1 = ks.foldl (stepK n i f) a) ∧
    (a ≠ 0 → ks.foldl (stepK n i f) a ≠ 0 ∧ ks.foldl (stepK n i f) a ≤ a) ∧ ∀ k ∈ ks, okK n i f k → ks.foldl (stepK n i f) a ≠ 0 ∧ ks.foldl (stepK n i f) a ≤ f k + 1
  | [], a => ⟨.inl rfl, fun h => ⟨h, Nat.le_refl _⟩, fun k hk => by cases hk⟩
  | x :: ks, a => by
    have ih := foldK (n := n) (i := i) (f := f) ks (stepK n i f a x)
    rw [List.foldl_cons]
    obtain ⟨h1, h2, h3⟩ := ih
    have hs : stepK n i f a x = a ∨ (okK n i f x ∧ stepK n i f a x = f x + 1) := by
      unfold stepK
      split
      · rename_i hk
        split
        · exact .inr ⟨hk, rfl⟩
        · exact .inl rfl
      · exact .inl rfl
    have hle : a ≠ 0 → stepK n i f a x ≠ 0 ∧ stepK n i f a x ≤ a := fun ha => by
      unfold stepK
      split
      · split
        · omega
        · omega
      · omega
    refine ⟨?_, fun ha => ?_, fun k hk hok => ?_⟩
    · rcases h1 with h1 | ⟨k, hk, h4, h5⟩
      · rcases hs with hs | ⟨hs1, hs2⟩
        · exact .inl (h1.trans hs)
        · exact .inr ⟨x, by simp, hs1, (h1.trans hs2).symm⟩
      · exact .inr ⟨k, List.mem_cons_of_mem _ hk, h4, h5⟩
    · obtain ⟨g1, g2⟩ := hle ha
      obtain ⟨g3, g4⟩ := h2 g1
      exact ⟨g3, Nat.le_trans g4 g2⟩
    · rcases List.mem_cons.1 hk with rfl | hk
      · have hx : stepK n i f a k ≠ 0 ∧ stepK n i f a k ≤ f k + 1 := by
          unfold stepK
          rw [if_pos hok]
          split
          · omega
          · omega
        obtain ⟨g3, g4⟩ := h2 hx.1
        exact ⟨g3, Nat.le_trans g4 hx.2⟩
      · exact h3 k hk hok
theorem fewK_some {n i : Nat} {f : Nat → Nat} {ks : List Nat} (h : fewK n i f ks ≠ 0) : ∃ k ∈ ks, okK n i f k ∧ f k + 1 = fewK n i f ks := by
  rcases (foldK ks 0).1 with h1 | h1
  · exact absurd h1 h
  · exact h1
theorem fewK_le {n i : Nat} {f : Nat → Nat} {ks : List Nat} {k : Nat} (hk : k ∈ ks) (h : okK n i f k) : fewK n i f ks ≠ 0 ∧ fewK n i f ks ≤ f k + 1 := (foldK ks 0).2.2 k hk h

/-- The table behind m places from the end on. -/
def fewF (n : Nat) (E : Nat → List Nat) : Nat → Nat → Nat
  | 0 => fun _ => 0
  | m + 1 => fun j => if j = n - 1 - m then fewK n (n - 1 - m) (fewF n E m) (E (n - 1 - m)) else fewF n E m j
theorem fewF_keep {n : Nat} {E : Nat → List Nat} : ∀ (m d j : Nat), m + d ≤ n → n - m ≤ j → fewF n E (m + d) j = fewF n E m j
  | m, 0, j, _, _ => rfl
  | m, d + 1, j, h, hj => by
    rw [← Nat.add_assoc, fewF]
    dsimp only
    rw [if_neg (by omega)]
    exact fewF_keep m d j (by omega) hj
theorem fewK_congr {n i : Nat} {f g : Nat → Nat} : ∀ (ks : List Nat) (a : Nat), (∀ k ∈ ks, f k = g k) → ks.foldl (stepK n i f) a = ks.foldl (stepK n i g) a
  | [], _, _ => rfl
  | x :: ks, a, h => by
    rw [List.foldl_cons, List.foldl_cons]
    have e : stepK n i f a x = stepK n i g a x := by
      have hx := h x (by simp)
      have hk : okK n i f x ↔ okK n i g x := by unfold okK; rw [hx]
      unfold stepK
      by_cases hf : okK n i f x
      · rw [if_pos hf, if_pos (hk.1 hf), hx]
      · rw [if_neg hf, if_neg (fun hg => hf (hk.2 hg))]
    rw [e]
    exact fewK_congr ks _ (fun k hk => h k (List.mem_cons_of_mem _ hk))
/-- At the end each place is what its pieces make of the places behind it. -/
theorem fewF_at {n : Nat} {E : Nat → List Nat} (hE : ∀ i, i < n → ∀ k ∈ E i, i < k ∧ k ≤ n) {i : Nat} (hi : i < n) : fewF n E n i = fewK n i (fewF n E n) (E i) := by
  have e1 : fewF n E n i = fewF n E (n - i) i := by
    have := fewF_keep (n := n) (E := E) (n - i) i i (by omega) (by omega)
    rwa [show n - i + i = n by omega] at this
  rw [e1]
  obtain ⟨m, hm⟩ : ∃ m, n - i = m + 1 := ⟨n - i - 1, by omega⟩
  have hmi : n - 1 - m = i := by omega
  rw [hm, fewF]
  dsimp only
  rw [if_pos (by omega), hmi]
  unfold fewK
  refine fewK_congr _ _ (fun k hk => ?_)
  have hb := hE i hi k hk
  have := fewF_keep (n := n) (E := E) m (n - m) k (by omega) (by omega)
  rw [show m + (n - m) = n by omega] at this
  exact this.symm
/-- From each place that can be joined there is a piece to the next such place. -/
theorem fewF_next {n : Nat} {E : Nat → List Nat} (hE : ∀ i, i < n → ∀ k ∈ E i, i < k ∧ k ≤ n) {i : Nat} (hi : i < n) (h : fewF n E n i ≠ 0) :
    ∃ k ∈ E i, (0 < i ∨ k < n) ∧ (k = n ∨ 0 < fewF n E n k) ∧ fewF n E n k + 1 = fewF n E n i := by
  rw [fewF_at hE hi] at h ⊢
  obtain ⟨k, hk, hok, hf⟩ := fewK_some h
  have hb := hE i hi k hk
  refine ⟨k, hk, ?_, ?_, hf⟩
  · unfold okK at hok; omega
  · unfold okK at hok; omega

/-! ### The document's table -/
def okR (n i : Nat) (g : Nat → Int) (p : Nat → Bool) (k : Nat) : Prop := p k = true ∧ 0 ≤ g k ∧ ¬ (i = 0 ∧ k = n)
instance (n i : Nat) (g : Nat → Int) (p : Nat → Bool) (k : Nat) : Decidable (okR n i g p k) := by unfold okR; infer_instance
def stepR (n i : Nat) (g : Nat → Int) (p : Nat → Bool) (a : Int) (k : Nat) : Int := if okR n i g p k then (if a < 0 ∨ g k + 1 < a then g k + 1 else a) else a
def fewR (n i : Nat) (g : Nat → Int) (p : Nat → Bool) (ks : List Nat) : Int := ks.foldl (stepR n i g p) (-1)
theorem foldR {n i : Nat} {g : Nat → Int} {p : Nat → Bool} : ∀ (ks : List Nat) (a : Int), -1 ≤ a →
    (ks.foldl (stepR n i g p) a = a ∨ ∃ k ∈ ks, okR n i g p k ∧ g k + 1 = ks.foldl (stepR n i g p) a) ∧
    (0 ≤ a → 0 ≤ ks.foldl (stepR n i g p) a ∧ ks.foldl (stepR n i g p) a ≤ a) ∧ ∀ k ∈ ks, okR n i g p k → 0 ≤ ks.foldl (stepR n i g p) a ∧ ks.foldl (stepR n i g p) a ≤ g k + 1
  | [], a, _ => ⟨.inl rfl, fun h => ⟨h, Int.le_refl _⟩, fun k hk => by cases hk⟩
  | x :: ks, a, ha1 => by
    have hs : stepR n i g p a x = a ∨ (okR n i g p x ∧ stepR n i g p a x = g x + 1) := by
      unfold stepR
      split
      · rename_i hk
        split
        · exact .inr ⟨hk, rfl⟩
        · exact .inl rfl
      · exact .inl rfl
    have h0 : -1 ≤ stepR n i g p a x := by
      rcases hs with hs | ⟨hk, hs⟩
      · rw [hs]; exact ha1
      · rw [hs]; have := hk.2.1; omega
    have ih := foldR (n := n) (i := i) (g := g) (p := p) ks (stepR n i g p a x) h0
    rw [List.foldl_cons]
    obtain ⟨h1, h2, h3⟩ := ih
    have hle : 0 ≤ a → 0 ≤ stepR n i g p a x ∧ stepR n i g p a x ≤ a := fun ha => by
      unfold stepR
      split
      · rename_i hk
        have := hk.2.1
        split
        · omega
        · omega
      · omega
    refine ⟨?_, fun ha => ?_, fun k hk hok => ?_⟩
    · rcases h1 with h1 | ⟨k, hk, h4, h5⟩
      · rcases hs with hs | ⟨hs1, hs2⟩
        · exact .inl (h1.trans hs)
        · exact .inr ⟨x, by simp, hs1, (h1.trans hs2).symm⟩
      · exact .inr ⟨k, List.mem_cons_of_mem _ hk, h4, h5⟩
    · obtain ⟨g1, g2⟩ := hle ha
      obtain ⟨g3, g4⟩ := h2 g1
      exact ⟨g3, Int.le_trans g4 g2⟩
    · rcases List.mem_cons.1 hk with rfl | hk
      · have hx : 0 ≤ stepR n i g p a k ∧ stepR n i g p a k ≤ g k + 1 := by
          unfold stepR
          rw [if_pos hok]
          have := hok.2.1
          split
          · omega
          · omega
        obtain ⟨g3, g4⟩ := h2 hx.1
        exact ⟨g3, Int.le_trans g4 hx.2⟩
      · exact h3 k hk hok
/-- The program's number as the document has it. -/
def asR (n : Nat) (f : Nat → Nat) (k : Nat) : Int := if k = n then 0 else if f k = 0 then -1 else f k
/-- Both have the same fewest pieces. -/
theorem few_same {n i : Nat} {f : Nat → Nat} {g : Nat → Int} {E ks : List Nat} {p : Nat → Bool} (hf : f n = 0) (hg : ∀ k, i < k → k ≤ n → g k = asR n f k) (hE : ∀ k ∈ E, i < k ∧ k ≤ n)
    (hks : ∀ k, k ∈ ks ↔ i < k ∧ k ≤ n) (hp : ∀ k, i < k → k ≤ n → (p k = true ↔ k ∈ E)) : fewR n i g p ks = if fewK n i f E = 0 then -1 else (fewK n i f E : Int) := by
  have hiff : ∀ k, i < k → k ≤ n → (okR n i g p k ↔ k ∈ E ∧ okK n i f k) := fun k h1 h2 => by
    unfold okR okK
    rw [hp k h1 h2, hg k h1 h2]
    unfold asR
    constructor
    · rintro ⟨a, b, c⟩
      refine ⟨a, ?_⟩
      rintro (⟨d, e⟩ | d)
      · rw [if_neg (by omega), if_pos e] at b; omega
      · exact c d
    · rintro ⟨a, b⟩
      refine ⟨a, ?_, fun c => b (.inr c)⟩
      split
      · omega
      · split
        · rename_i h3 h4
          exact absurd (.inl ⟨by omega, h4⟩) b
        · omega
  have hval : ∀ k, i < k → k ≤ n → okR n i g p k → g k = f k := fun k h1 h2 hok => by
    rw [hg k h1 h2]
    have hb := hok.2.1
    rw [hg k h1 h2] at hb
    unfold asR at hb ⊢
    split
    · rename_i h3; rw [h3, hf]; rfl
    · split
      · rename_i h3 h4; rw [if_neg h3, if_pos h4] at hb; omega
      · rfl
  obtain ⟨r1, -, r3⟩ := foldR (n := n) (i := i) (g := g) (p := p) ks (-1) (by omega)
  have r1' : fewR n i g p ks = -1 ∨ ∃ k ∈ ks, okR n i g p k ∧ g k + 1 = fewR n i g p ks := r1
  have r3' : ∀ k ∈ ks, okR n i g p k → 0 ≤ fewR n i g p ks ∧ fewR n i g p ks ≤ g k + 1 := r3
  split
  · rename_i h0
    rcases r1' with h1 | ⟨k, hk, hok, _⟩
    · exact h1
    · obtain ⟨b1, b2⟩ := (hks k).1 hk
      have := (hiff k b1 b2).1 hok
      exact absurd h0 (fewK_le this.1 this.2).1
  · rename_i h0
    obtain ⟨k, hk, hok, hfk⟩ := fewK_some h0
    obtain ⟨b1, b2⟩ := hE k hk
    have hokR := (hiff k b1 b2).2 ⟨hk, hok⟩
    obtain ⟨c1, c2⟩ := r3' k ((hks k).2 ⟨b1, b2⟩) hokR
    have hv := hval k b1 b2 hokR
    rcases r1' with h1 | ⟨k', hk', hok', hf'⟩
    · omega
    · obtain ⟨d1, d2⟩ := (hks k').1 hk'
      have hm := (hiff k' d1 d2).1 hok'
      have hl := (fewK_le hm.1 hm.2).2
      have hv' := hval k' d1 d2 hok'
      omega
end Go.Proofs.YthfndmpigpphoaaGreat
