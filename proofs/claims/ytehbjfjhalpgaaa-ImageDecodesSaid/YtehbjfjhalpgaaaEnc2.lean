/-
  The bytes of a book: the plain law; what an automaton in shape is bounded by.
-/
import Derived.Test.YtehbjfjhalpgaaaRows
import Derived.Test.YtehbjfjhalpgaaaImg24
namespace Go.Proofs.Ytehbjfjhalpgaaa
open Go.RowKit

def encE (e : Ed) : List UInt8 := e.1 :: uintB e.2.toNat
def stN (x : St) : Nat := 2 * x.2.length + (if x.1 = true then 1 else 0)
def encS (x : St) : List UInt8 := uintB (stN x) ++ x.2.flatMap encE
def encA (A : List St) : List UInt8 := uintB A.length ++ A.flatMap encS
def encRep (r : Rp) : List UInt8 := (frameS [r.1, r.2]).1.data.toList
def encH (n : Nat) (t : ByteArray) (rs : List Rp) : List UInt8 := magicS.data.toList ++ uintB n ++ (frameS [t]).1.data.toList ++ uintB rs.length ++ rs.flatMap encRep
def encL (n : Nat) (t : ByteArray) (rs : List Rp) (As : List (List St)) : List UInt8 := encH n t rs ++ As.flatMap encA
/-- What both Encodes answer. -/
def encV (n : Int) (t : ByteArray) (rs : List Rp) (As : List (List St)) : ByteArray × Int :=
  if settingsB n t rs = false then (⟨#[]⟩, 201) else if As.all shapeB = true then (mkS (encL n.toNat t rs As), 0) else (⟨#[]⟩, 190)
theorem encV_set (n : Int) (t : ByteArray) (rs : List Rp) (As : List (List St)) (h : settingsB n t rs = false) : encV n t rs As = (⟨#[]⟩, 201) := if_pos h
theorem encV_ok (n : Int) (t : ByteArray) (rs : List Rp) (As : List (List St)) (h : settingsB n t rs = true) (hs : ∀ A ∈ As, shapeB A = true) : encV n t rs As = (mkS (encL n.toNat t rs As), 0) := by
  unfold encV
  rw [if_neg (by rw [h]; simp), if_pos (List.all_eq_true.2 hs)]
theorem encV_bad (n : Int) (t : ByteArray) (rs : List Rp) (As : List (List St)) (h : settingsB n t rs = true) (j : Nat) (hj : j < As.length) (hs : shapeB As[j] = false) : encV n t rs As = (⟨#[]⟩, 190) := by
  unfold encV
  rw [if_neg (by rw [h]; simp), if_neg (fun h => by
    have := List.all_eq_true.1 h _ (List.getElem_mem hj)
    rw [hs] at this; cases this)]
theorem flat_snoc {α : Type} (l : List α) (f : α → List UInt8) (k : Nat) (h : k < l.length) : (l.take (k + 1)).flatMap f = (l.take k).flatMap f ++ f l[k] := by
  rw [List.take_succ_eq_append_getElem h, List.flatMap_append]; simp
theorem flat_len {α : Type} (l : List α) (f : α → List UInt8) (c : Nat) (h : ∀ x ∈ l, (f x).length ≤ c) : (l.flatMap f).length ≤ c * l.length := by
  induction l with
  | nil => simp
  | cons a l ih =>
    have h1 := h a (by simp)
    have h2 := ih (fun x hx => h x (by simp [hx]))
    rw [List.flatMap_cons, List.length_append, List.length_cons, Nat.mul_add]
    omega
theorem flat_take_len {α : Type} (l : List α) (f : α → List UInt8) (c n k : Nat) (h : ∀ x ∈ l, (f x).length ≤ c) (hn : l.length ≤ n) : ((l.take k).flatMap f).length ≤ c * n := by
  refine Nat.le_trans (flat_len _ f c (fun x hx => h x (List.mem_of_mem_take hx))) (Nat.mul_le_mul_left c ?_)
  rw [List.length_take]
  omega

/-! ### Settings -/
theorem settings_parts {n : Int} {t : ByteArray} {rs : List Rp} (h : settingsB n t rs = true) : 1 ≤ n ∧ n ≤ 64 ∧ rs.length ≤ 256 ∧ tryOk t = true ∧ ∀ r ∈ rs, repOk r = true := by
  unfold settingsB at h
  simp only [Bool.and_eq_true, decide_eq_true_eq, List.all_eq_true] at h
  obtain ⟨⟨⟨⟨h1, h2⟩, h3⟩, h4⟩, h5⟩ := h
  exact ⟨h1, h2, h3, h4, h5⟩
theorem repOk_parts {r : Rp} (h : repOk r = true) : 0 < r.1.size ∧ r.1.size ≤ 32 ∧ r.2.size ≤ 32 := by
  unfold repOk at h
  simp only [Bool.and_eq_true, decide_eq_true_eq] at h
  obtain ⟨⟨h1, _, h2⟩, _, h3⟩ := h
  exact ⟨h1, h2, h3⟩
theorem frameS_len (ss : List ByteArray) : (frameS ss).1.size ≤ 265 * ss.length ∧ (frameS ss).1.data.toList.length ≤ 265 * ss.length := by
  have key : (frameS ss).1.size ≤ 265 * ss.length := by
    unfold frameS
    split
    · rename_i h
      rw [mkS_size]
      exact frameL_len ss h
    · exact Nat.zero_le _
  exact ⟨key, by rw [len_toList]; exact key⟩
theorem encRep_len (r : Rp) : (encRep r).length ≤ 530 := (frameS_len _).2

/-! ### Automata in shape -/
def GoodE (N : Nat) (es : List Ed) : Prop := (∀ e ∈ es, 0 ≤ e.2 ∧ e.2 < (N : Int)) ∧ es.Pairwise (fun a b => a.1.toNat < b.1.toNat)
theorem GoodE.mono {N M : Nat} {es : List Ed} (h : GoodE N es) (hM : N ≤ M) : GoodE M es := ⟨fun e he => ⟨(h.1 e he).1, by have := (h.1 e he).2; omega⟩, h.2⟩
def Gd (A : List St) (m m' : Nat) : Prop := ∀ k, m ≤ k → k < m' → ∃ x, A[k]? = some x ∧ GoodE m' x.2
theorem Gd.trans {A : List St} {a b c : Nat} (h : Gd A a b) (k : Gd A b c) (hbc : b ≤ c) : Gd A a c := fun i h1 h2 => by
  by_cases hb : i < b
  · obtain ⟨x, hx, hg⟩ := h i h1 hb
    exact ⟨x, hx, hg.mono hbc⟩
  · exact k i (by omega) h2
theorem visEs_good (A : List St) (rec : Int → Nat → Dn → Option (Nat × Dn)) (hrec : ∀ n m d m' d', rec n m d = some (m', d') → m ≤ m' ∧ 0 ≤ n ∧ n < (m' : Int) ∧ Gd A m m') :
    ∀ (es : List Ed) (prev : Option UInt8) (m : Nat) (d : Dn) (m' : Nat) (d' : Dn), visEs rec prev es m d = some (m', d') → m ≤ m' ∧ Gd A m m' ∧ GoodE m' es ∧ ∀ p, prev = some p → ∀ e ∈ es, p.toNat < e.1.toNat
  | [], prev, m, d, m', d', h => by
    unfold visEs at h
    injection h with h
    injection h with h1 h2
    subst h1
    exact ⟨Nat.le_refl _, fun k h1 h2 => by omega, ⟨fun e he => by simp at he, List.Pairwise.nil⟩, fun p _ e he => by simp at he⟩
  | e :: es, prev, m, d, m', d', h => by
    rw [visEs_cons] at h
    have hp : ∀ p, prev = some p → p.toNat < e.1.toNat := fun p hpp => by
      subst hpp
      rcases Nat.lt_or_ge p.toNat e.1.toNat with h' | h'
      · exact h'
      · rw [if_pos (by simpa using h')] at h
        cases h
    have h' : (match rec e.2 m d with | none => none | some (m', d') => visEs rec (some e.1) es m' d') = some (m', d') := by
      cases prev with
      | none => rw [if_neg Bool.false_ne_true] at h; exact h
      | some p =>
        have := hp p rfl
        rw [if_neg (by simp only [decide_eq_true_eq]; omega)] at h
        exact h
    cases hr : rec e.2 m d with
    | none => rw [hr] at h'; cases h'
    | some r =>
      obtain ⟨m1, d1⟩ := r
      rw [hr] at h'
      obtain ⟨h1, h2, h3, h4⟩ := hrec _ _ _ _ _ hr
      obtain ⟨i1, i2, i3, i4⟩ := visEs_good A rec hrec es (some e.1) m1 d1 m' d' h'
      refine ⟨by omega, h4.trans i2 i1, ⟨fun x hx => ?_, List.Pairwise.cons (fun x hx => i4 _ rfl x hx) i3.2⟩, fun p hpp x hx => ?_⟩
      · rcases List.mem_cons.1 hx with rfl | hx
        · exact ⟨h2, by omega⟩
        · exact i3.1 x hx
      · have := hp p hpp
        rcases List.mem_cons.1 hx with rfl | hx
        · omega
        · have := i4 _ rfl x hx
          omega
theorem vis_good (A : List St) : ∀ (f : Nat) (n : Int) (m : Nat) (d : Dn) (m' : Nat) (d' : Dn), vis A f n m d = some (m', d') → m ≤ m' ∧ 0 ≤ n ∧ n < (m' : Int) ∧ Gd A m m'
  | 0, n, m, d, m', d', h => by rw [vis] at h; cases h
  | f + 1, n, m, d, m', d', h => by
    rw [vis] at h
    split at h
    · split at h
      · rename_i hn
        injection h with h
        injection h with h1 h2
        subst h1
        exact ⟨Nat.le_refl _, hn.1, hn.2.1, fun k h1 h2 => by omega⟩
      · cases h
    · rename_i hnm
      split at h
      · cases h
      · rename_i x hx
        split at h
        · cases h
        · split at h
          · cases h
          · rename_i m1 d1 hes
            injection h with h
            injection h with h1 h2
            subst h1
            obtain ⟨i1, i2, i3, _⟩ := visEs_good A (vis A f) (fun n m d m' d' h => vis_good A f n m d m' d' h) _ _ _ _ _ _ hes
            refine ⟨by omega, by omega, by omega, fun k h1 h2 => ?_⟩
            by_cases hk : k = m
            · subst hk
              exact ⟨x, hx, i3⟩
            · exact i2 k (by omega) h2
theorem shape_parts {A : List St} (h : shapeB A = true) : 0 < A.length ∧ A.length ≤ 1048576 ∧ ∀ x ∈ A, GoodE A.length x.2 := by
  unfold shapeB at h
  rw [Bool.and_eq_true, Bool.and_eq_true, decide_eq_true_eq, decide_eq_true_eq] at h
  obtain ⟨⟨h1, h2⟩, h3⟩ := h
  refine ⟨h1, h2, fun x hx => ?_⟩
  split at h3
  · cases h3
  · rename_i m d hv
    have hm : m = A.length := by simpa using h3
    obtain ⟨_, _, _, hg⟩ := vis_good A _ _ _ _ _ _ hv
    obtain ⟨k, hk, rfl⟩ := List.mem_iff_getElem.1 hx
    obtain ⟨y, hy, hgy⟩ := hg k (Nat.zero_le _) (by omega)
    rw [List.getElem?_eq_getElem hk] at hy
    injection hy with hy
    rw [hy, ← hm]
    exact hgy
theorem up_len : ∀ (l : List Nat) (b c : Nat), b ≤ c → l.Pairwise (· < ·) → (∀ x ∈ l, b ≤ x ∧ x < c) → l.length ≤ c - b
  | [], b, c, _, _, _ => Nat.zero_le _
  | a :: l, b, c, hbc, hp, hr => by
    have ha := hr a (by simp)
    cases hp with
    | cons h1 h2 =>
      have := up_len l (a + 1) c (by omega) h2 (fun x hx => ⟨h1 x hx, (hr x (by simp [hx])).2⟩)
      rw [List.length_cons]
      omega
theorem GoodE.len {N : Nat} {es : List Ed} (h : GoodE N es) : es.length ≤ 256 := by
  have := up_len (es.map fun e => e.1.toNat) 0 256 (by omega) (by rw [List.pairwise_map]; exact h.2) (fun x hx => by
    obtain ⟨e, _, rfl⟩ := List.mem_map.1 hx
    exact ⟨Nat.zero_le _, e.1.toNat_lt⟩)
  simpa using this
theorem encE_len {N : Nat} {es : List Ed} (h : GoodE N es) (hN : N ≤ 1048576) : ∀ e ∈ es, (encE e).length ≤ 11 := fun e he => by
  have h1 := h.1 e he
  have := uintB_ten e.2.toNat (by omega)
  unfold encE
  rw [List.length_cons]
  omega
theorem stN_le {x : St} (h : x.2.length ≤ 256) : stN x ≤ 513 := by unfold stN; split <;> omega
theorem encS_len {N : Nat} {x : St} (h : GoodE N x.2) (hN : N ≤ 1048576) : (encS x).length ≤ 2826 := by
  have hl := h.len
  have h1 := uintB_ten (stN x) (by have := stN_le hl; omega)
  have h2 := flat_len x.2 encE 11 (encE_len h hN)
  unfold encS
  rw [List.length_append]
  omega
theorem encA_len {A : List St} (h : shapeB A = true) : (encA A).length ≤ 2963275786 := by
  obtain ⟨_, h2, h3⟩ := shape_parts h
  have e1 := uintB_ten A.length (by omega)
  have e2 := flat_len A encS 2826 (fun x hx => encS_len (h3 x hx) h2)
  unfold encA
  rw [List.length_append]
  omega
theorem encH_len {n : Nat} {t : ByteArray} {rs : List Rp} (hn : n ≤ 64) (hr : rs.length ≤ 256) : (encH n t rs).length ≤ 137000 := by
  have e1 := uintB_ten n (by omega)
  have e2 := uintB_ten rs.length (by omega)
  have e3 := (frameS_len [t]).2
  have e4 := flat_len rs encRep 530 (fun x _ => encRep_len x)
  have e5 : magicS.data.toList.length = 4 := rfl
  unfold encH
  simp only [List.length_append, List.length_cons, List.length_nil] at *
  omega
theorem encA_take_len {As : List (List St)} (hl : As.length = 4) (k : Nat) (hs : ∀ A ∈ As.take k, shapeB A = true) : ((As.take k).flatMap encA).length ≤ 11853103144 := by
  have := flat_len (As.take k) encA 2963275786 (fun A hA => encA_len (hs A hA))
  have h2 : (As.take k).length ≤ 4 := by rw [List.length_take]; omega
  omega
end Go.Proofs.Ytehbjfjhalpgaaa
