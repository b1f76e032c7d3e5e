/-
  Sections read: the plain law; rows of edges and of states that a call makes.
-/
import Derived.Test.YtehbjfjhalpgaaaRows
import Derived.Test.YtehbjfjhalpgaaaImg20
namespace Go.Proofs.Ytehbjfjhalpgaaa
open Go.RowKit

def edgR (s : ByteArray) (n a : Nat) : Except Nat (Ed × Nat) :=
  if s.size < a + 1 then .error 60
  else match numR s (a + 1) with
    | .error c => .error c
    | .ok (t, q) => if n ≤ t then .error 190 else .ok ((byteAt s.data.toList a, (t : Int)), q)
def edgesR (s : ByteArray) (n : Nat) : Nat → Nat → Except Nat (List Ed × Nat)
  | 0, a => .ok ([], a)
  | k + 1, a => match edgR s n a with
    | .error c => .error c
    | .ok (e, q) => match edgesR s n k q with
      | .error c => .error c
      | .ok (es, p) => .ok (e :: es, p)
def staR (s : ByteArray) (n a : Nat) : Except Nat (St × Nat) :=
  match numR s a with
  | .error c => .error c
  | .ok (v, q) => if 256 < v / 2 then .error 190 else match edgesR s n (v / 2) q with
    | .error c => .error c
    | .ok (es, p) => .ok ((decide (v % 2 = 1), es), p)
def statesR (s : ByteArray) (n : Nat) : Nat → Nat → Except Nat (List St × Nat)
  | 0, a => .ok ([], a)
  | k + 1, a => match staR s n a with
    | .error c => .error c
    | .ok (x, q) => match statesR s n k q with
      | .error c => .error c
      | .ok (xs, p) => .ok (x :: xs, p)
def secR (s : ByteArray) (a : Nat) : Except Nat (List St × Nat) :=
  match numR s a with
  | .error c => .error c
  | .ok (n, q) => if n = 0 ∨ 1048576 < n then .error 190 else match statesR s n n q with
    | .error c => .error c
    | .ok (A, p) => if shapeB A then .ok (A, p) else .error 190
def prep {α : Type} (l : List α) : Except Nat (List α × Nat) → Except Nat (List α × Nat)
  | .error c => .error c
  | .ok (m, p) => .ok (l ++ m, p)
theorem prep_nil {α : Type} (r : Except Nat (List α × Nat)) : prep [] r = r := by cases r <;> rfl
theorem edgesR_step (s : ByteArray) (n k a : Nat) (l : List Ed) (e : Ed) (q : Nat) (h : edgR s n a = .ok (e, q)) : prep l (edgesR s n (k + 1) a) = prep (l ++ [e]) (edgesR s n k q) := by
  simp only [edgesR, h]
  cases edgesR s n k q with
  | error c => rfl
  | ok r => obtain ⟨a, b⟩ := r; simp [prep]
theorem edgesR_err (s : ByteArray) (n k a : Nat) (l : List Ed) (c : Nat) (h : edgR s n a = .error c) : prep l (edgesR s n (k + 1) a) = .error c := by
  rw [edgesR, h]; rfl
theorem statesR_step (s : ByteArray) (n k a : Nat) (l : List St) (e : St) (q : Nat) (h : staR s n a = .ok (e, q)) : prep l (statesR s n (k + 1) a) = prep (l ++ [e]) (statesR s n k q) := by
  simp only [statesR, h]
  cases statesR s n k q with
  | error c => rfl
  | ok r => obtain ⟨a, b⟩ := r; simp [prep]
theorem statesR_err (s : ByteArray) (n k a : Nat) (l : List St) (c : Nat) (h : staR s n a = .error c) : prep l (statesR s n (k + 1) a) = .error c := by
  rw [statesR, h]; rfl

/-! ### Rows that a call makes -/
def Ty (w : World) (t g : Nat) : Prop := ∃ cs, w.heap[g]? = some (.cells cs t (0, 0))
def edCells (es : List Ed) : List Value := es.flatMap fun e => [.int .u8 (e.1.toNat : Int), .int .i64 e.2]
def stCells (L : List (St × Value)) : List Value := L.flatMap fun x => [.bool x.1.1, x.2]
theorem two_len {α : Type} (f g : α → Value) (l : List α) : (l.flatMap fun x => [f x, g x]).length = l.length * 2 := by
  induction l with
  | nil => rfl
  | cons a l ih => simp [List.flatMap_cons, ih]; omega
theorem two_get {α : Type} (f g : α → Value) : ∀ (l : List α) (k : Nat) (h : k < l.length), (l.flatMap fun x => [f x, g x])[k * 2]? = some (f l[k]) ∧ (l.flatMap fun x => [f x, g x])[k * 2 + 1]? = some (g l[k])
  | a :: l, 0, _ => ⟨rfl, rfl⟩
  | a :: l, k + 1, h => by
    have ih := two_get f g l k (by simpa using h)
    rw [List.flatMap_cons, show (k + 1) * 2 = k * 2 + 2 by omega, show k * 2 + 2 + 1 = k * 2 + 1 + 2 by omega]
    exact ih
theorem edCells_snoc (es : List Ed) (e : Ed) : edCells es ++ [.int .u8 (e.1.toNat : Int), .int .i64 e.2] = edCells (es ++ [e]) := by simp [edCells]
theorem stCells_snoc (L : List (St × Value)) (x : St × Value) : stCells L ++ [.bool x.1.1, x.2] = stCells (L ++ [x]) := by simp [stCells]
theorem eds_of_own {w : World} {B t : Nat} {v : Value} {n : Nat} {es : List Ed} (h : w.ownsRow B t 2 v n (edCells es)) : EdsAt w (fun g => B ≤ g ∧ Ty w t g) v es := by
  have hl := h.1
  rw [edCells, two_len] at hl
  obtain rfl : es.length = n := by omega
  rcases h.2 with ⟨rfl, h0⟩ | ⟨g, cap, cur, rfl, hb, hg, hn, hm, _, _⟩
  · exact ⟨none, 0, by rw [h0], by unfold maxLen; omega, .inl h0⟩
  · refine ⟨_, cap, rfl, ⟨hn, hm⟩, .inr ⟨g, 0, rfl, block_lt hg, ⟨hb, cur, hg⟩, fun k hk => ?_⟩⟩
    have hc := h.cells (g := g) rfl
    obtain ⟨h1, h2⟩ := two_get (fun e : Ed => Value.int .u8 (e.1.toNat : Int)) (fun e => Value.int .i64 e.2) es k hk
    have g1 := hc _ _ h1
    have g2 := hc _ _ h2
    rw [row_addr] at g1 g2
    rw [Nat.zero_add]
    exact ⟨g1, g2⟩
theorem EdsAt.keptTy {E : List Nat} {w w' : World} {B t : Nat} {v : Value} {es : List Ed} (h : EdsAt w (fun g => B ≤ g ∧ Ty w t g) v es) (hk : Kept E w w') (hE : ∀ g ∈ E, g < B ∨ ¬ Ty w t g) : EdsAt w' (fun g => B ≤ g ∧ Ty w' t g) v es := by
  obtain ⟨A, cap, hv, hc, h0⟩ := h
  refine ⟨A, cap, hv, hc, ?_⟩
  rcases h0 with h0 | ⟨g, o, hA, hg, ⟨hp, cs, hty⟩, hcs⟩
  · exact .inl h0
  · have hne : g ∉ E := fun hm => by
      rcases hE g hm with h1 | h1
      · omega
      · exact h1 ⟨cs, hty⟩
    exact .inr ⟨g, o, hA, Nat.lt_of_lt_of_le hg hk.size, ⟨hp, cs, hk.at hty hne⟩, fun k h => ⟨(hk.cell (p := ⟨g, _, none⟩) hg hne).trans (hcs k h).1, (hk.cell (p := ⟨g, _, none⟩) hg hne).trans (hcs k h).2⟩⟩
theorem EdsAt.base {w : World} {B B' t : Nat} {v : Value} {es : List Ed} (h : EdsAt w (fun g => B ≤ g ∧ Ty w t g) v es) (hB : B' ≤ B) : EdsAt w (fun g => B' ≤ g ∧ Ty w t g) v es :=
  h.mono fun g hg => ⟨by omega, hg.2⟩
/-- A row of states with its rows of edges, all made since the heap had B blocks. -/
structure OutAt (w : World) (B ts te : Nat) (v : Value) (L : List (St × Value)) : Prop where
  own : w.ownsRow B ts 2 v L.length (stCells L)
  eds : ∀ x ∈ L, EdsAt w (fun g => B ≤ g ∧ Ty w te g) x.2 x.1.2
theorem OutAt.nil_ (w : World) (B ts te : Nat) : OutAt w B ts te (.slice none 0 0) [] := ⟨World.ownsRow_nil _ _ _ _, fun _ h => by cases h⟩
theorem own_ty {w : World} {B e size n g : Nat} {v : Value} {xs : List Value} (h : w.ownsRow B e size v n xs) (hv : v.ownBlock = some g) : Ty w e g ∧ B ≤ g := by
  rcases h.2 with ⟨rfl, _⟩ | ⟨g', cap, cur, rfl, hb, hg, _⟩
  · cases hv
  · injection hv with hv
    subst hv
    exact ⟨⟨cur, hg⟩, hb⟩
theorem Ty.uniq {w : World} {t t' g : Nat} (h : Ty w t g) (h' : Ty w t' g) : t = t' := by
  obtain ⟨cs, h⟩ := h
  obtain ⟨cs', h'⟩ := h'
  rw [h] at h'
  injection h' with h'
  injection h' with _ h2
theorem OutAt.kept {E : List Nat} {w w' : World} {B ts te : Nat} {v : Value} {L : List (St × Value)} (h : OutAt w B ts te v L) (hk : Kept E w w') (hE : ∀ g ∈ E, g < B) : OutAt w' B ts te v L :=
  ⟨hk.own h.own (fun g hg hm => by have := (own_ty h.own hg).2; have := hE g hm; omega), fun x hx => (h.eds x hx).keptTy hk (fun g hg => .inl (hE g hg))⟩
/-- Behind a state appended. -/
theorem OutAt.push {w w' : World} {B ts te : Nat} {v v' : Value} {L : List (St × Value)} {x : St × Value} (h : OutAt w B ts te v L) (hne : ts ≠ te) (hx : EdsAt w (fun g => B ≤ g ∧ Ty w te g) x.2 x.1.2)
    (ho : w'.ownsRow B ts 2 v' (L.length + 1) (stCells L ++ [.bool x.1.1, x.2])) (hg : w.grownBy w' v.ownBlock) : OutAt w' B ts te v' (L ++ [x]) := by
  have hk : Kept v.ownBlock.toList w w' := Kept.grown hg (fun k hk => by rw [hk]; simp)
  have hE : ∀ g ∈ v.ownBlock.toList, g < B ∨ ¬ Ty w te g := fun g hg => .inr (fun ht => by
    have := own_ty h.own (show v.ownBlock = some g by simpa using hg)
    exact hne (this.1.uniq ht))
  refine ⟨by rw [List.length_append, List.length_singleton, ← stCells_snoc]; exact ho, fun y hy => ?_⟩
  rcases List.mem_append.1 hy with hy | hy
  · exact (h.eds y hy).keptTy hk hE
  · simp only [List.mem_singleton] at hy
    subst hy
    exact hx.keptTy hk hE
theorem OutAt.aut {w : World} {B ts te : Nat} {v : Value} {L : List (St × Value)} (h : OutAt w B ts te v L) : AutAt w (fun g => B ≤ g) v (L.map (·.1)) := by
  rcases h.own.2 with ⟨rfl, h0⟩ | ⟨g, cap, cur, rfl, hb, hg, hn, hm, _, _⟩
  · exact ⟨none, 0, by rw [List.length_map, h0], by rw [List.length_map]; unfold maxLen; omega, .inl (by rw [List.length_map]; exact h0)⟩
  · refine ⟨_, cap, by rw [List.length_map], by rw [List.length_map]; exact ⟨hn, hm⟩, .inr ⟨g, 0, rfl, block_lt hg, hb, fun k hk => ?_⟩⟩
    rw [List.length_map] at hk
    have hc := h.own.cells (g := g) rfl
    obtain ⟨h1, h2⟩ := two_get (fun x : St × Value => Value.bool x.1.1) (fun x => x.2) L k hk
    have g1 := hc _ _ h1
    have g2 := hc _ _ h2
    rw [row_addr] at g1 g2
    rw [Nat.zero_add]
    refine ⟨by rw [List.getElem_map]; exact g1, L[k].2, g2, ?_⟩
    rw [List.getElem_map]
    exact (h.eds _ (List.getElem_mem hk)).mono fun _ hg => hg.1
theorem Kept.push {E : List Nat} {w0 w w' : World} {B e size n : Nat} {v : Value} {xs : List Value} (K : Kept E w0 w) (ho : w.ownsRow B e size v n xs) (hB : w0.heap.size ≤ B) (hg : w.grownBy w' v.ownBlock) : Kept E w0 w' :=
  K.trans' (Kept.grown hg (E := v.ownBlock.toList) (fun k hk => by rw [hk]; simp)) (fun x hx => .inr (by have := (own_ty ho (show v.ownBlock = some x by simpa using hx)).2; omega))
theorem edge_info : (Try.prog.info? 55).map (fun i => (i.zero, i.size, i.bytes)) = some (some (.agg #[.int .u8 0, .int .i64 0]), 2, 16) := by kernel_rfl
theorem state_info : (Try.prog.info? 53).map (fun i => (i.zero, i.size, i.bytes)) = some (some (.agg #[.bool false, .slice none 0 0]), 2, 32) := by kernel_rfl
end Go.Proofs.Ytehbjfjhalpgaaa
