/-
  Copies of states, of edges, of replacements (slices.Clone at three types); a checker with all that its book holds.
-/
import Derived.Test.YthfndmpigpphoaaGreatRows
import Derived.Test.YthfndmpigpphoaaGreatChk6
import Derived.Test.YthfndmpigpphoaaGreatApp
import Derived.Deep.OwnRows
namespace Go.Proofs.YthfndmpigpphoaaGreat
open Go.RowKit

theorem edge_inf : (Tryz.prog.info? 121).map (fun i => (i.zero, i.size, i.bytes)) = some (some (.agg #[.int .u8 0, .int .i64 0]), 2, 16) := by kernel_rfl
theorem state_inf : (Tryz.prog.info? 120).map (fun i => (i.zero, i.size, i.bytes)) = some (some (.agg #[.bool false, .slice none 0 0]), 2, 32) := by kernel_rfl
theorem rep_inf : (Tryz.prog.info? 85).map (fun i => (i.zero, i.size, i.bytes)) = some (some (.agg #[.string ByteArray.empty, .string ByteArray.empty]), 2, 32) := by kernel_rfl

/-- append of a slice's elements onto an empty row of one's own. -/
theorem wpList_append_fresh {P : Program} {w : World} {ops : Array Oper} {rest : List Oper} {o : Oper} {a : Act} {Q : Exit → Act → World → Prop} (hgd : o.guard = none) (s x : Operand) (t : TypeId)
    (ho : o.op = .call { callee := .builtin .append, args := #[s, x], argTypes := #[t, t] })
    (base : Nat) (e : TypeId) (i : TypeInfo) (z : Value) (size bytes : Nat) (ht : P.underlying t = some (.slice e)) (hi : P.info? e = some i) (hz : i.zero = some z)
    (hsize : i.size = size) (hby : i.bytes = bytes) (hzs : z.cells.size = size) (hsz : 0 < size) (v : Value) (hs : a.eval s = v) (hown : w.ownsRow base e size v 0 [])
    (A : Option Addr) (m c : Nat) (news : List Value) (hx : a.eval x = .slice A m c) (hl : news.length = m * size) (hr : m = 0 ∨ ∃ ad, A = some ad ∧ ∀ j u, news[j]? = some u → w.cell? (ad.add j) = some u) (h1 : ∀ u ∈ news, u.oneCell' = true)
    (h63 : m ≤ maxLen) (hbytes : m * bytes ≤ 140737488355328) (hbase : base ≤ w.heap.size)
    (h : ∀ A' c' w', w'.ownsRow base e size (.slice A' m c') m news → w.grownBy w' v.ownBlock → wpList P ops Q rest (a.put o.dst (.slice A' m c')) w') :
    wpList P ops Q (o :: rest) a w := by
  refine wpList_plain hgd fun K hK => ?_
  obtain ⟨v', w', hrun, h2, h3, _⟩ := run_append_src (P := P) w base t o.type e i z size bytes ht hi hz hsize hby hzs hsz v 0 [] hown A m c news hl hr h1 (by omega) (by rw [Nat.zero_add]; exact hbytes) hbase
  rw [Nat.zero_add, List.nil_append] at h2
  unfold Oper.wp execOp
  simp only [ho, resolve, invoke, builtin, Sem.run_bind, Sem.run_pure, Result.andThen_ok, List.map_toArray, List.map_cons, List.map_nil, hs, hx, hrun]
  have hv : ∃ A' c', v' = .slice A' m c' := by
    rcases h2.2 with ⟨rfl, rfl⟩ | ⟨g, cap, cur, rfl, _⟩
    · exact ⟨_, _, rfl⟩
    · exact ⟨_, _, rfl⟩
  obtain ⟨A', c', rfl⟩ := hv
  exact hK _ _ (h A' c' w' h2 h3)

/-- Elements of two cells each. -/
def pairC {α : Type} (f g : α → Value) (l : List α) : List Value := l.flatMap fun a => [f a, g a]
theorem pairC_len {α : Type} (f g : α → Value) (l : List α) : (pairC f g l).length = l.length * 2 := by
  induction l with
  | nil => rfl
  | cons a l ih =>
    have e : pairC f g (a :: l) = f a :: g a :: pairC f g l := rfl
    rw [e, List.length_cons, List.length_cons, ih, List.length_cons]; omega
theorem pairC_at {α : Type} (f g : α → Value) (l : List α) : ∀ k (h : k < l.length), (pairC f g l)[k * 2]? = some (f l[k]) ∧ (pairC f g l)[k * 2 + 1]? = some (g l[k]) := by
  induction l with
  | nil => intro k h; cases h
  | cons a l ih =>
    intro k h
    have e : pairC f g (a :: l) = f a :: g a :: pairC f g l := rfl
    rw [e]
    cases k with
    | zero => exact ⟨rfl, rfl⟩
    | succ k =>
      have := ih k (by simpa using h)
      rw [show (k + 1) * 2 = k * 2 + 1 + 1 by omega]
      simpa using this
theorem pairC_in {α : Type} (f g : α → Value) (l : List α) (j : Nat) (u : Value) (h : (pairC f g l)[j]? = some u) : ∃ k, ∃ hk : k < l.length, (j = k * 2 ∧ u = f l[k]) ∨ (j = k * 2 + 1 ∧ u = g l[k]) := by
  have hj : j < l.length * 2 := by
    rw [← pairC_len f g l]
    exact (List.getElem?_eq_some_iff.1 h).1
  have hk : j / 2 < l.length := by omega
  obtain ⟨h1, h2⟩ := pairC_at f g l (j / 2) hk
  refine ⟨j / 2, hk, ?_⟩
  rcases Nat.mod_two_eq_zero_or_one j with hm | hm
  · have e : j = j / 2 * 2 := by omega
    rw [← e] at h1
    exact .inl ⟨e, Option.some.inj (h.symm.trans h1)⟩
  · have e : j = j / 2 * 2 + 1 := by omega
    rw [← e] at h2
    exact .inr ⟨e, Option.some.inj (h.symm.trans h2)⟩
theorem addr_j (g o j : Nat) : (⟨g, o, none⟩ : Addr).add j = ⟨g, o + j, none⟩ := by unfold Addr.add; split <;> simp_all

abbrev edC (es : List Ed) : List Value := pairC (fun e : Ed => Value.int .u8 (e.1.toNat : Int)) (fun e => Value.int .i64 e.2) es
theorem EdsAt.src {w : World} {p : Nat → Prop} {A : Option Addr} {cap : Nat} {es : List Ed} (h : EdsAt w p (.slice A es.length cap) es) :
    es.length = 0 ∨ ∃ ad, A = some ad ∧ ∀ j u, (edC es)[j]? = some u → w.cell? (ad.add j) = some u := by
  obtain ⟨A', cap', hv, -, h⟩ := h
  cases hv
  refine h.imp id ?_
  rintro ⟨g, o, hA, -, -, hc⟩
  refine ⟨_, hA, fun j u hj => ?_⟩
  rw [addr_j]
  obtain ⟨k, hk, ⟨rfl, rfl⟩ | ⟨rfl, rfl⟩⟩ := pairC_in _ _ _ _ _ hj
  · exact (hc k hk).1
  · rw [← Nat.add_assoc]; exact (hc k hk).2
theorem EdsAt.of_own {w : World} {B : Nat} {v : Value} {es : List Ed} (h : w.ownsRow B 121 2 v es.length (edC es)) : EdsAt w (fun g => B ≤ g) v es := by
  rcases h.2 with ⟨rfl, h0⟩ | ⟨g, cap, cur, rfl, hB, hg, hn, hm, _, _⟩
  · exact ⟨none, 0, by rw [h0], by omega, .inl h0⟩
  · refine ⟨_, cap, rfl, ⟨hn, hm⟩, .inr ⟨g, 0, rfl, block_lt hg, hB, fun k hk => ?_⟩⟩
    obtain ⟨h1, h2⟩ := pairC_at (fun e : Ed => Value.int .u8 (e.1.toNat : Int)) (fun e => Value.int .i64 e.2) es k hk
    have a1 := h.cells (g := g) rfl _ _ h1
    have a2 := h.cells (g := g) rfl _ _ h2
    rw [row_addr] at a1 a2
    rw [Nat.zero_add]
    exact ⟨a1, a2⟩

set_option maxHeartbeats 1000000 in
set_option maxRecDepth 100000 in
theorem so_CloneE (v : Value) (es : List Ed) (w : World) (h : EdsAt w (fun _ => True) v es) (hn : es.length * 16 ≤ 140737488355328) :
    Calls Tryz.prog 99 #[v] w fun e w' => ∃ A cap, e = .returned (.slice A es.length cap) ∧ EdsAt w' (fun g => w.heap.size ≤ g) (.slice A es.length cap) es ∧ Below w.heap.size w w' := by
  obtain ⟨i0, hi, hz0, hz1, hz2⟩ := info_parts edge_inf
  have qn : ∀ (w : World) (a : Option Addr) (n c n' c' : Nat), (binOp .eql 118 (.slice a n c) (.slice none n' c')).run Tryz.prog w = .ok (.bool a.isNone) w := fun w a n c n' c' => Lib.run_eql_slice_nil w _ _ a n c n' c' Tryz.underlying118
  obtain ⟨A, cap, rfl, -⟩ := id h
  have HS := Lib.hid (h.keep (below_alloc w (.cells #[] 121))).src
  have H0 := Lib.hid h
  clear h
  by_cases hA : A = none
  · subst hA
    have he : es.length = 0 := by
      rcases HS.out with h | ⟨ad, h, _⟩
      · exact h
      · cases h
    have HE : Hid (EdsAt w (fun g => w.heap.size ≤ g) (.slice none 0 0) es) := Lib.hid ⟨none, 0, by rw [he], by omega, .inl he⟩
    rw [he]
    go_enter Tryz.func99, Tryz.ntmps99
    go_wp2_with fail
    go_ret
    exact ⟨_, _, rfl, HE.out, Below.refl _ _⟩
  · obtain ⟨ad, rfl⟩ : ∃ ad, A = some ad := by
      cases A with
      | none => exact absurd rfl hA
      | some ad => exact ⟨ad, rfl⟩
    clear hA
    go_enter Tryz.func99, Tryz.ntmps99
    go_wp2_with (at_builtin; refine wpList_append_fresh rfl _ _ 118 rfl w.heap.size 121 i0 _ 2 16 Tryz.underlying118 hi hz0 hz1 hz2 rfl (by decide) _ rfl (own_empty w 121 2) (some ad) es.length cap (edC es) rfl (pairC_len _ _ _) HS.out (by intro u hu; obtain ⟨e, _, hu⟩ := List.mem_flatMap.1 hu; simp at hu; rcases hu with rfl | rfl <;> rfl) (by unfold maxLen; omega) hn (by simp) ?_; intro A2 c2 w2 hown hg; have HO := Lib.hid (EdsAt.of_own hown); have HB := Lib.hid (((Below.refl w.heap.size w).alloc (Nat.le_refl _) (.cells #[] 121)).grown hg (by simp) (fun k e => by cases e; exact Nat.le_refl _)); clear hown hg)
    go_ret
    exact ⟨_, _, rfl, HO.out, HB.out⟩
end Go.Proofs.YthfndmpigpphoaaGreat
