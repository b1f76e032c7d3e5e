/-
  A row that a call is building while it calls others.
-/
import Derived.Test.YtbhfkhfnljddhaaDoorBase
namespace Go.Proofs.YtbhfkhfnljddhaaDoor
open Go.RowKit

/-- Since the call began in w nothing that was there has turned; the value v holds the elements xs in memory that the call has made. -/
structure Own (w W : World) (e size : Nat) (v : Value) (n : Nat) (xs : List Value) : Prop where
  below : Below w.heap.size w W
  own : W.ownsRow w.heap.size e size v n xs
theorem Own.size {w W : World} {e size n : Nat} {v : Value} {xs : List Value} (h : Own w W e size v n xs) : w.heap.size ≤ W.heap.size := h.below.size
theorem Own.nil_ (w : World) (e size : Nat) : Own w w e size (.slice none 0 0) 0 [] := ⟨Below.refl _ _, World.ownsRow_nil _ _ _ _⟩
theorem Own.empty (w : World) (e size : Nat) : Own w (w.alloc (.cells #[] e)) e size (.slice (some ⟨w.heap.size, 0, none⟩) 0 0) 0 [] :=
  ⟨(Below.refl _ _).alloc (Nat.le_refl _) _, own_empty w e size⟩
theorem Own.laid (w : World) (e size n : Nat) (cs : Array Value) (hs : cs.size = n * size) (hn : n ≤ maxLen) : Own w (w.alloc (.cells cs e)) e size (.slice (some ⟨w.heap.size, 0, none⟩) n n) n cs.toList :=
  ⟨(Below.refl _ _).alloc (Nat.le_refl _) _, own_laid w e size n cs hs hn⟩
/-- Behind a call that only made memory. -/
theorem Own.call {w W W' : World} {e size n : Nat} {v : Value} {xs : List Value} (h : Own w W e size v n xs) (hb : Below W.heap.size W W') : Own w W' e size v n xs :=
  ⟨h.below.trans (hb.mono h.below.size), own_below h.own hb⟩
theorem Own.alloc {w W : World} {e size n : Nat} {v : Value} {xs : List Value} (h : Own w W e size v n xs) (o : Obj) : Own w (W.alloc o) e size v n xs :=
  ⟨h.below.alloc h.below.size _, h.own.alloc _⟩
theorem Own.drew {w W : World} {e size n : Nat} {v : Value} {xs : List Value} (h : Own w W e size v n xs) : Own w W.drew e size v n xs := ⟨h.below.drew, h.own⟩
theorem Own.drewN {w W : World} {e size n : Nat} {v : Value} {xs : List Value} (h : Own w W e size v n xs) (k : Nat) : Own w (W.drewN k) e size v n xs :=
  ⟨⟨h.below.os, h.below.tape, h.below.output, h.below.size, h.below.block⟩, h.own⟩
/-- Behind an append onto it. -/
theorem Own.push {w W W' : World} {e size n m : Nat} {v v' : Value} {xs ys : List Value} (h : Own w W e size v n xs) (hown : W'.ownsRow w.heap.size e size v' m ys) (hg : W.grownBy W' v.ownBlock) : Own w W' e size v' m ys :=
  ⟨below_push h.below h.own hg (Nat.le_refl _) h.below.size, hown⟩
/-- From a world that the caller knows. -/
theorem Own.from_ {w0 w W : World} {e size n : Nat} {v : Value} {xs : List Value} (h : Own w W e size v n xs) (hb : Below w0.heap.size w0 w) : Own w0 W e size v n xs :=
  ⟨hb.trans (h.below.mono hb.size), h.own.1, by
    rcases h.own.2 with hn | ⟨g, cap, cur, hv, hg, r⟩
    · exact .inl hn
    · exact .inr ⟨g, cap, cur, hv, Nat.le_trans hb.size hg, r⟩⟩

/-- wpList_push1 where the new element's block is numbered in the walk's own words. -/
theorem wpList_push1_at {P : Program} {ops : Array Oper} {rest : List Oper} {o : Oper} {a : Act} {Q : Exit → Act → World → Prop} {w : World} (hgd : o.guard = none) (s x : Operand) (t : TypeId)
    (ho : o.op = .call { callee := .builtin .append, args := #[s, x], argTypes := #[t, t] })
    (base : Nat) (e : TypeId) (i : TypeInfo) (z : Value) (bytes : Nat) (ht : P.underlying t = some (.slice e)) (hi : P.info? e = some i) (hz : i.zero = some z)
    (hsize : i.size = 1) (hby : i.bytes = bytes) (hzs : z.cells.size = 1)
    (v : Value) (n : Nat) (xs : List Value) (hs : a.eval s = v) (hown : w.ownsRow base e 1 v n xs)
    (u : Value) (h1 : u.oneCell' = true) (b : Nat) (hx : a.eval x = .slice (some ⟨b, 0, none⟩) 1 1) (hb : b = w.heap.size)
    (h63 : n + 1 ≤ maxLen) (hbytes : (n + 1) * bytes ≤ 140737488355328) (hbase : base ≤ w.heap.size)
    (h : ∀ g cap w', w'.ownsRow base e 1 (.slice (some ⟨g, 0, none⟩) (n + 1) cap) (n + 1) (xs ++ [u]) → w.grownBy w' v.ownBlock →
      wpList P ops Q rest (a.put o.dst (.slice (some ⟨g, 0, none⟩) (n + 1) cap)) w') : wpList P ops Q (o :: rest) a (w.alloc (.cells #[u] e)) := by
  subst hb
  exact wpList_push1 hgd s x t ho base e i z bytes ht hi hz hsize hby hzs v n xs hs hown u h1 hx h63 hbytes hbase h

/-! ### Texts compared, in the walk's spelling -/
theorem mk_inj (l m : List UInt8) : (⟨l.toArray⟩ : ByteArray) = ⟨m.toArray⟩ ↔ l = m :=
  ⟨fun h => by injection h with h; simpa using congrArg Array.toList h, fun h => by rw [h]⟩
theorem mk_eq_iff (l : List UInt8) (s : ByteArray) : (⟨l.toArray⟩ : ByteArray) = s ↔ l = s.toList := by
  rw [Lib.toList_data]
  obtain ⟨d⟩ := s
  obtain ⟨m⟩ := d
  exact mk_inj l m
theorem beq_mk (l m : List UInt8) : (l == m) = decide ((⟨l.toArray⟩ : ByteArray) = ⟨m.toArray⟩) := by
  rw [Bool.eq_iff_iff, decide_eq_true_iff, mk_inj]; simp
theorem beq_mks (l : List UInt8) (s : ByteArray) : (l == s.toList) = decide ((⟨l.toArray⟩ : ByteArray) = s) := by
  rw [Bool.eq_iff_iff, decide_eq_true_iff, mk_eq_iff]; simp
theorem beq_str (s t : ByteArray) : (s.toList == t.toList) = decide (s = t) := by
  rw [Bool.eq_iff_iff, decide_eq_true_iff, beq_iff_eq, Lib.toList_data, Lib.toList_data]
  obtain ⟨⟨l⟩⟩ := s
  obtain ⟨⟨m⟩⟩ := t
  exact (mk_inj l m).symm
theorem notEmpty (s : ByteArray) (hp : 0 < s.size) : s.toList.isEmpty = false := by
  rw [Lib.toList_data]
  cases h : s.data.toList with
  | nil => have := len_toList s; rw [h] at this; simp at this; omega
  | cons a l => rfl
theorem isEmpty0 (s : ByteArray) (hp : s.size = 0) : s.data.toList = [] := by
  rw [← List.length_eq_zero_iff]; simpa using hp
theorem isEmpty1 (s : ByteArray) (hp : s.size = 0) : s.toList.isEmpty = true := by
  rw [Lib.toList_data, isEmpty0 s hp]; rfl
end Go.Proofs.YtbhfkhfnljddhaaDoor
