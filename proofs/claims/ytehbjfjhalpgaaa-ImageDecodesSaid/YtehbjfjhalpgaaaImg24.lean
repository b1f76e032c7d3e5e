/-
  Decode: what happens at its door.
-/
import Derived.Test.YtehbjfjhalpgaaaRows
import Derived.Test.YtehbjfjhalpgaaaImg23
namespace Go.Proofs.Ytehbjfjhalpgaaa
open Go.RowKit

def zeroBook : Value := .agg #[.int .i64 0, .string ⟨#[]⟩, .slice none 0 0, .slice none 0 0, .slice none 0 0, .slice none 0 0, .slice none 0 0]
abbrev theDefer (bb eb : Nat) : Deferred := { target := .fn (Fn.func 36) #[.pointer (some ⟨bb, 0, none⟩), .pointer (some ⟨eb, 0, none⟩)], args := #[] }
set_option maxHeartbeats 2000000 in
theorem results_book (bb eb : Nat) (x0 x1 x2 x3 x4 x5 x6 y : Value) (w : World) (tmps : Array Value) (h2 : tmps[2]?.getD undef = .pointer (some ⟨bb, 0, none⟩)) (h3 : tmps[3]?.getD undef = .pointer (some ⟨eb, 0, none⟩))
    (hb : w.heap[bb]? = some (.cells #[x0, x1, x2, x3, x4, x5, x6] 26 (0, 0))) (he : w.heap[eb]? = some (.cells #[y] 28 (0, 0))) :
    (results Try.f15 tmps).run Try.prog w = .ok (.tuple #[.agg #[x0, x1, x2, x3, x4, x5, x6], y]) w := by
  have b0 : w.cell? ⟨bb, 0, none⟩ = some x0 := by rw [Lib.cell_of_heap hb]; rfl
  have b1 : w.cell? ⟨bb, 1, none⟩ = some x1 := by rw [Lib.cell_of_heap hb]; rfl
  have b2 : w.cell? ⟨bb, 2, none⟩ = some x2 := by rw [Lib.cell_of_heap hb]; rfl
  have b3 : w.cell? ⟨bb, 3, none⟩ = some x3 := by rw [Lib.cell_of_heap hb]; rfl
  have b4 : w.cell? ⟨bb, 4, none⟩ = some x4 := by rw [Lib.cell_of_heap hb]; rfl
  have b5 : w.cell? ⟨bb, 5, none⟩ = some x5 := by rw [Lib.cell_of_heap hb]; rfl
  have b6 : w.cell? ⟨bb, 6, none⟩ = some x6 := by rw [Lib.cell_of_heap hb]; rfl
  have e0 : w.cell? ⟨eb, 0, none⟩ = some y := by rw [Lib.cell_of_heap he]; rfl
  simp [results, Try.results15, go_sem, h2, h3, b0, b1, b2, b3, b4, b5, b6, e0]
set_option maxHeartbeats 2000000 in
theorem leave_fault (bb eb : Nat) (x0 x1 x2 x3 x4 x5 x6 y : Value) (c : Nat) (W : World) (tmps : Array Value) (R : Ending → World → Prop) (h2 : tmps[2]?.getD undef = .pointer (some ⟨bb, 0, none⟩)) (h3 : tmps[3]?.getD undef = .pointer (some ⟨eb, 0, none⟩))
    (hb : W.heap[bb]? = some (.cells #[x0, x1, x2, x3, x4, x5, x6] 26 (0, 0))) (he : W.heap[eb]? = some (.cells #[y] 28 (0, 0))) (hne : bb ≠ eb)
    (hR : ∀ W', Kept [bb, eb] W W' → R (.returned (.tuple #[zeroBook, .int .i64 (c : Int)])) W') :
    bodyPostD Try.prog Try.f15 R (Exit.panic [flt c]) { tmps := tmps, defers := [theDefer bb eb] } W := by
  show Leaves Try.prog Try.f15 tmps R [theDefer bb eb] (.panicking [flt c]) W
  refine leaves_cons (f := 36) (args := #[.pointer (some ⟨bb, 0, none⟩), .pointer (some ⟨eb, 0, none⟩)]) (by simp) (by simp [go_sem]) ?_
  refine (catch_fault bb eb x0 x1 x2 x3 x4 x5 x6 y (c : Int) [] W hb he hne).mono ?_
  rintro e u' w'' ⟨rfl, rfl, hk, hb', he'⟩
  simp only [settle]
  exact ⟨_, results_book bb eb _ _ _ _ _ _ _ _ w'' tmps h2 h3 hb' he', hR w'' hk⟩
set_option maxHeartbeats 2000000 in
theorem leave_ok (bb eb : Nat) (x0 x1 x2 x3 x4 x5 x6 y : Value) (W : World) (tmps : Array Value) (R : Ending → World → Prop) (h2 : tmps[2]?.getD undef = .pointer (some ⟨bb, 0, none⟩)) (h3 : tmps[3]?.getD undef = .pointer (some ⟨eb, 0, none⟩))
    (hb : W.heap[bb]? = some (.cells #[x0, x1, x2, x3, x4, x5, x6] 26 (0, 0))) (he : W.heap[eb]? = some (.cells #[y] 28 (0, 0)))
    (hR : R (.returned (.tuple #[.agg #[x0, x1, x2, x3, x4, x5, x6], y])) W) :
    bodyPostD Try.prog Try.f15 R Exit.ret { tmps := tmps, defers := [theDefer bb eb] } W := by
  show Leaves Try.prog Try.f15 tmps R [theDefer bb eb] .returning W
  refine leaves_cons (f := 36) (args := #[.pointer (some ⟨bb, 0, none⟩), .pointer (some ⟨eb, 0, none⟩)]) (by simp) (by simp [go_sem]) ?_
  refine (catch_none bb eb W).mono ?_
  rintro e u' w'' ⟨rfl, rfl, rfl⟩
  exact ⟨_, results_book bb eb _ _ _ _ _ _ _ _ w'' tmps h2 h3 hb he, hR⟩
/-- Without a deferred call: where the beginning is another. -/
theorem leave_now (bb eb : Nat) (x0 x1 x2 x3 x4 x5 x6 y : Value) (W : World) (tmps : Array Value) (R : Ending → World → Prop) (h2 : tmps[2]?.getD undef = .pointer (some ⟨bb, 0, none⟩)) (h3 : tmps[3]?.getD undef = .pointer (some ⟨eb, 0, none⟩))
    (hb : W.heap[bb]? = some (.cells #[x0, x1, x2, x3, x4, x5, x6] 26 (0, 0))) (he : W.heap[eb]? = some (.cells #[y] 28 (0, 0)))
    (hR : R (.returned (.tuple #[.agg #[x0, x1, x2, x3, x4, x5, x6], y])) W) :
    bodyPostD Try.prog Try.f15 R Exit.ret { tmps := tmps, defers := [] } W :=
  ⟨_, results_book bb eb _ _ _ _ _ _ _ _ W tmps h2 h3 hb he, hR⟩

/-! ### The plain law -/
abbrev Rp := ByteArray × ByteArray
def repR (s : ByteArray) (a : Nat) : Except Nat (Rp × Nat) :=
  match frmR s a with
  | .error c => .error c
  | .ok (f, q) => match frmR s q with
    | .error c => .error c
    | .ok (t, p) => .ok ((f, t), p)
def manyR {α : Type} (f : Nat → Except Nat (α × Nat)) : Nat → Nat → Except Nat (List α × Nat)
  | 0, a => .ok ([], a)
  | k + 1, a => match f a with
    | .error c => .error c
    | .ok (x, q) => match manyR f k q with
      | .error c => .error c
      | .ok (xs, p) => .ok (x :: xs, p)
theorem manyR_step {α : Type} (f : Nat → Except Nat (α × Nat)) (k a : Nat) (l : List α) (e : α) (q : Nat) (h : f a = .ok (e, q)) : prep l (manyR f (k + 1) a) = prep (l ++ [e]) (manyR f k q) := by
  simp only [manyR, h]
  cases manyR f k q with
  | error c => rfl
  | ok r => obtain ⟨a, b⟩ := r; simp [prep]
theorem manyR_err {α : Type} (f : Nat → Except Nat (α × Nat)) (k a : Nat) (l : List α) (c : Nat) (h : f a = .error c) : prep l (manyR f (k + 1) a) = .error c := by
  rw [manyR, h]; rfl
structure Bk where
  least : Nat
  tryT : ByteArray
  reps : List Rp
  secs : List (List St)
def leastV (l : Nat) : Nat := if l ≤ 64 then l else 0
def endR (s : ByteArray) (b : Bk) (p : Nat) : Except Nat Bk := if p = s.size then .ok b else .error 202
def secsR (s : ByteArray) (l : Nat) (t : ByteArray) (rs : List Rp) (a : Nat) : Except Nat Bk :=
  if settingsB (leastV l : Nat) t rs = false then .error 201 else match manyR (secR s) 4 a with
    | .error c => .error c
    | .ok (As, p) => endR s ⟨leastV l, t, rs, As⟩ p
def repsR (s : ByteArray) (l : Nat) (t : ByteArray) (a : Nat) : Except Nat Bk :=
  match numR s a with
  | .error c => .error c
  | .ok (n, q) => if 256 < n then .error 201 else match manyR (repR s) n q with
    | .error c => .error c
    | .ok (rs, p) => secsR s l t rs p
def bookR (s : ByteArray) : Except Nat Bk :=
  match numR s 4 with
  | .error c => .error c
  | .ok (l, q) => match frmR s q with
    | .error c => .error c
    | .ok (t, p) => repsR s l t p
def magicS : ByteArray := ⟨#[72, 66, 75, 49]⟩
def decR (s : ByteArray) : Except Nat Bk := if Lib.hasPrefix s.data.toList magicS.data.toList then bookR s else .error 200
end Go.Proofs.Ytehbjfjhalpgaaa
