/-
  The frame round a law's walk: a call that returns true and only makes memory meets the law's statement.
  Small general lemmas, with no program in sight: what the walks' ends want; bytes of a string; letters.
  A row that a call is building while it calls others.
  Slices that are only read.
  Small lemmas on texts, where the dump holds none of layer 1's own functions but the lines.
  A byte at a place.
  Numbers read: the program's ReadUint.
  Numbers read: the reference's ReadUint.
  Numbers written: Uint in the program and in the reference.
  Bytes that may stand in a word: the program's fit, Valid and plain; the reference's Bytes.
-/
import Derived.Test.YtehbjfjhalpgaaaRows
import Derived.WalkKit
import Derived.ProofKit
import Derived.OpenShut
import Derived.SizedLaws
import Derived.HandedShaped
import Derived.JoinedCond
import Derived.WalkSpells
import Derived.WalkLawsBesides
import Derived.Lib.Hide
import Derived.Lib.Strings
import Derived.Lib.UnsafeStr
import Derived.Laws.BytesArg
import Derived.Deep.QuietTactic
import Derived.BigQuiet
import Derived.Laws.Bits64b
namespace Go.Proofs.Ytehbjfjhalpgaaa
section
open Go.ChangeShapes Go.WideShapes Go.ChangeAt Go.RowKit
open Go.ChangeMaps (open_string shut_string)

theorem own_ : ownKnob Try.prog.godebug = none := by kernel_rfl
theorem laidOut_ : laidOutB Try.prog = true := by kernel_rfl

theorem int_bounds {n : Int} (h : (Lit.int .i64 n).wf = true) : -9223372036854775808 ≤ n ∧ n ≤ 9223372036854775807 := by
  simp [Lit.wf, IntKind.min, IntKind.max, IntKind.signed, IntKind.bits] at h; omega
theorem size_list (s : ByteArray) : s.data.toList.length = s.size := by simp
theorem trodAll_stays {H : Type} {enc : TypeId × Value → H} {W W' : World} (hb : Below W.heap.size W W') : ∀ (ts : List TypeId) (vs : List Value) (ds : List (DataW H)) (ps : List MemPlace),
    (∀ t ∈ ts, Try.prog.readableRec t = true ∧ t < Try.prog.types.size) → DataW.TrodAll enc Try.prog W 0 (fun _ => true) true ts vs ds ps → (∀ x ∈ ps, x.block < W.heap.size) →
    DataW.TrodAll enc Try.prog W' 0 (fun b => decide (b < W.heap.size)) true ts vs ds ps := by
  intro ts
  induction ts with
  | nil =>
    intro vs ds ps _ h _
    obtain ⟨rfl, rfl, rfl⟩ := trodAll_nil h
    exact rfl
  | cons t ts ih =>
    intro vs ds ps ht h hlt
    obtain ⟨v, vs', d, ds', p, q, rfl, rfl, rfl, h1, h2⟩ := trodAll_cons h
    have hr := ht t (by simp)
    exact ⟨p, q, Below.trod laidOut_ hr.1 hr.2 h1 hb (fun x hx => hlt x (by simp [hx])), ih vs' ds' q (fun u hu => ht u (by simp [hu])) h2 (fun x hx => hlt x (by simp [hx])), rfl⟩

theorem law_calls {H : Type} {enc : TypeId × Value → H} {k : FuncId} {fn : Func} {s : ChangeSpec} (hfp : (fn.params.toList.all fun t => Try.prog.readableRec t && decide (t < Try.prog.types.size)) = true)
    (hres : fn.resultTypes = #[4]) (hvars : s.vars = []) (n : Nat) (hn : fn.params.toList.length = n) (hspec : ∀ ds : List (DataW H), ds.length = n → s.fn H (ds ++ []) = { results := [.lit (.bool true)], args := ds })
    {W : World} {args : Array Value} {ds gs : List (DataW H)} {before : List MemPlace} (hW : DataW.Whole enc Try.prog fn.params.toList s.vars false W args.toList ds gs before)
    (hwalk : Calls Try.prog k args W fun e w' => e = .returned (.bool true) ∧ Below W.heap.size W w') :
    Calls Try.prog k args W fun e W' => ∃ v, e = .returned v ∧ s.post enc Try.prog fn false true false false W args v W' := by
  refine hwalk.mono fun e W' ⟨he, hb⟩ => ⟨_, he, ?_⟩
  have hlt := hW.lt
  have hW0 := hW
  obtain ⟨p, q, hA, hV, rfl, hfz, hnd⟩ := hW
  rw [hvars] at hV
  obtain ⟨rfl, rfl⟩ := trodVars_none hV
  have hlen : ds.length = n := by
    have : ∀ (ts : List TypeId) (vs : List Value) (ds : List (DataW H)) (ps : List MemPlace), DataW.TrodAll enc Try.prog W 0 (fun _ => true) true ts vs ds ps → ds.length = ts.length := by
      intro ts
      induction ts with
      | nil => intro vs ds ps h; obtain ⟨rfl, rfl, rfl⟩ := trodAll_nil h; rfl
      | cons t ts ih => intro vs ds ps h; obtain ⟨v, vs', d, ds', p, q, rfl, rfl, rfl, h1, h2⟩ := trodAll_cons h; simp [ih _ _ _ h2]
    rw [this _ _ _ _ hA, hn]
  refine ⟨ds, [], p ++ [], [], p, [], hW0, ?_, ?_, ?_, hb.frame _, fun h => by cases h⟩
  · rw [hspec ds hlen, hres]
    exact trodAll_mk1 (shut_bool Try.underlying4 true)
  · rw [hspec ds hlen]
    refine trodAll_stays hb _ _ _ _ (fun t ht => ?_) hA (fun x hx => hlt x (by simp [hx]))
    have := List.all_eq_true.1 hfp t ht
    simpa using this
  · rw [hvars, hspec ds hlen]
    exact rfl
end

section
open Go.RowKit

theorem ret_bool {a b : Bool} (h : a = b) : Ending.returned (.bool a) = .returned (.bool b) := by rw [h]
theorem ret_int {k : IntKind} {a b : Int} (h : a = b) : Ending.returned (.int k a) = .returned (.int k b) := by rw [h]
theorem ret_str {a b : ByteArray} (h : a = b) : Ending.returned (.string a) = .returned (.string b) := by rw [h]

theorem take_snoc (s : ByteArray) (k : Nat) (h : k < s.size) : s.data.toList.take (k + 1) = s.data.toList.take k ++ [s[k]] := by
  rw [List.take_succ_eq_append_getElem (by simpa using h)]; rfl
theorem drop_cons (s : ByteArray) (k : Nat) (h : k < s.size) : s.data.toList.drop k = s[k] :: s.data.toList.drop (k + 1) := by
  rw [List.drop_eq_getElem_cons (by simpa using h)]; rfl
theorem drop_all (s : ByteArray) : s.data.toList.drop s.size = [] := List.drop_of_length_le (by simp)
theorem head_at (s : ByteArray) (h : 0 < s.size) : s.data.toList.head? = some s[0] := by
  rw [List.head?_eq_getElem?, List.getElem?_eq_getElem (by simpa using h)]; rfl
theorem len_toList (s : ByteArray) : s.data.toList.length = s.size := by simp

/-! ### Rows that the call itself makes -/
theorem row_addr (g j : Nat) : (⟨g, 0, none⟩ : Addr).add j = ⟨g, j, none⟩ := by unfold Addr.add; split <;> simp_all

theorem grown_of_alloc {w w' : World} {o : Obj} {row : Option Nat} (h : (w.alloc o).grownBy w' row) : w.grownBy w' row :=
  ⟨h.os, h.tape, h.output, by have := h.size; simp at this; omega, fun k hk hr => (h.block k (by have := World.size_alloc w o; omega) hr).trans (Below.heap_alloc w o k hk)⟩

/-- append of one element that lies in a new block of its own. -/
theorem wpList_push {P : Program} {ops : Array Oper} {rest : List Oper} {o : Oper} {a : Act} {Q : Exit → Act → World → Prop} {w : World} (hgd : o.guard = none) (s x : Operand) (t : TypeId)
    (ho : o.op = .call { callee := .builtin .append, args := #[s, x], argTypes := #[t, t] })
    (base : Nat) (e : TypeId) (i : TypeInfo) (z : Value) (size bytes : Nat) (ht : P.underlying t = some (.slice e)) (hi : P.info? e = some i) (hz : i.zero = some z)
    (hsize : i.size = size) (hby : i.bytes = bytes) (hzs : z.cells.size = size) (hsz : 0 < size)
    (v : Value) (n : Nat) (xs : List Value) (hs : a.eval s = v) (hown : w.ownsRow base e size v n xs)
    (us : Array Value) (hus : us.size = size) (h1 : ∀ u ∈ us.toList, u.oneCell' = true) (hx : a.eval x = .slice (some ⟨w.heap.size, 0, none⟩) 1 1)
    (h63 : n + 1 ≤ maxLen) (hbytes : (n + 1) * bytes ≤ 140737488355328) (hbase : base ≤ w.heap.size)
    (h : ∀ g cap w', w'.ownsRow base e size (.slice (some ⟨g, 0, none⟩) (n + 1) cap) (n + 1) (xs ++ us.toList) → w.grownBy w' v.ownBlock →
      wpList P ops Q rest (a.put o.dst (.slice (some ⟨g, 0, none⟩) (n + 1) cap)) w') : wpList P ops Q (o :: rest) a (w.alloc (.cells us e)) := by
  refine wpList_append_own _ hgd s x t ho base e i z size bytes ht hi hz hsize hby hzs hsz v n xs hs (hown.alloc _) ⟨w.heap.size, 0, none⟩ 1 1 us.toList hx (by simp [hus]) ?_ h1 h63 hbytes (by simp; omega) ?_
  · intro j u hj
    rw [row_addr, cell_of_row (w.alloc (.cells us e)) w.heap.size j us e (0, 0) (heap_alloc_new w _)]
    simpa using hj
  · intro v' w' hown' hgrow _
    rcases hown'.2 with ⟨_, h0⟩ | ⟨g, cap, cur, rfl, _⟩
    · omega
    · exact h g cap w' hown' (grown_of_alloc hgrow)

/-- The same where an element is one cell. -/
theorem wpList_push1 {P : Program} {ops : Array Oper} {rest : List Oper} {o : Oper} {a : Act} {Q : Exit → Act → World → Prop} {w : World} (hgd : o.guard = none) (s x : Operand) (t : TypeId)
    (ho : o.op = .call { callee := .builtin .append, args := #[s, x], argTypes := #[t, t] })
    (base : Nat) (e : TypeId) (i : TypeInfo) (z : Value) (bytes : Nat) (ht : P.underlying t = some (.slice e)) (hi : P.info? e = some i) (hz : i.zero = some z)
    (hsize : i.size = 1) (hby : i.bytes = bytes) (hzs : z.cells.size = 1)
    (v : Value) (n : Nat) (xs : List Value) (hs : a.eval s = v) (hown : w.ownsRow base e 1 v n xs)
    (u : Value) (h1 : u.oneCell' = true) (hx : a.eval x = .slice (some ⟨w.heap.size, 0, none⟩) 1 1)
    (h63 : n + 1 ≤ maxLen) (hbytes : (n + 1) * bytes ≤ 140737488355328) (hbase : base ≤ w.heap.size)
    (h : ∀ g cap w', w'.ownsRow base e 1 (.slice (some ⟨g, 0, none⟩) (n + 1) cap) (n + 1) (xs ++ [u]) → w.grownBy w' v.ownBlock →
      wpList P ops Q rest (a.put o.dst (.slice (some ⟨g, 0, none⟩) (n + 1) cap)) w') : wpList P ops Q (o :: rest) a (w.alloc (.cells #[u] e)) :=
  wpList_push hgd s x t ho base e i z 1 bytes ht hi hz hsize hby hzs (by decide) v n xs hs hown #[u] rfl (by intro y hy; simp at hy; subst hy; exact h1) hx h63 hbytes hbase h

theorem own_empty (w : World) (e size : Nat) : (w.alloc (.cells #[] e)).ownsRow w.heap.size e size (.slice (some ⟨w.heap.size, 0, none⟩) 0 0) 0 [] :=
  World.ownsRow_made w #[] 0 (Nat.le_refl _) (by unfold maxLen; omega) (by simp)
/-- A row just laid with its cells: '[]T{a, b}'. -/
theorem own_laid (w : World) (e size n : Nat) (cs : Array Value) (hs : cs.size = n * size) (hn : n ≤ maxLen) : (w.alloc (.cells cs e)).ownsRow w.heap.size e size (.slice (some ⟨w.heap.size, 0, none⟩) n n) n cs.toList :=
  ⟨by simp [hs], .inr ⟨w.heap.size, n, cs, rfl, Nat.le_refl _, heap_alloc_new w _, Nat.le_refl _, hn, hs, List.take_of_length_le (by simp [hs])⟩⟩

theorem below_of_drew {B : Nat} {w w' : World} (h : Below B w.drew w') : Below B w w' := ⟨h.os, h.tape, h.output, h.size, h.block⟩
/-- Below, behind an append onto a row of the call's own. -/
theorem below_push {B : Nat} {w0 w w' : World} {v : Value} {base e size n : Nat} {xs : List Value} (hb : Below B w0 w) (hown : w.ownsRow base e size v n xs) (hg : w.grownBy w' v.ownBlock) (hB : B ≤ base) (hw : B ≤ w.heap.size) : Below B w0 w' :=
  hb.grown hg hw (fun k hk => Nat.le_trans hB (hown.lt k hk).1)

/-- string(b) of a row of bytes of the call's own. -/
theorem run_string_of_own {P : Program} {w : World} {base e : Nat} {v : Value} {n : Nat} {l : List UInt8} (h : w.ownsRow base e 1 v n (Lib.byteCells l)) (src dst : TypeId)
    (hs : P.underlying src = some (.slice e)) (he : P.underlying e = some (.int .u8)) (hd : P.underlying dst = some .string) :
    (convert src dst v).run P w = .ok (.string ⟨l.toArray⟩) w := by
  have hl : l.length = n := by have := h.1; simpa [Lib.byteCells] using this
  rcases h.2 with ⟨rfl, rfl⟩ | ⟨g, cap, cur, rfl, _⟩
  · have : l = [] := List.eq_nil_of_length_eq_zero hl
    subst this
    exact run_convert_bytes_nil w src e hs he 0 0 dst hd
  · have hc := h.cells (g := g) rfl
    rw [run_convert_bytes_arg w src e hs he g 0 n cap (l.map fun b => (b.toNat : Int)) (by simpa using hl) ?_ dst hd]
    · congr 2
      simp only [strOfNums, List.map_map]
      congr 2
      rw [show ((fun n : Int => UInt8.ofNat n.toNat) ∘ fun b : UInt8 => (b.toNat : Int)) = id from by funext b; simp]
      simp
    · intro j hj
      have := hc j (.int .u8 ((l.map fun b => (b.toNat : Int)).getD j 0)) (by
        have hjl : j < l.length := by omega
        simp [Lib.byteCells, List.getD, List.getElem?_eq_getElem hjl])
      rw [row_addr] at this
      simpa using this

theorem grown_of_below {w w' : World} (h : Below w.heap.size w w') (row : Option Nat) : w.grownBy w' row := ⟨h.os, h.tape, h.output, h.size, fun k hk _ => h.block k hk⟩
theorem own_below {w w' : World} {B e size n : Nat} {v : Value} {xs : List Value} (h : w.ownsRow B e size v n xs) (hb : Below w.heap.size w w') : w'.ownsRow B e size v n xs :=
  h.kept (grown_of_below hb none) (by cases hv : v.ownBlock <;> simp)
theorem block_lt {w : World} {b : Nat} {o : Obj} (h : w.heap[b]? = some o) : b < w.heap.size := (Array.getElem?_eq_some_iff.1 h).1

/-! ### Rows of strings -/
def strV (ss : List ByteArray) : List Value := ss.map Value.string
theorem strV_len (ss : List ByteArray) : (strV ss).length = ss.length := by simp [strV]
theorem strV_get (ss : List ByteArray) (j : Nat) (hj : j < ss.length) : (strV ss)[j]? = some (.string ss[j]) := by simp [strV, hj]
theorem strV_snoc (ss : List ByteArray) (f : ByteArray) : strV ss ++ [Value.string f] = strV (ss ++ [f]) := by simp [strV]
theorem own_len {w : World} {B e n : Nat} {v : Value} {ss : List ByteArray} (h : w.ownsRow B e 1 v n (strV ss)) : ss.length = n := by
  have := h.1; rw [strV_len] at this; omega
/-- Its cells, each in the walk's own spelling. -/
theorem own_str {w : World} {B e n g cap : Nat} {ss : List ByteArray} (h : w.ownsRow B e 1 (.slice (some ⟨g, 0, none⟩) n cap) n (strV ss)) (j : Nat) (hj : j < ss.length) :
    w.cell? ⟨g, j, none⟩ = some (.string ss[j]) := by
  have := h.cells (g := g) rfl j _ (strV_get ss j hj)
  rwa [row_addr] at this
theorem own_strD {w : World} {B e n g cap : Nat} {ss : List ByteArray} (h : w.ownsRow B e 1 (.slice (some ⟨g, 0, none⟩) n cap) n (strV ss)) (j : Nat) (hj : j < ss.length) :
    w.cell? ⟨g, 0 + j, none⟩ = some (.string (ss.getD j ByteArray.empty)) := by
  rw [Nat.zero_add, own_str h j hj]; simp [List.getD, hj]
end

section
open Go.RowKit

/-- Since the call began in w nothing that was there has turned; the value v holds the elements xs in memory that the call has made. -/
structure Own (w W : World) (e size : Nat) (v : Value) (n : Nat) (xs : List Value) : Prop where
  below : Below w.heap.size w W
  own : W.ownsRow w.heap.size e size v n xs
theorem Own.size {w W : World} {e size n : Nat} {v : Value} {xs : List Value} (h : Own w W e size v n xs) : w.heap.size ≤ W.heap.size := h.below.size
theorem Own.nil_ (w : World) (e size : Nat) : Own w w e size (.slice none 0 0) 0 [] := ⟨Below.refl _ _, World.ownsRow_nil _ _ _ _⟩
theorem Own.empty (w : World) (e size : Nat) : Own w (w.alloc (.cells #[] e)) e size (.slice (some ⟨w.heap.size, 0, none⟩) 0 0) 0 [] :=
  ⟨(Below.refl _ _).alloc (Nat.le_refl _) _, own_empty w e size⟩
theorem Own.laid (w : World) (e size n : Nat) (cs : Array Value) (hs : cs.size = n * size) (hn : n ≤ maxLen) : Own w (w.alloc (.cells cs e)) e size (.slice (some ⟨w.heap.size, 0, none⟩) n n) n cs.toList :=
  ⟨(Below.refl _ _).alloc (Nat.le_refl _) _, own_laid w e size n cs hs hn⟩
/-- Behind a call that only made memory. -/
theorem Own.call {w W W' : World} {e size n : Nat} {v : Value} {xs : List Value} (h : Own w W e size v n xs) (hb : Below W.heap.size W W') : Own w W' e size v n xs :=
  ⟨h.below.trans (hb.mono h.below.size), own_below h.own hb⟩
theorem Own.alloc {w W : World} {e size n : Nat} {v : Value} {xs : List Value} (h : Own w W e size v n xs) (o : Obj) : Own w (W.alloc o) e size v n xs :=
  ⟨h.below.alloc h.below.size _, h.own.alloc _⟩
theorem Own.drew {w W : World} {e size n : Nat} {v : Value} {xs : List Value} (h : Own w W e size v n xs) : Own w W.drew e size v n xs := ⟨h.below.drew, h.own⟩
theorem Own.drewN {w W : World} {e size n : Nat} {v : Value} {xs : List Value} (h : Own w W e size v n xs) (k : Nat) : Own w (W.drewN k) e size v n xs :=
  ⟨⟨h.below.os, h.below.tape, h.below.output, h.below.size, h.below.block⟩, h.own⟩
/-- Behind an append onto it. -/
theorem Own.push {w W W' : World} {e size n m : Nat} {v v' : Value} {xs ys : List Value} (h : Own w W e size v n xs) (hown : W'.ownsRow w.heap.size e size v' m ys) (hg : W.grownBy W' v.ownBlock) : Own w W' e size v' m ys :=
  ⟨below_push h.below h.own hg (Nat.le_refl _) h.below.size, hown⟩
/-- From a world that the caller knows. -/
theorem Own.from_ {w0 w W : World} {e size n : Nat} {v : Value} {xs : List Value} (h : Own w W e size v n xs) (hb : Below w0.heap.size w0 w) : Own w0 W e size v n xs :=
  ⟨hb.trans (h.below.mono hb.size), h.own.1, by
    rcases h.own.2 with hn | ⟨g, cap, cur, hv, hg, r⟩
    · exact .inl hn
    · exact .inr ⟨g, cap, cur, hv, Nat.le_trans hb.size hg, r⟩⟩

/-- wpList_push1 where the new element's block is numbered in the walk's own words. -/
theorem wpList_push1_at {P : Program} {ops : Array Oper} {rest : List Oper} {o : Oper} {a : Act} {Q : Exit → Act → World → Prop} {w : World} (hgd : o.guard = none) (s x : Operand) (t : TypeId)
    (ho : o.op = .call { callee := .builtin .append, args := #[s, x], argTypes := #[t, t] })
    (base : Nat) (e : TypeId) (i : TypeInfo) (z : Value) (bytes : Nat) (ht : P.underlying t = some (.slice e)) (hi : P.info? e = some i) (hz : i.zero = some z)
    (hsize : i.size = 1) (hby : i.bytes = bytes) (hzs : z.cells.size = 1)
    (v : Value) (n : Nat) (xs : List Value) (hs : a.eval s = v) (hown : w.ownsRow base e 1 v n xs)
    (u : Value) (h1 : u.oneCell' = true) (b : Nat) (hx : a.eval x = .slice (some ⟨b, 0, none⟩) 1 1) (hb : b = w.heap.size)
    (h63 : n + 1 ≤ maxLen) (hbytes : (n + 1) * bytes ≤ 140737488355328) (hbase : base ≤ w.heap.size)
    (h : ∀ g cap w', w'.ownsRow base e 1 (.slice (some ⟨g, 0, none⟩) (n + 1) cap) (n + 1) (xs ++ [u]) → w.grownBy w' v.ownBlock →
      wpList P ops Q rest (a.put o.dst (.slice (some ⟨g, 0, none⟩) (n + 1) cap)) w') : wpList P ops Q (o :: rest) a (w.alloc (.cells #[u] e)) := by
  subst hb
  exact wpList_push1 hgd s x t ho base e i z bytes ht hi hz hsize hby hzs v n xs hs hown u h1 hx h63 hbytes hbase h

/-! ### Texts compared, in the walk's spelling -/
theorem mk_inj (l m : List UInt8) : (⟨l.toArray⟩ : ByteArray) = ⟨m.toArray⟩ ↔ l = m :=
  ⟨fun h => by injection h with h; simpa using congrArg Array.toList h, fun h => by rw [h]⟩
theorem mk_eq_iff (l : List UInt8) (s : ByteArray) : (⟨l.toArray⟩ : ByteArray) = s ↔ l = s.toList := by
  rw [Lib.toList_data]
  obtain ⟨d⟩ := s
  obtain ⟨m⟩ := d
  exact mk_inj l m
theorem beq_mk (l m : List UInt8) : (l == m) = decide ((⟨l.toArray⟩ : ByteArray) = ⟨m.toArray⟩) := by
  rw [Bool.eq_iff_iff, decide_eq_true_iff, mk_inj]; simp
theorem beq_mks (l : List UInt8) (s : ByteArray) : (l == s.toList) = decide ((⟨l.toArray⟩ : ByteArray) = s) := by
  rw [Bool.eq_iff_iff, decide_eq_true_iff, mk_eq_iff]; simp
theorem beq_str (s t : ByteArray) : (s.toList == t.toList) = decide (s = t) := by
  rw [Bool.eq_iff_iff, decide_eq_true_iff, beq_iff_eq, Lib.toList_data, Lib.toList_data]
  obtain ⟨⟨l⟩⟩ := s
  obtain ⟨⟨m⟩⟩ := t
  exact (mk_inj l m).symm
theorem notEmpty (s : ByteArray) (hp : 0 < s.size) : s.toList.isEmpty = false := by
  rw [Lib.toList_data]
  cases h : s.data.toList with
  | nil => have := len_toList s; rw [h] at this; simp at this; omega
  | cons a l => rfl
theorem isEmpty0 (s : ByteArray) (hp : s.size = 0) : s.data.toList = [] := by
  rw [← List.length_eq_zero_iff]; simpa using hp
theorem isEmpty1 (s : ByteArray) (hp : s.size = 0) : s.toList.isEmpty = true := by
  rw [Lib.toList_data, isEmpty0 s hp]; rfl
end

section
open Go.RowKit

/-- In w the slice v reads as n elements of 'size' cells each, all cells together xs. -/
def Rd (w : World) (size : Nat) (v : Value) (n : Nat) (xs : List Value) : Prop :=
  xs.length = n * size ∧ ∃ A cap, v = .slice A n cap ∧ n ≤ cap ∧ (n = 0 ∨ ∃ g o, A = some ⟨g, o, none⟩ ∧ ∀ j u, xs[j]? = some u → w.cell? ⟨g, o + j, none⟩ = some u)
theorem Rd.keep {w w' : World} {size n : Nat} {v : Value} {xs : List Value} (h : Rd w size v n xs) (hb : Below w.heap.size w w') : Rd w' size v n xs := by
  obtain ⟨h1, A, cap, hv, hc, h2⟩ := h
  refine ⟨h1, A, cap, hv, hc, ?_⟩
  rcases h2 with h2 | ⟨g, o, hA, h3⟩
  · exact .inl h2
  · refine .inr ⟨g, o, hA, fun j u hj => ?_⟩
    have h4 := h3 j u hj
    exact (hb.cell (World.block_lt_of_cell? w _ h4)).trans h4
theorem Rd.of_own {w : World} {B e size n : Nat} {v : Value} {xs : List Value} (h : w.ownsRow B e size v n xs) : Rd w size v n xs := by
  refine ⟨h.1, ?_⟩
  rcases h.2 with ⟨rfl, rfl⟩ | ⟨g, cap, cur, rfl, _, _, hn, _⟩
  · exact ⟨none, 0, rfl, Nat.le_refl _, .inl rfl⟩
  · refine ⟨_, cap, rfl, hn, .inr ⟨g, 0, rfl, fun j u hj => ?_⟩⟩
    have := h.cells (g := g) rfl j u hj
    rw [row_addr] at this
    rw [Nat.zero_add]; exact this
theorem Rd.of_strs {w : World} {B e : Nat} {ss : List ByteArray} {g cap : Nat} (h : w.ownsRow B e 1 (.slice (some ⟨g, 0, none⟩) ss.length cap) ss.length (strV ss)) : Rd w 1 (.slice (some ⟨g, 0, none⟩) ss.length cap) ss.length (strV ss) := Rd.of_own h
theorem Rd.drewN {w : World} {size n : Nat} {v : Value} {xs : List Value} (h : Rd w size v n xs) (k : Nat) : Rd (w.drewN k) size v n xs := h
theorem below_drewN {B : Nat} {a w : World} (h : Below B a w) (n : Nat) : Below B a (w.drewN n) := ⟨h.os, h.tape, h.output, h.size, h.block⟩
end

section
open Go.RowKit

def mkS (l : List UInt8) : ByteArray := ⟨l.toArray⟩
theorem mkS_size (l : List UInt8) : (mkS l).size = l.length := by show l.toArray.size = _; simp
theorem mkS_data (l : List UInt8) : (mkS l).data.toList = l := rfl
theorem extract_mkS (s : ByteArray) (a b : Nat) : s.extract a b = mkS ((s.data.toList.drop a).take (b - a)) := Lib.extract_eq s a b
theorem str_info : (Try.prog.info? 9).map (fun i => (i.zero, i.size, i.bytes)) = some (some (.string ByteArray.empty), 1, 16) := by kernel_rfl
theorem byte_info : (Try.prog.info? 5).map (fun i => (i.zero, i.size, i.bytes)) = some (some (.int .u8 0), 1, 1) := by kernel_rfl
theorem bytes_snoc (l : List UInt8) (b : UInt8) : Lib.byteCells l ++ [Value.int .u8 (b.toNat : Int)] = Lib.byteCells (l ++ [b]) := by simp [Lib.byteCells]
end

section
open Go.RowKit

/-- The byte at a place; 0 beyond the end. -/
def byteAt (L : List UInt8) (i : Nat) : UInt8 := L.getD i 0
theorem byteAt_beyond (L : List UInt8) (i : Nat) (h : L.length ≤ i) : byteAt L i = 0 := by unfold byteAt; simp [List.getD, List.getElem?_eq_none h]
theorem byteAt_lt (s : ByteArray) (i : Nat) (h : i < s.size) : byteAt s.data.toList i = s[i] := by
  unfold byteAt
  rw [List.getD, List.getElem?_eq_getElem (by simpa using h)]; rfl
end

section
open Go.RowKit

/-- A number, the place behind it, the fault: from the byte i of the number on, acc read so far. -/
def rdGo (L : List UInt8) (a : Nat) : Nat → Nat → Nat → Nat × Nat × Nat
  | 0, _, _ => (0, 0, 61)
  | f + 1, i, acc =>
    if L.length ≤ a + i then (0, 0, 60)
    else if 128 ≤ (byteAt L (a + i)).toNat then rdGo L a f (i + 1) (acc + ((byteAt L (a + i)).toNat % 128) * 2 ^ (7 * i))
    else if (i = 9 ∧ 1 < (byteAt L (a + i)).toNat) ∨ (0 < i ∧ (byteAt L (a + i)).toNat = 0) then (0, 0, 61)
    else (acc + ((byteAt L (a + i)).toNat % 128) * 2 ^ (7 * i), a + i + 1, 0)
def rdU (L : List UInt8) (a : Nat) : Nat × Nat × Nat := if L.length ≤ a then (0, 0, 60) else rdGo L a 10 0 0

theorem and127_all : ∀ n : Fin 256, bits BinOp.and IntKind.u8 (n.val : Int) 127 = ((n.val % 128 : Nat) : Int) := by decide +kernel
theorem and127 (b : Nat) (h : b < 256) : bits BinOp.and IntKind.u8 (b : Int) 127 = ((b % 128 : Nat) : Int) := and127_all ⟨b, h⟩
theorem wrap_u64_nat (n : Nat) (h : n < 18446744073709551616) : IntKind.u64.wrap (n : Int) = (n : Int) := by
  rw [IntKind.wrap_u64]; omega
theorem pow7 (i : Nat) : 2 ^ (7 * (i + 1)) = 128 * 2 ^ (7 * i) := by
  rw [show 7 * (i + 1) = 7 + 7 * i by omega, Nat.pow_add]
theorem pow7_le (i : Nat) (h : i ≤ 9) : 2 ^ (7 * i) ≤ 9223372036854775808 := Nat.le_trans (Nat.pow_le_pow_right (by omega) (show 7 * i ≤ 63 by omega)) (by decide)
theorem step_lt (acc x i : Nat) (hx : x < 128) (hacc : acc < 2 ^ (7 * i)) : acc + x * 2 ^ (7 * i) < 2 ^ (7 * (i + 1)) := by
  rw [pow7]
  have : x * 2 ^ (7 * i) ≤ 127 * 2 ^ (7 * i) := Nat.mul_le_mul (by omega) (Nat.le_refl _)
  omega
theorem or_step (acc i b : Nat) (hb : b < 256) (hi : i ≤ 9) (hacc : acc < 2 ^ (7 * i)) (h9 : i = 9 → b % 128 ≤ 1) :
    bits BinOp.or IntKind.u64 (acc : Int) (IntKind.u64.wrap (IntKind.u64.wrap (bits BinOp.and IntKind.u8 (b : Int) 127) * 2 ^ (7 * i))) = ((acc + (b % 128) * 2 ^ (7 * i) : Nat) : Int) := by
  have hx : b % 128 < 128 := by omega
  have hp := pow7_le i hi
  have hxp : (b % 128) * 2 ^ (7 * i) ≤ 9223372036854775808 := by
    by_cases e : i = 9
    · have := h9 e
      have : (b % 128) * 2 ^ (7 * i) ≤ 1 * 2 ^ (7 * i) := Nat.mul_le_mul this (Nat.le_refl _)
      omega
    · have h1 : (b % 128) * 2 ^ (7 * i) ≤ 128 * 2 ^ (7 * i) := Nat.mul_le_mul (by omega) (Nat.le_refl _)
      rw [← pow7] at h1
      exact Nat.le_trans h1 (pow7_le (i + 1) (by omega))
  rw [and127 b hb, wrap_u64_nat _ (by omega), show (((b % 128 : Nat) : Int) * 2 ^ (7 * i)) = (((b % 128) * 2 ^ (7 * i) : Nat) : Int) by rw [Int.natCast_mul, Int.natCast_pow]; rfl, wrap_u64_nat _ (by omega), bits_or_u64_nat _ _ (by omega) (by omega)]
  congr 1
  have := Nat.two_pow_add_eq_or_of_lt hacc (b % 128)
  rw [Nat.or_comm, Nat.mul_comm, ← this, Nat.add_comm, Nat.mul_comm]
theorem rdGo_more (L : List UInt8) (a f i acc : Nat) (h1 : a + i < L.length) (h2 : 128 ≤ (byteAt L (a + i)).toNat) : rdGo L a (f + 1) i acc = rdGo L a f (i + 1) (acc + ((byteAt L (a + i)).toNat % 128) * 2 ^ (7 * i)) := by
  rw [rdGo, if_neg (by omega), if_pos h2]
theorem rdGo_form (L : List UInt8) (a f i acc : Nat) (h1 : a + i < L.length) (h2 : (byteAt L (a + i)).toNat < 128) (h3 : (i = 9 ∧ 1 < (byteAt L (a + i)).toNat) ∨ (0 < i ∧ (byteAt L (a + i)).toNat = 0)) : rdGo L a (f + 1) i acc = (0, 0, 61) := by
  rw [rdGo, if_neg (by omega), if_neg (by omega), if_pos h3]
theorem rdGo_ok (L : List UInt8) (a f i acc : Nat) (h1 : a + i < L.length) (h2 : (byteAt L (a + i)).toNat < 128) (h3 : ¬ ((i = 9 ∧ 1 < (byteAt L (a + i)).toNat) ∨ (0 < i ∧ (byteAt L (a + i)).toNat = 0))) : rdGo L a (f + 1) i acc = (acc + ((byteAt L (a + i)).toNat % 128) * 2 ^ (7 * i), a + i + 1, 0) := by
  rw [rdGo, if_neg (by omega), if_neg (by omega), if_neg h3]
theorem rdGo_short (L : List UInt8) (a f i acc : Nat) (h1 : L.length ≤ a + i) : rdGo L a (f + 1) i acc = (0, 0, 60) := by
  rw [rdGo, if_pos h1]
def rdV (r : Nat × Nat × Nat) : Value := .tuple #[.int .u64 (r.1 : Nat), .int .i64 (r.2.1 : Nat), .int .i64 (r.2.2 : Nat)]

set_option maxRecDepth 100000 in
set_option maxHeartbeats 4000000 in
theorem ReadUint_any (s : ByteArray) (a : Nat) (w : World) (hs : s.size ≤ 562949953421312) (ha : a ≤ 562949953421312) :
    Calls Try.prog 53 #[.string s, .int .i64 a] w fun e w' => e = .returned (rdV (rdU s.data.toList a)) ∧ w = w' := by
  have HLo := Lib.hid (len_toList s)
  by_cases hal : s.size ≤ a
  · have HR : Hid (rdU s.data.toList a = (0, 0, 60)) := Lib.hid (by rw [rdU, if_pos (by rw [HLo.out]; exact hal)])
    go_enter Try.func53, Try.ntmps53
    go_wp2_with fail
    go_ret3
    exact ⟨by rw [HR.out]; rfl, rfl⟩
  · have HR : Hid (rdU s.data.toList a = rdGo s.data.toList a 10 0 0) := Lib.hid (by rw [rdU, if_neg (by rw [HLo.out]; exact hal)])
    go_enter Try.func53, Try.ntmps53
    go_wp2_with fail
    go_loop [4, 17] (fun n j => ∃ (i : Nat) (z : Int), i ≤ 10 ∧ j = .int .i64 i ∧ n = .int .u64 z ∧ (i < 10 → ∃ acc : Nat, z = acc ∧ acc < 2 ^ (7 * i) ∧ rdGo s.data.toList a (10 - i) i acc = rdU s.data.toList a) ∧ (i = 10 → rdU s.data.toList a = (0, 0, 61))) (fun _ j => 10 - (intOf j).toNat)
    case atStart => exact ⟨0, 0, by omega, rfl, rfl, fun _ => ⟨0, rfl, by decide, HR.out.symm⟩, fun h => (by cases h)⟩
    case round =>
      obtain ⟨i, z, hi, rfl, rfl, h1, h2⟩ := hrel
      by_cases hi10 : i < 10
      · obtain ⟨acc, rfl, hacc, hgo⟩ := h1 hi10
        obtain ⟨f, hf⟩ : ∃ f, 10 - i = f + 1 := ⟨9 - i, by omega⟩
        rw [hf] at hgo
        have HF : Hid (10 - (i + 1) = f) := Lib.hid (by omega)
        have HF0 : Hid (i = 9 → f = 0) := Lib.hid (by omega)
        have HA := Lib.hid hacc
        have HGo := Lib.hid hgo
        clear hacc hgo h1 h2 hf
        by_cases hle : a + i < s.size
        · have HB := Lib.hid (byteAt_lt s (a + i) hle)
          have hb := s[a + i].toNat_lt
          have HLe : Hid (a + i < s.data.toList.length) := Lib.hid (by rw [HLo.out]; exact hle)
          by_cases h128 : (127 : Int) < (s[a + i].toNat : Int)
          · have HM : Hid (rdGo s.data.toList a f (i + 1) (acc + (s[a + i].toNat % 128) * 2 ^ (7 * i)) = rdU s.data.toList a) := Lib.hid (by
              rw [← HGo.out, rdGo_more _ _ _ _ _ HLe.out (by rw [HB.out]; omega), HB.out]; rfl)
            go_wp2_with fail
            go_round
            case rel =>
              refine ⟨i + 1, _, by omega, by go_num, rfl, fun h => ?_, fun h => ?_⟩
              · exact ⟨acc + (s[a + i].toNat % 128) * 2 ^ (7 * i), or_step acc i _ hb (by omega) HA.out (fun e => by omega), step_lt _ _ _ (by omega) HA.out, by rw [HF.out]; exact HM.out⟩
              · rw [← HM.out, HF0.out (by omega)]; rfl
            case measure => simp [intOf]; omega
          · have hlt : (s[a + i].toNat : Int) ≤ 127 := by omega
            have hcs : (((i : Int) == 9) = true ∧ (1 : Int) < (s[a + i].toNat : Int) ∧ Hid (i = 9)) ∨ ((0 : Int) < (i : Int) ∧ (((i : Int) == 9) = false ∨ (((i : Int) == 9) = true ∧ (s[a + i].toNat : Int) ≤ 1)) ∧ ((s[a + i].toNat : Int) == 0) = true) ∨ (((i : Int) == 9) = false ∧ Hid (i ≠ 9) ∧ ((0 : Int) < (i : Int) ∧ ((s[a + i].toNat : Int) == 0) = false)) ∨ (((i : Int) == 9) = true ∧ Hid (i = 9) ∧ (0 : Int) < (i : Int) ∧ (s[a + i].toNat : Int) ≤ 1 ∧ ((s[a + i].toNat : Int) == 0) = false) ∨ (((i : Int) == 9) = false ∧ Hid (i ≠ 9) ∧ ¬ (0 : Int) < (i : Int)) := by
              simp only [beq_iff_eq, beq_eq_false_iff_ne]
              by_cases e9 : i = 9
              · by_cases e1 : 1 < s[a + i].toNat
                · exact .inl ⟨by omega, by omega, Lib.hid e9⟩
                · by_cases e0 : s[a + i].toNat = 0
                  · exact .inr (.inl ⟨by omega, .inr ⟨by omega, by omega⟩, by omega⟩)
                  · exact .inr (.inr (.inr (.inl ⟨by omega, Lib.hid e9, by omega, by omega, by omega⟩)))
              · by_cases e0 : i = 0
                · exact .inr (.inr (.inr (.inr ⟨by omega, Lib.hid e9, by omega⟩)))
                · by_cases eb : s[a + i].toNat = 0
                  · exact .inr (.inl ⟨by omega, .inl (by omega), by omega⟩)
                  · exact .inr (.inr (.inl ⟨by omega, Lib.hid e9, by omega, by omega⟩))
            rcases hcs with ⟨q1, q2, q3⟩ | ⟨q1, q2, q3⟩ | ⟨q1, q2, q3, q4⟩ | ⟨q1, q2, q3, q4, q5⟩ | ⟨q1, q2, q3⟩
            · have HM : Hid (rdU s.data.toList a = (0, 0, 61)) := Lib.hid (by
                rw [← HGo.out]; exact rdGo_form _ _ _ _ _ HLe.out (by rw [HB.out]; omega) (.inl ⟨q3.out, by rw [HB.out]; omega⟩))
              go_wp2_with fail
              go_ret3
              exact ⟨by rw [HM.out]; rfl, rfl⟩
            · have HM : Hid (rdU s.data.toList a = (0, 0, 61)) := Lib.hid (by
                have e0 := beq_iff_eq.1 q3
                rw [← HGo.out]; exact rdGo_form _ _ _ _ _ HLe.out (by rw [HB.out]; omega) (.inr ⟨by omega, by rw [HB.out]; omega⟩))
              rcases q2 with q2 | ⟨q2, q4⟩
              all_goals
                go_wp2_with fail
                go_ret3
                exact ⟨by rw [HM.out]; rfl, rfl⟩
            · have HM : Hid (rdU s.data.toList a = (acc + (s[a + i].toNat % 128) * 2 ^ (7 * i), a + i + 1, 0)) := Lib.hid (by
                have e0 : ¬ ((s[a + i].toNat : Int) = 0) := beq_eq_false_iff_ne.1 q4
                have e9 := q2.out
                rw [← HGo.out, rdGo_ok _ _ _ _ _ HLe.out (by rw [HB.out]; omega) (by rw [HB.out]; omega), HB.out]; rfl)
              have HO := Lib.hid (or_step acc i _ hb (by omega) HA.out (fun e => absurd e q2.out))
              go_wp2_with fail
              go_ret3
              exact ⟨by rw [HM.out, HO.out]; rfl, rfl⟩
            · have HM : Hid (rdU s.data.toList a = (acc + (s[a + i].toNat % 128) * 2 ^ (7 * i), a + i + 1, 0)) := Lib.hid (by
                have e0 : ¬ ((s[a + i].toNat : Int) = 0) := beq_eq_false_iff_ne.1 q5
                rw [← HGo.out, rdGo_ok _ _ _ _ _ HLe.out (by rw [HB.out]; omega) (by rw [HB.out]; omega), HB.out]; rfl)
              have HO := Lib.hid (or_step acc i _ hb (by omega) HA.out (fun e => by omega))
              go_wp2_with fail
              go_ret3
              exact ⟨by rw [HM.out, HO.out]; rfl, rfl⟩
            · have HM : Hid (rdU s.data.toList a = (acc + (s[a + i].toNat % 128) * 2 ^ (7 * i), a + i + 1, 0)) := Lib.hid (by
                have e9 := q2.out
                rw [← HGo.out, rdGo_ok _ _ _ _ _ HLe.out (by rw [HB.out]; omega) (by rw [HB.out]; omega), HB.out]; rfl)
              have HO := Lib.hid (or_step acc i _ hb (by omega) HA.out (fun e => absurd e q2.out))
              go_wp2_with fail
              go_ret3
              exact ⟨by rw [HM.out, HO.out]; rfl, rfl⟩
        · have HM : Hid (rdU s.data.toList a = (0, 0, 60)) := Lib.hid (by rw [← HGo.out]; exact rdGo_short _ _ _ _ _ (by rw [HLo.out]; omega))
          go_wp2_with fail
          go_ret3
          exact ⟨by rw [HM.out]; rfl, rfl⟩
      · obtain rfl : i = 10 := by omega
        have HM := Lib.hid (h2 rfl)
        clear h1 h2
        go_wp2_with fail
        go_ret3
        exact ⟨by rw [HM.out]; rfl, rfl⟩
end

section
open Go.RowKit

/-- What the first i bytes of the number say. -/
def accOf (L : List UInt8) (a : Nat) : Nat → Nat
  | 0 => 0
  | i + 1 => accOf L a i + ((byteAt L (a + i)).toNat % 128) * 2 ^ (7 * i)
theorem accOf_lt (L : List UInt8) (a : Nat) : ∀ i, accOf L a i < 2 ^ (7 * i)
  | 0 => by simp [accOf]
  | i + 1 => by rw [accOf]; exact step_lt _ _ _ (by omega) (accOf_lt L a i)
theorem acc_back (v c p b t : Nat) (hb : 128 ≤ b) (hb2 : b < 256) (h : v * (128 * p) + (c + (b % 128) * p) = t) : (v * 128 + (b - 128)) * p + c = t := by
  have e : b % 128 = b - 128 := by omega
  rw [e] at h
  rw [← h, Nat.add_mul, Nat.mul_assoc]; omega
theorem tot_lt (acc i b : Nat) (hi : i ≤ 9) (hacc : acc < 2 ^ (7 * i)) (h9 : i = 9 → b % 128 ≤ 1) : acc + (b % 128) * 2 ^ (7 * i) < 18446744073709551616 := by
  have hp := pow7_le i hi
  by_cases e : i = 9
  · have h1 : (b % 128) * 2 ^ (7 * i) ≤ 1 * 2 ^ (7 * i) := Nat.mul_le_mul (h9 e) (Nat.le_refl _)
    omega
  · have h1 := step_lt acc (b % 128) i (by omega) hacc
    have h2 := pow7_le (i + 1) (by omega)
    omega
theorem back_le (v p c t : Nat) (hp : 0 < p) (h : v * p + c = t) : v ≤ t := by
  have := Nat.le_mul_of_pos_right v hp
  omega

theorem wrap_mul_nat (v : Nat) (h : v * 128 < 18446744073709551616) : IntKind.u64.wrap ((v : Int) * 128) = ((v * 128 : Nat) : Int) := by
  rw [show ((v : Int) * 128) = ((v * 128 : Nat) : Int) by omega, wrap_u64_nat _ h]

set_option maxRecDepth 100000 in
set_option maxHeartbeats 4000000 in
theorem rReadUint_any (s : ByteArray) (a : Nat) (w : World) (hs : s.size ≤ 140737488355328) (ha : a ≤ 140737488355328) :
    Calls Try.prog 55 #[.string s, .int .i64 a] w fun e w' => e = .returned (rdV (rdU s.data.toList a)) ∧ w = w' := by
  have HLo := Lib.hid (len_toList s)
  by_cases hal : s.size ≤ a
  · have HR : Hid (rdU s.data.toList a = (0, 0, 60)) := Lib.hid (by rw [rdU, if_pos (by rw [HLo.out]; exact hal)])
    go_enter Try.func55, Try.ntmps55
    go_wp2_with fail
    go_ret3
    exact ⟨by rw [HR.out]; rfl, rfl⟩
  · have HR : Hid (rdU s.data.toList a = rdGo s.data.toList a 10 0 0) := Lib.hid (by rw [rdU, if_neg (by rw [HLo.out]; exact hal)])
    go_enter Try.func55, Try.ntmps55
    go_wp2_with fail
    go_loop [7] (fun j => ∃ (i : Nat), i ≤ 10 ∧ a + i ≤ s.size ∧ j = .int .i64 i ∧ Hid (rdGo s.data.toList a (10 - i) i (accOf s.data.toList a i) = rdU s.data.toList a) ∧ Hid (∀ k, k < i → 128 ≤ (byteAt s.data.toList (a + k)).toNat)) (fun j => 10 - (intOf j).toNat)
    case atStart => exact ⟨0, by omega, by omega, rfl, Lib.hid HR.out.symm, Lib.hid (fun k h => by omega)⟩
    case round =>
      obtain ⟨i, hi, hai, rfl, HGo, HP⟩ := hrel
      by_cases hi10 : i < 10
      · obtain ⟨f, hf⟩ : ∃ f, 10 - i = f + 1 := ⟨9 - i, by omega⟩
        rw [hf] at HGo
        have HF : Hid (10 - (i + 1) = f) := Lib.hid (by omega)
        clear hf
        by_cases hle : a + i < s.size
        · have HB := Lib.hid (byteAt_lt s (a + i) hle)
          have hb := s[a + i].toNat_lt
          have HLe : Hid (True → a + i < s.data.toList.length) := Lib.hid (fun _ => by rw [HLo.out]; exact hle)
          have hlt2 : (i : Int) < (s.size : Int) - (a : Int) := by omega
          by_cases h128 : (128 : Int) ≤ (s[a + i].toNat : Int)
          · go_wp2_with fail
            go_round
            case rel =>
              refine ⟨i + 1, by omega, by omega, rfl, Lib.hid ?_, Lib.hid fun k h => ?_⟩
              · rw [HF.out, ← HGo.out, rdGo_more _ _ _ _ _ (HLe.out trivial) (by rw [HB.out]; omega), accOf]
              · by_cases e : k = i
                · rw [e, HB.out]; omega
                · exact HP.out k (by omega)
            case measure => simp [intOf]; omega
          · have hlt : (s[a + i].toNat : Int) ≤ 127 := by omega
            have hcs : (((i : Int) == 9) = true ∧ (1 : Int) < (s[a + i].toNat : Int) ∧ Hid (i = 9)) ∨ ((0 : Int) < (i : Int) ∧ (((i : Int) == 9) = false ∨ (((i : Int) == 9) = true ∧ (s[a + i].toNat : Int) ≤ 1)) ∧ ((s[a + i].toNat : Int) == 0) = true) ∨ (((i : Int) == 9) = false ∧ Hid (i ≠ 9) ∧ ((0 : Int) < (i : Int) ∧ ((s[a + i].toNat : Int) == 0) = false)) ∨ (((i : Int) == 9) = true ∧ Hid (i = 9) ∧ (0 : Int) < (i : Int) ∧ (s[a + i].toNat : Int) ≤ 1 ∧ ((s[a + i].toNat : Int) == 0) = false) ∨ (((i : Int) == 9) = false ∧ Hid (i ≠ 9) ∧ ¬ (0 : Int) < (i : Int)) := by
              simp only [beq_iff_eq, beq_eq_false_iff_ne]
              by_cases e9 : i = 9
              · by_cases e1 : 1 < s[a + i].toNat
                · exact .inl ⟨by omega, by omega, Lib.hid e9⟩
                · by_cases e0 : s[a + i].toNat = 0
                  · exact .inr (.inl ⟨by omega, .inr ⟨by omega, by omega⟩, by omega⟩)
                  · exact .inr (.inr (.inr (.inl ⟨by omega, Lib.hid e9, by omega, by omega, by omega⟩)))
              · by_cases e0 : i = 0
                · exact .inr (.inr (.inr (.inr ⟨by omega, Lib.hid e9, by omega⟩)))
                · by_cases eb : s[a + i].toNat = 0
                  · exact .inr (.inl ⟨by omega, .inl (by omega), by omega⟩)
                  · exact .inr (.inr (.inl ⟨by omega, Lib.hid e9, by omega, by omega⟩))
            have HT : Hid (¬ ((i = 9 ∧ 1 < s[a + i].toNat) ∨ (0 < i ∧ s[a + i].toNat = 0)) → rdU s.data.toList a = (accOf s.data.toList a i + (s[a + i].toNat % 128) * 2 ^ (7 * i), a + i + 1, 0) ∧ accOf s.data.toList a i + (s[a + i].toNat % 128) * 2 ^ (7 * i) < 18446744073709551616) := Lib.hid (fun hn => ⟨by
              rw [← HGo.out, rdGo_ok _ _ _ _ _ (HLe.out trivial) (by rw [HB.out]; omega) (by rw [HB.out]; exact hn), HB.out], tot_lt _ _ _ (by omega) (accOf_lt _ _ _) (fun e9 => by omega)⟩)
            have HNa : Hid (a + i + 1 ≤ 140737488355329) := Lib.hid (by omega)
            rcases hcs with ⟨q1, q2, q3⟩ | ⟨q1, q2, q3⟩ | ⟨q1, q2, q3, q4⟩ | ⟨q1, q2, q3, q4, q5⟩ | ⟨q1, q2, q3⟩
            · have HM : Hid (rdU s.data.toList a = (0, 0, 61)) := Lib.hid (by
                rw [← HGo.out]; exact rdGo_form _ _ _ _ _ (HLe.out trivial) (by rw [HB.out]; omega) (.inl ⟨q3.out, by rw [HB.out]; omega⟩))
              go_wp2_with fail
              go_ret3
              exact ⟨by rw [HM.out]; rfl, rfl⟩
            · have HM : Hid (rdU s.data.toList a = (0, 0, 61)) := Lib.hid (by
                have e0 := beq_iff_eq.1 q3
                rw [← HGo.out]; exact rdGo_form _ _ _ _ _ (HLe.out trivial) (by rw [HB.out]; omega) (.inr ⟨by omega, by rw [HB.out]; omega⟩))
              rcases q2 with q2 | ⟨q2, q4⟩
              · go_wp2_with fail
                go_ret3
                exact ⟨by rw [HM.out]; rfl, rfl⟩
              · have e0 : (s[a + i].toNat : Int) = 0 := beq_iff_eq.1 q3
                clear q3 q4
                go_wp2_with fail
                go_ret3
                exact ⟨by rw [HM.out]; rfl, rfl⟩
            all_goals
              have HM := Lib.hid (HT.out (by
                first
                | (have e0 : ¬ ((s[a + i].toNat : Int) = 0) := beq_eq_false_iff_ne.1 q4
                   have e9 := q2.out
                   omega)
                | (have e0 : ¬ ((s[a + i].toNat : Int) = 0) := beq_eq_false_iff_ne.1 q5
                   omega)
                | (have e9 := q2.out
                   omega)))
              clear HT
              generalize hT : accOf s.data.toList a i + (s[a + i].toNat % 128) * 2 ^ (7 * i) = T at HM
              have HTT := Lib.hid hT
              clear hT
              go_wp2_with fail
              go_loop [9, 10] (fun n j => ∃ (v : Nat), n = .int .u64 v ∧ ((j = .int .i64 (-1) ∧ v = T) ∨ ∃ m : Nat, m < i ∧ j = .int .i64 m ∧ Hid (v * 2 ^ (7 * (m + 1)) + accOf s.data.toList a (m + 1) = T))) (fun _ j => (intOf j + 1).toNat)
              case atStart =>
                refine ⟨_, rfl, ?_⟩
                by_cases hi0 : i = 0
                · refine .inl ⟨by subst hi0; rfl, ?_⟩
                  have h1 := HTT.out
                  have h2 : s[a + i].toNat % 128 = s[a + i].toNat := by omega
                  have h3 : ∀ b, b = accOf s.data.toList a i + b * 2 ^ (7 * i) := fun b => by rw [hi0]; simp [accOf]
                  rw [← h1, h2]; exact h3 _
                · refine .inr ⟨i - 1, by omega, by congr 1; omega, Lib.hid ?_⟩
                  have h2 : s[a + i].toNat % 128 = s[a + i].toNat := by omega
                  rw [show i - 1 + 1 = i by omega, ← HTT.out, h2, Nat.add_comm]
              case round => 
                obtain ⟨v, rfl, ⟨rfl, rfl⟩ | ⟨m, hm, rfl, HV⟩⟩ := hrel
                · go_wp2_with fail
                  go_ret3
                  exact ⟨by rw [HM.out.1]; rfl, rfl⟩
                · have HBm := Lib.hid (byteAt_lt s (a + m) (by omega))
                  have hbm := s[a + m].toNat_lt
                  have hbm2 : (128 : Int) ≤ (s[a + m].toNat : Int) := by have := HP.out m hm; rw [HBm.out] at this; omega
                  have HV2 : Hid ((v * 128 + (s[a + m].toNat - 128)) * 2 ^ (7 * m) + accOf s.data.toList a m = T) := Lib.hid (by
                    have h1 := HV.out
                    rw [pow7, accOf, HBm.out] at h1
                    exact acc_back _ _ _ _ _ (by omega) hbm h1)
                  have HV3 : Hid (v * 128 + (s[a + m].toNat - 128) < 18446744073709551616) := Lib.hid (Nat.lt_of_le_of_lt (back_le _ _ _ _ (Nat.pow_pos (by decide)) HV2.out) HM.out.2)
                  have HBl := Lib.hid hbm
                  clear hbm
                  have hm1 : (0 : Int) ≤ (m : Int) := by omega
                  have hm9 : m < 10 := by omega
                  have hm2 : a + m < s.size := by omega
                  first
                  | exact absurd hm (by omega)
                  | (go_wp2_with fail
                     go_round
                     case rel =>
                       refine ⟨v * 128 + (s[a + m].toNat - 128), ?_, ?_⟩
                       · have h1 := HV3.out
                         have h2 := HBl.out
                         rw [wrap_mul_nat v (by omega), show ((s[a + m].toNat : Int) - 128) % 256 = ((s[a + m].toNat - 128 : Nat) : Int) by omega, ← Int.natCast_add, wrap_u64_nat _ h1]
                       · by_cases hm0 : m = 0
                         · refine .inl ⟨by rw [hm0]; rfl, ?_⟩
                           have h1 := HV2.out
                           have h3 : ∀ b, b * 2 ^ (7 * m) + accOf s.data.toList a m = b := fun b => by rw [hm0]; simp [accOf]
                           rw [h3] at h1; exact h1
                         · refine .inr ⟨m - 1, by omega, by congr 1; omega, Lib.hid ?_⟩
                           rw [show m - 1 + 1 = m by omega]; exact HV2.out
                     case measure => simp [intOf])
        · have HM : Hid (rdU s.data.toList a = (0, 0, 60)) := Lib.hid (by rw [← HGo.out]; exact rdGo_short _ _ _ _ _ (by rw [HLo.out]; omega))
          have hlt2 : (s.size : Int) - (a : Int) ≤ (i : Int) := by omega
          have hi11 : ((i : Int) == 10) = false := by rw [beq_eq_false_iff_ne]; omega
          go_wp2_with fail
          go_ret3
          exact ⟨by rw [HM.out]; rfl, rfl⟩
      · obtain rfl : i = 10 := by omega
        have HM : Hid (rdU s.data.toList a = (0, 0, 61)) := Lib.hid HGo.out.symm
        go_wp2_with fail
        go_ret3
        exact ⟨by rw [HM.out]; rfl, rfl⟩
end

section
open Go.RowKit

/-- A number's bytes. -/
def uintB (n : Nat) : List UInt8 := if h : n < 128 then [UInt8.ofNat n] else UInt8.ofNat (n % 128 + 128) :: uintB (n / 128)
termination_by n
decreasing_by omega
theorem uintB_small (n : Nat) (h : n < 128) : uintB n = [UInt8.ofNat n] := by rw [uintB, dif_pos h]
theorem uintB_more (n : Nat) (h : ¬ n < 128) : uintB n = UInt8.ofNat (n % 128 + 128) :: uintB (n / 128) := by rw [uintB, dif_neg h]
theorem u8_info : (Try.prog.info? 5).map (fun i => (i.zero, i.size, i.bytes)) = some (some (.int .u8 0), 1, 1) := by kernel_rfl
theorem bcells_snoc (l : List UInt8) (b : UInt8) : Lib.byteCells l ++ [Value.int .u8 (b.toNat : Int)] = Lib.byteCells (l ++ [b]) := by simp [Lib.byteCells]
theorem or128_all : ∀ n : Fin 256, bits BinOp.or IntKind.u8 (n.val : Int) 128 = ((n.val % 128 + 128 : Nat) : Int) := by decide +kernel
theorem or128 (b : Nat) : bits BinOp.or IntKind.u8 ((b : Int) % 256) 128 = (((UInt8.ofNat (b % 128 + 128)).toNat : Nat) : Int) := by
  have h : bits BinOp.or IntKind.u8 ((b % 256 : Nat) : Int) 128 = ((b % 256 % 128 + 128 : Nat) : Int) := or128_all ⟨b % 256, Nat.mod_lt _ (by decide)⟩
  rw [show (b : Int) % 256 = ((b % 256 : Nat) : Int) by omega, h, UInt8.toNat_ofNat']
  omega
theorem pow128 (a b k : Nat) (h : b * 128 ^ k ≤ a) : b / 128 * 128 ^ (k + 1) ≤ a := by
  refine Nat.le_trans ?_ h
  rw [Nat.pow_succ, Nat.mul_comm (128 ^ k) 128, ← Nat.mul_assoc]
  exact Nat.mul_le_mul_right _ (Nat.div_mul_le_self b 128)
theorem pow128_bound (a b k : Nat) (hb : 0 < b) (h : b * 128 ^ k ≤ a) (ha : a < 18446744073709551616) : k < 10 := by
  rcases Nat.lt_or_ge k 10 with h1 | h1
  · exact h1
  · have h2 : 128 ^ 10 ≤ 128 ^ k := Nat.pow_le_pow_right (by omega) h1
    have h3 : 1 * 128 ^ k ≤ b * 128 ^ k := Nat.mul_le_mul_right _ hb
    have h4 : (128 : Nat) ^ 10 = 1180591620717411303424 := by decide
    omega

theorem uint_fin {w w5 : World} {v : Value} {k b n : Nat} {acc : List UInt8} (h5 : Own w w5 5 1 v k (Lib.byteCells acc ++ [.int .u8 (b : Int)])) (hb : b < 128) (hr : acc ++ uintB b = uintB n) : Own w w5 5 1 v k (Lib.byteCells (uintB n)) := by
  have h6 : ((UInt8.ofNat b).toNat : Int) = (b : Int) := by rw [UInt8.toNat_ofNat']; omega
  rw [← h6, bcells_snoc, ← uintB_small b hb, hr] at h5; exact h5
theorem uintB_len : ∀ (k n : Nat), n < 128 ^ (k + 1) → (uintB n).length ≤ k + 1
  | 0, n, h => by rw [uintB_small n (by omega)]; simp
  | k + 1, n, h => by
    by_cases h1 : n < 128
    · rw [uintB_small n h1]; simp
    · rw [uintB_more n h1, List.length_cons]
      have := uintB_len k (n / 128) (by rw [Nat.pow_succ] at h; omega)
      omega
theorem uintB_ten (n : Nat) (h : n < 18446744073709551616) : (uintB n).length ≤ 10 := uintB_len 9 n (Nat.lt_trans h (by decide))
set_option maxHeartbeats 4000000 in
set_option maxRecDepth 100000 in
theorem Uint_any (n : Nat) (hn : n < 18446744073709551616) (w : World) :
    Calls Try.prog 21 #[.int .u64 (n : Int)] w fun e w' => e = .returned (.string (mkS (uintB n))) ∧ Below w.heap.size w w' := by
  obtain ⟨i0, hi, hz0, hz1, hz2⟩ := info_parts u8_info
  go_enter Try.func21, Try.ntmps21
  go_wp2_with fail
  go_loopw [0, 3] (fun t v wr => ∃ (b k : Nat) (acc : List UInt8), t = .int .u64 (b : Int) ∧ b ≤ n ∧ Hid (b * 128 ^ k ≤ n) ∧ k ≤ 10 ∧ Own w wr 5 1 v k (Lib.byteCells acc) ∧ Hid (acc ++ uintB b = uintB n)) (fun t _ _ => (intOf t).natAbs)
  case atStart => exact ⟨n, 0, [], rfl, Nat.le_refl _, Lib.hid (by omega), by omega, Own.nil_ w _ _, Lib.hid rfl⟩
  case round =>
    obtain ⟨b, k, acc, rfl, hbn, HP, hk, ho, HR⟩ := hrel
    have HO := Lib.hid ho
    clear ho
    by_cases hb : (127 : Int) < (b : Int)
    · have HK : Hid (k < 10) := Lib.hid (pow128_bound n b k (by omega) HP.out hn)
      go_wp2_with (at_builtin; refine wpList_push1 rfl _ _ 57 rfl w.heap.size 5 i0 (.int .u8 0) 1 Try.underlying57 hi hz0 hz1 hz2 rfl _ _ _ rfl HO.out.own _ rfl rfl (by unfold maxLen; omega) (by omega) HO.out.size ?_; intro gg cap w5 hown hg5; have HO' := Lib.hid (HO.out.push hown hg5); clear hown hg5)
      have HFin : Hid (Own w w5 5 1 (.slice (some ⟨gg, 0, none⟩) (k + 1) cap) (k + 1) (Lib.byteCells (acc ++ [UInt8.ofNat (b % 128 + 128)]))) := Lib.hid (by
        have h5 := HO'.out
        rw [or128 b, bcells_snoc] at h5; exact h5)
      have HS : Hid (acc ++ [UInt8.ofNat (b % 128 + 128)] ++ uintB (b / 128) = uintB n) := Lib.hid (by
        rw [← HR.out, uintB_more b (by omega), List.append_assoc]; rfl)
      clear HO' HR
      go_roundw
      case rel => exact ⟨b / 128, k + 1, _, by congr 1, by omega, Lib.hid (pow128 n b k HP.out), by have := HK.out; omega, HFin.out, HS⟩
      case measure => simp [intOf]; omega
    · go_wp2_with (at_builtin; refine wpList_push1 rfl _ _ 57 rfl w.heap.size 5 i0 (.int .u8 0) 1 Try.underlying57 hi hz0 hz1 hz2 rfl _ _ _ rfl HO.out.own _ rfl rfl (by unfold maxLen; omega) (by omega) HO.out.size ?_; intro gg cap w5 hown hg5; have HO' := Lib.hid (HO.out.push hown hg5); clear hown hg5; have HFin := Lib.hid (uint_fin HO'.out (by omega) HR.out); have hcv := run_string_of_own HFin.out.own 57 9 Try.underlying57 Try.underlying5 Try.underlying9; clear HO' HR)
      go_ret
      exact ⟨rfl, HFin.out.below⟩

/-- One byte as a text. -/
theorem conv1 (W : World) (c : Int) (b : UInt8) (h : c = (b.toNat : Int)) :
    (convert 57 9 (.slice (some ⟨W.heap.size, 0, none⟩) 1 1)).run Try.prog (W.alloc (.cells #[.int .u8 c] 5)) = .ok (.string (mkS [b])) (W.alloc (.cells #[.int .u8 c] 5)) := by
  subst h
  have ho : (W.alloc (.cells #[.int .u8 (b.toNat : Int)] 5)).ownsRow W.heap.size 5 1 (.slice (some ⟨W.heap.size, 0, none⟩) 1 1) 1 (Lib.byteCells [b]) := (Own.laid W 5 1 1 #[.int .u8 (b.toNat : Int)] rfl (by decide)).own
  exact run_string_of_own ho 57 9 Try.underlying57 Try.underlying5 Try.underlying9
theorem str_cons (b : UInt8) (l : List UInt8) : mkS [b] ++ mkS l = mkS (b :: l) := by
  apply ByteArray.ext
  simp [mkS]

set_option maxHeartbeats 4000000 in
set_option maxRecDepth 100000 in
theorem rUint_any (n : Nat) : ∀ (w : World), n < 18446744073709551616 →
    Calls Try.prog 51 #[.int .u64 (n : Int)] w fun e w' => e = .returned (.string (mkS (uintB n))) ∧ Below w.heap.size w w' := by
  induction n using Nat.strongRecOn with
  | _ n ih =>
    intro w hn
    by_cases hb : (n : Int) < 128
    · have HU := Lib.hid (uintB_small n (by omega))
      have hcv := conv1 w ((n : Int) % 128) (UInt8.ofNat n) (by rw [UInt8.toNat_ofNat']; omega)
      go_enter Try.func51, Try.ntmps51
      go_wp2_with fail
      go_ret
      exact ⟨by rw [HU.out]; rfl, (Below.refl _ _).alloc (Nat.le_refl _) _⟩
    · have HI : ∀ w : World, Calls Try.prog 51 #[.int .u64 ((n : Int) / 128)] w fun e w' => e = .returned (.string (mkS (uintB (n / 128)))) ∧ Below w.heap.size w w' := fun w => ih (n / 128) (by omega) w (by omega)
      obtain ⟨c, hc⟩ : ∃ c, UInt8.ofNat (n % 128 + 128) = c := ⟨_, rfl⟩
      obtain ⟨T, hT⟩ : ∃ T, mkS (uintB (n / 128)) = T := ⟨_, rfl⟩
      have HU : Hid (mkS (uintB n) = mkS [c] ++ T) := Lib.hid (by rw [uintB_more n (by omega), ← hT, str_cons, hc])
      have HC : Hid ((n : Int) % 128 + 128 = (c.toNat : Int)) := Lib.hid (by rw [← hc, UInt8.toNat_ofNat']; omega)
      have hT1 : T.size ≤ 10 := by rw [← hT, mkS_size]; exact uintB_ten _ (by omega)
      have hT2 : (mkS [c]).size = 1 := rfl
      rw [hT] at HI
      clear hc hT
      go_enter Try.func51, Try.ntmps51
      go_wp2_with (first
        | (refine Calls.mono (HI _) ?_
           rintro _ w1 ⟨rfl, hbl⟩
           have HB := Lib.hid hbl
           clear hbl
           have hcv := conv1 w1 ((n : Int) % 128 + 128) c HC.out))
      go_ret
      exact ⟨by rw [HU.out]; rfl, HB.out.alloc HB.out.size _⟩
end

section
open Go.RowKit

def fitB (b : UInt8) : Bool := decide (32 < b.toNat) && decide (b.toNat ≠ 127)
theorem fitB_eq (b : UInt8) : fitB b = (decide (32 < (b.toNat : Int)) && ((b.toNat : Int) != 127)) := by
  unfold fitB
  rw [Bool.eq_iff_iff]; simp; omega
/-- Do all its bytes fit? -/
def fitAll (s : ByteArray) : Bool := s.data.toList.all fitB
theorem all_no (s : ByteArray) (k : Nat) (h : k < s.size) (hf : fitB s[k] = false) : fitAll s = false := by
  unfold fitAll; rw [List.all_eq_false]
  exact ⟨s[k], by show s.data[k] ∈ _; simp, by simp [hf]⟩
theorem all_take (s : ByteArray) (k : Nat) (h : k < s.size) (hf : fitB s[k] = true) (ht : (s.data.toList.take k).all fitB = true) : (s.data.toList.take (k + 1)).all fitB = true := by
  rw [take_snoc s k h, List.all_append, ht]; simp [hf]
theorem all_full (s : ByteArray) (ht : (s.data.toList.take s.size).all fitB = true) : fitAll s = true := by
  unfold fitAll; rwa [List.take_of_length_le (by simp)] at ht

set_option maxHeartbeats 400000 in
theorem fit_any (b : UInt8) (w : World) :
    Calls Try.prog 57 #[.int .u8 b.toNat] w fun e w' => e = .returned (.bool (fitB b)) ∧ w = w' := by
  have H := Lib.hid (fitB_eq b)
  go_enter Try.func57, Try.ntmps57
  go_wp2
  all_goals go_ret
  all_goals exact ⟨ret_bool (by rw [H.out]; simp [*] <;> omega), rfl⟩

def validB (s : ByteArray) : Bool := decide (0 < s.size) && decide (s.size ≤ 64) && fitAll s
set_option maxHeartbeats 1000000 in
theorem Valid_any (s : ByteArray) (w : World) :
    Calls Try.prog 58 #[.string s] w fun e w' => e = .returned (.bool (validB s)) ∧ w = w' := by
  by_cases h0 : s.size = 0
  · have H : Hid (validB s = false) := Lib.hid (by unfold validB; rw [decide_eq_false (by omega)]; rfl)
    have hse : s = ⟨#[]⟩ := by
      apply ByteArray.ext; exact Array.eq_empty_of_size_eq_zero h0
    subst hse
    go_enter Try.func58, Try.ntmps58
    go_wp2_with fail
    go_ret
    exact ⟨ret_bool H.out.symm, rfl⟩
  · have hne := notEmpty s (by omega)
    by_cases h1 : s.size ≤ 64
    · have H : Hid (validB s = fitAll s) := Lib.hid (by unfold validB; rw [decide_eq_true (by omega), decide_eq_true h1]; rfl)
      go_enter Try.func58, Try.ntmps58
      go_wp2_with fail
      go_loop [3, 13] (fun _ i => ∃ k : Nat, k ≤ s.size ∧ i = .int .i64 k ∧ Hid ((s.data.toList.take k).all fitB = true)) (fun _ i => s.size - (intOf i).toNat)
      case atStart => exact ⟨0, Nat.zero_le _, rfl, Lib.hid rfl⟩
      case round =>
        obtain ⟨k, hk, rfl, HT⟩ := hrel
        by_cases hlt : k < s.size
        · cases hf : fitB s[k]
          · have HN := Lib.hid (all_no s k hlt hf)
            go_wp2_with (first | (go_at_call 57; refine (fit_any _ _).mono ?_; rintro e w' ⟨rfl, rfl⟩))
            go_ret
            exact ⟨ret_bool (by rw [H.out, HN.out]), rfl⟩
          · have HN := Lib.hid (all_take s k hlt hf HT.out)
            go_wp2_with (first | (go_at_call 57; refine (fit_any _ _).mono ?_; rintro e w' ⟨rfl, rfl⟩))
            go_round
            case rel => exact ⟨k + 1, by omega, by go_num, HN⟩
            case measure => simp [intOf]; omega
        · obtain rfl : k = s.size := by omega
          have HN := Lib.hid (all_full s HT.out)
          go_wp2_with fail
          go_ret
          exact ⟨ret_bool (by rw [H.out, HN.out]), rfl⟩
    · have H : Hid (validB s = false) := Lib.hid (by unfold validB; rw [decide_eq_false h1]; simp)
      go_enter Try.func58, Try.ntmps58
      go_wp2_with fail
      go_ret
      exact ⟨ret_bool H.out.symm, rfl⟩
theorem valid_one (s : ByteArray) (k : Nat) (h : k < s.size) : validB (s.extract k (k + 1)) = fitB s[k] := by
  have h1 : (s.extract k (k + 1)).data.toList = [s[k]] := by
    rw [extract_mkS, mkS_data, show k + 1 - k = 1 by omega]
    rw [List.drop_eq_getElem_cons (by simpa using h)]
    rfl
  have h2 : (s.extract k (k + 1)).size = 1 := by rw [← len_toList, h1]; rfl
  unfold validB fitAll
  rw [h2, h1]; simp
theorem Valid_one (s : ByteArray) (k : Nat) (h : k < s.size) (w : World) :
    Calls Try.prog 58 #[.string (s.extract k (k + 1))] w fun e w' => e = .returned (.bool (fitB s[k])) ∧ w = w' := by
  rw [← valid_one s k h]
  exact Valid_any _ w

set_option maxHeartbeats 1000000 in
theorem plain_any (s : ByteArray) (m : Nat) (w : World) (hs : s.size ≤ 140737488355328) :
    Calls Try.prog 46 #[.string s, .int .i64 m] w fun e w' => e = .returned (.bool (fitAll s && decide (s.size ≤ m))) ∧ w = w' := by
  go_enter Try.func46, Try.ntmps46
  go_wp2_with fail
  go_loop [5, 8] (fun _ i => ∃ k : Nat, k ≤ s.size ∧ i = .int .i64 k ∧ Hid ((s.data.toList.take k).all fitB = true)) (fun _ i => s.size - (intOf i).toNat)
  case atStart => exact ⟨0, Nat.zero_le _, rfl, Lib.hid rfl⟩
  case round =>
    obtain ⟨k, hk, rfl, HT⟩ := hrel
    by_cases hlt : k < s.size
    · cases hf : fitB s[k]
      · have HN := Lib.hid (all_no s k hlt hf)
        go_wp2_with (first | (go_at_call 58; refine (Valid_one s k hlt _).mono ?_; rintro e w' ⟨rfl, rfl⟩))
        go_ret
        exact ⟨ret_bool (by rw [HN.out]; rfl), rfl⟩
      · have HN := Lib.hid (all_take s k hlt hf HT.out)
        go_wp2_with (first | (go_at_call 58; refine (Valid_one s k hlt _).mono ?_; rintro e w' ⟨rfl, rfl⟩))
        go_round
        case rel => exact ⟨k + 1, by omega, by go_num, HN⟩
        case measure => simp [intOf]; omega
    · obtain rfl : k = s.size := by omega
      have HN := Lib.hid (all_full s HT.out)
      go_wp2_with fail
      go_ret
      exact ⟨ret_bool (by rw [HN.out]; simp), rfl⟩

set_option maxHeartbeats 1000000 in
theorem Bytes02_any (s : ByteArray) (w : World) (hs : s.size ≤ 140737488355328) :
    Calls Try.prog 49 #[.string s] w fun e w' => e = .returned (.bool (fitAll s)) ∧ w = w' := by
  go_enter Try.func49, Try.ntmps49
  go_wp2_with fail
  go_loop [3] (fun i => ∃ k : Nat, k ≤ s.size ∧ i = .int .i64 k ∧ Hid ((s.data.toList.take k).all fitB = true)) (fun i => s.size - (intOf i).toNat)
  case atStart => exact ⟨0, Nat.zero_le _, rfl, Lib.hid rfl⟩
  case round =>
    obtain ⟨k, hk, rfl, HT⟩ := hrel
    by_cases hlt : k < s.size
    · by_cases hf : fitB s[k] = true
      · have HN := Lib.hid (all_take s k hlt hf HT.out)
        have hf2 : ¬ (s[k].toNat : Int) < 33 ∧ ((s[k].toNat : Int) == 127) = false := by
          unfold fitB at hf
          simp only [Bool.and_eq_true, decide_eq_true_eq, ne_eq] at hf
          rw [beq_eq_false_iff_ne]; omega
        obtain ⟨f1, f2⟩ := hf2
        clear hf
        go_wp2_with fail
        go_round
        case rel => exact ⟨k + 1, by omega, by go_num, HN⟩
        case measure => simp [intOf]; omega
      · have HN := Lib.hid (all_no s k hlt (by simpa using hf))
        have hf2 : (s[k].toNat : Int) < 33 ∨ ¬ (s[k].toNat : Int) < 33 ∧ ((s[k].toNat : Int) == 127) = true := by
          unfold fitB at hf
          simp only [Bool.and_eq_true, decide_eq_true_eq, ne_eq] at hf
          rw [beq_iff_eq]; omega
        clear hf
        rcases hf2 with f1 | ⟨f1, f2⟩
        all_goals
          go_wp2_with fail
          go_ret
          exact ⟨ret_bool (by rw [HN.out]), rfl⟩
    · obtain rfl : k = s.size := by omega
      have HN := Lib.hid (all_full s HT.out)
      go_wp2_with fail
      go_ret
      exact ⟨ret_bool (by rw [HN.out]), rfl⟩
end
end Go.Proofs.Ytehbjfjhalpgaaa
