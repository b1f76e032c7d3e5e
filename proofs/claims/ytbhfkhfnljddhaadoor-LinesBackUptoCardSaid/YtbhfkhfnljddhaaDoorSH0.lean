/-
  What Show answers: plain.
-/
import Derived.Test.YtbhfkhfnljddhaaDoorRows1
import Derived.Test.YtbhfkhfnljddhaaDoorOpen
import Derived.Test.YtbhfkhfnljddhaaDoorSA0
import Derived.Lib.Join
namespace Go.Proofs.YtbhfkhfnljddhaaDoor
open Go.RowKit

/-- May f stand as a field? -/
def fitS (f : ByteArray) (first : Bool) : Bool := !f.data.toList.isEmpty && (!sharp f && (!(f.data.toList.any blanks.contains) && !(first && Lib.hasPrefix f.data.toList [239, 187, 191])))
def rowErr (first : Bool) : List ByteArray → Int
  | [] => 0
  | f :: fs => if fitS f first then rowErr false fs else 11
def rowsErr (first : Bool) : List (List ByteArray) → Int
  | [] => 0
  | r :: rs => if r = [] then 12 else if rowErr first r = 0 then rowsErr false rs else 11
/-- How many bytes the text has. -/
def sumR (rs : List (List ByteArray)) : Nat := (rs.map bulkS).sum
abbrev lineOf (r : List ByteArray) : List UInt8 := Lib.join (r.map (·.data.toList)) [32]
def rowText (r : List ByteArray) : List UInt8 := lineOf r ++ [10]
def rowsText (rs : List (List ByteArray)) : List UInt8 := rs.flatMap rowText
/-- What Show answers: its error. -/
def showErr (rs : List (List ByteArray)) : Int := if rowsErr true rs = 0 then (if 65536 < sumR rs then 10 else 0) else rowsErr true rs
/-- .. its text. -/
def showText (rs : List (List ByteArray)) : List UInt8 := if showErr rs = 0 then rowsText rs else []

theorem rowErr_yes (b : Bool) (r : List ByteArray) (j : Nat) (h : j < r.length) (hf : fitS r[j] b = true) : rowErr b (r.drop j) = rowErr false (r.drop (j + 1)) := by
  rw [List.drop_eq_getElem_cons h, rowErr, if_pos hf]
theorem rowErr_no (b : Bool) (r : List ByteArray) (j : Nat) (h : j < r.length) (hf : fitS r[j] b = false) : rowErr b (r.drop j) = 11 := by
  rw [List.drop_eq_getElem_cons h, rowErr, if_neg (by rw [hf]; decide)]
theorem rowErr_01 (b : Bool) (r : List ByteArray) : rowErr b r = 0 ∨ rowErr b r = 11 := by
  induction r generalizing b with
  | nil => exact .inl rfl
  | cons f fs ih =>
    rw [rowErr]
    split
    · exact ih false
    · exact .inr rfl
theorem rowsErr_none (b : Bool) (rs : List (List ByteArray)) (k : Nat) (h : k < rs.length) (hr : rs[k] = []) : rowsErr b (rs.drop k) = 12 := by
  rw [List.drop_eq_getElem_cons h, rowsErr, if_pos hr]
theorem rowsErr_no (b : Bool) (rs : List (List ByteArray)) (k : Nat) (h : k < rs.length) (hr : rs[k] ≠ []) (he : rowErr b rs[k] = 11) : rowsErr b (rs.drop k) = 11 := by
  rw [List.drop_eq_getElem_cons h, rowsErr, if_neg hr, if_neg (by rw [he]; decide)]
theorem rowsErr_yes (b : Bool) (rs : List (List ByteArray)) (k : Nat) (h : k < rs.length) (hr : rs[k] ≠ []) (he : rowErr b rs[k] = 0) : rowsErr b (rs.drop k) = rowsErr false (rs.drop (k + 1)) := by
  rw [List.drop_eq_getElem_cons h, rowsErr, if_neg hr, if_pos he]
theorem sumR_take (rs : List (List ByteArray)) (k : Nat) (h : k < rs.length) : sumR (rs.take (k + 1)) = sumR (rs.take k) + bulkS rs[k] := by
  rw [List.take_succ_eq_append_getElem h]
  unfold sumR
  rw [List.map_append, List.sum_append]
  rfl
theorem sumR_le (rs : List (List ByteArray)) (k : Nat) : sumR (rs.take k) ≤ sumR rs := by
  conv => rhs; rw [← List.take_append_drop k rs]
  unfold sumR
  rw [List.map_append, List.sum_append]
  exact Nat.le_add_right _ _
theorem bulkS_snoc (ss : List ByteArray) (i : Nat) (h : i < ss.length) : bulkS (ss.take (i + 1)) = bulkS (ss.take i) + (ss[i].size + 1) := by
  rw [List.take_succ_eq_append_getElem h]
  unfold bulkS
  rw [List.map_append, List.sum_append]
  rfl
theorem bulkS_part (ss : List ByteArray) (i : Nat) : bulkS (ss.take i) ≤ bulkS ss := by
  conv => rhs; rw [← List.take_append_drop i ss]
  unfold bulkS
  rw [List.map_append, List.sum_append]
  exact Nat.le_add_right _ _
theorem sumR_at (rs : List (List ByteArray)) (k : Nat) (h : k < rs.length) : sumR (rs.take k) + bulkS rs[k] ≤ sumR rs := by
  rw [← sumR_take rs k h]; exact sumR_le rs _
theorem joinTail_lens (r : List ByteArray) : (Lib.joinTail [32] (r.map (·.data.toList))).length = bulkS r := by
  induction r with
  | nil => rfl
  | cons f r ih =>
    rw [bulkS_cons, ← ih]
    simp [Lib.joinTail]
    omega
theorem rowText_len (r : List ByteArray) (h : r ≠ []) : (rowText r).length = bulkS r := by
  cases r with
  | nil => exact absurd rfl h
  | cons f r =>
    unfold rowText lineOf
    rw [List.map_cons, Lib.join_cons, List.length_append, List.length_append, joinTail_lens, bulkS_cons]
    simp
    omega
theorem rowText_le (r : List ByteArray) : (rowText r).length ≤ bulkS r + 1 := by
  cases r with
  | nil => simp [rowText, lineOf, Lib.join_nil]
  | cons f r => rw [rowText_len _ (by simp)]; omega
theorem rowsText_take (rs : List (List ByteArray)) (k : Nat) (h : k < rs.length) : rowsText (rs.take (k + 1)) = rowsText (rs.take k) ++ rowText rs[k] := by
  rw [List.take_succ_eq_append_getElem h]
  unfold rowsText
  rw [List.flatMap_append]
  simp
theorem rowsText_le (rs : List (List ByteArray)) : (rowsText rs).length ≤ sumR rs + rs.length := by
  induction rs with
  | nil => simp [rowsText, sumR]
  | cons r rs ih =>
    have := rowText_le r
    have e : rowsText (r :: rs) = rowText r ++ rowsText rs := by simp [rowsText]
    have e2 : sumR (r :: rs) = bulkS r + sumR rs := by simp [sumR]
    rw [e, e2, List.length_append, List.length_cons]; omega
/-- The fields ahead of the j-th, each with a blank behind it. -/
def partText (r : List ByteArray) (j : Nat) : List UInt8 := (r.take j).flatMap fun f => f.data.toList ++ [32]
theorem partText_snoc (r : List ByteArray) (j : Nat) (h : j < r.length) : partText r (j + 1) = partText r j ++ (r[j].data.toList ++ [32]) := by
  unfold partText
  rw [List.take_succ_eq_append_getElem h, List.flatMap_append]
  simp
theorem join_snoc (l : List (List UInt8)) (x : List UInt8) : Lib.join (l ++ [x]) [32] = l.flatMap (fun f => f ++ [32]) ++ x := by
  cases l with
  | nil => simp [Lib.join_one]
  | cons a l =>
    rw [List.cons_append, Lib.join_cons]
    unfold Lib.joinTail
    induction l generalizing a with
    | nil => simp
    | cons b l ih =>
      have := ih b
      simp at this ⊢
      exact this
theorem partText_last (r : List ByteArray) (j : Nat) (h : j + 1 = r.length) : partText r j ++ (r[j].data.toList ++ [10]) = rowText r := by
  unfold rowText
  have e : r = r.take j ++ [r[j]] := by rw [← List.take_succ_eq_append_getElem (by omega), h, List.take_length]
  have e2 : r.map (·.data.toList) = (r.take j).map (·.data.toList) ++ [r[j].data.toList] := by
    have e3 := congrArg (List.map fun x : ByteArray => x.data.toList) e
    rw [List.map_append] at e3
    exact e3
  unfold lineOf
  rw [e2, join_snoc]
  unfold partText
  rw [List.flatMap_map]
  simp
theorem partText_len (r : List ByteArray) (j : Nat) : (partText r j).length = bulkS (r.take j) := by
  unfold partText
  generalize r.take j = l
  induction l with
  | nil => rfl
  | cons f l ih => rw [bulkS_cons, ← ih]; simp; omega
theorem fit_empty (f : ByteArray) (b : Bool) (h : f.size = 0) : fitS f b = false := by
  have : f.data.toList = [] := by rw [← List.length_eq_zero_iff]; simpa using h
  unfold fitS; rw [this]; rfl

/-- In W the value v reads as rows of texts. -/
def RS (w : World) (g : Value) (gs : List (Value × List ByteArray)) : Prop :=
  ∃ (p : Option Addr) (c : Nat), g = .slice p gs.length c ∧ gs.length ≤ c ∧ (gs.length = 0 ∨ ∃ b off, p = some ⟨b, off, none⟩ ∧ ∀ j (hj : j < gs.length), w.cell? ⟨b, off + j, none⟩ = some gs[j].1) ∧ ∀ x ∈ gs, Rd w 1 x.1 x.2.length (strV x.2)
theorem RS.keep {w w' : World} {g : Value} {gs : List (Value × List ByteArray)} (h : RS w g gs) (hb : Below w.heap.size w w') : RS w' g gs := by
  obtain ⟨p, c, hv, hc, h1, h2⟩ := h
  refine ⟨p, c, hv, hc, h1.imp id ?_, fun x hx => (h2 x hx).keep hb⟩
  rintro ⟨b, off, hp, h3⟩
  exact ⟨b, off, hp, fun j hj => (hb.cell (World.block_lt_of_cell? w _ (h3 j hj))).trans (h3 j hj)⟩
abbrev rowsV (gs : List (Value × List ByteArray)) : List (List ByteArray) := gs.map (·.2)
theorem rowsV_at (gs : List (Value × List ByteArray)) (k : Nat) (h : k < gs.length) (h' : k < (rowsV gs).length) : (rowsV gs)[k] = gs[k].2 := by simp [rowsV]
end Go.Proofs.YtbhfkhfnljddhaaDoor
