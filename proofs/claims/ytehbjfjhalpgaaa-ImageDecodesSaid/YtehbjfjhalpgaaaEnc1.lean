/-
  What writes into a builder leaves: blocks that are neither builders nor rows of bytes.
-/
import Derived.Test.YtehbjfjhalpgaaaRows
import Derived.Test.YtehbjfjhalpgaaaImg24
namespace Go.Proofs.Ytehbjfjhalpgaaa
open Go.RowKit

/-- From w to w' every block that is neither a builder nor a row of bytes is as it was. -/
def KT (w w' : World) : Prop := ∀ (k : Nat) (cs : Array Value) (t : TypeId), w.heap[k]? = some (.cells cs t (0, 0)) → t ≠ 59 → t ≠ 5 → w'.heap[k]? = some (.cells cs t (0, 0))
theorem KT.refl (w : World) : KT w w := fun _ _ _ h _ _ => h
theorem KT.trans {a b c : World} (h : KT a b) (k : KT b c) : KT a c := fun i cs t hi h1 h2 => k i cs t (h i cs t hi h1 h2) h1 h2
theorem KT.of_below {w w' : World} (h : Below w.heap.size w w') : KT w w' := fun k _ _ hk _ _ => (h.block k (block_lt hk)).trans hk
theorem KT.alloc (w : World) (o : Obj) : KT w (w.alloc o) := KT.of_below ((Below.refl _ _).alloc (Nat.le_refl _) _)
theorem KT.set {w : World} {b : Nat} {bs : Array Value} (hb : w.heap[b]? = some (.cells bs 59 (0, 0))) (i : Nat) (v : Value) : KT w (w.setCell ⟨b, i, none⟩ v) := fun k cs t hk h1 _ => by
  rw [heap_setCell_other w ⟨b, i, none⟩ k v (fun e => by
    have e : k = b := e
    subst e
    rw [hk] at hb
    injection hb with hb
    injection hb with _ hb _
    exact h1 hb)]
  exact hk
theorem KT.grown {w w' : World} {B n : Nat} {v : Value} {xs : List Value} (ho : w.ownsRow B 5 1 v n xs) (hg : w.grownBy w' v.ownBlock) : KT w w' := fun k cs t hk _ h2 => by
  rw [hg.block k (block_lt hk) (fun e => h2 (Ty.uniq ⟨cs, hk⟩ (own_ty ho e.symm).1))]
  exact hk

theorem copyCheck_ty (B b : Nat) (bs : List Value) (w : World) (h : IsB B b bs w) :
    Calls Try.prog 47 #[.pointer (some ⟨b, 0, none⟩)] w fun e w' => e = .returned (.tuple #[]) ∧ (BAt B b bs w' ∧ Below B w w' ∧ KT w w') := by
  rcases h with h | h
  · refine (copyCheck_fresh b w h.cell0 h.shape h.frozen0).mono ?_
    rintro e w' ⟨rfl, rfl⟩
    have hB := h.1
    have hu := h.used (.pointer (some ⟨b, 0, none⟩))
    obtain ⟨_, v, hb, _⟩ := h
    exact ⟨rfl, hu, (Below.refl B w).setCell (p := ⟨b, 0, none⟩) hB _, KT.set hb _ _⟩
  · refine (copyCheck_used b w h.cell0).mono ?_
    rintro e w' ⟨rfl, rfl⟩
    exact ⟨rfl, h, Below.refl B _, KT.refl _⟩

set_option maxHeartbeats 2000000 in
set_option maxRecDepth 100000 in
theorem writeByte_ty (B b : Nat) (bs : List Value) (c : Int) (w : World) (h : IsB B b bs w) (hlen : bs.length + 1 ≤ 140737488355328) (hBw : B ≤ w.heap.size) :
    Calls Try.prog 24 #[.pointer (some ⟨b, 0, none⟩), .int .u8 c] w fun e w' => e = .returned .nilIface ∧ (BAt B b (bs ++ [.int .u8 c]) w' ∧ Below B w w' ∧ KT w w') := by
  obtain ⟨i0, hi, hz0, hz1, hz2⟩ := info_parts byte_info
  go_enter Try.func24, Try.ntmps24
  go_wp2_with (go_at_call 47; refine (copyCheck_ty B b bs _ h).mono ?_)
  rintro e w1 ⟨rfl, h1, hb1, hk1⟩
  obtain ⟨hB, v, hbk, hown, hne⟩ := h1
  have c0 : w1.cell? ⟨b, 0, none⟩ = some (.pointer (some ⟨b, 0, none⟩)) := by rw [Lib.cell_of_heap hbk]; rfl
  have c1 : w1.cell? ⟨b, 1, none⟩ = some v := by rw [Lib.cell_of_heap hbk]; rfl
  have HK1 := Lib.hid hk1
  clear hk1
  go_wp2_with (at_builtin; refine wpList_append_own _ rfl _ _ 57 rfl B 5 i0 (.int .u8 0) 1 1 Try.underlying57 hi hz0 hz1 hz2 rfl (by decide) _ _ _ rfl (hown.alloc _) ⟨w1.heap.size, 0, none⟩ 1 1 [.int .u8 c] rfl rfl ?c1 ?c2 ?c3 ?c4 ?c5 ?_)
  case c1 =>
    intro j u hj
    match j, hj with
    | 0, hj => simp at hj; subst hj; simp [Addr.add]
  case c2 => intro u hu; simp at hu; subst hu; rfl
  case c3 => unfold maxLen; omega
  case c4 => omega
  case c5 => have := hb1.size; simp; omega
  intro v' w2 hown' hgrow _
  have hlt : b < w1.heap.size := by
    rcases Nat.lt_or_ge b w1.heap.size with h' | h'
    · exact h'
    · simp [Array.getElem?_eq_none h'] at hbk
  have hb2 : w2.heap[b]? = some (.cells #[.pointer (some ⟨b, 0, none⟩), v] 59 (0, 0)) := by
    rw [hgrow.block b (by simp; omega) (fun e => hne e.symm), Lib.alloc_old w1 _ b hlt]
    exact hbk
  have HK2 : Hid (KT w w2) := Lib.hid (HK1.out.trans ((KT.alloc w1 _).trans (KT.grown (hown.alloc _) hgrow)))
  have HK3 : Hid (∀ u, KT w (w2.setCell ⟨b, 1, none⟩ u)) := Lib.hid (fun u => HK2.out.trans (KT.set hb2 1 u))
  have d0 : w2.cell? ⟨b, 0, none⟩ = some (.pointer (some ⟨b, 0, none⟩)) := by rw [Lib.cell_of_heap hb2]; rfl
  have d1 : w2.cell? ⟨b, 1, none⟩ = some v := by rw [Lib.cell_of_heap hb2]; rfl
  have f1 : w2.frozen? ⟨b, 1, none⟩ = false := Lib.frozen_of_heap hb2 1
  obtain ⟨g, cap, rfl⟩ : ∃ g cap, v' = .slice (some ⟨g, 0, none⟩) (bs.length + 1) cap := by
    rcases hown'.2 with ⟨_, h0⟩ | ⟨g, cap, cur, hv, _⟩
    · omega
    · exact ⟨g, cap, hv⟩
  go_wp2
  go_ret
  refine ⟨rfl, ?_, ?_, HK3.out _⟩
  · exact Lib.BuilderAt.put (T := 59) (e := 5) hB hb2 (bs' := bs ++ [.int .u8 c]) (by simpa using hown') (by decide)
  · exact ((hb1.alloc (by have := hb1.size; omega) _).grown hgrow (by have := hb1.size; simp; omega) (fun k hk => (hown.lt k hk).1)).setCell (p := ⟨b, 1, none⟩) hB _

set_option maxHeartbeats 2000000 in
set_option maxRecDepth 100000 in
theorem writeString_ty (B b : Nat) (bs : List Value) (s : ByteArray) (w : World) (h : IsB B b bs w) (hlen : bs.length + s.size ≤ 140737488355328) (hBw : B ≤ w.heap.size) :
    Calls Try.prog 20 #[.pointer (some ⟨b, 0, none⟩), .string s] w fun e w' => e = .returned (.tuple #[.int .i64 s.size, .nilIface]) ∧ (BAt B b (bs ++ Lib.byteCells s.data.toList) w' ∧ Below B w w' ∧ KT w w') := by
  have hbc : Lib.strCells s = Lib.byteCells s.data.toList := by simp [Lib.strCells, Lib.byteCells]
  obtain ⟨i0, hi, hz0, hz1, hz2⟩ := info_parts byte_info
  go_enter Try.func20, Try.ntmps20
  go_wp2_with (go_at_call 47; refine (copyCheck_ty B b bs _ h).mono ?_)
  rintro e w1 ⟨rfl, h1, hb1, hk1⟩
  obtain ⟨hB, v, hbk, hown, hne⟩ := h1
  have c0 : w1.cell? ⟨b, 0, none⟩ = some (.pointer (some ⟨b, 0, none⟩)) := by rw [Lib.cell_of_heap hbk]; rfl
  have c1 : w1.cell? ⟨b, 1, none⟩ = some v := by rw [Lib.cell_of_heap hbk]; rfl
  have HK1 := Lib.hid hk1
  clear hk1
  go_wp2_with (at_builtin; refine Lib.wpList_append_own_string _ rfl _ _ 57 9 rfl B 5 i0 Try.underlying57 Try.underlying9 hi hz0 hz1 hz2 _ _ _ rfl hown s rfl ?c3 ?c4 ?c5 ?_)
  case c3 => unfold maxLen; omega
  case c4 => omega
  case c5 => have := hb1.size; omega
  intro v' w2 hown' hgrow _
  have hlt : b < w1.heap.size := by
    rcases Nat.lt_or_ge b w1.heap.size with h' | h'
    · exact h'
    · simp [Array.getElem?_eq_none h'] at hbk
  have hb2 : w2.heap[b]? = some (.cells #[.pointer (some ⟨b, 0, none⟩), v] 59 (0, 0)) := by
    rw [hgrow.block b hlt (fun e => hne e.symm)]
    exact hbk
  have HK2 : Hid (KT w w2) := Lib.hid (HK1.out.trans (KT.grown hown hgrow))
  have HK3 : Hid (∀ u, KT w (w2.setCell ⟨b, 1, none⟩ u)) := Lib.hid (fun u => HK2.out.trans (KT.set hb2 1 u))
  have d0 : w2.cell? ⟨b, 0, none⟩ = some (.pointer (some ⟨b, 0, none⟩)) := by rw [Lib.cell_of_heap hb2]; rfl
  have d1 : w2.cell? ⟨b, 1, none⟩ = some v := by rw [Lib.cell_of_heap hb2]; rfl
  have f1 : w2.frozen? ⟨b, 1, none⟩ = false := Lib.frozen_of_heap hb2 1
  have hbl : Below B w w2 := hb1.grown hgrow (by have := hb1.size; omega) (fun k hk => (hown.lt k hk).1)
  have HF := Lib.hid (Lib.BuilderAt.put (T := 59) (e := 5) hB hb2 (bs' := bs ++ Lib.strCells s) (by rw [List.length_append, Lib.strCells_length]; exact hown') (by decide))
  have HBl := Lib.hid hbl
  rw [hbc] at HF
  have hform : v' = .slice none 0 0 ∨ ∃ g n cap, v' = .slice (some ⟨g, 0, none⟩) n cap := by
    rcases hown'.2 with ⟨hv, h0⟩ | ⟨g, cap, cur, hv, _⟩
    · first | exact .inl hv | (subst h0; exact .inl hv)
    · exact .inr ⟨g, _, cap, hv⟩
  clear hown' hbl hown hbk hb2 hgrow hbc
  rcases hform with rfl | ⟨g, n, cap, rfl⟩
  all_goals
    go_wp2
    go_ret2
    exact ⟨rfl, HF.out, HBl.out.setCell (p := ⟨b, 1, none⟩) hB _, HK3.out _⟩

set_option maxHeartbeats 4000000 in
set_option maxRecDepth 100000 in
theorem encNum_ty (B b x : Nat) (l : List UInt8) (w : World) (h : IsB B b (Lib.byteCells l) w) (hx : x ≤ 9223372036854775807) (hlen : l.length ≤ 70368744177664) (hBw : B ≤ w.heap.size) :
    Calls Try.prog 19 #[.int .i64 (x : Int), .pointer (some ⟨b, 0, none⟩)] w fun e w' => e = .returned (.tuple #[]) ∧ IsB B b (Lib.byteCells (l ++ uintB x)) w' ∧ Below B w w' ∧ KT w w' := by
  have hU := Uint_any x (by omega) w
  have hl := uintB_ten x (by omega)
  have hw : IntKind.u64.wrap (x : Int) = (x : Int) := by rw [IntKind.wrap_u64]; omega
  obtain ⟨T, hT⟩ : ∃ T, mkS (uintB x) = T := ⟨_, rfl⟩
  have HT : Hid (T.data.toList = uintB x) := Lib.hid (by rw [← hT, mkS_data])
  have HTs : Hid (T.size = (uintB x).length) := Lib.hid (by rw [← hT, mkS_size])
  rw [hT] at hU
  have HU := Lib.hid hU
  have HL := Lib.hid hl
  have H := Lib.hid h
  clear hT hU hl h
  go_enter Try.func19, Try.ntmps19
  go_wp2_with fail
  refine HU.out.mono ?_
  rintro e w1 ⟨rfl, hb1⟩
  have H1 := Lib.hid (H.out.call hb1)
  have HB1 := Lib.hid (hb1.mono hBw)
  have HK1 := Lib.hid (KT.of_below hb1)
  have hsz1 := hb1.size
  clear hb1
  go_wp2_with fail
  refine (writeString_ty B b _ T w1 H1.out (by rw [bcells_len]; have := HTs.out; have := HL.out; omega) (by omega)).mono ?_
  rintro e w2 ⟨rfl, hat, hb2, hk2⟩
  have H2 := Lib.hid hat
  have HB2 := Lib.hid (HB1.out.trans hb2)
  have HK2 := Lib.hid (HK1.out.trans hk2)
  clear hat hb2 hk2
  go_wp2_with fail
  go_end0
  exact ⟨rfl, by rw [← bcells_app, ← HT.out]; exact H2.out.is, HB2.out, HK2.out⟩
set_option maxHeartbeats 4000000 in
set_option maxRecDepth 100000 in
theorem encFrame_ty (B b : Nat) (l : List UInt8) (ss : List ByteArray) (g o cap : Nat) (w : World) (h : IsB B b (Lib.byteCells l) w) (hn : ss.length ≤ 1000) (hg : g < w.heap.size) (hc : ∀ k (h : k < ss.length), w.cell? ⟨g, o + k, none⟩ = some (.string ss[k])) (hlen : l.length ≤ 70368744177664) (hsz : (frameS ss).1.size ≤ 1000000) (hBw : B ≤ w.heap.size) :
    Calls Try.prog 22 #[.slice (some ⟨g, o, none⟩) ss.length cap, .pointer (some ⟨b, 0, none⟩)] w fun e w' => e = .returned (.tuple #[]) ∧ IsB B b (Lib.byteCells (l ++ (frameS ss).1.data.toList)) w' ∧ Below B w w' ∧ KT w w' := by
  have hF := Frame_any ss g o cap w hn hg hc
  obtain ⟨⟨T, c⟩, hT⟩ : ∃ T, frameS ss = T := ⟨_, rfl⟩
  rw [hT] at hF hsz ⊢
  dsimp only at hF hsz ⊢
  have HF := Lib.hid hF
  have H := Lib.hid h
  clear hF hT h hc
  go_enter Try.func22, Try.ntmps22
  go_wp2_with fail
  refine HF.out.mono ?_
  rintro e w1 ⟨rfl, hb1⟩
  have H1 := Lib.hid (H.out.call hb1)
  have HB1 := Lib.hid (hb1.mono hBw)
  have HK1 := Lib.hid (KT.of_below hb1)
  have hsz1 := hb1.size
  clear hb1
  go_wp2_with fail
  refine (writeString_ty B b _ T w1 H1.out (by rw [bcells_len]; omega) (by omega)).mono ?_
  rintro e w2 ⟨rfl, hat, hb2, hk2⟩
  have H2 := Lib.hid hat
  have HB2 := Lib.hid (HB1.out.trans hb2)
  have HK2 := Lib.hid (HK1.out.trans hk2)
  clear hat hb2 hk2
  go_wp2_with fail
  go_end0
  exact ⟨rfl, by rw [← bcells_app]; exact H2.out.is, HB2.out, HK2.out⟩
end Go.Proofs.Ytehbjfjhalpgaaa
