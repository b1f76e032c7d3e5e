/-
  A book among the arguments, opened: what it reads as, and how long its slices can be.
-/
import Derived.Test.YtehbjfjhalpgaaaRows
import Derived.Test.YtehbjfjhalpgaaaIA
import Derived.Test.YtehbjfjhalpgaaaEnc7
import Derived.Deep.Slices
import Derived.Deep.Fields
import Derived.ChangeSame
import Derived.OpenShut
import Derived.SizedLaws
namespace Go.Proofs.Ytehbjfjhalpgaaa
open Go.ChangeShapes Go.WideShapes Go.ChangeAt Go.RowKit Go.Deep

theorem addr_plain' {w : World} {a : Addr} {v : Value} (h : w.cell? a = some v) : a = ⟨a.block, a.off, none⟩ := by
  obtain ⟨b, o, sp⟩ := a
  cases sp with
  | none => rfl
  | some s =>
    simp [World.cell?] at h
    split at h <;> simp at h
theorem addr_add' (g o j : Nat) : (⟨g, o, none⟩ : Addr).add j = ⟨g, o + j, none⟩ := by unfold Addr.add; split <;> simp_all
theorem pick_list {α : Type} {p : Nat → α → Prop} : ∀ n : Nat, (∀ k, k < n → ∃ a, p k a) → ∃ l : List α, l.length = n ∧ ∀ k (h : k < l.length), p k l[k]
  | 0, _ => ⟨[], rfl, fun k h => absurd h (Nat.not_lt_zero _)⟩
  | n + 1, h => by
    obtain ⟨l, hl, hp⟩ := pick_list n (fun k hk => h k (by omega))
    obtain ⟨a, ha⟩ := h n (by omega)
    refine ⟨l ++ [a], by simp [hl], fun k hk => ?_⟩
    by_cases e : k < l.length
    · rw [List.getElem_append_left e]; exact hp k e
    · have : k = n := by simp at hk; omega
      subst this
      rw [List.getElem_append_right (by omega)]
      simp only [hl, Nat.sub_self, List.getElem_cons_zero]
      exact ha
theorem mem_weightsAll {H : Type} {P : Program} {e : TypeId} {d : DataW H} : ∀ (l : List (DataW H)), d ∈ l → ∀ n ∈ d.weights P e, n ∈ DataW.weightsAll P e l
  | [], h, _, _ => by cases h
  | x :: l, h, n, hn => by
    unfold DataW.weightsAll
    rcases List.mem_cons.1 h with rfl | h
    · exact List.mem_append_left _ hn
    · exact List.mem_append_right _ (mem_weightsAll l h n hn)

section
variable {H : Type} {enc : TypeId × Value → H} {W : World}
set_option maxRecDepth 100000 in
/-- A slice of structs of two fields of one cell each: its cells, its elements' readings, its weight. -/
theorem open_two {t e : TypeId} {f0 f1 : Field} {fuel : Nat} {v : Value} {x : DataW H × List MemPlace} (ht : Try.prog.underlying t = some (.slice e)) (he : Try.prog.underlying e = some (.struct #[f0, f1])) (hone : oneCellFields Try.prog #[f0, f1] = true) (hC : Try.prog.cellsOf e = 2)
    (h : DataW.trod enc Try.prog W 0 (fun _ => true) true fuel t [v] = some x) (B : Nat) (hB : ∀ m ∈ x.1.weights Try.prog t, m ≤ B) :
    ∃ (A : Option Addr) (len cap : Nat), v = .slice A len cap ∧ len ≤ cap ∧ cap ≤ maxLen ∧ (len = 0 ∨ cap * Try.prog.bytesOf e ≤ B ∧ ∃ g o, A = some ⟨g, o, none⟩ ∧ g < W.heap.size ∧ ∀ k, k < len → ∃ c0 c1 y0 y1 n, W.cell? ⟨g, o + k * 2, none⟩ = some c0 ∧ W.cell? ⟨g, o + k * 2 + 1, none⟩ = some c1 ∧
      DataW.trod enc Try.prog W 0 (fun _ => true) true n f0.type [c0] = some y0 ∧ DataW.trod enc Try.prog W 0 (fun _ => true) true n f1.type [c1] = some y1 ∧ (∀ m ∈ y0.1.weights Try.prog f0.type, m ≤ B) ∧ (∀ m ∈ y1.1.weights Try.prog f1.type, m ≤ B)) := by
  rcases open_slice ht h with ⟨hcs, hx⟩ | ⟨a, len, cap, m, n, D, Pl, hcs, _, hl, hm, hmm, hx, hi⟩
  · obtain rfl : v = .slice none 0 0 := by simpa using hcs
    exact ⟨none, 0, 0, rfl, Nat.le_refl _, Nat.zero_le _, .inl rfl⟩
  · obtain rfl : v = .slice (some a) len cap := by simpa using hcs
    simp only [if_true] at hmm
    subst hmm
    refine ⟨some a, len, m, rfl, hl, hm, ?_⟩
    rcases Nat.eq_zero_or_pos len with h0 | h0
    · exact .inl h0
    · right
      obtain ⟨o0, k0⟩ := hone_of hone 0 f0 rfl
      obtain ⟨o1, k1⟩ := hone_of hone 1 f1 rfl
      have hwt : x.1.weights Try.prog t = (((List.range len).map D).length + ((List.range (m - len)).map fun j => D (len + j)).length) * Try.prog.bytesOf e :: (DataW.weightsAll Try.prog e ((List.range len).map D) ++ DataW.weightsAll Try.prog e ((List.range (m - len)).map fun j => D (len + j))) := by
        rw [hx, DataW.weights, ht]
      rw [hwt] at hB
      have hcell : ∀ k, k < len → ∃ c0 c1 y0 y1 n, W.cell? (a.add (k * 2)) = some c0 ∧ W.cell? (a.add (k * 2 + 1)) = some c1 ∧ D k = .agg [y0.1, y1.1] ∧
          DataW.trod enc Try.prog W 0 (fun _ => true) true n f0.type [c0] = some y0 ∧ DataW.trod enc Try.prog W 0 (fun _ => true) true n f1.type [c1] = some y1 := fun k hk => by
        obtain ⟨cs', hc, htr⟩ := hi k (by omega)
        rw [hC] at hc
        obtain ⟨ys, n', _, hy, hlen, hyl, hf⟩ := DataW.trod_struct he htr
        obtain ⟨_, hcl, hat⟩ := World.cells?_some hc
        match cs', hcl with
        | [c0, c1], _ =>
          match ys, hyl with
          | [y0, y1], _ =>
            simp only [Prod.mk.injEq] at hy
            have g0 := hat 0 (by omega)
            have g1 := hat 1 (by omega)
            rw [Go.Deep.add_add] at g0 g1
            refine ⟨c0, c1, y0, y1, n', by simpa using g0, by simpa using g1, by simpa using hy.1, ?_, ?_⟩
            · have := hf 0 f0 rfl
              rw [o0, k0] at this
              simpa using this
            · have := hf 1 f1 rfl
              rw [o1, k1] at this
              simpa using this
      refine ⟨?_, ?_⟩
      · have := hB _ (List.mem_cons.2 (.inl rfl))
        simpa [hl] using this
      · obtain ⟨c0, _, _, _, _, h1, _⟩ := hcell 0 h0
        have e0 : a.add (0 * 2) = a := by simp [Addr.add]
        rw [e0] at h1
        have ha := addr_plain' h1
        refine ⟨a.block, a.off, by rw [← ha], World.block_lt_of_cell? W a h1, fun k hk => ?_⟩
        obtain ⟨c0, c1, y0, y1, n', g0, g1, hD, ht0, ht1⟩ := hcell k hk
        rw [ha, addr_add'] at g0 g1
        have hmem : ∀ m ∈ (D k).weights Try.prog e, m ≤ B := fun q hq => hB q (by
          refine List.mem_cons_of_mem _ (List.mem_append_left _ (mem_weightsAll _ ?_ q hq))
          exact List.mem_map.2 ⟨k, List.mem_range.2 hk, rfl⟩)
        have hwD : (D k).weights Try.prog e = y0.1.weights Try.prog f0.type ++ (y1.1.weights Try.prog f1.type ++ []) := by
          rw [hD, DataW.weights, he]
          rfl
        rw [hwD] at hmem
        exact ⟨c0, c1, y0, y1, n', g0, by rw [Nat.add_assoc]; exact g1, ht0, ht1, fun q hq => hmem q (List.mem_append_left _ hq), fun q hq => hmem q (List.mem_append_right _ (List.mem_append_left _ hq))⟩
theorem edge_under : ∃ f0 f1 : Field, Try.prog.underlying 55 = some (.struct #[f0, f1]) ∧ f0.type = 5 ∧ f1.type = 3 ∧ oneCellFields Try.prog #[f0, f1] = true := ⟨_, _, Try.underlying55, rfl, rfl, by kernel_rfl⟩
theorem state_under : ∃ f0 f1 : Field, Try.prog.underlying 53 = some (.struct #[f0, f1]) ∧ f0.type = 4 ∧ f1.type = 51 ∧ oneCellFields Try.prog #[f0, f1] = true := ⟨_, _, Try.underlying53, rfl, rfl, by kernel_rfl⟩
theorem rep_under : ∃ f0 f1 : Field, Try.prog.underlying 50 = some (.struct #[f0, f1]) ∧ f0.type = 9 ∧ f1.type = 9 ∧ oneCellFields Try.prog #[f0, f1] = true := ⟨_, _, Try.underlying50, rfl, rfl, by kernel_rfl⟩
theorem bytes_edge : Try.prog.bytesOf 55 = 16 := by kernel_rfl
theorem bytes_state : Try.prog.bytesOf 53 = 32 := by kernel_rfl
theorem bytes_rep : Try.prog.bytesOf 50 = 32 := by kernel_rfl
theorem reach_num : reachBytes = 140737488351232 := rfl
set_option maxRecDepth 100000 in
theorem open_eds {fuel : Nat} {v : Value} {x : DataW H × List MemPlace} (h : DataW.trod enc Try.prog W 0 (fun _ => true) true fuel 51 [v] = some x) (hB : ∀ m ∈ x.1.weights Try.prog 51, m ≤ reachBytes) :
    ∃ es : List Ed, EdsAt W (fun _ => True) v es ∧ es.length ≤ 8796093021952 := by
  obtain ⟨f0, f1, hu, e0, e1, hone⟩ := edge_under
  obtain ⟨A, len, cap, rfl, hl, hm, h0⟩ := open_two Try.underlying51 hu hone (by kernel_rfl) h reachBytes hB
  rcases h0 with h0 | ⟨hcap, g, o, rfl, hg, hc⟩
  · subst h0
    exact ⟨[], ⟨A, cap, rfl, ⟨Nat.zero_le _, hm⟩, .inl rfl⟩, Nat.zero_le _⟩
  · obtain ⟨es, hes, hp⟩ := pick_list (p := fun k (e : Ed) => W.cell? ⟨g, o + k * 2, none⟩ = some (.int .u8 (e.1.toNat : Int)) ∧ W.cell? ⟨g, o + k * 2 + 1, none⟩ = some (.int .i64 e.2)) len (fun k hk => by
      obtain ⟨c0, c1, y0, y1, n, g0, g1, t0, t1, _, _⟩ := hc k hk
      rw [e0] at t0
      rw [e1] at t1
      obtain ⟨b, hb, _, wb⟩ := DataW.trod_int Try.underlying5 t0
      obtain ⟨i, hi, _, _⟩ := DataW.trod_int Try.underlying3 t1
      obtain rfl : c0 = _ := by simpa using hb
      obtain rfl : c1 = _ := by simpa using hi
      have hb8 := bounds_u8 wb
      exact ⟨(UInt8.ofNat b.toNat, i), by rw [g0]; simp only [UInt8.toNat_ofNat']; congr 2; omega, g1⟩)
    rw [bytes_edge, reach_num] at hcap
    subst hes
    exact ⟨es, ⟨_, cap, rfl, ⟨hl, hm⟩, .inr ⟨g, o, rfl, hg, trivial, hp⟩⟩, by omega⟩
set_option maxRecDepth 100000 in
theorem open_aut {fuel : Nat} {v : Value} {x : DataW H × List MemPlace} (h : DataW.trod enc Try.prog W 0 (fun _ => true) true fuel 23 [v] = some x) (hB : ∀ m ∈ x.1.weights Try.prog 23, m ≤ reachBytes) :
    ∃ A : List St, AutAt W (fun _ => True) v A ∧ A.length ≤ 4398046510976 ∧ ∀ y ∈ A, y.2.length ≤ 8796093021952 := by
  obtain ⟨f0, f1, hu, e0, e1, hone⟩ := state_under
  obtain ⟨A, len, cap, rfl, hl, hm, h0⟩ := open_two Try.underlying23 hu hone (by kernel_rfl) h reachBytes hB
  rcases h0 with h0 | ⟨hcap, g, o, rfl, hg, hc⟩
  · subst h0
    exact ⟨[], ⟨A, cap, rfl, ⟨Nat.zero_le _, hm⟩, .inl rfl⟩, Nat.zero_le _, fun _ h => by cases h⟩
  · obtain ⟨L, hL, hp⟩ := pick_list (p := fun k (s : St) => (W.cell? ⟨g, o + k * 2, none⟩ = some (.bool s.1) ∧ ∃ ev, W.cell? ⟨g, o + k * 2 + 1, none⟩ = some ev ∧ EdsAt W (fun _ => True) ev s.2) ∧ s.2.length ≤ 8796093021952) len (fun k hk => by
      obtain ⟨c0, c1, y0, y1, n, g0, g1, t0, t1, _, w1⟩ := hc k hk
      rw [e0] at t0
      rw [e1] at t1 w1
      obtain ⟨b, hb, _⟩ := DataW.trod_bool Try.underlying4 t0
      obtain rfl : c0 = _ := by simpa using hb
      obtain ⟨es, he, hel⟩ := open_eds t1 w1
      exact ⟨(b, es), ⟨g0, c1, g1, he⟩, hel⟩)
    rw [bytes_state, reach_num] at hcap
    subst hL
    exact ⟨L, ⟨_, cap, rfl, ⟨hl, hm⟩, .inr ⟨g, o, rfl, hg, trivial, fun k hk => (hp k hk).1⟩⟩, by omega, fun y hy => by
      obtain ⟨k, hk, rfl⟩ := List.mem_iff_getElem.1 hy
      exact (hp k hk).2⟩
set_option maxRecDepth 100000 in
theorem open_reps {fuel : Nat} {v : Value} {x : DataW H × List MemPlace} (h : DataW.trod enc Try.prog W 0 (fun _ => true) true fuel 22 [v] = some x) (hB : ∀ m ∈ x.1.weights Try.prog 22, m ≤ reachBytes) :
    ∃ rs : List Rp, RepsAt W v rs ∧ rs.length ≤ 4398046510976 ∧ ∀ k (h : k < rs.length), rs[k].1.size ≤ 140737488351232 ∧ rs[k].2.size ≤ 140737488351232 := by
  obtain ⟨f0, f1, hu, e0, e1, hone⟩ := rep_under
  obtain ⟨A, len, cap, rfl, hl, hm, h0⟩ := open_two Try.underlying22 hu hone (by kernel_rfl) h reachBytes hB
  rcases h0 with h0 | ⟨hcap, g, o, rfl, hg, hc⟩
  · subst h0
    exact ⟨[], ⟨A, cap, rfl, .inl rfl⟩, Nat.zero_le _, fun k h => absurd h (Nat.not_lt_zero _)⟩
  · obtain ⟨L, hL, hp⟩ := pick_list (p := fun k (s : Rp) => (W.cell? ⟨g, o + k * 2, none⟩ = some (.string s.1) ∧ W.cell? ⟨g, o + k * 2 + 1, none⟩ = some (.string s.2)) ∧ s.1.size ≤ 140737488351232 ∧ s.2.size ≤ 140737488351232) len (fun k hk => by
      obtain ⟨c0, c1, y0, y1, n, g0, g1, t0, t1, w0, w1⟩ := hc k hk
      rw [e0] at t0 w0
      rw [e1] at t1 w1
      obtain ⟨s0, h0, hy0, _⟩ := DataW.trod_string Try.underlying9 t0
      obtain ⟨s1, h1, hy1, _⟩ := DataW.trod_string Try.underlying9 t1
      obtain rfl : c0 = _ := by simpa using h0
      obtain rfl : c1 = _ := by simpa using h1
      subst hy0 hy1
      have z0 := w0 _ (List.mem_singleton.2 rfl)
      have z1 := w1 _ (List.mem_singleton.2 rfl)
      rw [len_toList] at z0 z1
      exact ⟨(s0, s1), ⟨g0, g1⟩, z0, z1⟩)
    rw [bytes_rep, reach_num] at hcap
    subst hL
    exact ⟨L, ⟨_, cap, rfl, .inr ⟨g, o, rfl, hg, fun k hk => (hp k hk).1⟩⟩, by omega, fun k hk => (hp k hk).2⟩
theorem book_under : ∃ f0 f1 f2 f3 : Field, Try.prog.underlying 26 = some (.struct #[f0, f1, f2, f3]) ∧ (f0.type = 3 ∧ f0.offset = 0) ∧ (f1.type = 9 ∧ f1.offset = 1) ∧ (f2.type = 22 ∧ f2.offset = 2) ∧ (f3.type = 24 ∧ f3.offset = 3) :=
  ⟨_, _, _, _, Try.underlying26, ⟨rfl, rfl⟩, ⟨rfl, rfl⟩, ⟨rfl, rfl⟩, ⟨rfl, rfl⟩⟩
theorem cells_int' : Try.prog.cellsOf 3 = 1 := by kernel_rfl
theorem cells_string' : Try.prog.cellsOf 9 = 1 := by kernel_rfl
theorem cells_reps' : Try.prog.cellsOf 22 = 1 := by kernel_rfl
theorem cells_states' : Try.prog.cellsOf 23 = 1 := by kernel_rfl
theorem cells_secs' : Try.prog.cellsOf 24 = 4 := by kernel_rfl
theorem cells_book' : Try.prog.cellsOf 26 = 7 := by kernel_rfl
set_option maxRecDepth 100000 in
theorem open_book {base : Nat} {v : Value} {d : DataW H} {p : List MemPlace} (hval : Value.okWide Try.prog W .any base 26 v)
    (h : DataW.Trod enc Try.prog W 0 (fun _ => true) true 26 v d p) (hw : ∀ m ∈ d.weights Try.prog 26, m ≤ reachBytes) :
    ∃ (n : Int) (t : ByteArray) (vr v0 v1 v2 v3 : Value) (rs : List Rp) (As : List (List St)), v = .agg #[.int .i64 n, .string t, vr, v0, v1, v2, v3] ∧ BkAt W (fun _ => True) vr v0 v1 v2 v3 rs As ∧ Small rs As ∧ t.size ≤ 140737488351232 ∧
      ∀ k (h : k < rs.length), rs[k].1.size ≤ 140737488351232 ∧ rs[k].2.size ≤ 140737488351232 := by
  obtain ⟨f0, f1, f2, f3, hu, ⟨e0, o0⟩, ⟨e1, o1⟩, ⟨e2, o2⟩, ⟨e3, o3⟩⟩ := book_under
  obtain ⟨cs, rfl, hsz⟩ := okWide_struct hu hval
  obtain ⟨l⟩ := cs
  match l, hsz.trans cells_book' with
  | [c0, c1, c2, c3, c4, c5, c6], _ =>
    obtain ⟨fuel, hf⟩ := h
    obtain ⟨xs, m, _, hx, _, hlen, hg⟩ := DataW.trod_struct hu hf
    match xs, hlen with
    | [y0, y1, y2, y3], _ =>
      simp only [Prod.mk.injEq] at hx
      have hd : d = .agg [y0.1, y1.1, y2.1, y3.1] := by simpa using hx.1
      have hwd : d.weights Try.prog 26 = y0.1.weights Try.prog f0.type ++ (y1.1.weights Try.prog f1.type ++ (y2.1.weights Try.prog f2.type ++ (y3.1.weights Try.prog f3.type ++ []))) := by
        rw [hd, DataW.weights, hu]; rfl
      rw [hwd] at hw
      have g0 := hg 0 f0 rfl
      have g1 := hg 1 f1 rfl
      have g2 := hg 2 f2 rfl
      have g3 := hg 3 f3 rfl
      rw [o0, e0, cells_int'] at g0
      rw [o1, e1, cells_string'] at g1
      rw [o2, e2, cells_reps'] at g2
      rw [o3, e3, cells_secs'] at g3
      obtain ⟨n, h0, _, _⟩ := DataW.trod_int (x := y0) Try.underlying3 (by simpa [Value.cells] using g0)
      obtain ⟨t, h1, hy1, _⟩ := DataW.trod_string (x := y1) Try.underlying9 (by simpa [Value.cells] using g1)
      have w1 : ∀ q ∈ y1.1.weights Try.prog 9, q ≤ reachBytes := fun q hq => hw q (by rw [e1]; exact List.mem_append_right _ (List.mem_append_left _ hq))
      have w2 : ∀ q ∈ y2.1.weights Try.prog 22, q ≤ reachBytes := fun q hq => hw q (by rw [e2]; exact List.mem_append_right _ (List.mem_append_right _ (List.mem_append_left _ hq)))
      have w3 : ∀ q ∈ y3.1.weights Try.prog 24, q ≤ reachBytes := fun q hq => hw q (by rw [e3]; exact List.mem_append_right _ (List.mem_append_right _ (List.mem_append_right _ (List.mem_append_left _ hq))))
      obtain ⟨rs, hrs, hrl, hrz⟩ := open_reps (x := y2) (v := c2) (by simpa [Value.cells] using g2) w2
      obtain ⟨zs, m', _, hz, _, hzl, hzg⟩ := DataW.trod_array (x := y3) Try.underlying24 (cs := [c3, c4, c5, c6]) (by simpa [Value.cells] using g3)
      obtain rfl : c0 = _ := by simpa using h0
      obtain rfl : c1 = _ := by simpa using h1
      match zs, hzl with
      | [z0, z1, z2, z3], _ =>
        subst hy1
        have ht := w1 _ (List.mem_singleton.2 rfl)
        rw [len_toList] at ht
        rw [hz] at w3
        have hw3 : (DataW.agg ([z0, z1, z2, z3].map (·.1))).weights Try.prog 24 = DataW.weightsAll Try.prog 23 ([z0, z1, z2, z3].map (·.1)) := by
          rw [DataW.weights, Try.underlying24]
        have wz : ∀ z ∈ [z0, z1, z2, z3], ∀ q ∈ z.1.weights Try.prog 23, q ≤ reachBytes := fun z hz' q hq => w3 q (by
          show q ∈ (DataW.agg ([z0, z1, z2, z3].map (·.1))).weights Try.prog 24
          rw [hw3]
          exact mem_weightsAll _ (List.mem_map.2 ⟨z, hz', rfl⟩) q hq)
        have i0 := hzg 0 (by omega)
        have i1 := hzg 1 (by omega)
        have i2 := hzg 2 (by omega)
        have i3 := hzg 3 (by omega)
        rw [cells_states'] at i0 i1 i2 i3
        obtain ⟨A0, a0, b0, d0⟩ := open_aut (x := z0) (v := c3) (by simpa using i0) (wz z0 (by simp))
        obtain ⟨A1, a1, b1, d1⟩ := open_aut (x := z1) (v := c4) (by simpa using i1) (wz z1 (by simp))
        obtain ⟨A2, a2, b2, d2⟩ := open_aut (x := z2) (v := c5) (by simpa using i2) (wz z2 (by simp))
        obtain ⟨A3, a3, b3, d3⟩ := open_aut (x := z3) (v := c6) (by simpa using i3) (wz z3 (by simp))
        refine ⟨n, t, c2, c3, c4, c5, c6, rs, [A0, A1, A2, A3], rfl, ⟨hrs, rfl, fun j hj => ?_⟩, ⟨hrl, fun A hA => ?_⟩, ht, hrz⟩
        · rcases j with _ | _ | _ | _ | j
          · exact a0
          · exact a1
          · exact a2
          · exact a3
          · simp at hj; omega
        · simp only [List.mem_cons, List.not_mem_nil, or_false] at hA
          rcases hA with rfl | rfl | rfl | rfl
          · exact ⟨b0, d0⟩
          · exact ⟨b1, d1⟩
          · exact ⟨b2, d2⟩
          · exact ⟨b3, d3⟩
end
end Go.Proofs.Ytehbjfjhalpgaaa
