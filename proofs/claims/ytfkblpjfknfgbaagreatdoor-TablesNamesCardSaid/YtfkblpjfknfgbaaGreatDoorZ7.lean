/-
  Parts of the proof: AC7, AC8, AF13, AF14, AF8, AF9.
-/
import Derived.Test.YtfkblpjfknfgbaaGreatDoorRows
import Derived.Test.YtfkblpjfknfgbaaGreatDoorZ6
import Derived.Test.YtfkblpjfknfgbaaGreatDoorZ5
import Derived.Deep.CutRange
import Derived.Test.YtfkblpjfknfgbaaGreatDoorZ0
set_option linter.unusedVariables false
set_option linter.unusedSimpArgs false
namespace Go.Proofs.YtfkblpjfknfgbaaGreatDoor
open Go.RowKit
def shownP (p : UInt8 → Bool) : List UInt8 :=
  let yes := all256.filter p
  let no := all256.filter (fun b => !p b)
  if no = [] then [46] else if yes.length = 1 ∧ yes ≠ [46] ∧ yes ≠ [91] then yes
  else if p 93 = true then [91, 94] ++ no ++ [93] else [91] ++ yes.filter (fun b => b.toNat != 94) ++ (if yes.contains 94 = true then [94] else []) ++ [93]
theorem mk_app (a b : List UInt8) : mkS a ++ mkS b = mkS (a ++ b) := by simp [mkS, ByteArray.ext_iff]
theorem shownB_eq (t : List UInt8) : shownB t = shownP (admB t) := rfl
theorem filter_full {α : Type} (p : α → Bool) : ∀ l : List α, (l.filter p).length = l.length ↔ l.filter (fun b => !p b) = []
  | [] => by simp
  | x :: r => by
    have ih := filter_full p r
    have hle := List.length_filter_le p r
    cases hx : p x
    · simp only [hx, List.length_cons, List.filter_cons, Bool.not_false, if_true]
      simp
      omega
    · simp [hx]
theorem all_nodup : all256.Nodup := by decide +kernel
theorem cut_byte {l : List UInt8} {k : Nat} (hd : l.Nodup) (hk : k < l.length) (c : UInt8) (h : l[k] = c) : l.take k ++ l.drop (k + 1) = l.filter (fun b => b.toNat != c.toNat) := by
  have e : l = l.take k ++ c :: l.drop (k + 1) := by
    conv => lhs; rw [← List.take_append_drop k l]
    rw [List.drop_eq_getElem_cons hk, h]
  have hd2 := hd
  rw [e, List.nodup_append] at hd2
  obtain ⟨_, h2, h3⟩ := hd2
  rw [List.nodup_cons] at h2
  conv => rhs; rw [e]
  rw [List.filter_append, List.filter_cons_of_neg (by simp)]
  rw [List.filter_eq_self.2, List.filter_eq_self.2]
  · intro b hb
    simp only [bne_iff_ne, ne_eq, UInt8.toNat_inj]
    rintro rfl
    exact h2.1 hb
  intro b hb
  simp only [bne_iff_ne, ne_eq, UInt8.toNat_inj]
  exact h3 b hb c (List.mem_cons_self)
theorem ixB_some {l : List UInt8} {c : UInt8} (h : l.contains c = true) : ∃ k, ∃ hk : k < l.length, l[k] = c ∧ ixB l c = (k : Int) := by
  unfold ixB
  rcases hx : l.findIdx? (· == c) with _ | k
  · rw [List.findIdx?_eq_none_iff] at hx
    have := hx c (by simpa using h)
    simp at this
  rw [List.findIdx?_eq_some_iff_getElem] at hx
  obtain ⟨hk, he, _⟩ := hx
  exact ⟨k, hk, by simpa using he, rfl⟩
theorem ixB_none {l : List UInt8} {c : UInt8} (h : l.contains c = false) : ixB l c = -1 := by
  apply ixB_miss
  intro j hj e
  have : c ∈ l := by rw [← e]; exact List.getElem_mem hj
  simp [this] at h
theorem filter_none {l : List UInt8} (h : l.contains 94 = false) : l.filter (fun b => b.toNat != 94) = l := by
  rw [List.filter_eq_self]
  intro b hb
  simp only [bne_iff_ne, ne_eq]
  intro e
  have : b = 94 := by rw [← UInt8.toNat_inj]; exact e
  subst this
  simp [hb] at h
theorem bel_len {w w' : World} {v : Value} {l : List UInt8} (h : Own w w' 5 1 v l.length (Lib.byteCells l)) : ∃ A c, v = .slice A l.length c := by
  rcases h.own.2 with ⟨rfl, hn⟩ | ⟨g, cap, cur, rfl, _⟩
  · rw [hn]; exact ⟨none, 0, rfl⟩
  exact ⟨_, _, rfl⟩
theorem bel_at {w w' : World} {v : Value} {l : List UInt8} (h : Own w w' 5 1 v l.length (Lib.byteCells l)) (hn : l.length ≠ 0) : ∃ g c, v = .slice (some ⟨g, 0, none⟩) l.length c := by
  rcases h.own.2 with ⟨rfl, hn'⟩ | ⟨g, cap, cur, rfl, _⟩
  · exact absurd hn' hn
  exact ⟨_, _, rfl⟩
theorem bel_cell {w w' : World} {l : List UInt8} {g c : Nat} (h : Own w w' 5 1 (.slice (some ⟨g, 0, none⟩) l.length c) l.length (Lib.byteCells l)) (k : Nat) (hk : k < l.length) : w'.cell? ⟨g, k, none⟩ = some (.int .u8 (l[k].toNat : Int)) := by
  have := h.own.cells (g := g) rfl k (.int .u8 (l[k].toNat : Int)) (by simp [Lib.byteCells, hk])
  rwa [row_addr] at this
theorem bel_one {w w' : World} {l : List UInt8} {g c : Nat} {x : UInt8} (h : Own w w' 5 1 (.slice (some ⟨g, 0, none⟩) l.length c) l.length (Lib.byteCells l)) (hl : l.length = 1) (hx : l = [x]) : w'.cell? ⟨g, 0, none⟩ = some (.int .u8 (x.toNat : Int)) := by
  have := bel_cell h 0 (by omega)
  subst hx
  exact this
theorem bel_conv {w w' : World} {v : Value} {l : List UInt8} (h : Own w w' 5 1 v l.length (Lib.byteCells l)) : (convert 213 9 v).run Tryz.prog w' = .ok (.string (mkS l)) w' :=
  run_string_of_own h.own 213 9 Tryz.underlying213 Tryz.underlying5 Tryz.underlying9
theorem bel_conv8 {w w' : World} {r : List UInt8} {n : Nat} {v : Value} (h : Own w w' 5 1 v (n + 1) (Lib.byteCells r ++ [.int .u8 94])) (_hn : n = r.length) : (convert 213 9 v).run Tryz.prog w' = .ok (.string (mkS (r ++ [94]))) w' := by
  have e : Lib.byteCells r ++ [.int .u8 94] = Lib.byteCells (r ++ [94]) := by simp [Lib.byteCells]
  rw [e] at h
  exact run_string_of_own h.own 213 9 Tryz.underlying213 Tryz.underlying5 Tryz.underlying9
theorem start_below {w w2 : World} {o : Obj} (h : Below (w.alloc o).heap.size (w.alloc o) w2) : Below w.heap.size w w2 := ((Below.refl _ _).alloc (Nat.le_refl _) _).trans (h.mono (by simp))
theorem start_cells {w w2 : World} {X : Ws} (h : Below (w.alloc (.cells (wsA X) 273)).heap.size (w.alloc (.cells (wsA X) 273)) w2) : w2.heap[w.heap.size]? = some (.cells (wsA X) 273 (0, 0)) := (h.block _ (by simp)).trans (heap_alloc_new w _)
theorem show_calls (X : Ws) (p : UInt8 → Bool) (h : HasP X p) :
    (∀ W, Calls Tryz.prog 220 #[.agg #[.int .u64 (X 0 : Nat), .int .u64 (X 1 : Nat), .int .u64 (X 2 : Nat), .int .u64 (X 3 : Nat)]] W fun e w' => ∃ v, e = .returned v ∧ Own W w' 5 1 v (all256.filter p).length (Lib.byteCells (all256.filter p))) ∧
    (∀ W, Calls Tryz.prog 221 #[.agg #[.int .u64 (X 0 : Nat), .int .u64 (X 1 : Nat), .int .u64 (X 2 : Nat), .int .u64 (X 3 : Nat)], .int .u8 93] W fun e w' => e = .returned (.bool (p 93)) ∧ Below W.heap.size W w') :=
  ⟨fun W => so_bytesC X p W h, fun W => so_has X p 93 W h⟩
set_option maxHeartbeats 1000000 in
set_option maxRecDepth 100000 in
theorem show_all (X : Ws) (p : UInt8 → Bool) (w : World) (yes no res : List UInt8) (HX : Hid (HasP X p)) (hle : yes.length ≤ 256) (hmk : (mkS no).size ≤ 256) (hmk2 : (mkS yes).size ≤ 256)
    (HB : Hid (∀ W, Calls Tryz.prog 220 #[.agg #[.int .u64 (X 0 : Nat), .int .u64 (X 1 : Nat), .int .u64 (X 2 : Nat), .int .u64 (X 3 : Nat)]] W fun e w' => ∃ v, e = .returned v ∧ Own W w' 5 1 v yes.length (Lib.byteCells yes)))
    (hl : yes.length = 256) (HS : Hid (res = [46])) :
    Calls Tryz.prog 188 #[.agg #[.int .u64 (X 0 : Nat), .int .u64 (X 1 : Nat), .int .u64 (X 2 : Nat), .int .u64 (X 3 : Nat)]] w fun e w' => e = .returned (.string (mkS res)) ∧ Below w.heap.size w w' := by
  have HL := Lib.hid hl
  clear hl
  go_enter Tryz.func188, Tryz.ntmps188
  go_wp2_with (first | (go_at_call 220; refine (HB.out _).mono ?_; rintro e w2 ⟨v, rfl, ho⟩; have HO1 := Lib.hid (start_below ho.below); have HX2 := Lib.hid (start_cells ho.below); obtain ⟨c0, c1, c2, c3⟩ := ws_cells HX2.out; have HOw := Lib.hid ho; obtain ⟨A, cp, rfl⟩ := bel_len ho; have e1 : ((yes.length : Int) == 256) = true := (by rw [HL.out]; rfl); clear ho))
  go_ret
  exact ⟨ret_str (by rw [HS.out]; rfl), HO1.out⟩
set_option maxHeartbeats 1000000 in
set_option maxRecDepth 100000 in
theorem show_one (X : Ws) (p : UInt8 → Bool) (w : World) (yes no res : List UInt8) (HX : Hid (HasP X p)) (hle : yes.length ≤ 256) (hmk : (mkS no).size ≤ 256) (hmk2 : (mkS yes).size ≤ 256)
    (HB : Hid (∀ W, Calls Tryz.prog 220 #[.agg #[.int .u64 (X 0 : Nat), .int .u64 (X 1 : Nat), .int .u64 (X 2 : Nat), .int .u64 (X 3 : Nat)]] W fun e w' => ∃ v, e = .returned v ∧ Own W w' 5 1 v yes.length (Lib.byteCells yes)))
    (HE1 : Hid (((yes.length : Int) == 256) = false)) (x : UInt8) (HL1 : Hid (yes.length = 1)) (HX1 : Hid (yes = [x])) (e3 : ((x.toNat : Int) == 46) = false) (e4 : ((x.toNat : Int) == 91) = false) (HS : Hid (res = yes)) :
    Calls Tryz.prog 188 #[.agg #[.int .u64 (X 0 : Nat), .int .u64 (X 1 : Nat), .int .u64 (X 2 : Nat), .int .u64 (X 3 : Nat)]] w fun e w' => e = .returned (.string (mkS res)) ∧ Below w.heap.size w w' := by
  have hlen2 : (yes.length : Int) ≤ 256 := by omega
  have H0 : Hid (0 < yes.length) := Lib.hid (by rw [HL1.out]; decide)
  have e5 : ((x.toNat : Int) != 46) = true := by rw [bne, e3]; rfl
  have e6 : ((x.toNat : Int) != 91) = true := by rw [bne, e4]; rfl
  go_enter Tryz.func188, Tryz.ntmps188
  go_wp2_with (first | (go_at_call 220; refine (HB.out _).mono ?_; rintro e w2 ⟨v, rfl, ho⟩; have HO1 := Lib.hid (start_below ho.below); have HX2 := Lib.hid (start_cells ho.below); obtain ⟨c0, c1, c2, c3⟩ := ws_cells HX2.out; have HOw := Lib.hid ho; obtain ⟨g, cp, rfl⟩ := bel_at ho (Nat.pos_iff_ne_zero.1 H0.out); have h0 : 0 < yes.length := H0.out; have e1 := HE1.out; have e2 : ((yes.length : Int) == 1) = true := (by rw [HL1.out]; rfl); have cell := bel_one ho HL1.out HX1.out; have hcv := bel_conv ho; clear ho))
  go_ret
  exact ⟨ret_str (by rw [HS.out]), HO1.out⟩
set_option maxHeartbeats 1000000 in
set_option maxRecDepth 100000 in
theorem show_notN (X : Ws) (p : UInt8 → Bool) (w : World) (yes no res : List UInt8) (HX : Hid (HasP X p)) (hle : yes.length ≤ 256) (hmk : (mkS no).size ≤ 256) (hmk2 : (mkS yes).size ≤ 256)
    (HB : Hid (∀ W, Calls Tryz.prog 220 #[.agg #[.int .u64 (X 0 : Nat), .int .u64 (X 1 : Nat), .int .u64 (X 2 : Nat), .int .u64 (X 3 : Nat)]] W fun e w' => ∃ v, e = .returned v ∧ Own W w' 5 1 v yes.length (Lib.byteCells yes)))
    (HE1 : Hid (((yes.length : Int) == 256) = false)) (hl1 : yes.length ≠ 1) (HH : Hid (∀ W, Calls Tryz.prog 221 #[.agg #[.int .u64 (X 0 : Nat), .int .u64 (X 1 : Nat), .int .u64 (X 2 : Nat), .int .u64 (X 3 : Nat)], .int .u8 93] W fun e w' => e = .returned (.bool true) ∧ Below W.heap.size W w')) (HBN : Hid (∀ Y : Ws, HasP Y (fun b => !p b) → ∀ W, Calls Tryz.prog 220 #[.agg #[.int .u64 (Y 0 : Nat), .int .u64 (Y 1 : Nat), .int .u64 (Y 2 : Nat), .int .u64 (Y 3 : Nat)]] W fun e w' => ∃ v, e = .returned v ∧ Own W w' 5 1 v no.length (Lib.byteCells no))) (HS : Hid (res = [91, 94] ++ no ++ [93])) :
    Calls Tryz.prog 188 #[.agg #[.int .u64 (X 0 : Nat), .int .u64 (X 1 : Nat), .int .u64 (X 2 : Nat), .int .u64 (X 3 : Nat)]] w fun e w' => e = .returned (.string (mkS res)) ∧ Below w.heap.size w w' := by
  have hlen2 : (yes.length : Int) ≤ 256 := by omega
  have HL1 := Lib.hid hl1
  clear hl1
  go_enter Tryz.func188, Tryz.ntmps188
  go_wp2_with (first | (go_at_call 220; refine (HBN.out _ HY.out _).mono ?_; rintro e w5 ⟨u, rfl, ho⟩; have HO4 := Lib.hid (HO3.out.trans (ho.below.mono HO3.out.size)); have hcv := bel_conv ho; clear ho) | (go_at_call 220; refine (HB.out _).mono ?_; rintro e w2 ⟨v, rfl, ho⟩; have HO1 := Lib.hid (start_below ho.below); have HX2 := Lib.hid (start_cells ho.below); obtain ⟨c0, c1, c2, c3⟩ := ws_cells HX2.out; have HOw := Lib.hid ho; obtain ⟨A, cp, rfl⟩ := bel_len ho; have e1 := HE1.out; have e2 : ((yes.length : Int) == 1) = false := (by rw [beq_eq_false_iff_ne]; have := HL1.out; omega); clear ho) | (go_at_call 221; refine (HH.out _).mono ?_; rintro e w3 ⟨rfl, hb⟩; have HO2 := Lib.hid (HO1.out.trans (hb.mono HO1.out.size)); have hx3 := (hb.block _ (block_lt HX2.out)).trans HX2.out; have HX3 := Lib.hid hx3; obtain ⟨d0, d1, d2, d3⟩ := ws_cells hx3; have HOw3 := Lib.hid (HOw.out.call hb); have hcv3 := bel_conv HOw3.out; clear hb hx3) | (go_at_call 186; refine (so_otherA X p _ HX.out).mono ?_; rintro e w4 ⟨Y, rfl, hY, hb⟩; have HY := Lib.hid hY; have HO3 := Lib.hid (HO2.out.trans (hb.mono HO2.out.size)); clear hb hY))
  go_ret
  exact ⟨ret_str (by rw [HS.out, show (⟨#[91, 94]⟩ : ByteArray) = mkS [91, 94] from rfl, show (⟨#[93]⟩ : ByteArray) = mkS [93] from rfl, mk_app, mk_app]), HO4.out⟩
set_option maxHeartbeats 1000000 in
set_option maxRecDepth 100000 in
theorem show_not46 (X : Ws) (p : UInt8 → Bool) (w : World) (yes no res : List UInt8) (HX : Hid (HasP X p)) (hle : yes.length ≤ 256) (hmk : (mkS no).size ≤ 256) (hmk2 : (mkS yes).size ≤ 256)
    (HB : Hid (∀ W, Calls Tryz.prog 220 #[.agg #[.int .u64 (X 0 : Nat), .int .u64 (X 1 : Nat), .int .u64 (X 2 : Nat), .int .u64 (X 3 : Nat)]] W fun e w' => ∃ v, e = .returned v ∧ Own W w' 5 1 v yes.length (Lib.byteCells yes)))
    (HE1 : Hid (((yes.length : Int) == 256) = false)) (HL1 : Hid (yes.length = 1)) (HX1 : Hid (yes = [46])) (HH : Hid (∀ W, Calls Tryz.prog 221 #[.agg #[.int .u64 (X 0 : Nat), .int .u64 (X 1 : Nat), .int .u64 (X 2 : Nat), .int .u64 (X 3 : Nat)], .int .u8 93] W fun e w' => e = .returned (.bool true) ∧ Below W.heap.size W w')) (HBN : Hid (∀ Y : Ws, HasP Y (fun b => !p b) → ∀ W, Calls Tryz.prog 220 #[.agg #[.int .u64 (Y 0 : Nat), .int .u64 (Y 1 : Nat), .int .u64 (Y 2 : Nat), .int .u64 (Y 3 : Nat)]] W fun e w' => ∃ v, e = .returned v ∧ Own W w' 5 1 v no.length (Lib.byteCells no))) (HS : Hid (res = [91, 94] ++ no ++ [93])) :
    Calls Tryz.prog 188 #[.agg #[.int .u64 (X 0 : Nat), .int .u64 (X 1 : Nat), .int .u64 (X 2 : Nat), .int .u64 (X 3 : Nat)]] w fun e w' => e = .returned (.string (mkS res)) ∧ Below w.heap.size w w' := by
  have hlen2 : (yes.length : Int) ≤ 256 := by omega
  have H0 : Hid (0 < yes.length) := Lib.hid (by rw [HL1.out]; decide)
  go_enter Tryz.func188, Tryz.ntmps188
  go_wp2_with (first | (go_at_call 220; refine (HBN.out _ HY.out _).mono ?_; rintro e w5 ⟨u, rfl, ho⟩; have HO4 := Lib.hid (HO3.out.trans (ho.below.mono HO3.out.size)); have hcv := bel_conv ho; clear ho) | (go_at_call 220; refine (HB.out _).mono ?_; rintro e w2 ⟨v, rfl, ho⟩; have HO1 := Lib.hid (start_below ho.below); have HX2 := Lib.hid (start_cells ho.below); obtain ⟨c0, c1, c2, c3⟩ := ws_cells HX2.out; have HOw := Lib.hid ho; obtain ⟨g, cp, rfl⟩ := bel_at ho (Nat.pos_iff_ne_zero.1 H0.out); have h0 : 0 < yes.length := H0.out; have e1 := HE1.out; have e2 : ((yes.length : Int) == 1) = true := (by rw [HL1.out]; rfl); have cell := bel_one ho HL1.out HX1.out; clear ho) | (go_at_call 221; refine (HH.out _).mono ?_; rintro e w3 ⟨rfl, hb⟩; have HO2 := Lib.hid (HO1.out.trans (hb.mono HO1.out.size)); have hx3 := (hb.block _ (block_lt HX2.out)).trans HX2.out; have HX3 := Lib.hid hx3; obtain ⟨d0, d1, d2, d3⟩ := ws_cells hx3; have HOw3 := Lib.hid (HOw.out.call hb); have hcv3 := bel_conv HOw3.out; clear hb hx3) | (go_at_call 186; refine (so_otherA X p _ HX.out).mono ?_; rintro e w4 ⟨Y, rfl, hY, hb⟩; have HY := Lib.hid hY; have HO3 := Lib.hid (HO2.out.trans (hb.mono HO2.out.size)); clear hb hY))
  go_ret
  exact ⟨ret_str (by rw [HS.out, show (⟨#[91, 94]⟩ : ByteArray) = mkS [91, 94] from rfl, show (⟨#[93]⟩ : ByteArray) = mkS [93] from rfl, mk_app, mk_app]), HO4.out⟩
set_option maxHeartbeats 1000000 in
set_option maxRecDepth 100000 in
theorem show_not91 (X : Ws) (p : UInt8 → Bool) (w : World) (yes no res : List UInt8) (HX : Hid (HasP X p)) (hle : yes.length ≤ 256) (hmk : (mkS no).size ≤ 256) (hmk2 : (mkS yes).size ≤ 256)
    (HB : Hid (∀ W, Calls Tryz.prog 220 #[.agg #[.int .u64 (X 0 : Nat), .int .u64 (X 1 : Nat), .int .u64 (X 2 : Nat), .int .u64 (X 3 : Nat)]] W fun e w' => ∃ v, e = .returned v ∧ Own W w' 5 1 v yes.length (Lib.byteCells yes)))
    (HE1 : Hid (((yes.length : Int) == 256) = false)) (HL1 : Hid (yes.length = 1)) (HX1 : Hid (yes = [91])) (HH : Hid (∀ W, Calls Tryz.prog 221 #[.agg #[.int .u64 (X 0 : Nat), .int .u64 (X 1 : Nat), .int .u64 (X 2 : Nat), .int .u64 (X 3 : Nat)], .int .u8 93] W fun e w' => e = .returned (.bool true) ∧ Below W.heap.size W w')) (HBN : Hid (∀ Y : Ws, HasP Y (fun b => !p b) → ∀ W, Calls Tryz.prog 220 #[.agg #[.int .u64 (Y 0 : Nat), .int .u64 (Y 1 : Nat), .int .u64 (Y 2 : Nat), .int .u64 (Y 3 : Nat)]] W fun e w' => ∃ v, e = .returned v ∧ Own W w' 5 1 v no.length (Lib.byteCells no))) (HS : Hid (res = [91, 94] ++ no ++ [93])) :
    Calls Tryz.prog 188 #[.agg #[.int .u64 (X 0 : Nat), .int .u64 (X 1 : Nat), .int .u64 (X 2 : Nat), .int .u64 (X 3 : Nat)]] w fun e w' => e = .returned (.string (mkS res)) ∧ Below w.heap.size w w' := by
  have hlen2 : (yes.length : Int) ≤ 256 := by omega
  have H0 : Hid (0 < yes.length) := Lib.hid (by rw [HL1.out]; decide)
  go_enter Tryz.func188, Tryz.ntmps188
  go_wp2_with (first | (go_at_call 220; refine (HBN.out _ HY.out _).mono ?_; rintro e w5 ⟨u, rfl, ho⟩; have HO4 := Lib.hid (HO3.out.trans (ho.below.mono HO3.out.size)); have hcv := bel_conv ho; clear ho) | (go_at_call 220; refine (HB.out _).mono ?_; rintro e w2 ⟨v, rfl, ho⟩; have HO1 := Lib.hid (start_below ho.below); have HX2 := Lib.hid (start_cells ho.below); obtain ⟨c0, c1, c2, c3⟩ := ws_cells HX2.out; have HOw := Lib.hid ho; obtain ⟨g, cp, rfl⟩ := bel_at ho (Nat.pos_iff_ne_zero.1 H0.out); have h0 : 0 < yes.length := H0.out; have e1 := HE1.out; have e2 : ((yes.length : Int) == 1) = true := (by rw [HL1.out]; rfl); have cell := bel_one ho HL1.out HX1.out; clear ho) | (go_at_call 221; refine (HH.out _).mono ?_; rintro e w3 ⟨rfl, hb⟩; have HO2 := Lib.hid (HO1.out.trans (hb.mono HO1.out.size)); have hx3 := (hb.block _ (block_lt HX2.out)).trans HX2.out; have HX3 := Lib.hid hx3; obtain ⟨d0, d1, d2, d3⟩ := ws_cells hx3; have HOw3 := Lib.hid (HOw.out.call hb); have hcv3 := bel_conv HOw3.out; clear hb hx3) | (go_at_call 186; refine (so_otherA X p _ HX.out).mono ?_; rintro e w4 ⟨Y, rfl, hY, hb⟩; have HY := Lib.hid hY; have HO3 := Lib.hid (HO2.out.trans (hb.mono HO2.out.size)); clear hb hY))
  go_ret
  exact ⟨ret_str (by rw [HS.out, show (⟨#[91, 94]⟩ : ByteArray) = mkS [91, 94] from rfl, show (⟨#[93]⟩ : ByteArray) = mkS [93] from rfl, mk_app, mk_app]), HO4.out⟩
set_option maxHeartbeats 1000000 in
set_option maxRecDepth 100000 in
theorem show_cutN (X : Ws) (p : UInt8 → Bool) (w : World) (yes no res : List UInt8) (HX : Hid (HasP X p)) (hle : yes.length ≤ 256) (hmk : (mkS no).size ≤ 256) (hmk2 : (mkS yes).size ≤ 256)
    (HB : Hid (∀ W, Calls Tryz.prog 220 #[.agg #[.int .u64 (X 0 : Nat), .int .u64 (X 1 : Nat), .int .u64 (X 2 : Nat), .int .u64 (X 3 : Nat)]] W fun e w' => ∃ v, e = .returned v ∧ Own W w' 5 1 v yes.length (Lib.byteCells yes)))
    (HE1 : Hid (((yes.length : Int) == 256) = false)) (hl1 : yes.length ≠ 1) (HH : Hid (∀ W, Calls Tryz.prog 221 #[.agg #[.int .u64 (X 0 : Nat), .int .u64 (X 1 : Nat), .int .u64 (X 2 : Nat), .int .u64 (X 3 : Nat)], .int .u8 93] W fun e w' => e = .returned (.bool false) ∧ Below W.heap.size W w')) (k : Nat) (hk : k < yes.length) (r : List UInt8) (HRL : Hid (r.length ≤ 256)) (HD : Hid (∀ w0 W g cap, Own w0 W 5 1 (.slice (some ⟨g, 0, none⟩) yes.length cap) yes.length (Lib.byteCells yes) → Calls Tryz.prog 223 #[.slice (some ⟨g, 0, none⟩) yes.length cap, .int .i64 (k : Int), .int .i64 ((k : Int) + 1)] W (DelP w0 g cap r))) (HI : Hid (∀ W v, Rd W 1 v yes.length (Lib.byteCells yes) → Calls Tryz.prog 222 #[v, .int .u8 94] W fun e w' => e = .returned (.int .i64 (k : Int)) ∧ W = w')) (HS : Hid (res = [91] ++ (r ++ [94]) ++ [93])) :
    Calls Tryz.prog 188 #[.agg #[.int .u64 (X 0 : Nat), .int .u64 (X 1 : Nat), .int .u64 (X 2 : Nat), .int .u64 (X 3 : Nat)]] w fun e w' => e = .returned (.string (mkS res)) ∧ Below w.heap.size w w' := by
  have hlen2 : (yes.length : Int) ≤ 256 := by omega
  have HL1 := Lib.hid hl1
  clear hl1
  have H0 : Hid (0 < yes.length) := Lib.hid (by omega)
  obtain ⟨i0, hi, hz0, hz1, hz2⟩ := info_parts byte_info
  have hk0 : (0 : Int) ≤ (k : Int) := by omega
  have hk1 : k ≤ 256 := by omega
  have hmk3 : (mkS (r ++ [94])).size ≤ 257 := by rw [mkS_size]; have := HRL.out; simp; omega
  go_enter Tryz.func188, Tryz.ntmps188
  go_wp2_with (first | (go_at_call 220; refine (HB.out _).mono ?_; rintro e w2 ⟨v, rfl, ho⟩; have HO1 := Lib.hid (start_below ho.below); have HX2 := Lib.hid (start_cells ho.below); obtain ⟨c0, c1, c2, c3⟩ := ws_cells HX2.out; have HOw := Lib.hid ho; obtain ⟨g, cp, rfl⟩ := bel_at ho (Nat.pos_iff_ne_zero.1 H0.out); have h0 : 0 < yes.length := H0.out; have e1 := HE1.out; have e2 : ((yes.length : Int) == 1) = false := (by rw [beq_eq_false_iff_ne]; have := HL1.out; omega); clear ho) | (go_at_call 221; refine (HH.out _).mono ?_; rintro e w3 ⟨rfl, hb⟩; have HO2 := Lib.hid (HO1.out.trans (hb.mono HO1.out.size)); have hx3 := (hb.block _ (block_lt HX2.out)).trans HX2.out; have HX3 := Lib.hid hx3; obtain ⟨d0, d1, d2, d3⟩ := ws_cells hx3; have HOw3 := Lib.hid (HOw.out.call hb); have hcv3 := bel_conv HOw3.out; clear hb hx3) | (go_at_call 222; refine (HI.out _ _ (Rd.of_own HOw3.out.own)).mono ?_; rintro e w6 ⟨rfl, rfl⟩) | (go_at_call 223; refine (HD.out _ _ _ _ HOw3.out).mono ?_; rintro e w7 ⟨n7, hn7, rfl, ho7⟩; have HN7 := Lib.hid hn7; have hle7 : n7 ≤ 256 := (by have := HRL.out; omega); have hmx7 : n7 < 2 ^ 62 := (by omega); have HO7 := Lib.hid ho7; clear ho7 hn7) | (at_builtin; refine wpList_push1 rfl _ _ 213 rfl (w.alloc (.cells (wsA X) 273)).heap.size 5 i0 (.int .u8 0) 1 Tryz.underlying213 hi hz0 hz1 hz2 rfl _ _ _ rfl HO7.out.own _ rfl rfl (by unfold maxLen; omega) (by omega) HO7.out.size ?_; intro g8 cp8 w8 hown hg; have HO8 := Lib.hid (HO7.out.push hown hg); have hcv8 := bel_conv8 HO8.out HN7.out; clear hown hg))
  go_ret
  exact ⟨ret_str (by rw [HS.out, show (⟨#[91]⟩ : ByteArray) = mkS [91] from rfl, show (⟨#[93]⟩ : ByteArray) = mkS [93] from rfl, mk_app, mk_app]), start_below HO8.out.below⟩
set_option maxHeartbeats 1000000 in
set_option maxRecDepth 100000 in
theorem show_cut46 (X : Ws) (p : UInt8 → Bool) (w : World) (yes no res : List UInt8) (HX : Hid (HasP X p)) (hle : yes.length ≤ 256) (hmk : (mkS no).size ≤ 256) (hmk2 : (mkS yes).size ≤ 256)
    (HB : Hid (∀ W, Calls Tryz.prog 220 #[.agg #[.int .u64 (X 0 : Nat), .int .u64 (X 1 : Nat), .int .u64 (X 2 : Nat), .int .u64 (X 3 : Nat)]] W fun e w' => ∃ v, e = .returned v ∧ Own W w' 5 1 v yes.length (Lib.byteCells yes)))
    (HE1 : Hid (((yes.length : Int) == 256) = false)) (HL1 : Hid (yes.length = 1)) (HX1 : Hid (yes = [46])) (HH : Hid (∀ W, Calls Tryz.prog 221 #[.agg #[.int .u64 (X 0 : Nat), .int .u64 (X 1 : Nat), .int .u64 (X 2 : Nat), .int .u64 (X 3 : Nat)], .int .u8 93] W fun e w' => e = .returned (.bool false) ∧ Below W.heap.size W w')) (k : Nat) (hk : k < yes.length) (r : List UInt8) (HRL : Hid (r.length ≤ 256)) (HD : Hid (∀ w0 W g cap, Own w0 W 5 1 (.slice (some ⟨g, 0, none⟩) yes.length cap) yes.length (Lib.byteCells yes) → Calls Tryz.prog 223 #[.slice (some ⟨g, 0, none⟩) yes.length cap, .int .i64 (k : Int), .int .i64 ((k : Int) + 1)] W (DelP w0 g cap r))) (HI : Hid (∀ W v, Rd W 1 v yes.length (Lib.byteCells yes) → Calls Tryz.prog 222 #[v, .int .u8 94] W fun e w' => e = .returned (.int .i64 (k : Int)) ∧ W = w')) (HS : Hid (res = [91] ++ (r ++ [94]) ++ [93])) :
    Calls Tryz.prog 188 #[.agg #[.int .u64 (X 0 : Nat), .int .u64 (X 1 : Nat), .int .u64 (X 2 : Nat), .int .u64 (X 3 : Nat)]] w fun e w' => e = .returned (.string (mkS res)) ∧ Below w.heap.size w w' := by
  have hlen2 : (yes.length : Int) ≤ 256 := by omega
  have H0 : Hid (0 < yes.length) := Lib.hid (by rw [HL1.out]; decide)
  obtain ⟨i0, hi, hz0, hz1, hz2⟩ := info_parts byte_info
  have hk0 : (0 : Int) ≤ (k : Int) := by omega
  have hk1 : k ≤ 256 := by omega
  have hmk3 : (mkS (r ++ [94])).size ≤ 257 := by rw [mkS_size]; have := HRL.out; simp; omega
  go_enter Tryz.func188, Tryz.ntmps188
  go_wp2_with (first | (go_at_call 220; refine (HB.out _).mono ?_; rintro e w2 ⟨v, rfl, ho⟩; have HO1 := Lib.hid (start_below ho.below); have HX2 := Lib.hid (start_cells ho.below); obtain ⟨c0, c1, c2, c3⟩ := ws_cells HX2.out; have HOw := Lib.hid ho; obtain ⟨g, cp, rfl⟩ := bel_at ho (Nat.pos_iff_ne_zero.1 H0.out); have h0 : 0 < yes.length := H0.out; have e1 := HE1.out; have e2 : ((yes.length : Int) == 1) = true := (by rw [HL1.out]; rfl); have cell := bel_one ho HL1.out HX1.out; clear ho) | (go_at_call 221; refine (HH.out _).mono ?_; rintro e w3 ⟨rfl, hb⟩; have HO2 := Lib.hid (HO1.out.trans (hb.mono HO1.out.size)); have hx3 := (hb.block _ (block_lt HX2.out)).trans HX2.out; have HX3 := Lib.hid hx3; obtain ⟨d0, d1, d2, d3⟩ := ws_cells hx3; have HOw3 := Lib.hid (HOw.out.call hb); have hcv3 := bel_conv HOw3.out; clear hb hx3) | (go_at_call 222; refine (HI.out _ _ (Rd.of_own HOw3.out.own)).mono ?_; rintro e w6 ⟨rfl, rfl⟩) | (go_at_call 223; refine (HD.out _ _ _ _ HOw3.out).mono ?_; rintro e w7 ⟨n7, hn7, rfl, ho7⟩; have HN7 := Lib.hid hn7; have hle7 : n7 ≤ 256 := (by have := HRL.out; omega); have hmx7 : n7 < 2 ^ 62 := (by omega); have HO7 := Lib.hid ho7; clear ho7 hn7) | (at_builtin; refine wpList_push1 rfl _ _ 213 rfl (w.alloc (.cells (wsA X) 273)).heap.size 5 i0 (.int .u8 0) 1 Tryz.underlying213 hi hz0 hz1 hz2 rfl _ _ _ rfl HO7.out.own _ rfl rfl (by unfold maxLen; omega) (by omega) HO7.out.size ?_; intro g8 cp8 w8 hown hg; have HO8 := Lib.hid (HO7.out.push hown hg); have hcv8 := bel_conv8 HO8.out HN7.out; clear hown hg))
  go_ret
  exact ⟨ret_str (by rw [HS.out, show (⟨#[91]⟩ : ByteArray) = mkS [91] from rfl, show (⟨#[93]⟩ : ByteArray) = mkS [93] from rfl, mk_app, mk_app]), start_below HO8.out.below⟩
set_option maxHeartbeats 1000000 in
set_option maxRecDepth 100000 in
theorem show_cut91 (X : Ws) (p : UInt8 → Bool) (w : World) (yes no res : List UInt8) (HX : Hid (HasP X p)) (hle : yes.length ≤ 256) (hmk : (mkS no).size ≤ 256) (hmk2 : (mkS yes).size ≤ 256)
    (HB : Hid (∀ W, Calls Tryz.prog 220 #[.agg #[.int .u64 (X 0 : Nat), .int .u64 (X 1 : Nat), .int .u64 (X 2 : Nat), .int .u64 (X 3 : Nat)]] W fun e w' => ∃ v, e = .returned v ∧ Own W w' 5 1 v yes.length (Lib.byteCells yes)))
    (HE1 : Hid (((yes.length : Int) == 256) = false)) (HL1 : Hid (yes.length = 1)) (HX1 : Hid (yes = [91])) (HH : Hid (∀ W, Calls Tryz.prog 221 #[.agg #[.int .u64 (X 0 : Nat), .int .u64 (X 1 : Nat), .int .u64 (X 2 : Nat), .int .u64 (X 3 : Nat)], .int .u8 93] W fun e w' => e = .returned (.bool false) ∧ Below W.heap.size W w')) (k : Nat) (hk : k < yes.length) (r : List UInt8) (HRL : Hid (r.length ≤ 256)) (HD : Hid (∀ w0 W g cap, Own w0 W 5 1 (.slice (some ⟨g, 0, none⟩) yes.length cap) yes.length (Lib.byteCells yes) → Calls Tryz.prog 223 #[.slice (some ⟨g, 0, none⟩) yes.length cap, .int .i64 (k : Int), .int .i64 ((k : Int) + 1)] W (DelP w0 g cap r))) (HI : Hid (∀ W v, Rd W 1 v yes.length (Lib.byteCells yes) → Calls Tryz.prog 222 #[v, .int .u8 94] W fun e w' => e = .returned (.int .i64 (k : Int)) ∧ W = w')) (HS : Hid (res = [91] ++ (r ++ [94]) ++ [93])) :
    Calls Tryz.prog 188 #[.agg #[.int .u64 (X 0 : Nat), .int .u64 (X 1 : Nat), .int .u64 (X 2 : Nat), .int .u64 (X 3 : Nat)]] w fun e w' => e = .returned (.string (mkS res)) ∧ Below w.heap.size w w' := by
  have hlen2 : (yes.length : Int) ≤ 256 := by omega
  have H0 : Hid (0 < yes.length) := Lib.hid (by rw [HL1.out]; decide)
  obtain ⟨i0, hi, hz0, hz1, hz2⟩ := info_parts byte_info
  have hk0 : (0 : Int) ≤ (k : Int) := by omega
  have hk1 : k ≤ 256 := by omega
  have hmk3 : (mkS (r ++ [94])).size ≤ 257 := by rw [mkS_size]; have := HRL.out; simp; omega
  go_enter Tryz.func188, Tryz.ntmps188
  go_wp2_with (first | (go_at_call 220; refine (HB.out _).mono ?_; rintro e w2 ⟨v, rfl, ho⟩; have HO1 := Lib.hid (start_below ho.below); have HX2 := Lib.hid (start_cells ho.below); obtain ⟨c0, c1, c2, c3⟩ := ws_cells HX2.out; have HOw := Lib.hid ho; obtain ⟨g, cp, rfl⟩ := bel_at ho (Nat.pos_iff_ne_zero.1 H0.out); have h0 : 0 < yes.length := H0.out; have e1 := HE1.out; have e2 : ((yes.length : Int) == 1) = true := (by rw [HL1.out]; rfl); have cell := bel_one ho HL1.out HX1.out; clear ho) | (go_at_call 221; refine (HH.out _).mono ?_; rintro e w3 ⟨rfl, hb⟩; have HO2 := Lib.hid (HO1.out.trans (hb.mono HO1.out.size)); have hx3 := (hb.block _ (block_lt HX2.out)).trans HX2.out; have HX3 := Lib.hid hx3; obtain ⟨d0, d1, d2, d3⟩ := ws_cells hx3; have HOw3 := Lib.hid (HOw.out.call hb); have hcv3 := bel_conv HOw3.out; clear hb hx3) | (go_at_call 222; refine (HI.out _ _ (Rd.of_own HOw3.out.own)).mono ?_; rintro e w6 ⟨rfl, rfl⟩) | (go_at_call 223; refine (HD.out _ _ _ _ HOw3.out).mono ?_; rintro e w7 ⟨n7, hn7, rfl, ho7⟩; have HN7 := Lib.hid hn7; have hle7 : n7 ≤ 256 := (by have := HRL.out; omega); have hmx7 : n7 < 2 ^ 62 := (by omega); have HO7 := Lib.hid ho7; clear ho7 hn7) | (at_builtin; refine wpList_push1 rfl _ _ 213 rfl (w.alloc (.cells (wsA X) 273)).heap.size 5 i0 (.int .u8 0) 1 Tryz.underlying213 hi hz0 hz1 hz2 rfl _ _ _ rfl HO7.out.own _ rfl rfl (by unfold maxLen; omega) (by omega) HO7.out.size ?_; intro g8 cp8 w8 hown hg; have HO8 := Lib.hid (HO7.out.push hown hg); have hcv8 := bel_conv8 HO8.out HN7.out; clear hown hg))
  go_ret
  exact ⟨ret_str (by rw [HS.out, show (⟨#[91]⟩ : ByteArray) = mkS [91] from rfl, show (⟨#[93]⟩ : ByteArray) = mkS [93] from rfl, mk_app, mk_app]), start_below HO8.out.below⟩
set_option maxHeartbeats 1000000 in
set_option maxRecDepth 100000 in
theorem show_yesN (X : Ws) (p : UInt8 → Bool) (w : World) (yes no res : List UInt8) (HX : Hid (HasP X p)) (hle : yes.length ≤ 256) (hmk : (mkS no).size ≤ 256) (hmk2 : (mkS yes).size ≤ 256)
    (HB : Hid (∀ W, Calls Tryz.prog 220 #[.agg #[.int .u64 (X 0 : Nat), .int .u64 (X 1 : Nat), .int .u64 (X 2 : Nat), .int .u64 (X 3 : Nat)]] W fun e w' => ∃ v, e = .returned v ∧ Own W w' 5 1 v yes.length (Lib.byteCells yes)))
    (HE1 : Hid (((yes.length : Int) == 256) = false)) (hl1 : yes.length ≠ 1) (HH : Hid (∀ W, Calls Tryz.prog 221 #[.agg #[.int .u64 (X 0 : Nat), .int .u64 (X 1 : Nat), .int .u64 (X 2 : Nat), .int .u64 (X 3 : Nat)], .int .u8 93] W fun e w' => e = .returned (.bool false) ∧ Below W.heap.size W w')) (HI : Hid (∀ W v, Rd W 1 v yes.length (Lib.byteCells yes) → Calls Tryz.prog 222 #[v, .int .u8 94] W fun e w' => e = .returned (.int .i64 (-1)) ∧ W = w')) (HS : Hid (res = [91] ++ yes ++ [93])) :
    Calls Tryz.prog 188 #[.agg #[.int .u64 (X 0 : Nat), .int .u64 (X 1 : Nat), .int .u64 (X 2 : Nat), .int .u64 (X 3 : Nat)]] w fun e w' => e = .returned (.string (mkS res)) ∧ Below w.heap.size w w' := by
  have hlen2 : (yes.length : Int) ≤ 256 := by omega
  have HL1 := Lib.hid hl1
  clear hl1
  go_enter Tryz.func188, Tryz.ntmps188
  go_wp2_with (first | (go_at_call 220; refine (HB.out _).mono ?_; rintro e w2 ⟨v, rfl, ho⟩; have HO1 := Lib.hid (start_below ho.below); have HX2 := Lib.hid (start_cells ho.below); obtain ⟨c0, c1, c2, c3⟩ := ws_cells HX2.out; have HOw := Lib.hid ho; obtain ⟨A, cp, rfl⟩ := bel_len ho; have e1 := HE1.out; have e2 : ((yes.length : Int) == 1) = false := (by rw [beq_eq_false_iff_ne]; have := HL1.out; omega); clear ho) | (go_at_call 221; refine (HH.out _).mono ?_; rintro e w3 ⟨rfl, hb⟩; have HO2 := Lib.hid (HO1.out.trans (hb.mono HO1.out.size)); have hx3 := (hb.block _ (block_lt HX2.out)).trans HX2.out; have HX3 := Lib.hid hx3; obtain ⟨d0, d1, d2, d3⟩ := ws_cells hx3; have HOw3 := Lib.hid (HOw.out.call hb); have hcv3 := bel_conv HOw3.out; clear hb hx3) | (go_at_call 222; refine (HI.out _ _ (Rd.of_own HOw3.out.own)).mono ?_; rintro e w6 ⟨rfl, rfl⟩))
  go_ret
  exact ⟨ret_str (by rw [HS.out, show (⟨#[91]⟩ : ByteArray) = mkS [91] from rfl, show (⟨#[93]⟩ : ByteArray) = mkS [93] from rfl, mk_app, mk_app]), HO2.out⟩
set_option maxHeartbeats 1000000 in
set_option maxRecDepth 100000 in
theorem show_yes46 (X : Ws) (p : UInt8 → Bool) (w : World) (yes no res : List UInt8) (HX : Hid (HasP X p)) (hle : yes.length ≤ 256) (hmk : (mkS no).size ≤ 256) (hmk2 : (mkS yes).size ≤ 256)
    (HB : Hid (∀ W, Calls Tryz.prog 220 #[.agg #[.int .u64 (X 0 : Nat), .int .u64 (X 1 : Nat), .int .u64 (X 2 : Nat), .int .u64 (X 3 : Nat)]] W fun e w' => ∃ v, e = .returned v ∧ Own W w' 5 1 v yes.length (Lib.byteCells yes)))
    (HE1 : Hid (((yes.length : Int) == 256) = false)) (HL1 : Hid (yes.length = 1)) (HX1 : Hid (yes = [46])) (HH : Hid (∀ W, Calls Tryz.prog 221 #[.agg #[.int .u64 (X 0 : Nat), .int .u64 (X 1 : Nat), .int .u64 (X 2 : Nat), .int .u64 (X 3 : Nat)], .int .u8 93] W fun e w' => e = .returned (.bool false) ∧ Below W.heap.size W w')) (HI : Hid (∀ W v, Rd W 1 v yes.length (Lib.byteCells yes) → Calls Tryz.prog 222 #[v, .int .u8 94] W fun e w' => e = .returned (.int .i64 (-1)) ∧ W = w')) (HS : Hid (res = [91] ++ yes ++ [93])) :
    Calls Tryz.prog 188 #[.agg #[.int .u64 (X 0 : Nat), .int .u64 (X 1 : Nat), .int .u64 (X 2 : Nat), .int .u64 (X 3 : Nat)]] w fun e w' => e = .returned (.string (mkS res)) ∧ Below w.heap.size w w' := by
  have hlen2 : (yes.length : Int) ≤ 256 := by omega
  have H0 : Hid (0 < yes.length) := Lib.hid (by rw [HL1.out]; decide)
  go_enter Tryz.func188, Tryz.ntmps188
  go_wp2_with (first | (go_at_call 220; refine (HB.out _).mono ?_; rintro e w2 ⟨v, rfl, ho⟩; have HO1 := Lib.hid (start_below ho.below); have HX2 := Lib.hid (start_cells ho.below); obtain ⟨c0, c1, c2, c3⟩ := ws_cells HX2.out; have HOw := Lib.hid ho; obtain ⟨g, cp, rfl⟩ := bel_at ho (Nat.pos_iff_ne_zero.1 H0.out); have h0 : 0 < yes.length := H0.out; have e1 := HE1.out; have e2 : ((yes.length : Int) == 1) = true := (by rw [HL1.out]; rfl); have cell := bel_one ho HL1.out HX1.out; clear ho) | (go_at_call 221; refine (HH.out _).mono ?_; rintro e w3 ⟨rfl, hb⟩; have HO2 := Lib.hid (HO1.out.trans (hb.mono HO1.out.size)); have hx3 := (hb.block _ (block_lt HX2.out)).trans HX2.out; have HX3 := Lib.hid hx3; obtain ⟨d0, d1, d2, d3⟩ := ws_cells hx3; have HOw3 := Lib.hid (HOw.out.call hb); have hcv3 := bel_conv HOw3.out; clear hb hx3) | (go_at_call 222; refine (HI.out _ _ (Rd.of_own HOw3.out.own)).mono ?_; rintro e w6 ⟨rfl, rfl⟩))
  go_ret
  exact ⟨ret_str (by rw [HS.out, show (⟨#[91]⟩ : ByteArray) = mkS [91] from rfl, show (⟨#[93]⟩ : ByteArray) = mkS [93] from rfl, mk_app, mk_app]), HO2.out⟩
set_option maxHeartbeats 1000000 in
set_option maxRecDepth 100000 in
theorem show_yes91 (X : Ws) (p : UInt8 → Bool) (w : World) (yes no res : List UInt8) (HX : Hid (HasP X p)) (hle : yes.length ≤ 256) (hmk : (mkS no).size ≤ 256) (hmk2 : (mkS yes).size ≤ 256)
    (HB : Hid (∀ W, Calls Tryz.prog 220 #[.agg #[.int .u64 (X 0 : Nat), .int .u64 (X 1 : Nat), .int .u64 (X 2 : Nat), .int .u64 (X 3 : Nat)]] W fun e w' => ∃ v, e = .returned v ∧ Own W w' 5 1 v yes.length (Lib.byteCells yes)))
    (HE1 : Hid (((yes.length : Int) == 256) = false)) (HL1 : Hid (yes.length = 1)) (HX1 : Hid (yes = [91])) (HH : Hid (∀ W, Calls Tryz.prog 221 #[.agg #[.int .u64 (X 0 : Nat), .int .u64 (X 1 : Nat), .int .u64 (X 2 : Nat), .int .u64 (X 3 : Nat)], .int .u8 93] W fun e w' => e = .returned (.bool false) ∧ Below W.heap.size W w')) (HI : Hid (∀ W v, Rd W 1 v yes.length (Lib.byteCells yes) → Calls Tryz.prog 222 #[v, .int .u8 94] W fun e w' => e = .returned (.int .i64 (-1)) ∧ W = w')) (HS : Hid (res = [91] ++ yes ++ [93])) :
    Calls Tryz.prog 188 #[.agg #[.int .u64 (X 0 : Nat), .int .u64 (X 1 : Nat), .int .u64 (X 2 : Nat), .int .u64 (X 3 : Nat)]] w fun e w' => e = .returned (.string (mkS res)) ∧ Below w.heap.size w w' := by
  have hlen2 : (yes.length : Int) ≤ 256 := by omega
  have H0 : Hid (0 < yes.length) := Lib.hid (by rw [HL1.out]; decide)
  go_enter Tryz.func188, Tryz.ntmps188
  go_wp2_with (first | (go_at_call 220; refine (HB.out _).mono ?_; rintro e w2 ⟨v, rfl, ho⟩; have HO1 := Lib.hid (start_below ho.below); have HX2 := Lib.hid (start_cells ho.below); obtain ⟨c0, c1, c2, c3⟩ := ws_cells HX2.out; have HOw := Lib.hid ho; obtain ⟨g, cp, rfl⟩ := bel_at ho (Nat.pos_iff_ne_zero.1 H0.out); have h0 : 0 < yes.length := H0.out; have e1 := HE1.out; have e2 : ((yes.length : Int) == 1) = true := (by rw [HL1.out]; rfl); have cell := bel_one ho HL1.out HX1.out; clear ho) | (go_at_call 221; refine (HH.out _).mono ?_; rintro e w3 ⟨rfl, hb⟩; have HO2 := Lib.hid (HO1.out.trans (hb.mono HO1.out.size)); have hx3 := (hb.block _ (block_lt HX2.out)).trans HX2.out; have HX3 := Lib.hid hx3; obtain ⟨d0, d1, d2, d3⟩ := ws_cells hx3; have HOw3 := Lib.hid (HOw.out.call hb); have hcv3 := bel_conv HOw3.out; clear hb hx3) | (go_at_call 222; refine (HI.out _ _ (Rd.of_own HOw3.out.own)).mono ?_; rintro e w6 ⟨rfl, rfl⟩))
  go_ret
  exact ⟨ret_str (by rw [HS.out, show (⟨#[91]⟩ : ByteArray) = mkS [91] from rfl, show (⟨#[93]⟩ : ByteArray) = mkS [93] from rfl, mk_app, mk_app]), HO2.out⟩
set_option maxHeartbeats 1000000 in
set_option maxRecDepth 100000 in
theorem so_showP (X : Ws) (p : UInt8 → Bool) (w : World) (h : HasP X p) :
    Calls Tryz.prog 188 #[.agg #[.int .u64 (X 0 : Nat), .int .u64 (X 1 : Nat), .int .u64 (X 2 : Nat), .int .u64 (X 3 : Nat)]] w fun e w' => e = .returned (.string (mkS (shownP p))) ∧ Below w.heap.size w w' := by
  obtain ⟨hb1, hh1⟩ := show_calls X p h
  obtain ⟨yes, hyes⟩ : ∃ y, all256.filter p = y := ⟨_, rfl⟩
  obtain ⟨no, hno⟩ : ∃ y, all256.filter (fun b => !p b) = y := ⟨_, rfl⟩
  have hle : yes.length ≤ 256 := by rw [← hyes, ← all_len]; exact List.length_filter_le _ _
  have hnle : no.length ≤ 256 := by rw [← hno, ← all_len]; exact List.length_filter_le _ _
  have hfull : yes.length = 256 ↔ no = [] := by rw [← hno, ← hyes, ← filter_full, all_len]
  have hnd : yes.Nodup := by rw [← hyes]; exact all_nodup.filter _
  have hsh : shownP p = if no = [] then [46] else if yes.length = 1 ∧ yes ≠ [46] ∧ yes ≠ [91] then yes else if p 93 = true then [91, 94] ++ no ++ [93] else [91] ++ yes.filter (fun b => b.toNat != 94) ++ (if yes.contains 94 = true then [94] else []) ++ [93] := by
    rw [← hno, ← hyes]; rfl
  rw [hyes] at hb1
  have hbn : ∀ Y : Ws, HasP Y (fun b => !p b) → ∀ W, Calls Tryz.prog 220 #[.agg #[.int .u64 (Y 0 : Nat), .int .u64 (Y 1 : Nat), .int .u64 (Y 2 : Nat), .int .u64 (Y 3 : Nat)]] W fun e w' => ∃ v, e = .returned v ∧ Own W w' 5 1 v no.length (Lib.byteCells no) := fun Y hY W => by
    have := so_bytesC Y _ W hY
    rwa [hno] at this
  have hmk : (mkS no).size ≤ 256 := by rw [mkS_size]; exact hnle
  have hmk2 : (mkS yes).size ≤ 256 := by rw [mkS_size]; exact hle
  generalize shownP p = res at hsh ⊢
  by_cases c1 : no = []
  · rw [if_pos c1] at hsh
    exact show_all X p w yes no res (Lib.hid h) hle hmk hmk2 (Lib.hid hb1) (hfull.2 c1) (Lib.hid hsh)
  rw [if_neg c1] at hsh
  have hn256 : yes.length ≠ 256 := fun e => c1 (hfull.1 e)
  have HE1 : Hid (((yes.length : Int) == 256) = false) := Lib.hid (by rw [beq_eq_false_iff_ne]; omega)
  by_cases c2 : yes.length = 1 ∧ yes ≠ [46] ∧ yes ≠ [91]
  · rw [if_pos c2] at hsh
    obtain ⟨hl1, hn1, hn2⟩ := c2
    obtain ⟨x, hx⟩ := List.length_eq_one_iff.1 hl1
    have e3 : ((x.toNat : Int) == 46) = false := by
      rw [beq_eq_false_iff_ne]; intro e
      exact hn1 (by rw [hx]; congr 1; rw [← UInt8.toNat_inj]; show x.toNat = 46; omega)
    have e4 : ((x.toNat : Int) == 91) = false := by
      rw [beq_eq_false_iff_ne]; intro e
      exact hn2 (by rw [hx]; congr 1; rw [← UInt8.toNat_inj]; show x.toNat = 91; omega)
    exact show_one X p w yes no res (Lib.hid h) hle hmk hmk2 (Lib.hid hb1) HE1 x (Lib.hid hl1) (Lib.hid hx) e3 e4 (Lib.hid hsh)
  rw [if_neg c2] at hsh
  have hw : yes.length ≠ 1 ∨ (yes.length = 1 ∧ yes = [46]) ∨ (yes.length = 1 ∧ yes = [91]) := by
    by_cases a : yes.length = 1
    · by_cases b : yes = [46]
      · exact .inr (.inl ⟨a, b⟩)
      by_cases c : yes = [91]
      · exact .inr (.inr ⟨a, c⟩)
      exact absurd ⟨a, b, c⟩ c2
    exact .inl a
  by_cases c3 : p 93 = true
  · rw [if_pos c3] at hsh
    rw [c3] at hh1
    rcases hw with a | ⟨a, b⟩ | ⟨a, b⟩
    · exact show_notN X p w yes no res (Lib.hid h) hle hmk hmk2 (Lib.hid hb1) HE1 a (Lib.hid hh1) (Lib.hid hbn) (Lib.hid hsh)
    · exact show_not46 X p w yes no res (Lib.hid h) hle hmk hmk2 (Lib.hid hb1) HE1 (Lib.hid a) (Lib.hid b) (Lib.hid hh1) (Lib.hid hbn) (Lib.hid hsh)
    exact show_not91 X p w yes no res (Lib.hid h) hle hmk hmk2 (Lib.hid hb1) HE1 (Lib.hid a) (Lib.hid b) (Lib.hid hh1) (Lib.hid hbn) (Lib.hid hsh)
  rw [if_neg c3] at hsh
  rw [Bool.not_eq_true] at c3
  rw [c3] at hh1
  by_cases c4 : yes.contains 94 = true
  · rw [if_pos c4] at hsh
    obtain ⟨k, hk, hke, hix⟩ := ixB_some c4
    have hr : yes.take k ++ yes.drop (k + 1) = yes.filter (fun b => b.toNat != 94) := cut_byte hnd hk 94 hke
    have HI : Hid (∀ W v, Rd W 1 v yes.length (Lib.byteCells yes) → Calls Tryz.prog 222 #[v, .int .u8 94] W fun e w' => e = .returned (.int .i64 (k : Int)) ∧ W = w') := Lib.hid (fun W v h => by
      have := so_IndexB v yes 94 W h (by omega)
      rwa [hix] at this)
    obtain ⟨r, hrr⟩ : ∃ r, yes.filter (fun b => b.toNat != 94) = r := ⟨_, rfl⟩
    have HRL : Hid (r.length ≤ 256) := Lib.hid (by rw [← hrr]; exact Nat.le_trans (List.length_filter_le _ _) hle)
    have HD : Hid (∀ w0 W g cap, Own w0 W 5 1 (.slice (some ⟨g, 0, none⟩) yes.length cap) yes.length (Lib.byteCells yes) → Calls Tryz.prog 223 #[.slice (some ⟨g, 0, none⟩) yes.length cap, .int .i64 (k : Int), .int .i64 ((k : Int) + 1)] W (DelP w0 g cap r)) := Lib.hid (fun w0 W g cap h => by
      have := so_DeleteB w0 W g cap yes k h hk (by omega)
      rwa [hr, hrr] at this)
    rw [hrr] at hsh
    have hs2 : res = [91] ++ (r ++ [94]) ++ [93] := by rw [hsh]; simp
    rcases hw with a | ⟨a, b⟩ | ⟨a, b⟩
    · exact show_cutN X p w yes no res (Lib.hid h) hle hmk hmk2 (Lib.hid hb1) HE1 a (Lib.hid hh1) k hk r HRL HD HI (Lib.hid hs2)
    · exact show_cut46 X p w yes no res (Lib.hid h) hle hmk hmk2 (Lib.hid hb1) HE1 (Lib.hid a) (Lib.hid b) (Lib.hid hh1) k hk r HRL HD HI (Lib.hid hs2)
    exact show_cut91 X p w yes no res (Lib.hid h) hle hmk hmk2 (Lib.hid hb1) HE1 (Lib.hid a) (Lib.hid b) (Lib.hid hh1) k hk r HRL HD HI (Lib.hid hs2)
  rw [if_neg c4] at hsh
  rw [Bool.not_eq_true] at c4
  have HI : Hid (∀ W v, Rd W 1 v yes.length (Lib.byteCells yes) → Calls Tryz.prog 222 #[v, .int .u8 94] W fun e w' => e = .returned (.int .i64 (-1)) ∧ W = w') := Lib.hid (fun W v h => by
    have := so_IndexB v yes 94 W h (by omega)
    rwa [ixB_none c4] at this)
  rw [filter_none c4, List.append_nil] at hsh
  rcases hw with a | ⟨a, b⟩ | ⟨a, b⟩
  · exact show_yesN X p w yes no res (Lib.hid h) hle hmk hmk2 (Lib.hid hb1) HE1 a (Lib.hid hh1) HI (Lib.hid hsh)
  · exact show_yes46 X p w yes no res (Lib.hid h) hle hmk hmk2 (Lib.hid hb1) HE1 (Lib.hid a) (Lib.hid b) (Lib.hid hh1) HI (Lib.hid hsh)
  exact show_yes91 X p w yes no res (Lib.hid h) hle hmk hmk2 (Lib.hid hb1) HE1 (Lib.hid a) (Lib.hid b) (Lib.hid hh1) HI (Lib.hid hsh)
end Go.Proofs.YtfkblpjfknfgbaaGreatDoor
namespace Go.Proofs.YtfkblpjfknfgbaaGreatDoor
open Go.RowKit
theorem shown_len (p : UInt8 → Bool) : (shownP p).length ≤ 260 := by
  have h1 : (all256.filter p).length ≤ 256 := by rw [← all_len]; exact List.length_filter_le _ _
  have h2 : (all256.filter (fun b => !p b)).length ≤ 256 := by rw [← all_len]; exact List.length_filter_le _ _
  have h3 : ((all256.filter p).filter (fun b => b.toNat != 94)).length ≤ (all256.filter p).length := List.length_filter_le _ _
  simp only [shownP]
  split
  · simp
  split
  · omega
  split
  · simp; omega
  split <;> simp only [List.length_append, List.length_cons, List.length_nil] <;> omega
theorem show_step (ts : List (List UInt8)) (k : Nat) (hk : k < ts.length) : (ts.take (k + 1)).flatMap shownB = (ts.take k).flatMap shownB ++ shownP (admB ts[k]) := by
  rw [List.take_succ_eq_append_getElem hk, List.flatMap_append]
  simp [shownB_eq]
def PatR (w : World) (v : Value) (ts : List (List UInt8)) : Prop := ∃ Xs, PatW Xs ts ∧ Rd w 4 v ts.length (wsCells Xs)
theorem PatR.keep {w w' : World} {v : Value} {ts : List (List UInt8)} (h : PatR w v ts) (hb : Below w.heap.size w w') : PatR w' v ts := by
  obtain ⟨Xs, h1, h2⟩ := h
  exact ⟨Xs, h1, h2.keep hb⟩
theorem ws_at : ∀ (Xs : List Ws) (k : Nat) (hk : k < Xs.length) (j : Nat), j < 4 → (wsCells Xs)[k * 4 + j]? = some (.int .u64 ((Xs[k] j : Nat) : Int))
  | [], _, hk, _, _ => absurd hk (Nat.not_lt_zero _)
  | X :: r, 0, _, j, hj => by
    show ([Value.int .u64 (X 0 : Nat), .int .u64 (X 1 : Nat), .int .u64 (X 2 : Nat), .int .u64 (X 3 : Nat)] ++ wsCells r)[0 * 4 + j]? = _
    rw [Nat.zero_mul, Nat.zero_add, List.getElem?_append_left (by simpa using hj)]
    rcases j with _ | _ | _ | _ | j
    · rfl
    · rfl
    · rfl
    · rfl
    · omega
  | X :: r, k + 1, hk, j, hj => by
    show ([Value.int .u64 (X 0 : Nat), .int .u64 (X 1 : Nat), .int .u64 (X 2 : Nat), .int .u64 (X 3 : Nat)] ++ wsCells r)[(k + 1) * 4 + j]? = _
    rw [List.getElem?_append_right (by simp; omega)]
    have := ws_at r k (by simpa using hk) j hj
    simp only [List.length_cons, List.length_nil, List.getElem_cons_succ]
    rw [← this]; congr 1; omega
theorem start_below' {w w2 : World} {o : Obj} {B : Nat} (h : Below (w.alloc o).heap.size (w.alloc o) w2) (hB : B ≤ w.heap.size) : Below B w w2 := ((Below.refl _ _).alloc hB _).trans (h.mono (by simp; omega))
set_option maxHeartbeats 1000000 in
set_option maxRecDepth 100000 in
theorem so_ShowP (v : Value) (ts : List (List UInt8)) (w : World) (h : PatR w v ts) (hn : ts.length ≤ 4096) :
    Calls Tryz.prog 153 #[.agg #[v]] w fun e w' => e = .returned (.string (mkS (condShow ts))) ∧ Below w.heap.size w w' := by
  obtain ⟨Xs, hP, h1, A, cp, rfl, hcap, hs⟩ := h
  have HP := Lib.hid hP
  have HS := Lib.hid hs
  clear hP hs h1
  by_cases h0 : ts = []
  · have HC : Hid (condShow ts = [46]) := Lib.hid (by rw [condShow, if_pos h0])
    have hl : ts.length = 0 := by rw [h0]; rfl
    have e0 : ((ts.length : Int) == 0) = true := by rw [hl]; rfl
    clear h0 hl
    go_enter Tryz.func153, Tryz.ntmps153
    go_wp2_with fail
    go_ret
    exact ⟨ret_str (by rw [HC.out]; rfl), (Below.refl _ _).alloc (Nat.le_refl _) _⟩
  have HC : Hid (condShow ts = ts.flatMap shownB) := Lib.hid (by rw [condShow, if_neg h0])
  have hl : ts.length ≠ 0 := fun e => h0 (List.eq_nil_of_length_eq_zero e)
  have e0 : ((ts.length : Int) == 0) = false := by rw [beq_eq_false_iff_ne]; omega
  clear h0
  obtain ⟨b, off, rfl, hc⟩ := HS.out.resolve_left hl
  have HCl := Lib.hid hc
  clear hc HS
  go_enter Tryz.func153, Tryz.ntmps153
  go_wp2_with fail
  obtain ⟨w1, hw1⟩ : ∃ W, w.alloc (.cells #[.slice (some ⟨b, off, none⟩) ts.length cp] 246) = W := ⟨_, rfl⟩
  have HB1 : Hid (Below w.heap.size w w1) := Lib.hid (by rw [← hw1]; exact (Below.refl _ _).alloc (Nat.le_refl _) _)
  have hsz1 : w.heap.size < w1.heap.size := by rw [← hw1]; simp
  rw [hw1]
  clear hw1
  go_loopw [3, 5, 13] (fun s _ i wr => ∃ k : Nat, k ≤ ts.length ∧ i = .int .i64 k ∧ s = .string (mkS ((ts.take k).flatMap shownB)) ∧ ((ts.take k).flatMap shownB).length ≤ 260 * k ∧ Below w1.heap.size w1 wr) (fun _ _ i _ => ts.length - (intOf i).toNat)
  case atStart => exact ⟨0, Nat.zero_le _, rfl, rfl, Nat.zero_le _, Below.refl _ _⟩
  case round =>
  obtain ⟨k, hk, rfl, rfl, hlen, hb⟩ := hrel
  have HB := Lib.hid hb
  clear hb
  by_cases hlt : k < ts.length
  · have hX : k < Xs.length := by rw [HP.out.1]; exact hlt
    have HH : Hid (HasP Xs[k] (admB ts[k])) := Lib.hid (HP.out.2 k _ _ (List.getElem?_eq_getElem hX) (List.getElem?_eq_getElem hlt))
    obtain ⟨X, hXX⟩ : ∃ X, Xs[k] = X := ⟨_, rfl⟩
    have hcell : ∀ j, j < 4 → wr.cell? ⟨b, off + (k * 4 + j), none⟩ = some (.int .u64 ((X j : Nat) : Int)) := fun j hj => by
      have h2 := HCl.out (k * 4 + j) _ (ws_at Xs k hX j hj)
      rw [hXX] at h2
      exact (HB.out.cell (Nat.lt_of_lt_of_le (World.block_lt_of_cell? w _ h2) (Nat.le_of_lt hsz1))).trans ((HB1.out.cell (World.block_lt_of_cell? w _ h2)).trans h2)
    have c0 : wr.cell? ⟨b, off + k * 4, none⟩ = some (.int .u64 ((X 0 : Nat) : Int)) := hcell 0 (by omega)
    have c1 : wr.cell? ⟨b, off + k * 4 + 1, none⟩ = some (.int .u64 ((X 1 : Nat) : Int)) := hcell 1 (by omega)
    have c2 : wr.cell? ⟨b, off + k * 4 + 2, none⟩ = some (.int .u64 ((X 2 : Nat) : Int)) := hcell 2 (by omega)
    have c3 : wr.cell? ⟨b, off + k * 4 + 3, none⟩ = some (.int .u64 ((X 3 : Nat) : Int)) := hcell 3 (by omega)
    rw [hXX] at HH
    have HST := Lib.hid (show_step ts k hlt)
    obtain ⟨s1, hs1⟩ : ∃ y, (ts.take k).flatMap shownB = y := ⟨_, rfl⟩
    obtain ⟨s2, hs2⟩ : ∃ y, shownP (admB ts[k]) = y := ⟨_, rfl⟩
    have hl2 : s2.length ≤ 260 := by rw [← hs2]; exact shown_len _
    have HF : Hid (∀ W, Calls Tryz.prog 188 #[.agg #[.int .u64 (X 0 : Nat), .int .u64 (X 1 : Nat), .int .u64 (X 2 : Nat), .int .u64 (X 3 : Nat)]] W fun e w' => e = .returned (.string (mkS s2)) ∧ Below W.heap.size W w') := Lib.hid (fun W => by
      have := so_showP X _ W HH.out
      rwa [hs2] at this)
    rw [hs1, hs2] at HST
    rw [hs1] at hlen ⊢
    have hz1 : (mkS s1).size ≤ 260 * k := by rw [mkS_size]; exact hlen
    have hz2 : (mkS s2).size ≤ 260 := by rw [mkS_size]; exact hl2
    clear hcell hXX hs2 hs1
    go_wp2_with (go_at_call 188; refine (HF.out _).mono ?_; rintro e w2 ⟨rfl, hb2⟩; have HB2 := Lib.hid (HB.out.trans (start_below' hb2 HB.out.size)); clear hb2)
    go_roundw
    case rel => exact ⟨k + 1, by omega, by go_num, by rw [HST.out, ← mk_app], by rw [HST.out]; simp; omega, HB2.out⟩
    case measure => simp [intOf]; omega
  obtain rfl : k = ts.length := by omega
  have HT : Hid ((ts.take ts.length).flatMap shownB = ts.flatMap shownB) := Lib.hid (by rw [List.take_length])
  go_wp2_with fail
  go_ret
  exact ⟨ret_str (by rw [HC.out, HT.out]), HB1.out.trans (HB.out.mono (Nat.le_of_lt hsz1))⟩
end Go.Proofs.YtfkblpjfknfgbaaGreatDoor
namespace Go.Proofs.YtfkblpjfknfgbaaGreatDoor
open Go.RowKit Go.Maps
def RuleP (R : Except Int Rl) (line : Int) (w : World) (e : Ending) (w' : World) : Prop :=
  Below w.heap.size w w' ∧ match R with
    | .ok r => ∃ nv, e = .returned (.agg #[.int .i64 r.kind, .int .u16 r.flag, .bool r.cross, .string r.strip, .string r.add, .string r.cond, nv]) ∧ FN w.heap.size w' nv r.next
    | .error c => e = .panicked [flt line c]
def ruleZ : Array Value := #[.int .i64 0, .int .u16 0, .bool false, .string ⟨#[]⟩, .string ⟨#[]⟩, .string ⟨#[]⟩, .slice none 0 0]
def ruleX (c : Cl) (strip add cond : ByteArray) (nv : Value) : Array Value := #[.int .i64 c.kind, .int .u16 c.flag, .bool c.cross, .string strip, .string add, .string cond, nv]
structure XS (w : World) (c : Cl) (strip add cond : ByteArray) (nv : Value) (W : World) : Prop where
  below : Below w.heap.size w W
  box : W.heap[w.heap.size]? = some (.cells #[.int .u16 c.flag, .int .i64 c.kind, .bool c.cross, .int .i64 c.first, .int .i64 c.count] 99 (0, 0))
  res : W.heap[w.heap.size + 1]? = some (.cells ruleZ 31 (0, 0))
  x : W.heap[w.heap.size + 2]? = some (.cells (ruleX c strip add cond nv) 31 (0, 0))
theorem XS.later {w W W' : World} {c : Cl} {strip add cond : ByteArray} {nv : Value} (h : XS w c strip add cond nv W) (hb : Below W.heap.size W W') : XS w c strip add cond nv W' :=
  ⟨h.below.trans (hb.mono h.below.size), (hb.block _ (block_lt h.box)).trans h.box, (hb.block _ (block_lt h.res)).trans h.res, (hb.block _ (block_lt h.x)).trans h.x⟩
theorem XS.size {w W : World} {c : Cl} {strip add cond : ByteArray} {nv : Value} (h : XS w c strip add cond nv W) : w.heap.size + 2 < W.heap.size := block_lt h.x
theorem XS.cells {w W : World} {c : Cl} {strip add cond : ByteArray} {nv : Value} (h : XS w c strip add cond nv W) :
    W.cell? ⟨w.heap.size, 0, none⟩ = some (.int .u16 c.flag) ∧ W.cell? ⟨w.heap.size, 1, none⟩ = some (.int .i64 c.kind) ∧ W.cell? ⟨w.heap.size, 2, none⟩ = some (.bool c.cross) :=
  ⟨by rw [Lib.cell_of_heap h.box]; rfl, by rw [Lib.cell_of_heap h.box]; rfl, by rw [Lib.cell_of_heap h.box]; rfl⟩
theorem XS.xat {w W : World} {c : Cl} {strip add cond : ByteArray} {nv : Value} (h : XS w c strip add cond nv W) (j : Nat) (hj : j < 7) : ∃ u, W.cell? ⟨w.heap.size + 2, j, none⟩ = some u ∧ W.frozen? ⟨w.heap.size + 2, j, none⟩ = false := by
  refine ⟨(ruleX c strip add cond nv)[j]'hj, ?_, Lib.frozen_of_heap h.x j⟩
  rw [Lib.cell_of_heap h.x]
  exact Array.getElem?_eq_getElem hj
theorem XS.setStrip {w W : World} {c : Cl} {strip add cond s : ByteArray} {nv : Value} (h : XS w c strip add cond nv W) : XS w c s add cond nv (W.setCell ⟨w.heap.size + 2, 3, none⟩ (.string s)) :=
  ⟨h.below.setCell (by simp) _, (set_kept1 _ _ _ _).at h.box (by simp), (set_kept1 _ _ _ _).at h.res (by simp), heap_setCell_same _ _ _ _ _ _ h.x⟩
theorem XS.setAdd {w W : World} {c : Cl} {strip add cond s : ByteArray} {nv : Value} (h : XS w c strip add cond nv W) : XS w c strip s cond nv (W.setCell ⟨w.heap.size + 2, 4, none⟩ (.string s)) :=
  ⟨h.below.setCell (by simp) _, (set_kept1 _ _ _ _).at h.box (by simp), (set_kept1 _ _ _ _).at h.res (by simp), heap_setCell_same _ _ _ _ _ _ h.x⟩
theorem XS.setCond {w W : World} {c : Cl} {strip add cond s : ByteArray} {nv : Value} (h : XS w c strip add cond nv W) : XS w c strip add s nv (W.setCell ⟨w.heap.size + 2, 5, none⟩ (.string s)) :=
  ⟨h.below.setCell (by simp) _, (set_kept1 _ _ _ _).at h.box (by simp), (set_kept1 _ _ _ _).at h.res (by simp), heap_setCell_same _ _ _ _ _ _ h.x⟩
theorem XS.setNext {w W : World} {c : Cl} {strip add cond : ByteArray} {nv v : Value} (h : XS w c strip add cond nv W) : XS w c strip add cond v (W.setCell ⟨w.heap.size + 2, 6, none⟩ v) :=
  ⟨h.below.setCell (by simp) _, (set_kept1 _ _ _ _).at h.box (by simp), (set_kept1 _ _ _ _).at h.res (by simp), heap_setCell_same _ _ _ _ _ _ h.x⟩
theorem rule_len {F : Fl} {c : Cl} {line : Int} {row : List ByteArray} (h : row.length ≠ 4 ∧ row.length ≠ 5) : ruleR F c line row = .error 111 := by rw [ruleR, if_pos h]
theorem rule_strip {F : Fl} {c : Cl} {line e : Int} {row : List ByteArray} (h : ¬ (row.length ≠ 4 ∧ row.length ≠ 5)) (h2 : pieceR true (fieldAt row 2) = .error e) : ruleR F c line row = .error e := by rw [ruleR, if_neg h, h2]
def ruleA (F : Fl) (c : Cl) (line : Int) (row : List ByteArray) (strip : ByteArray) : Except Int Rl := match wordR (fieldAt row 3).data.toList with
      | (w, rest, cut, e) => if e ≠ 0 then .error e else match addR w with
        | .error e => .error e
        | .ok add => match nextR F c.kind rest cut with
          | .error e => .error e
          | .ok next => match condOf row with
            | .error e => .error e
            | .ok cond => .ok ⟨c.kind, c.flag, c.cross, strip, add, cond, next, line⟩
theorem rule_ok {F : Fl} {c : Cl} {line : Int} {row : List ByteArray} {s : ByteArray} (h : ¬ (row.length ≠ 4 ∧ row.length ≠ 5)) (h2 : pieceR true (fieldAt row 2) = .ok s) : ruleR F c line row = ruleA F c line row s := by rw [ruleR, if_neg h, h2]; rfl
def ruleB (F : Fl) (c : Cl) (line : Int) (row : List ByteArray) (strip add : ByteArray) (rest : List UInt8) (cut : Bool) : Except Int Rl := match nextR F c.kind rest cut with
          | .error e => .error e
          | .ok next => match condOf row with
            | .error e => .error e
            | .ok cond => .ok ⟨c.kind, c.flag, c.cross, strip, add, cond, next, line⟩
def ruleC (c : Cl) (line : Int) (row : List ByteArray) (strip add : ByteArray) (next : List Int) : Except Int Rl := match condOf row with
            | .error e => .error e
            | .ok cond => .ok ⟨c.kind, c.flag, c.cross, strip, add, cond, next, line⟩
end Go.Proofs.YtfkblpjfknfgbaaGreatDoor
namespace Go.Proofs.YtfkblpjfknfgbaaGreatDoor
open Go.RowKit Go.Maps
theorem box_xs (w : World) (c : Cl) : XS w c ⟨#[]⟩ ⟨#[]⟩ ⟨#[46]⟩ (.slice none 0 0) (((w.alloc (.cells #[.int .u16 c.flag, .int .i64 c.kind, .bool c.cross, .int .i64 c.first, .int .i64 c.count] 99)).alloc (.cells ruleZ 31)).alloc (.cells (ruleX c ⟨#[]⟩ ⟨#[]⟩ ⟨#[46]⟩ (.slice none 0 0)) 31)) := by
  refine ⟨(((Below.refl _ _).alloc (Nat.le_refl _) _).alloc (by simp) _).alloc (by simp only [World.size_alloc]; omega) _, ?_, ?_, ?_⟩
  · rw [Below.heap_alloc _ _ w.heap.size (by simp only [World.size_alloc]; omega), Below.heap_alloc _ _ w.heap.size (by simp)]
    exact heap_alloc_new w _
  · rw [Below.heap_alloc _ _ (w.heap.size + 1) (by simp)]
    have := heap_alloc_new (w.alloc (.cells #[.int .u16 c.flag, .int .i64 c.kind, .bool c.cross, .int .i64 c.first, .int .i64 c.count] 99)) (.cells ruleZ 31)
    rwa [World.size_alloc] at this
  have := heap_alloc_new ((w.alloc (.cells #[.int .u16 c.flag, .int .i64 c.kind, .bool c.cross, .int .i64 c.first, .int .i64 c.count] 99)).alloc (.cells ruleZ 31)) (.cells (ruleX c ⟨#[]⟩ ⟨#[]⟩ ⟨#[46]⟩ (.slice none 0 0)) 31)
  rwa [World.size_alloc, World.size_alloc] at this
theorem XS.xcells {w W : World} {c : Cl} {strip add cond : ByteArray} {nv : Value} (h : XS w c strip add cond nv W) :
    W.cell? ⟨w.heap.size + 2, 0, none⟩ = some (.int .i64 c.kind) ∧ W.cell? ⟨w.heap.size + 2, 1, none⟩ = some (.int .u16 c.flag) ∧ W.cell? ⟨w.heap.size + 2, 2, none⟩ = some (.bool c.cross) ∧ W.cell? ⟨w.heap.size + 2, 3, none⟩ = some (.string strip) ∧ W.cell? ⟨w.heap.size + 2, 4, none⟩ = some (.string add) ∧ W.cell? ⟨w.heap.size + 2, 5, none⟩ = some (.string cond) ∧ W.cell? ⟨w.heap.size + 2, 6, none⟩ = some nv := by
  refine ⟨?_, ?_, ?_, ?_, ?_, ?_, ?_⟩ <;> (rw [Lib.cell_of_heap h.x]; rfl)
theorem XS.zcells {w W : World} {c : Cl} {strip add cond : ByteArray} {nv : Value} (h : XS w c strip add cond nv W) :
    W.cell? ⟨w.heap.size + 1, 0, none⟩ = some (.int .i64 0) ∧ W.cell? ⟨w.heap.size + 1, 1, none⟩ = some (.int .u16 0) ∧ W.cell? ⟨w.heap.size + 1, 2, none⟩ = some (.bool false) ∧ W.cell? ⟨w.heap.size + 1, 3, none⟩ = some (.string ⟨#[]⟩) ∧ W.cell? ⟨w.heap.size + 1, 4, none⟩ = some (.string ⟨#[]⟩) ∧ W.cell? ⟨w.heap.size + 1, 5, none⟩ = some (.string ⟨#[]⟩) ∧ W.cell? ⟨w.heap.size + 1, 6, none⟩ = some (.slice none 0 0) := by
  refine ⟨?_, ?_, ?_, ?_, ?_, ?_, ?_⟩ <;> (rw [Lib.cell_of_heap h.res]; rfl)
theorem FN.setCell {B b j : Nat} {W : World} {v u : Value} {zs : List Int} (h : FN B W v zs) (hx : b < B) : FN B (W.setCell ⟨b, j, none⟩ u) v zs := by
  obtain ⟨p, c, hv, hc, h⟩ := h
  refine ⟨p, c, hv, hc, h.imp id ?_⟩
  rintro ⟨g, off, hp, h1, h2⟩
  refine ⟨g, off, hp, h1, fun i hi => ?_⟩
  obtain ⟨h3, h4⟩ := h2 i hi
  have hlt := World.block_lt_of_cell? _ _ h3
  have hk := (set_kept1 W b j u).block g hlt (by simp; omega)
  exact ⟨(World.cell?_of_block hk).trans h3, (World.frozen?_of_block hk).trans h4⟩
theorem XS.answer {w W : World} {c : Cl} {strip add cond : ByteArray} {nv : Value} {next : List Int} (h : XS w c strip add cond nv W) (hn : FN (w.heap.size + 3) W nv next) (line : Int) :
    ∀ W' e, W' = ((((((W.setCell ⟨w.heap.size + 1, 0, none⟩ (.int .i64 c.kind)).setCell ⟨w.heap.size + 1, 1, none⟩ (.int .u16 c.flag)).setCell ⟨w.heap.size + 1, 2, none⟩ (.bool c.cross)).setCell ⟨w.heap.size + 1, 3, none⟩ (.string strip)).setCell ⟨w.heap.size + 1, 4, none⟩ (.string add)).setCell ⟨w.heap.size + 1, 5, none⟩ (.string cond)).setCell ⟨w.heap.size + 1, 6, none⟩ nv →
      e = .returned (.agg #[.int .i64 c.kind, .int .u16 c.flag, .bool c.cross, .string strip, .string add, .string cond, nv]) → RuleP (.ok ⟨c.kind, c.flag, c.cross, strip, add, cond, next, line⟩) line w e W' := by
  rintro W' e rfl rfl
  refine ⟨?_, nv, rfl, ?_⟩
  · exact ((((((h.below.setCell (by simp) _).setCell (by simp) _).setCell (by simp) _).setCell (by simp) _).setCell (by simp) _).setCell (by simp) _).setCell (by simp) _
  exact (((((((hn.setCell (by omega)).setCell (by omega)).setCell (by omega)).setCell (by omega)).setCell (by omega)).setCell (by omega)).setCell (by omega)).mono (by omega)
theorem XS.zfroz {w W : World} {c : Cl} {strip add cond : ByteArray} {nv : Value} (h : XS w c strip add cond nv W) :
    W.frozen? ⟨w.heap.size + 1, 0, none⟩ = false ∧ W.frozen? ⟨w.heap.size + 1, 1, none⟩ = false ∧ W.frozen? ⟨w.heap.size + 1, 2, none⟩ = false ∧ W.frozen? ⟨w.heap.size + 1, 3, none⟩ = false ∧ W.frozen? ⟨w.heap.size + 1, 4, none⟩ = false ∧ W.frozen? ⟨w.heap.size + 1, 5, none⟩ = false ∧ W.frozen? ⟨w.heap.size + 1, 6, none⟩ = false :=
  ⟨Lib.frozen_of_heap h.res _, Lib.frozen_of_heap h.res _, Lib.frozen_of_heap h.res _, Lib.frozen_of_heap h.res _, Lib.frozen_of_heap h.res _, Lib.frozen_of_heap h.res _, Lib.frozen_of_heap h.res _⟩
theorem FN.later {B : Nat} {W W' : World} {v : Value} {zs : List Int} (h : FN B W v zs) (hb : Below W.heap.size W W') : FN B W' v zs := by
  obtain ⟨p, c, hv, hc, h⟩ := h
  refine ⟨p, c, hv, hc, h.imp id ?_⟩
  rintro ⟨g, off, hp, h1, h2⟩
  refine ⟨g, off, hp, h1, fun i hi => ?_⟩
  obtain ⟨h3, h4⟩ := h2 i hi
  have hk := hb.block g (World.block_lt_of_cell? _ _ h3)
  exact ⟨(World.cell?_of_block hk).trans h3, (World.frozen?_of_block hk).trans h4⟩
theorem itemsGo_err : ∀ (n : Nat) (l : List UInt8) (e : Int), itemsGo n l = .error e → e = 41
  | 0, l, e, h => by simp [itemsGo] at h
  | n + 1, [], e, h => by simp [itemsGo] at h
  | n + 1, b :: l, e, h => by
    unfold itemsGo at h
    split at h
    · split at h
      · cases h; rfl
      · split at h
        · cases h; rfl
        · split at h
          · rename_i h2; cases h; exact itemsGo_err n _ _ h2
          · cases h
    · split at h
      · rename_i h2; cases h; exact itemsGo_err n _ _ h2
      · cases h
theorem condR_err {l : List UInt8} {e : Int} (h : condR l = .error e) : (e == 0) = false := by
  unfold condR at h
  split at h
  · cases h; rfl
  split at h
  · cases h
  split at h
  · rename_i h2; cases h; rw [itemsGo_err _ _ _ h2]; rfl
  split at h
  · cases h; rfl
  cases h
theorem condR_len {l : List UInt8} {ts : List (List UInt8)} (h : condR l = .ok ts) : ts.length ≤ 16 := by
  unfold condR at h
  split at h
  · cases h
  split at h
  · cases h; exact Nat.zero_le _
  split at h
  · cases h
  split at h
  · cases h
  cases h; omega
theorem FileF.later {w W : World} {fb : Nat} {kind : Int} {av : Value} {us : List Value} {al : List (List Int)} (h : FileF w fb kind av us al) (hb : Below w.heap.size w W) : FileF W fb kind av us al :=
  ⟨(hb.cell (World.block_lt_of_cell? _ _ h.kind)).trans h.kind, (hb.cell (World.block_lt_of_cell? _ _ h.als)).trans h.als, h.row.keep hb, fun k u a hu ha => (h.sets k u a hu ha).keep hb, h.canons⟩
set_option maxHeartbeats 4000000 in
set_option maxRecDepth 100000 in
theorem so_rule (rb fb : Nat) (line : Int) (F : Fl) (av : Value) (us : List Value) (c : Cl) (fv : Value) (row : List ByteArray) (m0 : Int) (w : World) (h2 : w.cell? ⟨rb, 2, none⟩ = some (.int .i64 line)) (h0 : w.cell? ⟨rb, 0, none⟩ = some (.pointer (some ⟨fb, 0, none⟩)))
    (hF : FileF w fb F.kind av us F.als) (hr : RowF1 w fv row) (hal : F.als.length ≤ 65536) (hm0 : w.cell? ⟨0, 0, none⟩ = some (.int .i64 m0)) :
    Calls Tryz.prog 118 #[.pointer (some ⟨rb, 0, none⟩), .agg #[.int .u16 c.flag, .int .i64 c.kind, .bool c.cross, .int .i64 c.first, .int .i64 c.count], fv] w (RuleP (ruleR F c line row) line w) := by
  have hxs := box_xs w c
  unfold ruleZ at hxs
  have hxs2 := hxs
  clear hxs
  rw [show ruleX c ⟨#[]⟩ ⟨#[]⟩ ⟨#[46]⟩ (.slice none 0 0) = #[.int .i64 c.kind, .int .u16 c.flag, .bool c.cross, .string ⟨#[]⟩, .string ⟨#[]⟩, .string ⟨#[46]⟩, .slice none 0 0] from rfl] at hxs2
  have HXS := Lib.hid hxs2
  clear hxs2
  have HM : Hid (∀ W b k, Below w.heap.size w W → k ≠ 0 → Calls Tryz.prog 46 #[.pointer (some ⟨rb, 0, none⟩), .bool b, .int .i64 k] W (MustP b line k W)) := Lib.hid (fun W b k hb hk => so_must rb line b k W hk ((hb.cell (World.block_lt_of_cell? _ _ h2)).trans h2))
  have hB1 : Below w.heap.size w ((w.alloc (.cells #[.int .u16 c.flag, .int .i64 c.kind, .bool c.cross, .int .i64 c.first, .int .i64 c.count] 99)).alloc (.cells ruleZ 31)) := ((Below.refl _ _).alloc (Nat.le_refl _) _).alloc (by simp) _
  unfold ruleZ at hB1
  have HB1 := Lib.hid hB1
  clear hB1
  by_cases hlen : row.length ≠ 4 ∧ row.length ≠ 5
  · have HRe := Lib.hid (rule_len (F := F) (c := c) (line := line) hlen)
    have e4 : ((row.length : Int) == 4) = false := by rw [beq_eq_false_iff_ne]; omega
    have e5 : ((row.length : Int) == 5) = false := by rw [beq_eq_false_iff_ne]; omega
    obtain ⟨-, A, cp, rfl, -, -⟩ := hr.rd
    clear hlen
    go_enter Tryz.func118, Tryz.ntmps118
    go_wp2_with fail
    refine (HM.out _ false 111 HB1.out (by decide)).mono ?_
    rintro e w9 ⟨⟨hx, -⟩ | ⟨-, rfl⟩, rfl⟩
    · exact absurd hx (by simp)
    exact ⟨rfl, HB1.out, by rw [HRe.out]⟩
  have HMt : Hid (∀ W k, Below w.heap.size w W → k ≠ 0 → Calls Tryz.prog 46 #[.pointer (some ⟨rb, 0, none⟩), .bool true, .int .i64 k] W fun e w' => e = .returned (.tuple #[]) ∧ w' = W) := Lib.hid (fun W k hb hk => (HM.out W true k hb hk).mono (by
    rintro e w' ⟨⟨-, rfl⟩ | ⟨hx, -⟩, rfl⟩
    · exact ⟨rfl, rfl⟩
    cases hx))
  obtain ⟨g, o, cp, rfl, hcp, hcells⟩ := hr.cells (by omega)
  have HCe := Lib.hid hcells
  clear hcells
  obtain ⟨n, hn⟩ : ∃ n, row.length = n := ⟨_, rfl⟩
  rw [hn] at hcp HCe hlen ⊢
  have d2 := HCe.out 2 (by omega)
  have d3 := HCe.out 3 (by omega)
  have hn' : n = 4 ∨ n = 5 := by omega
  clear hlen
  have HP : Hid (∀ W, Below w.heap.size w W → Calls Tryz.prog 117 #[.pointer (some ⟨rb, 0, none⟩), .string (fieldAt row 2)] W (OutW line W Value.string (pieceR true (fieldAt row 2)))) := Lib.hid (fun W hb => so_pieceOrNone rb line (fieldAt row 2) W (Nat.le_trans (fieldAt_le hr.each 2) (by decide)) ((hb.cell (World.block_lt_of_cell? _ _ h2)).trans h2))
  have hd2 : ∀ W, Below w.heap.size w W → W.cell? ⟨g, o + 2, none⟩ = some (.string (fieldAt row 2)) := fun W hb => (hb.cell (World.block_lt_of_cell? _ _ d2)).trans d2
  have d2' := hd2 _ HXS.out.below
  cases hp : pieceR true (fieldAt row 2) with
  | error e =>
    have HRe := Lib.hid (rule_strip (F := F) (c := c) (line := line) (row := row) (by rw [hn]; omega) hp)
    rw [hp] at HP
    unfold OutW at HP
    clear hp
    rcases hn' with rfl | rfl
    all_goals
      go_enter Tryz.func118, Tryz.ntmps118
      go_upto_region 3 with (go_at_call 46; refine (HMt.out _ _ HB1.out (by decide)).mono ?_; rintro e w2 ⟨rfl, rfl⟩)
      go_wp2_with fail
      refine (HP.out _ HXS.out.below).mono ?_
      rintro e9 w9 ⟨hb9, rfl⟩
      exact ⟨rfl, HXS.out.below.trans (hb9.mono HXS.out.below.size), by rw [HRe.out]⟩
  | ok strip =>
    have HRe := Lib.hid (rule_ok (F := F) (c := c) (line := line) (row := row) (by rw [hn]; omega) hp)
    rw [hp] at HP
    unfold OutW at HP
    clear hp
    rcases hn' with rfl | rfl
    all_goals
      go_enter Tryz.func118, Tryz.ntmps118
      go_upto_region 3 with (go_at_call 46; refine (HMt.out _ _ HB1.out (by decide)).mono ?_; rintro e w2 ⟨rfl, rfl⟩)
      go_cut [] from 33 to 38 (fun W => Hid (XS w c strip ⟨#[]⟩ ⟨#[46]⟩ (.slice none 0 0) W))
      case first =>
        go_wp2_with (go_at_call 117; refine (HP.out _ HXS.out.below).mono ?_; rintro e w3 ⟨hb3, rfl⟩; have HX3 := Lib.hid (HXS.out.later hb3); obtain ⟨u3, hu3, hf3⟩ := HX3.out.xat 3 (by decide); clear hb3)
        all_goals go_meet
        all_goals exact HX3.out.setStrip
      case rest =>
      have HX4 := hcut
      have d3' := (HX4.out.below.cell (World.block_lt_of_cell? _ _ d3)).trans d3
      have hl4 := (HX4.out.below.cell (World.block_lt_of_cell? _ _ h2)).trans h2
      have HW := Lib.hid (so_wread (fieldAt row 3) wc (Nat.le_trans (fieldAt_le hr.each 3) (by decide)))
      clear hcut
      rcases hw : wordR (fieldAt row 3).data.toList with ⟨wd, rest, cut, ew⟩
      rw [hw] at HW
      by_cases hew : ew = 0
      · subst hew
        unfold wordV at HW
        dsimp only at HW
        have HRw : Hid (ruleR F c line row = match addR wd with
          | .error e => .error e
          | .ok add => ruleB F c line row strip add rest cut) := Lib.hid (by rw [HRe.out, ruleA, hw]; rfl)
        obtain ⟨Bz, hBz⟩ : ∃ B, ((mkS wd).toList == [48]) = B := ⟨_, rfl⟩
        have hwl := (wordR_len (fieldAt row 3).data.toList).1
        rw [hw, len_toList] at hwl
        have HSz := Lib.hid (show (mkS wd).size ≤ 140737488355328 by rw [mkS_size]; exact Nat.le_trans hwl (Nat.le_trans (fieldAt_le hr.each 3) (by decide)))
        have HHw := Lib.hid hw
        clear hwl hw
        go_upto_if 52 with (first | (go_at_call 84; refine HW.out.mono ?_; rintro e w4 ⟨rfl, hb4⟩; have HX5 := Lib.hid (HX4.out.later hb4); have HB5 := Lib.hid hb4; have hl5 := (HX5.out.below.cell (World.block_lt_of_cell? _ _ h2)).trans h2; clear hb4) | (go_at_call 83; refine (so_need rb line 0 _ hl5).mono ?_; rintro e w5 ⟨⟨-, rfl⟩ | ⟨hx, -⟩, rfl⟩))
        cases ha : addR wd with
        | error e =>
          have HRf : Hid (ruleR F c line row = .error e) := Lib.hid (by rw [HRw.out, ha])
          have hz : mkS wd ≠ zeroS := fun h => by rw [addR, if_pos h] at ha; cases ha
          have hBf : Bz = false := by
            rw [← hBz, beq_eq_false_iff_ne]
            intro h3
            rw [Lib.toList_data] at h3
            have h4 : wd = [48] := h3
            exact hz (by rw [h4]; rfl)
          subst hBf
          have hfit : fitR (mkS wd) = .error e := by
            rw [addR, if_neg hz] at ha
            rw [fitR]
            by_cases hf : fitE (mkS wd) ≠ 0
            · rw [if_pos hf] at ha ⊢; cases ha; rfl
            rw [if_neg hf] at ha; cases ha
          have HFt := Lib.hid (so_fitR rb line (mkS wd) w4 HSz.out hl5)
          rw [hfit] at HFt
          unfold OutW at HFt
          clear hz hfit ha
          go_wp2_with fail
          refine HFt.out.mono ?_
          rintro e9 w9 ⟨hb9, rfl⟩
          exact ⟨rfl, HX5.out.below.trans (hb9.mono HX5.out.below.size), by rw [HRf.out]⟩
        | ok add =>
          have HRb : Hid (ruleR F c line row = match nextR F c.kind rest cut with
            | .error e => .error e
            | .ok next => ruleC c line row strip add next) := Lib.hid (by rw [HRw.out, ha]; rfl)
          have HAd := Lib.hid ha
          clear ha
          go_cut [] from 53 to 56 (fun W => Hid (XS w c strip add ⟨#[46]⟩ (.slice none 0 0) W))
          case first =>
            cases Bz
            · have hz : mkS wd ≠ zeroS := fun e => by
                rw [e, Lib.toList_data] at hBz
                exact absurd hBz (by decide)
              have hadd : add = mkS wd ∧ fitR (mkS wd) = .ok (mkS wd) := by
                have h := HAd.out
                rw [addR, if_neg hz] at h
                by_cases hf : fitE (mkS wd) ≠ 0
                · rw [if_pos hf] at h; cases h
                rw [if_neg hf] at h
                cases h
                exact ⟨rfl, by rw [fitR, if_neg hf]⟩
              obtain ⟨rfl, hfit⟩ := hadd
              have HFt := Lib.hid (so_fitR rb line (mkS wd) w4 HSz.out hl5)
              rw [hfit] at HFt
              unfold OutW at HFt
              clear hz hfit
              go_wp2_with (go_at_call 151; refine HFt.out.mono ?_; rintro e w6 ⟨hb6, rfl⟩; have HX6 := Lib.hid (HX5.out.later hb6); obtain ⟨u6, hu6, hf6⟩ := HX6.out.xat 4 (by decide); clear hb6)
              all_goals go_meet
              all_goals exact HX6.out.setAdd
            have hz : mkS wd = zeroS := by
              have h3 : (mkS wd).toList = [48] := by simpa using hBz
              rw [Lib.toList_data] at h3
              have h4 : wd = [48] := h3
              rw [h4]; rfl
            have hadd : add = ⟨#[]⟩ := by
              have h := HAd.out
              rw [addR, if_pos hz] at h
              cases h; rfl
            subst hadd
            clear hz
            go_wp2_with fail
            all_goals go_meet
            all_goals exact HX5
          case rest =>
          have HX7 := hcut
          have hl7 := (HX7.out.below.cell (World.block_lt_of_cell? _ _ h2)).trans h2
          clear hcut
          have HFS : Hid (cut = true → c.kind = 2 → Calls Tryz.prog 34 #[.pointer (some ⟨fb, 0, none⟩), .string (mkS rest)] wc (FlgP (flagsR F (mkS rest)) wc)) := Lib.hid (fun _ _ => by
            have hwl := (wordR_len (fieldAt row 3).data.toList).2
            rw [HHw.out, len_toList] at hwl
            rw [flagsR_eq]
            exact so_fileFlags fb F.kind m0 av us F.als (mkS rest) wc (hF.later HX7.out.below) hal (by rw [mkS_size]; exact Nat.le_trans hwl (Nat.le_trans (fieldAt_le hr.each 3) (by decide))) ((HX7.out.below.cell (World.block_lt_of_cell? _ _ hm0)).trans hm0))
          obtain ⟨k0, k1, k2⟩ := HX7.out.cells
          have hr0 := (HX7.out.below.cell (World.block_lt_of_cell? _ _ h0)).trans h0
          cases hnx : nextR F c.kind rest cut with
          | error e =>
            have HRf : Hid (ruleR F c line row = .error e) := Lib.hid (by rw [HRb.out, hnx])
            cases cut
            · rw [nextR, if_neg (by simp)] at hnx; cases hnx
            rw [nextR, if_pos rfl] at hnx
            by_cases hk2 : c.kind = 2
            · have hfl : (flagsR F (mkS rest)).2 = e ∧ e ≠ 0 := by
                rw [if_neg (by omega)] at hnx
                by_cases h : (flagsR F (mkS rest)).2 ≠ 0
                · rw [if_pos h] at hnx; cases hnx; exact ⟨rfl, h⟩
                rw [if_neg h] at hnx; cases hnx
              have ek : (c.kind == 2) = true := by rw [hk2]; rfl
              have HFx := Lib.hid (HFS.out rfl hk2)
              unfold FlgP at HFx
              rw [hfl.1] at HFx
              have HE0 : Hid ((e == 0) = false) := Lib.hid (by rw [beq_eq_false_iff_ne]; exact hfl.2)
              clear hfl hk2 hnx
              go_wp2_with (first | (go_at_call 46; refine (HMt.out _ _ HX7.out.below (by decide)).mono ?_; rintro e w2 ⟨rfl, rfl⟩) | (go_at_call 34; refine HFx.out.mono ?_; rintro e6 w6 ⟨v6, rfl, hv6, hb6⟩; have HX8 := Lib.hid (HX7.out.later hb6); have hl8 := (HX8.out.below.cell (World.block_lt_of_cell? _ _ h2)).trans h2; obtain ⟨p6, c6, hq6, -⟩ := hv6; subst hq6; clear hb6))
              refine (so_need rb line e _ hl8).mono ?_
              rw [HE0.out]
              rintro e w9 ⟨⟨hx, -⟩ | ⟨-, rfl⟩, rfl⟩
              · exact absurd hx (by simp)
              exact ⟨rfl, HX8.out.below, by rw [HRf.out]⟩
            have he : e = 118 := by rw [if_pos hk2] at hnx; cases hnx; rfl
            subst he
            have ek : (c.kind == 2) = false := by rw [beq_eq_false_iff_ne]; exact hk2
            clear hk2 hnx
            go_wp2_with fail
            refine (HM.out _ false 118 HX7.out.below (by decide)).mono ?_
            rintro e w9 ⟨⟨hx, -⟩ | ⟨-, rfl⟩, rfl⟩
            · exact absurd hx (by simp)
            exact ⟨rfl, HX7.out.below, by rw [HRf.out]⟩
          | ok next =>
            have HRc : Hid (ruleR F c line row = ruleC c line row strip add next) := Lib.hid (by rw [HRb.out, hnx])
            go_upto_if 57 with fail
            go_cut [] from 58 to 76 (fun W => ∃ nv, Hid (XS w c strip add ⟨#[46]⟩ nv W) ∧ Hid (FN (w.heap.size + 3) W nv next))
            case first =>
              cases cut
              · have hnn : next = [] := by
                  unfold nextR at hnx
                  rw [if_neg (by simp)] at hnx
                  cases hnx; rfl
                subst hnn
                go_wp2_with fail
                all_goals go_meet
                all_goals exact ⟨_, HX7, Lib.hid (FN.nil _ _ _ _)⟩
              have hk2 : c.kind = 2 := by
                unfold nextR at hnx
                rw [if_pos rfl] at hnx
                by_cases h : c.kind ≠ 2
                · rw [if_pos h] at hnx; cases hnx
                omega
              have hfl : (flagsR F (mkS rest)).2 = 0 ∧ next = (flagsR F (mkS rest)).1 := by
                unfold nextR at hnx
                rw [if_pos rfl, if_neg (by omega)] at hnx
                by_cases h : (flagsR F (mkS rest)).2 ≠ 0
                · rw [if_pos h] at hnx; cases hnx
                rw [if_neg h] at hnx
                cases hnx
                exact ⟨by omega, rfl⟩
              have ek : (c.kind == 2) = true := by rw [hk2]; rfl
              have HFx := Lib.hid (HFS.out rfl hk2)
              unfold FlgP at HFx
              rw [hfl.1, ← hfl.2] at HFx
              clear hfl hk2 hnx
              go_wp2_with (first | (go_at_call 46; refine (HMt.out _ _ HX7.out.below (by decide)).mono ?_; rintro e w2 ⟨rfl, rfl⟩) | (go_at_call 34; refine HFx.out.mono ?_; rintro e w6 ⟨v6, rfl, hv6, hb6⟩; have HV6 := Lib.hid hv6; have HX8 := Lib.hid (HX7.out.later hb6); have hl8 := (HX8.out.below.cell (World.block_lt_of_cell? _ _ h2)).trans h2; obtain ⟨u6, hu6, hf6⟩ := HX8.out.xat 6 (by decide); obtain ⟨p6, c6, hq6, -⟩ := hv6; subst hq6; clear hb6) | (go_at_call 83; refine (so_need rb line 0 _ hl8).mono ?_; rintro e w5 ⟨⟨-, rfl⟩ | ⟨hx, -⟩, rfl⟩))
              all_goals go_meet
              all_goals exact ⟨_, Lib.hid HX8.out.setNext, Lib.hid ((FN.setCell HV6.out HX7.out.size).mono HX7.out.size)⟩
            case rest =>
            obtain ⟨nv, HX9, HNv⟩ := hcut
            clear hnx hr0 k0 k1 k2 HFS
            obtain ⟨p9, c9, hq9, -⟩ := HNv.out
            subst hq9
            first
              | (have hn4 : row.length = 4 := hn
                 have HRz : Hid (ruleR F c line row = .ok ⟨c.kind, c.flag, c.cross, strip, add, ⟨#[46]⟩, next, line⟩) := Lib.hid (by rw [HRc.out, ruleC, condOf, if_neg (by omega)])
                 obtain ⟨x0, x1, x2, x3, x4, x5, x6⟩ := HX9.out.xcells
                 obtain ⟨z0, z1, z2, z3, z4, z5, z6⟩ := HX9.out.zcells
                 obtain ⟨y0, y1, y2, y3, y4, y5, y6⟩ := HX9.out.zfroz
                 go_wp2_with fail
                 refine bodyPost_ret (v := .agg #[.int .i64 c.kind, .int .u16 c.flag, .bool c.cross, .string strip, .string add, .string ⟨#[46]⟩, .slice p9 next.length c9]) (by simp [results, Tryz.results118, go_sem, z0, z1, z2, z3, z4, z5, z6]; try rfl) rfl ?_
                 rw [HRz.out]
                 exact HX9.out.answer HNv.out line _ _ rfl rfl)
              | (have hn5 : row.length = 5 := hn
                 have d4 := (HX9.out.below.cell (World.block_lt_of_cell? _ _ (HCe.out 4 (by omega)))).trans (HCe.out 4 (by omega))
                 have hl9 := (HX9.out.below.cell (World.block_lt_of_cell? _ _ h2)).trans h2
                 have hs4 := fieldAt_le hr.each 4
                 have HPl := Lib.hid (so_plainR rb line (fieldAt row 4) wc (Nat.le_trans hs4 (by decide)) hl9)
                 cases hf : fitAll (fieldAt row 4)
                 · have HRz : Hid (ruleR F c line row = .error 21) := Lib.hid (by rw [HRc.out, ruleC, condOf, if_pos hn5, if_pos hf])
                   rw [hf] at HPl
                   clear hf hn5
                   go_wp2_with fail
                   refine HPl.out.mono ?_
                   rintro e w9 ⟨⟨hx, -⟩ | ⟨-, rfl⟩, rfl⟩
                   · exact absurd hx (by simp)
                   exact ⟨rfl, HX9.out.below, by rw [HRz.out]⟩
                 rw [hf] at HPl
                 have HRy : Hid (ruleR F c line row = match condR (fieldAt row 4).data.toList with
                   | .error e => .error e
                   | .ok ts => .ok ⟨c.kind, c.flag, c.cross, strip, add, mkS (condShow ts), next, line⟩) := Lib.hid (by rw [HRc.out, ruleC, condOf, if_pos hn5, if_neg (by rw [hf]; simp)]; cases condR (fieldAt row 4).data.toList <;> rfl)
                 have HPo : Hid (Calls Tryz.prog 111 #[.pointer (some ⟨rb, 0, none⟩), .string (fieldAt row 4)] wc fun e w' => e = .returned (.tuple #[]) ∧ wc = w') := Lib.hid (HPl.out.mono (by
                   rintro e w' ⟨⟨-, rfl⟩ | ⟨hx, -⟩, rfl⟩
                   · exact ⟨rfl, rfl⟩
                   cases hx))
                 have HCd := Lib.hid (so_condRead (fieldAt row 4) wc)
                 unfold CondP at HCd
                 clear hf HPl hn5
                 cases hc : condR (fieldAt row 4).data.toList with
                 | error e =>
                   have HRz : Hid (ruleR F c line row = .error e) := Lib.hid (by rw [HRy.out, hc])
                   rw [hc] at HCd
                   have HE0 : Hid ((e == 0) = false) := Lib.hid (condR_err hc)
                   clear hc
                   go_wp2_with (first | (go_at_call 111; refine HPo.out.mono ?_; rintro e8 w8 ⟨rfl, rfl⟩) | (go_at_call 152; refine HCd.out.mono ?_; rintro e8 w8 ⟨hb8, rfl⟩; have HX10 := Lib.hid (HX9.out.later hb8); clear hb8))
                   have HX11 := Lib.hid (HX10.out.later ((Below.refl _ _).alloc (Nat.le_refl _) (.cells #[.slice none 0 0] 246)))
                   refine (so_need rb line e _ ((HX11.out.below.cell (World.block_lt_of_cell? _ _ h2)).trans h2)).mono ?_
                   rw [HE0.out]
                   rintro e w9 ⟨⟨hx, -⟩ | ⟨-, rfl⟩, rfl⟩
                   · exact absurd hx (by simp)
                   exact ⟨rfl, HX11.out.below, by rw [HRz.out]⟩
                 | ok ts =>
                   have HRz : Hid (ruleR F c line row = .ok ⟨c.kind, c.flag, c.cross, strip, add, mkS (condShow ts), next, line⟩) := Lib.hid (by rw [HRy.out, hc])
                   rw [hc] at HCd
                   have HTs := Lib.hid (condR_len hc)
                   clear hc
                   go_wp2_with (first | (go_at_call 111; refine HPo.out.mono ?_; rintro e8 w8 ⟨rfl, rfl⟩) | (go_at_call 152; refine HCd.out.mono ?_; rintro e8 w8 ⟨hb8, v8, n8, Xs, rfl, rfl, hXs, how⟩; have HX10 := Lib.hid (HX9.out.later hb8); have HN10 := Lib.hid (HNv.out.later hb8); obtain ⟨A8, cp8, hv8⟩ := own_slice how; subst hv8; have HPR : Hid (PatR w8 (.slice A8 ts.length cp8) ts) := Lib.hid ⟨Xs, hXs, Rd.of_own how⟩; clear hb8 how hXs))
                   have HX11 := Lib.hid (HX10.out.later ((Below.refl _ _).alloc (Nat.le_refl _) (.cells #[.slice A8 ts.length cp8] 246)))
                   have HN11 := Lib.hid (HN10.out.later ((Below.refl _ _).alloc (Nat.le_refl _) (.cells #[.slice A8 ts.length cp8] 246)))
                   have HPR2 := Lib.hid (HPR.out.keep ((Below.refl _ _).alloc (Nat.le_refl _) (.cells #[.slice A8 ts.length cp8] 246)))
                   have hl11 := (HX11.out.below.cell (World.block_lt_of_cell? _ _ h2)).trans h2
                   refine (so_need rb line 0 _ hl11).mono ?_
                   rintro e w5 ⟨⟨-, rfl⟩ | ⟨hx, -⟩, rfl⟩
                   rotate_left
                   · cases hx
                   go_wp2_with (go_at_call 153; refine (so_ShowP _ ts _ HPR2.out (Nat.le_trans HTs.out (by decide))).mono ?_; rintro e8 w12 ⟨rfl, hb12⟩; have HX12 := Lib.hid (HX11.out.later hb12); have HN12 := Lib.hid (HN11.out.later hb12); clear hb12; obtain ⟨x0, x1, x2, x3, x4, x5, x6⟩ := HX12.out.xcells; obtain ⟨z0, z1, z2, z3, z4, z5, z6⟩ := HX12.out.zcells; obtain ⟨y0, y1, y2, y3, y4, y5, y6⟩ := HX12.out.zfroz; obtain ⟨u5, hu5, hf5⟩ := HX12.out.xat 5 (by decide); clear hu5)
                   refine bodyPost_ret (v := .agg #[.int .i64 c.kind, .int .u16 c.flag, .bool c.cross, .string strip, .string add, .string (mkS (condShow ts)), .slice p9 next.length c9]) (by simp [results, Tryz.results118, go_sem, z0, z1, z2, z3, z4, z5, z6]; try rfl) rfl ?_
                   rw [HRz.out]
                   exact (HX12.out.setCond (s := mkS (condShow ts))).answer (HN12.out.setCell (by omega)) line _ _ rfl rfl)
      have HRz : Hid (ruleR F c line row = .error ew) := Lib.hid (by rw [HRe.out, ruleA, hw]; dsimp only; rw [if_pos hew])
      have HE0 : Hid ((ew == 0) = false) := Lib.hid (by rw [beq_eq_false_iff_ne]; exact hew)
      unfold wordV at HW
      dsimp only at HW
      clear hw hew
      go_wp2_with (go_at_call 84; refine HW.out.mono ?_; rintro e4 w4 ⟨rfl, hb4⟩; have HX5 := Lib.hid (HX4.out.later hb4); have hl5 := (HX5.out.below.cell (World.block_lt_of_cell? _ _ h2)).trans h2; clear hb4)
      refine (so_need rb line ew _ hl5).mono ?_
      rw [HE0.out]
      rintro e w9 ⟨⟨hx, -⟩ | ⟨-, rfl⟩, rfl⟩
      · exact absurd hx (by simp)
      exact ⟨rfl, HX5.out.below, by rw [HRz.out]⟩
end Go.Proofs.YtfkblpjfknfgbaaGreatDoor
namespace Go.Proofs.YtfkblpjfknfgbaaGreatDoor
open Go.RowKit Go.Maps
def late8 : List ByteArray := [kNEED, kFORBID, kKEEP, kPART, kQUIET, kAF, kPFX, kSFX]
theorem late_iff (s : ByteArray) : lateN (keyN s) = true ↔ s ∈ late8 := by
  constructor
  · intro h
    have h13 : keyN s ≠ 13 := fun e => by rw [e] at h; exact absurd h (by decide)
    rw [key_of s h13]
    have hle := keyN_le s
    generalize keyN s = n at h hle h13
    have : ∀ n, n < 13 → lateN n = true → keyS n ∈ late8 := by decide
    exact this n (by omega) h
  intro h
  have : ∀ x ∈ late8, lateN (keyN x) = true := by decide
  exact this s h
theorem late_any (heads : List ByteArray) (k : Nat) (hk : k < 8) (h : heads.count (late8.getD k kSFX) ≠ 0) : heads.any (fun h => lateN (keyN h)) = true := by
  rw [List.any_eq_true]
  have hm : late8.getD k kSFX ∈ late8 := by
    have : ∀ k, k < 8 → late8.getD k kSFX ∈ late8 := by decide
    exact this k hk
  refine ⟨late8.getD k kSFX, List.count_pos_iff.1 (by omega), (late_iff _).2 hm⟩
theorem late_none (heads : List ByteArray) (h : ∀ j, j < 8 → heads.count (late8.getD j kSFX) = 0) : heads.any (fun h => lateN (keyN h)) = false := by
  rw [List.any_eq_false]
  intro x hx hl
  obtain ⟨j, hj, rfl⟩ := List.getElem_of_mem ((late_iff x).1 hl)
  have := h j hj
  rw [show late8.getD j kSFX = late8[j] by simp [List.getD, hj]] at this
  exact absurd hx (List.count_eq_zero.1 this)
theorem late_size : ∀ j, j < 8 → (late8.getD j kSFX).size ≤ maxLen := by
  have : ∀ j, j < 8 → (late8.getD j kSFX).size ≤ 100 := by decide
  intro j hj; have := this j hj; unfold maxLen; omega
def kind3 : List ByteArray := [tSHORT, tLONG, tNUM]
theorem kind_idx (s : ByteArray) : Lib.idxOfS kind3 s + 1 = kindOf s := by
  unfold kindOf kind3 Lib.idxOfS
  by_cases h1 : s = tSHORT
  · subst h1; rfl
  by_cases h2 : s = tLONG
  · subst h2; rfl
  by_cases h3 : s = tNUM
  · subst h3; rfl
  rw [if_neg h1, if_neg h2, if_neg h3]
  simp [Lib.idxFromS, Ne.symm h1, Ne.symm h2, Ne.symm h3]
set_option maxHeartbeats 4000000 in
set_option maxRecDepth 100000 in
theorem so_kind (w0 : World) (L : List Nat) (i : Ids) (E : Int) (kh k : Nat) (S : Sx) (fv : Value) (row : List ByteArray) (w : World) (h : RM w0 w L i E kh (k + 1) S) (hr : RowF1 w0 fv row) (hl : row.length = 2) :
    Calls Tryz.prog 75 #[.pointer (some ⟨i.rb, 0, none⟩), fv] w (HeadP w0 L i E kh k (onFl S.line S (kindR S (fieldAt row 1))) w) := by
  have hsz := fieldAt_le hr.each 1
  obtain ⟨g, o, c, rfl, hc, hcells⟩ := hr.cells (by omega)
  have d1 := field_in (hcells 1 (by omega)) h.base
  obtain ⟨hbd, v, hm⟩ := h
  have hb1 : Below w.heap.size w (w.alloc (.cells #[.string kNEED, .string kFORBID, .string kKEEP, .string kPART, .string kQUIET, .string kAF, .string kPFX, .string kSFX] 9)) := (Below.refl _ _).alloc (Nat.le_refl _) _
  have HM1 := Lib.hid (hm.below hb1)
  have HB1 := Lib.hid hb1
  have HC : Hid (∀ j, j < 8 → (w.alloc (.cells #[.string kNEED, .string kFORBID, .string kKEEP, .string kPART, .string kQUIET, .string kAF, .string kPFX, .string kSFX] 9)).cell? ⟨w.heap.size, j, none⟩ = some (.string (late8.getD j kSFX))) := Lib.hid (by
    intro j hj
    rw [cell_of_row _ w.heap.size j _ 9 (0, 0) (heap_alloc_new w _)]
    rcases j with _ | _ | _ | _ | _ | _ | _ | _ | j <;> first | rfl | omega)
  have HB := Lib.hid hbd
  rw [hl] at hc ⊢
  have D1 := Lib.hid d1
  clear hcells hm hbd hr hb1 d1
  go_enter Tryz.func75, Tryz.ntmps75
  go_wp2_with fail
  obtain ⟨w1, hw1⟩ : ∃ w1, w.alloc (.cells #[.string kNEED, .string kFORBID, .string kKEEP, .string kPART, .string kQUIET, .string kAF, .string kPFX, .string kSFX] 9) = w1 := ⟨_, rfl⟩
  rw [hw1] at HM1 HB1 HC ⊢
  clear hw1
  have c4 := HM1.out.r4
  have HN : Hid (S.heads.any (fun h => lateN (keyN h)) = true → kindR S (fieldAt row 1) = .error 113) := Lib.hid (fun h => by unfold kindR; rw [if_pos h])
  go_loop [5, 8] (fun _ i => ∃ k : Nat, k ≤ 8 ∧ i = .int .i64 k ∧ Hid (∀ j, j < k → S.heads.count (late8.getD j kSFX) = 0)) (fun _ i => 8 - (intOf i).toNat)
  case atStart => exact ⟨0, Nat.zero_le _, rfl, Lib.hid (fun j hj => absurd hj (Nat.not_lt_zero _))⟩
  case round =>
  obtain ⟨k', hk, rfl, HT⟩ := hrel
  by_cases hlt : k' < 8
  · have hcell := HC.out k' hlt
    obtain ⟨x, hx⟩ : ∃ x, late8.getD k' kSFX = x := ⟨_, rfl⟩
    rw [hx] at hcell
    have hlk := HM1.out.seen.look x (by rw [← hx]; exact late_size k' hlt)
    have HX := Lib.hid hx
    clear hx
    by_cases hq : S.heads.count x = 0
    · rw [hq] at hlk
      have HN2 : Hid (∀ j, j < k' + 1 → S.heads.count (late8.getD j kSFX) = 0) := Lib.hid (fun j hj => by
        rcases Nat.lt_or_ge j k' with h | h
        · exact HT.out j h
        obtain rfl : j = k' := by omega
        rw [HX.out]; exact hq)
      clear hq
      go_wp2_with fail
      refine (so_must i.rb S.line _ _ _ (by decide) HM1.out.r2).mono ?_
      rintro e w' ⟨⟨-, rfl⟩ | ⟨h, -⟩, rfl⟩
      · go_wp2_with fail
        go_round
        case rel => exact ⟨k' + 1, by omega, by go_num, HN2⟩
        case measure => simp [intOf]; omega
      exact absurd h (by decide)
    have hne : ((S.heads.count x : Int) == 0) = false := by rw [beq_eq_false_iff_ne]; omega
    have HE := Lib.hid (HN.out (late_any S.heads k' hlt (by rw [HX.out]; exact hq)))
    clear hq
    go_wp2_with fail
    refine (so_must i.rb S.line _ _ _ (by decide) HM1.out.r2).mono ?_
    rintro e w' ⟨⟨h, -⟩ | ⟨-, rfl⟩, rfl⟩
    · exact absurd h (by simp)
    exact ⟨rfl, L, Go2.of_below HB1.out, by rw [HE.out]; rfl⟩
  obtain rfl : k' = 8 := by omega
  have HA := Lib.hid (late_none S.heads HT.out)
  have HI : Hid (∀ W : World, W.heap[w1.heap.size]? = some (.cells #[.string tSHORT, .string tLONG, .string tNUM] 9 (0, 0)) → Calls Tryz.prog 110 #[.slice (some ⟨w1.heap.size, 0, none⟩) 3 3, .string (fieldAt row 1)] W fun e w' => e = .returned (.int .i64 (kindOf (fieldAt row 1) - 1)) ∧ W = w') := Lib.hid (by
    intro W hW
    refine (Tryz.slices_Index_string w1.heap.size 0 3 3 kind3 (fieldAt row 1) W (by decide) (by decide) ?_).mono ?_
    · intro j hj
      rw [cell_of_row _ w1.heap.size (0 + j) _ 9 (0, 0) hW]
      have hj' : j < 3 := hj
      rcases j with _ | _ | _ | j <;> first | rfl | omega
    rintro e w' ⟨rfl, rfl⟩
    exact ⟨ret_int (by rw [← kind_idx]; simp [kind3]), rfl⟩)
  obtain ⟨n, hn⟩ : ∃ n, kindOf (fieldAt row 1) = n := ⟨_, rfl⟩
  have hn3 : 0 ≤ n ∧ n ≤ 3 := by rw [← hn]; unfold kindOf; repeat' split
                                 all_goals omega
  have HR : Hid (kindR S (fieldAt row 1) = if n = 0 then .error 114 else .ok { S.fl with kind := n }) := Lib.hid (by unfold kindR; rw [if_neg (by rw [HA.out]; simp), hn])
  rw [hn] at HI
  have d1 := (HB1.out.cell (World.block_lt_of_cell? w _ D1.out)).trans D1.out
  have c0 := HM1.out.r0
  have e0 := HM1.out.f0
  have fz := HM1.out.fz 0
  have nrf : ¬ i.rb = i.fb := HM1.out.rf
  have nfr : ¬ i.fb = i.rb := fun h => nrf h.symm
  have nf : ¬ i.fb = w1.heap.size := by have := (HM1.out.hl _ HM1.out.fbL).2; omega
  have nf2 : ¬ w1.heap.size = i.fb := fun h => nf h.symm
  have nr : ¬ i.rb = w1.heap.size := by have := (HM1.out.hl _ HM1.out.rbL).2; omega
  have nr2 : ¬ w1.heap.size = i.rb := fun h => nr h.symm
  have hfl := (HM1.out.hl _ HM1.out.fbL).2
  have hrl := (HM1.out.hl _ HM1.out.rbL).2
  have hgl : g < w1.heap.size := World.block_lt_of_cell? w1 _ d1
  have ng : ¬ g = w1.heap.size := by omega
  have ng2 : ¬ w1.heap.size = g := by omega
  have HF := Lib.hid (HM1.out.setF (F' := { S.fl with kind := n }) 0 (.int .i64 n) (by rfl) rfl rfl rfl rfl)
  have HF2 := Lib.hid (HF.out.below ((Below.refl _ _).alloc (Nat.le_refl _) (.cells #[.string tSHORT, .string tLONG, .string tNUM] 9)).drew)
  have HG := Lib.hid (show Go2 L w L (((w1.setCell ⟨i.fb, 0, none⟩ (.int .i64 n)).alloc (.cells #[.string tSHORT, .string tLONG, .string tNUM] 9)).drew) from ((Go2.of_below HB1.out).trans ⟨set_kept' HM1.out.fbL, fun x hx => .inl hx⟩).trans (Go2.of_below ((Below.refl _ _).alloc (Nat.le_refl _) (.cells #[.string tSHORT, .string tLONG, .string tNUM] 9)).drew))
  have hwr : IntKind.i64.wrap n = n := by rw [IntKind.wrap_i64]; omega
  clear hn
  go_wp2_with fail
  go_region_with (go_at_call 110; refine (HI.out _ (by first | exact heap_alloc_new w1 _ | exact heap_alloc_new w1.drew _)).mono ?_; rintro e w2 ⟨rfl, rfl⟩)
  all_goals
    have c0'' := HF2.out.r0
    have e0'' := HF2.out.f0
    rcases Int.lt_or_le 0 n with h0 | h0
    · have HR2 : Hid (kindR S (fieldAt row 1) = .ok { S.fl with kind := n }) := Lib.hid (by rw [HR.out, if_neg (by omega)])
      go_wp2_with fail
      refine (so_must i.rb S.line _ _ _ (by decide) HF2.out.r2).mono ?_
      rintro e w' ⟨⟨-, rfl⟩ | ⟨h, -⟩, rfl⟩
      · go_wp2_with fail
        go_end0
        rw [HR2.out]
        exact ⟨L, HG.out, rfl, HB.out.mono.same _ rfl rfl rfl rfl ⟨by show 1 ≤ n; omega, hn3.2⟩ HB.out.sp, v, HF2.out⟩
      exact absurd h (by simp)
    have HR2 : Hid (kindR S (fieldAt row 1) = .error 114) := Lib.hid (by rw [HR.out, if_pos (by omega)])
    go_wp2_with fail
    refine (so_must i.rb S.line _ _ _ (by decide) HF2.out.r2).mono ?_
    rintro e w' ⟨⟨h, -⟩ | ⟨-, rfl⟩, rfl⟩
    · exact absurd h (by simp; omega)
    rw [HR2.out]
    exact ⟨rfl, L, HG.out, rfl⟩
end Go.Proofs.YtfkblpjfknfgbaaGreatDoor
namespace Go.Proofs.YtfkblpjfknfgbaaGreatDoor
open Go.RowKit Go.Maps
def spec5 : List ByteArray := [kNEED, kFORBID, kKEEP, kPART, kQUIET]
theorem spec_idx (n : Nat) (hn : n < 5) : Lib.idxOfS spec5 (keyS (3 + n)) = (n : Int) := by
  have : ∀ n, n < 5 → Lib.idxOfS spec5 (keyS (3 + n)) = (n : Int) := by
    intro n hn
    rcases n with _ | _ | _ | _ | _ | n <;> first | rfl | omega
  exact this n hn
theorem file_sp (i : Ids) (v : Vs) (F : Fl) (n : Nat) (hn : n < 5) : (fileV i v F)[3 + n]? = some (.int .u16 (spAt F n)) := by
  rcases n with _ | _ | _ | _ | _ | n <;> first | rfl | omega
theorem file_setSp (i : Ids) (v : Vs) (F : Fl) (n : Nat) (hn : n < 5) (f : Int) : (fileV i v F).setIfInBounds (3 + n) (.int .u16 f) = fileV i v (setSp F n f) := by
  rcases n with _ | _ | _ | _ | _ | n <;> first | rfl | omega
theorem setSp_rest (F : Fl) (n : Nat) (f : Int) : (setSp F n f).reps = F.reps ∧ (setSp F n f).als = F.als ∧ (setSp F n f).cls = F.cls ∧ (setSp F n f).rls = F.rls ∧ (setSp F n f).kind = F.kind := by
  unfold setSp; split <;> simp
theorem setSp_at (F : Fl) (n : Nat) (hn : n < 5) (f : Int) (m : Nat) : spAt (setSp F n f) m = if m = n then f else spAt F m := by
  rcases n with _ | _ | _ | _ | _ | n <;> try omega
  all_goals (rcases m with _ | _ | _ | _ | _ | m <;> simp [setSp, spAt])
theorem defined_iff (F : Fl) (t : Int) : definedB F t = true ↔ (∃ n, n < 5 ∧ spAt F n = t) ∨ (findC F t).isSome = true := by
  unfold definedB
  simp only [Bool.or_eq_true, beq_iff_eq]
  constructor
  · rintro (((((h | h) | h) | h) | h) | h)
    · exact .inl ⟨0, by decide, h⟩
    · exact .inl ⟨1, by decide, h⟩
    · exact .inl ⟨2, by decide, h⟩
    · exact .inl ⟨3, by decide, h⟩
    · exact .inl ⟨4, by decide, h⟩
    exact .inr h
  rintro (⟨n, hn, h⟩ | h)
  · rcases n with _ | _ | _ | _ | _ | n
    · exact .inl (.inl (.inl (.inl (.inl h))))
    · exact .inl (.inl (.inl (.inl (.inr h))))
    · exact .inl (.inl (.inl (.inr h)))
    · exact .inl (.inl (.inr h))
    · exact .inl (.inr h)
    omega
  exact .inr h
theorem taken_sp (F : Fl) (n : Nat) (hn : n < 5) (f : Int) (hf : f ≠ 0) (h0 : spAt F n = 0) : (fun t => if t = f then 1 else takenF F t) = takenF (setSp F n f) := by
  funext t
  have hc : findC (setSp F n f) t = findC F t := by unfold findC; rw [(setSp_rest F n f).2.2.1]
  by_cases ht : t = f
  · subst ht
    rw [if_pos rfl, takenF, if_neg hf, if_pos ((defined_iff _ _).2 (.inl ⟨n, hn, by rw [setSp_at F n hn, if_pos rfl]⟩))]
  rw [if_neg ht]
  unfold takenF
  by_cases h00 : t = 0
  · rw [if_pos h00, if_pos h00]
  rw [if_neg h00, if_neg h00]
  have : definedB (setSp F n f) t = definedB F t := by
    rw [Bool.eq_iff_iff, defined_iff, defined_iff, hc]
    constructor
    · rintro (⟨m, hm, h⟩ | h)
      · rw [setSp_at F n hn] at h
        split at h
        · exact absurd h.symm ht
        exact .inl ⟨m, hm, h⟩
      exact .inr h
    rintro (⟨m, hm, h⟩ | h)
    · refine .inl ⟨m, hm, ?_⟩
      rw [setSp_at F n hn, if_neg]
      · exact h
      rintro rfl; exact h00 (h.symm.trans h0)
    exact .inr h
  rw [this]
theorem nz_sp (F : Fl) (n : Nat) (hn : n < 5) (f : Int) (hf : f ≠ 0) (h0 : spAt F n = 0) : nzF (setSp F n f) = nzF F + 1 := by
  rcases n with _ | _ | _ | _ | _ | n <;> try omega
  all_goals
    simp only [spAt] at h0
    simp [nzF, setSp, nz1, h0, hf]
    try omega
set_option maxHeartbeats 4000000 in
set_option maxRecDepth 100000 in
theorem so_special (w0 : World) (L : List Nat) (i : Ids) (E : Int) (kh k : Nat) (S : Sx) (fv : Value) (row : List ByteArray) (n : Nat) (w : World) (h : RM w0 w L i E kh (k + 1) S) (hr : RowF1 w0 fv row) (hl : row.length = 2) (hn : n < 5) (hk : fieldAt row 0 = keyS (3 + n)) (h0 : spAt S.fl n = 0) :
    Calls Tryz.prog 78 #[.pointer (some ⟨i.rb, 0, none⟩), fv] w (HeadP w0 L i E kh k (onFl S.line S (specialR S.fl n (fieldAt row 1))) w) := by
  have hsz := fieldAt_le hr.each 1
  have HFR := Lib.hid (so_fresh w0 L i E kh (k + 1) S (fieldAt row 1) w h (by omega))
  obtain ⟨g, o, c, rfl, hc, hcells⟩ := hr.cells (by omega)
  have d0 := hcells 0 (by omega)
  rw [Nat.add_zero] at d0
  have d1 := field_in (hcells 1 (by omega)) h.base
  obtain ⟨hbd, v, hm⟩ := h
  have HM := Lib.hid hm
  have HB := Lib.hid hbd
  rw [hl] at hc ⊢
  rw [hk] at d0
  have D0 := Lib.hid d0
  clear hcells hm hbd hr hk d0
  unfold specialR
  have hfr : ∀ f, freshR S.fl (fieldAt row 1) = .ok f → f ≠ 0 ∧ 0 ≤ f ∧ f ≤ 65535 ∧ definedB S.fl f = false := fun f hf => by
    unfold freshR at hf
    have b := oneF_bd S.fl.kind (fieldAt row 1).data.toList
    have z := oneF_pos S.fl.kind (fieldAt row 1).data.toList
    split at hf
    · cases hf
    rename_i h2
    split at hf
    · cases hf
    rename_i h3
    injection hf with hf
    subst hf
    exact ⟨z (by simpa using h2), b.1, b.2, by simpa using h3⟩
  cases hq : freshR S.fl (fieldAt row 1) with
  | error e =>
    rw [hq] at HFR
    clear hfr hq
    go_enter Tryz.func78, Tryz.ntmps78
    go_wp2_with fail
    refine HFR.out.mono ?_
    rintro e' w' ⟨hb, rfl⟩
    exact ⟨rfl, L, Go2.of_below hb, rfl⟩
  | ok f =>
    rw [hq] at HFR
    obtain ⟨f0, f1, f2, f3⟩ := hfr f hq
    have HT0 : Hid (takenF S.fl f = 0) := Lib.hid (by unfold takenF; rw [if_neg f0, f3]; rfl)
    have HTK := Lib.hid (taken_sp S.fl n hn f f0 h0)
    have HNZ := Lib.hid (nz_sp S.fl n hn f f0 h0)
    clear hfr hq f3 h0
    go_enter Tryz.func78, Tryz.ntmps78
    go_wp2_with fail
    refine HFR.out.mono ?_
    rintro e' w1 ⟨hb, rfl⟩
    have HB1 := Lib.hid hb
    have HM1 := Lib.hid (HM.out.below hb)
    clear hb
    have c5 := HM1.out.r5
    have hlk := HM1.out.taken.look f ⟨f1, f2⟩
    rw [HT0.out] at hlk
    obtain ⟨w2, hst, hcn, hkp⟩ := HM1.out.taken.store f ⟨f1, f2⟩ 1 (by decide) (by have := HB.out.cls; unfold nzF nz1; (repeat' split) <;> omega)
    have HM2 := Lib.hid (HM1.out.setTaken hkp hcn)
    have HK2 := Lib.hid (show Go2 L w L w2 from (Go2.of_below HB1.out).trans ⟨hkp.mono (by intro x hx; simp at hx; subst hx; exact HM1.out.tbL), fun x hx => .inl hx⟩)
    clear hcn hkp
    go_wp2_with fail
    have HI : Hid (∀ W : World, W.heap[w2.heap.size]? = some (.cells #[.string kNEED, .string kFORBID, .string kKEEP, .string kPART, .string kQUIET] 9 (0, 0)) → Calls Tryz.prog 110 #[.slice (some ⟨w2.heap.size, 0, none⟩) 5 5, .string (keyS (3 + n))] W fun e w' => e = .returned (.int .i64 (n : Int)) ∧ W = w') := Lib.hid (by
      intro W hW
      refine (Tryz.slices_Index_string w2.heap.size 0 5 5 spec5 (keyS (3 + n)) W (by decide) (by decide) ?_).mono ?_
      · intro j hj
        rw [cell_of_row _ w2.heap.size (0 + j) _ 9 (0, 0) hW]
        have hj' : j < 5 := hj
        rcases j with _ | _ | _ | _ | _ | j <;> first | rfl | omega
      rintro e w' ⟨rfl, rfl⟩
      exact ⟨ret_int (by rw [show spec5.take 5 = spec5 from rfl, spec_idx n hn]), rfl⟩)
    have d0 := (HM2.out.base.cell (World.block_lt_of_cell? w0 _ D0.out)).trans D0.out
    have c0 := HM2.out.r0
    have en : w2.cell? ⟨i.fb, 3 + n, none⟩ = some (.int .u16 (spAt S.fl n)) := by rw [Lib.cell_of_heap HM2.out.file]; exact file_sp i v S.fl n hn
    have fz := HM2.out.fz (3 + n)
    have hfl := (HM2.out.hl _ HM2.out.fbL).2
    have hrl := (HM2.out.hl _ HM2.out.rbL).2
    have hgl : g < w2.heap.size := World.block_lt_of_cell? w2 _ d0
    have HF := Lib.hid (HM2.out.setF (F' := setSp S.fl n f) (3 + n) (.int .u16 f) (file_setSp i v S.fl n hn f) (setSp_rest _ _ _).1 (setSp_rest _ _ _).2.1 (setSp_rest _ _ _).2.2.1 (setSp_rest _ _ _).2.2.2.1)
    have hn5 : (n : Int) < 5 := by omega
    go_region_with (go_at_call 110; refine (HI.out _ (by first | exact heap_alloc_new w2 _ | exact heap_alloc_new w2.drew _)).mono ?_; rintro e w3 ⟨rfl, rfl⟩)
    all_goals go_end0
    all_goals
      refine ⟨L, HK2.out.trans ⟨?_, fun x hx => .inl hx⟩, rfl, ?_, v, ?_⟩
      · exact ((set_kept' HM2.out.fbL).alloc _).drew
      · refine HB.out.mono.same _ (setSp_rest _ _ _).1 (setSp_rest _ _ _).2.1 (setSp_rest _ _ _).2.2.1 (setSp_rest _ _ _).2.2.2.1 (by rw [(setSp_rest _ _ _).2.2.2.2]; exact HB.out.kind) (fun m => ?_)
        rw [setSp_at _ _ hn]
        split
        · exact ⟨f1, f2⟩
        exact HB.out.sp m
      have hz := HF.out.below (((Below.refl _ _).alloc (Nat.le_refl _) (.cells #[.string kNEED, .string kFORBID, .string kKEEP, .string kPART, .string kQUIET] 9)).drew)
      obtain ⟨e1, e2, e3, e4, e5⟩ := setSp_rest S.fl n f
      show RMv w0 _ L i v E _ ((setSp S.fl n f).rls.map (·.line)) (takenF (setSp S.fl n f)) (nzF (setSp S.fl n f) + (setSp S.fl n f).cls.length) (clsIx (setSp S.fl n f).cls) (setSp S.fl n f).cls.length
      rw [e3, e4, ← HTK.out, HNZ.out, Nat.add_right_comm]
      exact hz
end Go.Proofs.YtfkblpjfknfgbaaGreatDoor
