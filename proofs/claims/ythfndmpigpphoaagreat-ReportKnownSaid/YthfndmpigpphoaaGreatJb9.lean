/-
  joined.Check, report.Known.
-/
import Derived.Test.YthfndmpigpphoaaGreatRows
import Derived.Test.YthfndmpigpphoaaGreatJb8
import Derived.Test.YthfndmpigpphoaaGreatChk6
namespace Go.Proofs.YthfndmpigpphoaaGreat
open Go.RowKit Go.Shelf

set_option maxRecDepth 100000 in
set_option maxHeartbeats 2000000 in
theorem so_Split_nil (c : Value) (s : ByteArray) (w : World) (hL : ∀ W, Below w.heap.size w W → Calls Tryz.prog 63 #[c, .string s] W fun e w' => e = .returned (.pointer none) ∧ w' = W) :
    Calls Tryz.prog 39 #[c, .string s] w fun e w' => ∃ P m cp, e = .returned (.slice P m cp) ∧ m = 0 ∧ Below w.heap.size w w' := by
  have HL := Lib.hid hL
  clear hL
  refine (callsIn_wide (n := 7)).1 ?_
  refine callsIn_of_wp_marks Tryz.func39 rfl trivial ?_ rfl
  simp only [Tryz.ntmps39, List.size_toArray, List.length_cons, List.length_nil, Nat.reduceAdd, Nat.reduceSub, Array.replicate_succ, Array.replicate_zero, List.push_toArray, List.append_toArray, List.nil_append, List.cons_append]
  have HB0 := Lib.hid ((Below.refl w.heap.size w).alloc (Nat.le_refl _) (.cells #[.string s] 9))
  have HT0 := Lib.hid (Boxed.new w 9 (.string s))
  obtain ⟨W0, hW0⟩ : ∃ W0, w.alloc (.cells #[.string s] 9) = W0 := ⟨_, rfl⟩
  rw [hW0] at HB0 HT0
  have hsz0 : W0.heap.size = w.heap.size + 1 := by rw [← hW0, World.size_alloc]
  have hc0 := HT0.out.cell
  gi_wp2_with (refine ⟨trivial, ?_⟩; gi_at_call 63; refine (callsIn_wide.2 (HL.out W0 HB0.out)).mono ?_; rintro e w1 ⟨rfl, rfl⟩)
  exact marks_leave (B := w.heap.size) rfl [] _ List.nodup_nil (fun _ h => by cases h) (fun W' hW' => ⟨_, _, _, rfl, rfl, (HB0.out.alloc HB0.out.size _).trans hW'⟩)

/-- Is the text joined of pieces? -/
def joinB (A : List St) (least : Int) (s : ByteArray) : Bool := decide (s.size ≤ 1024) && decide (fewF s.size (endsOf A least s.data.toList) s.size 0 ≠ 0)

theorem so_JSplit (c : Value) (least : Int) (rs : List (ByteArray × ByteArray)) (As : List (List St)) (A : List St) (s : ByteArray) (w : World) (h : CkL w c least rs As) (hA : As[1]? = some A) :
    Calls Tryz.prog 39 #[c, .string s] w fun e w' => ∃ P m cp, e = .returned (.slice P m cp) ∧ decide (0 < m) = joinB A least s ∧ Below w.heap.size w w' := by
  by_cases hn : s.size ≤ 1024
  · refine (so_Split_tbl c s (endsOf A least s.data.toList) w (fun i hi k hk => by
      have := endsOf_bd (L := s.data.toList) (by rw [len_toList]; omega) hk
      rwa [len_toList] at this) hn (fun W hW => so_lay c least rs As A s W (h.keep hW) hA hn)).mono ?_
    rintro e w' ⟨P, m, cp, rfl, hm, hb⟩
    exact ⟨P, m, cp, rfl, by rw [hm, joinB, decide_eq_true hn, Bool.true_and], hb⟩
  · obtain ⟨cb, hcb⟩ : ∃ cb, c = .pointer (some ⟨cb, 0, none⟩) := by
      obtain ⟨cb, _, _, _, _, _, _, _, hc, _⟩ := h
      exact ⟨cb, hc⟩
    subst hcb
    refine (so_Split_nil _ s w (fun W _ => so_lay_long cb s W (by omega))).mono ?_
    rintro e w' ⟨P, m, cp, rfl, rfl, hb⟩
    exact ⟨P, 0, cp, rfl, by rw [joinB, decide_eq_false hn, Bool.false_and]; rfl, hb⟩

theorem so_JCheck (c : Value) (B : Bool) (s : ByteArray) (w : World) (h : Calls Tryz.prog 39 #[c, .string s] w fun e w' => ∃ P m cp, e = .returned (.slice P m cp) ∧ decide (0 < m) = B ∧ Below w.heap.size w w') :
    Calls Tryz.prog 16 #[c, .string s] w fun e w' => e = .returned (.bool B) ∧ Below w.heap.size w w' := by
  have H := Lib.hid h
  clear h
  go_enter Tryz.func16, Tryz.ntmps16
  go_wp2_with fail
  refine H.out.mono ?_
  rintro e w1 ⟨P, m, cp, rfl, rfl, hb⟩
  have HB := Lib.hid hb
  clear hb
  go_wp2_with fail
  go_ret
  exact ⟨rfl, HB.out⟩

set_option maxHeartbeats 2000000 in
theorem so_KnownB (c : Value) (P Q : ByteArray → Bool) (B : Bool) (s : ByteArray) (w : World)
    (hC : Calls Tryz.prog 15 #[c, .string s] w fun e w' => e = .returned (chkV (chkB P Q s)) ∧ Below w.heap.size w w')
    (hJ : ∀ W, Below w.heap.size w W → Calls Tryz.prog 16 #[c, .string s] W fun e w' => e = .returned (.bool B) ∧ Below W.heap.size W w') :
    Calls Tryz.prog 7 #[c, .string s] w fun e w' => e = .returned (.bool ((chkB P Q s).isSome || B)) ∧ Below w.heap.size w w' := by
  have HC := Lib.hid hC
  have HJ := Lib.hid hJ
  clear hC hJ
  obtain ⟨r, hr⟩ : ∃ r, chkB P Q s = r := ⟨_, rfl⟩
  rw [hr] at HC ⊢
  clear hr
  cases r with
  | none =>
    go_enter Tryz.func7, Tryz.ntmps7
    go_wp2_with fail
    refine HC.out.mono ?_
    rintro e w1 ⟨rfl, b1⟩
    have B1 := Lib.hid b1
    clear b1
    dsimp only [chkV]
    go_wp2_with fail
    refine (HJ.out _ B1.out).mono ?_
    rintro e w2 ⟨rfl, b2⟩
    have B2 := Lib.hid (B1.out.trans (b2.mono B1.out.size))
    clear b2
    cases B
    all_goals
      go_wp2_with fail
      go_ret
      exact ⟨rfl, B2.out⟩
  | some f =>
    go_enter Tryz.func7, Tryz.ntmps7
    go_wp2_with fail
    refine HC.out.mono ?_
    rintro e w1 ⟨rfl, b1⟩
    have B1 := Lib.hid b1
    clear b1
    dsimp only [chkV]
    go_wp2_with fail
    go_ret
    exact ⟨rfl, B1.out⟩

/-- Is the text known? -/
def knownB (secs : List (List St)) (least : Int) (s : ByteArray) : Bool :=
  (chkB (accS (secs.getD 0 [])) (accS (secs.getD 2 [])) s).isSome || joinB (secs.getD 1 []) least s

theorem so_Known_nil (s : ByteArray) (w : World) (hs : s.size ≤ 140737488355328) :
    Calls Tryz.prog 7 #[.pointer none, .string s] w fun e w' => e = .returned (.bool false) ∧ Below w.heap.size w w' := by
  refine (so_KnownB (.pointer none) (fun _ => false) (fun _ => false) false s w (so_Check (fun _ => false) (fun _ => false) (.pointer none) s w hs (fun f W' _ _ => so_In_nil 0 f W') (fun f W' _ _ => so_In_nil 2 f W'))
    (fun W _ => so_JCheck _ false s W ((so_Split_nil _ s W (fun W' _ => so_lay_nil s W')).mono ?_))).mono ?_
  · rintro e w' ⟨P, m, cp, rfl, rfl, hb⟩
    exact ⟨P, 0, cp, rfl, rfl, hb⟩
  · rintro e w' ⟨rfl, hb⟩
    exact ⟨by rw [show chkB (fun _ => false) (fun _ => false) s = none from chkGo_none _ _ _]; rfl, hb⟩
theorem so_Known (c : Value) (least : Int) (rs : List (ByteArray × ByteArray)) (As : List (List St)) (s : ByteArray) (w : World) (h : CkL w c least rs As) (hl : As.length = 4) (hs : s.size ≤ 140737488355328) :
    Calls Tryz.prog 7 #[c, .string s] w fun e w' => e = .returned (.bool (knownB As least s)) ∧ Below w.heap.size w w' := by
  have g : ∀ i, i < 4 → As[i]? = some (As.getD i []) := fun i hi => by
    rw [List.getD_eq_getElem?_getD, List.getElem?_eq_getElem (by omega)]; rfl
  obtain ⟨cb, hcb⟩ : ∃ cb, c = .pointer (some ⟨cb, 0, none⟩) := by
    obtain ⟨cb, _, _, _, _, _, _, _, hc, _⟩ := h
    exact ⟨cb, hc⟩
  subst hcb
  exact so_KnownB _ (accS (As.getD 0 [])) (accS (As.getD 2 [])) (joinB (As.getD 1 []) least s) s w
    (so_Check _ _ _ s w hs (fun f W' hf hb => so_In 0 (by omega) _ _ _ f W' (h.keep hb).ck (g 0 (by omega)) hf) (fun f W' hf hb => so_In 2 (by omega) _ _ _ f W' (h.keep hb).ck (g 2 (by omega)) hf))
    (fun W hW => so_JCheck _ _ s W (so_JSplit _ least rs As _ s W (h.keep hW) (g 1 (by omega))))
end Go.Proofs.YthfndmpigpphoaaGreat
