/-
 Parts of the proof: AF7, AS6, AF10, AF11, AF12, AC1, AC2.
-/
import Derived.Test.YtkdajhmlhjkcdaaGreatDoorRows
import Derived.Test.YtkdajhmlhjkcdaaGreatDoorM5
import Derived.Test.YtkdajhmlhjkcdaaGreatDoorM4
import Derived.BigRegion
import Derived.Test.YtkdajhmlhjkcdaaGreatDoorM2
import Derived.RegionTactic
import Derived.Deep.QuietTactic
import Derived.BigQuiet
set_option linter.unusedVariables false
set_option linter.unusedSimpArgs false
namespace Go.Proofs.YtkdajhmlhjkcdaaGreatDoor
open Go.RowKit Go.Maps
def HeadP (w0 : World) (L : List Nat) (i : Ids) (E : Int) (kh k : Nat) (R : RX) (w : World) (e : Ending) (w' : World) : Prop :=
 ∃ L', Go2 L w L' w' ∧ match R with
  | .ok S' => e = .returned (.tuple #[]) ∧ RM w0 w' L' i E kh k S'
  | .error p => e = .panicked [flt p.1 p.2]
theorem Bd.mono {kh k : Nat} {S : Sx} (h : Bd kh (k + 1) S) : Bd kh k S :=
 ⟨h.row, h.heads, h.headS, by have := h.reps; omega, by have := h.als; omega, by have := h.cls; omega, by have := h.rls; omega, h.flags, h.sets, h.nexts, h.kind, h.sp, h.line⟩
theorem Bd.same {kh k : Nat} {S : Sx} (h : Bd kh k S) (F : Fl) (h1 : F.reps = S.fl.reps) (h2 : F.als = S.fl.als) (h3 : F.cls = S.fl.cls) (h4 : F.rls = S.fl.rls) (h5 : 1 ≤ F.kind ∧ F.kind ≤ 3) (h6 : ∀ n, 0 ≤ spAt F n ∧ spAt F n ≤ 65535) : Bd kh k { S with fl := F } :=
 ⟨h.row, h.heads, h.headS, by rw [show ({ S with fl := F } : Sx).fl.reps = S.fl.reps from h1]; exact h.reps, by rw [show ({ S with fl := F } : Sx).fl.als = S.fl.als from h2]; exact h.als, by rw [show ({ S with fl := F } : Sx).fl.cls = S.fl.cls from h3]; exact h.cls, by rw [show ({ S with fl := F } : Sx).fl.rls = S.fl.rls from h4]; exact h.rls,
  by rw [show ({ S with fl := F } : Sx).fl.cls = S.fl.cls from h3]; exact h.flags, by rw [show ({ S with fl := F } : Sx).fl.als = S.fl.als from h2]; exact h.sets, by rw [show ({ S with fl := F } : Sx).fl.rls = S.fl.rls from h4]; exact h.nexts, h5, h6, h.line⟩
theorem drewN_below {w : World} (n : Nat) : Below w.heap.size w (w.drewN n) := below_drewN (Below.refl _ _) n
theorem drew_below {w : World} : Below w.heap.size w w.drew := (Below.refl _ w).drew
structure RowF1 (w0 : World) (fv : Value) (row : List ByteArray) : Prop where
 rd : Rd w0 1 fv row.length (strV row)
 len : row.length ≤ 65536
 each : ∀ f ∈ row, f.size ≤ 65536
theorem fieldAt_le {row : List ByteArray} (h : ∀ f ∈ row, f.size ≤ 65536) (j : Nat) : (fieldAt row j).size ≤ 65536 := by
 unfold fieldAt
 rw [List.getD]
 rcases hj : row[j]? with _ | f
 ·show 0 ≤ 65536; omega
 exact h f (List.mem_of_getElem? hj)
theorem RowF1.cells {w0 : World} {fv : Value} {row : List ByteArray} (h : RowF1 w0 fv row) (h0 : 0 < row.length) : ∃ g o c, fv = .slice (some ⟨g, o, none⟩) row.length c ∧ row.length ≤ c ∧ ∀ j, j < row.length → w0.cell? ⟨g, o + j, none⟩ = some (.string (fieldAt row j)) := by
 obtain ⟨-, A, c, rfl, hc, h2⟩ := h.rd
 obtain ⟨g, o, rfl, h3⟩ := h2.resolve_left (by omega)
 refine ⟨g, o, c, rfl, hc, fun j hj => ?_⟩
 have := h3 j _ (strV_get row j hj)
 rw [this]; simp [fieldAt, List.getD, hj]
theorem field_in {w0 w : World} {g o j : Nat} {x : Value} (h : w0.cell? ⟨g, o + j, none⟩ = some x) (hb : Below w0.heap.size w0 w) : w.cell? ⟨g, o + j, none⟩ = some x := (hb.cell (World.block_lt_of_cell? w0 _ h)).trans h
theorem RM.base {w0 w : World} {L : List Nat} {i : Ids} {E : Int} {kh k : Nat} {S : Sx} (h : RM w0 w L i E kh k S) : Below w0.heap.size w0 w := by
 obtain ⟨_, v, hm⟩ := h; exact hm.base
theorem RM.r2 {w0 w : World} {L : List Nat} {i : Ids} {E : Int} {kh k : Nat} {S : Sx} (h : RM w0 w L i E kh k S) : w.cell? ⟨i.rb, 2, none⟩ = some (.int .i64 S.line) := by
 obtain ⟨_, v, hm⟩ := h; exact hm.r2
theorem RMv.f1 {w0 w : World} {L : List Nat} {i : Ids} {v : Vs} {E : Int} {S : Sx} {nx : List Int} {tf : Int → Int} {tn cn : Nat} {cf : Int → Option Nat} (h : RMv w0 w L i v E S nx tf tn cf cn) : w.cell? ⟨i.fb, 1, none⟩ = some (.string S.fl.charset) ∧ w.cell? ⟨i.fb, 2, none⟩ = some (.string S.fl.tryT) := by
 constructor <;> (rw [Lib.cell_of_heap h.file]; rfl)
set_option maxHeartbeats 2000000 in
set_option maxRecDepth 100000 in
theorem so_charset (w0 : World) (L : List Nat) (i : Ids) (E : Int) (kh k : Nat) (S : Sx) (fv : Value) (row : List ByteArray) (w : World) (h : RM w0 w L i E kh (k + 1) S) (hr : RowF1 w0 fv row) (hl : row.length = 2) :
  Calls Tryz.prog 68 #[.pointer (some ⟨i.rb, 0, none⟩), fv] w (HeadP w0 L i E kh k (onFl S.line S (setR S.fl (fieldAt row 1))) w) := by
 have hsz := fieldAt_le hr.each 1
 obtain ⟨g, o, c, rfl, hc, hcells⟩ := hr.cells (by omega)
 have d1 := field_in (hcells 1 (by omega)) h.base
 have HP := Lib.hid (so_plainR i.rb S.line (fieldAt row 1) w (by omega) h.r2)
 obtain ⟨hbd, v, hm⟩ := h
 have c0 := hm.r0
 have e1 := hm.f1.1
 have fz := hm.fz 1
 have HM := Lib.hid hm
 have HB := Lib.hid hbd
 rw [hl] at hc ⊢
 clear hcells hm hbd hr
 unfold setR
 cases hq : fitAll (fieldAt row 1)
 ·have HQ := Lib.hid hq
  rw [if_pos rfl]
  clear hq
  go_enter Tryz.func68, Tryz.ntmps68
  go_wp2_with fail
  refine HP.out.mono ?_
  rw [HQ.out]
  rintro e w' ⟨⟨h, -⟩ | ⟨-, rfl⟩, rfl⟩
  ·cases h
  exact ⟨rfl, L, Go2.refl _ _, rfl⟩
 have HQ := Lib.hid hq
 rw [if_neg (by simp)]
 clear hq
 go_enter Tryz.func68, Tryz.ntmps68
 go_wp2_with fail
 refine HP.out.mono ?_
 rw [HQ.out]
 rintro e w' ⟨⟨-, rfl⟩ | ⟨h, -⟩, rfl⟩
 ·go_wp2_with fail
  go_region
  all_goals go_end0
  all_goals
   refine ⟨L, ⟨(set_kept' HM.out.fbL).drew, fun x hx => .inl hx⟩, rfl, ⟨?_, v, ?_⟩⟩
   ·exact HB.out.mono.same _ rfl rfl rfl rfl HB.out.kind HB.out.sp
   exact (HM.out.setF (F' := { S.fl with charset := fieldAt row 1 }) 1 _ (by rfl) rfl rfl rfl rfl).below drew_below
 cases h
set_option maxHeartbeats 2000000 in
set_option maxRecDepth 100000 in
theorem so_try (w0 : World) (L : List Nat) (i : Ids) (E : Int) (kh k : Nat) (S : Sx) (fv : Value) (row : List ByteArray) (w : World) (h : RM w0 w L i E kh (k + 1) S) (hr : RowF1 w0 fv row) (hl : row.length = 2) :
  Calls Tryz.prog 69 #[.pointer (some ⟨i.rb, 0, none⟩), fv] w (HeadP w0 L i E kh k (onFl S.line S (tryR S.fl (fieldAt row 1))) w) := by
 have hsz := fieldAt_le hr.each 1
 obtain ⟨g, o, c, rfl, hc, hcells⟩ := hr.cells (by omega)
 have d1 := field_in (hcells 1 (by omega)) h.base
 have HL := Lib.hid (Letters_any (fieldAt row 1) w (by omega))
 have H2 := Lib.hid h.r2
 obtain ⟨hbd, v, hm⟩ := h
 have HM := Lib.hid hm
 have HB := Lib.hid hbd
 rw [hl] at hc ⊢
 clear hcells hm hbd hr
 unfold tryR
 obtain ⟨⟨t, e⟩, hq⟩ : ∃ r, lettersS (fieldAt row 1) = r := ⟨_, rfl⟩
 rw [hq] at HL ⊢
 dsimp only at HL ⊢
 clear hq
 by_cases he : e = 0
 ·subst he
  rw [if_neg (by simp)]
  go_enter Tryz.func69, Tryz.ntmps69
  go_wp2_with fail
  refine HL.out.mono ?_
  rintro e w1 ⟨rfl, hb⟩
  have HB1 := Lib.hid hb
  have HM1 := Lib.hid (HM.out.below hb)
  clear hb
  go_wp2_with fail
  refine (so_need i.rb S.line 0 _ HM1.out.r2).mono ?_
  rintro e w' ⟨⟨-, rfl⟩ | ⟨h, -⟩, rfl⟩
  ·have c0 := HM1.out.r0
   have e1 := HM1.out.f1.2
   have fz := HM1.out.fz 2
   go_wp2_with fail
   go_end0
   exact ⟨L, (Go2.of_below HB1.out).trans ⟨set_kept' HM1.out.fbL, fun x hx => .inl hx⟩, rfl, HB.out.mono.same _ rfl rfl rfl rfl HB.out.kind HB.out.sp, v, HM1.out.setF (F' := { S.fl with tryT := t }) 2 _ (by rfl) rfl rfl rfl rfl⟩
  exact absurd h (by decide)
 have he2 : (e == 0) = false := by simpa using he
 have HE := Lib.hid he2
 rw [if_pos he]
 clear he he2
 go_enter Tryz.func69, Tryz.ntmps69
 go_wp2_with fail
 refine HL.out.mono ?_
 rintro e' w1 ⟨rfl, hb⟩
 have HB1 := Lib.hid hb
 have HM1 := Lib.hid (HM.out.below hb)
 clear hb
 go_wp2_with fail
 refine (so_need i.rb S.line e _ HM1.out.r2).mono ?_
 rw [HE.out]
 rintro e' w' ⟨⟨h, -⟩ | ⟨-, rfl⟩, rfl⟩
 ·cases h
 exact ⟨rfl, L, Go2.of_below HB1.out, rfl⟩
set_option maxHeartbeats 2000000 in
set_option maxRecDepth 100000 in
theorem so_least (w0 : World) (L : List Nat) (i : Ids) (E : Int) (kh k : Nat) (S : Sx) (fv : Value) (row : List ByteArray) (w : World) (h : RM w0 w L i E kh (k + 1) S) (hr : RowF1 w0 fv row) (hl : row.length = 2) :
  Calls Tryz.prog 71 #[.pointer (some ⟨i.rb, 0, none⟩), fv] w (HeadP w0 L i E kh k (onFl S.line S (leastR S.fl (fieldAt row 1))) w) := by
 have hsz := fieldAt_le hr.each 1
 obtain ⟨g, o, c, rfl, hc, hcells⟩ := hr.cells (by omega)
 have d1 := field_in (hcells 1 (by omega)) h.base
 have HN := Lib.hid (so_rdNumber i.rb S.line (fieldAt row 1) 64 w.drew (by unfold maxLen; omega) (by decide) (by decide) h.r2)
 obtain ⟨hbd, v, hm⟩ := h
 have c0 := hm.r0
 have e8 := hm.f8
 have fz := hm.fz 8
 have HM := Lib.hid hm
 have HB := Lib.hid hbd
 rw [hl] at hc ⊢
 clear hcells hm hbd hr
 unfold leastR
 unfold numR_ at HN
 by_cases hq : numErr (fieldAt row 1).data.toList 64 = 0
 ·rw [if_neg (by simpa using hq)] at HN
  obtain ⟨n, hn⟩ : ∃ n, numVal (fieldAt row 1).data.toList 64 = n := ⟨_, rfl⟩
  have hn0 := numVal_bd (fieldAt row 1).data.toList 64 (by decide)
  rw [hn] at HN hn0 ⊢
  by_cases h0 : n = 0
  ·rw [if_pos (.inr h0)]
   subst h0
   clear hq hn hn0
   go_enter Tryz.func71, Tryz.ntmps71
   go_wp2_with fail
   go_region_with (go_at_call 105; refine HN.out.mono ?_; rintro e w1 ⟨hb, rfl⟩; have HB1 := Lib.hid ((drew_below (w := w)).trans hb); have HM1 := Lib.hid (HM.out.below HB1.out); have c0' := HM1.out.r0; have e8' := HM1.out.f8; have fz' := HM1.out.fz 8; clear hb)
   all_goals
    have c0'' := (HM1.out.setF (F' := { S.fl with least := 0 }) 8 _ (by rfl) rfl rfl rfl rfl).r0
    have c8'' := (HM1.out.setF (F' := { S.fl with least := 0 }) 8 _ (by rfl) rfl rfl rfl rfl).f8
    have HR2 := Lib.hid (HM1.out.setF (F' := { S.fl with least := 0 }) 8 _ (by rfl) rfl rfl rfl rfl).r2
    go_wp2_with fail
    refine (so_must i.rb S.line _ _ _ (by decide) HR2.out).mono ?_
    rintro e w' ⟨⟨h, -⟩ | ⟨-, rfl⟩, rfl⟩
    ·exact absurd h (by decide)
    exact ⟨rfl, L, (Go2.of_below HB1.out).trans ⟨set_kept' HM1.out.fbL, fun x hx => .inl hx⟩, rfl⟩
  rw [if_neg (fun h => h.elim (fun h => h hq) h0)]
  have hgt : decide (0 < n) = true := by rw [decide_eq_true_iff]; omega
  clear hq hn
  go_enter Tryz.func71, Tryz.ntmps71
  go_wp2_with fail
  go_region_with (go_at_call 105; refine HN.out.mono ?_; rintro e w1 ⟨hb, rfl⟩; have HB1 := Lib.hid ((drew_below (w := w)).trans hb); have HM1 := Lib.hid (HM.out.below HB1.out); have c0' := HM1.out.r0; have e8' := HM1.out.f8; have fz' := HM1.out.fz 8; clear hb)
  all_goals
   have HF := Lib.hid (HM1.out.setF (F' := { S.fl with least := n }) 8 _ (by rfl) rfl rfl rfl rfl)
   have c0'' := HF.out.r0
   have c8'' := HF.out.f8
   go_wp2_with fail
   refine (so_must i.rb S.line _ _ _ (by decide) HF.out.r2).mono ?_
   rintro e w' ⟨⟨-, rfl⟩ | ⟨h, -⟩, rfl⟩
   ·go_wp2_with fail
    go_end0
    exact ⟨L, (Go2.of_below HB1.out).trans ⟨set_kept' HM1.out.fbL, fun x hx => .inl hx⟩, rfl, HB.out.mono.same _ rfl rfl rfl rfl HB.out.kind HB.out.sp, v, HF.out⟩
   exact absurd h (by simp)
 rw [if_pos hq] at HN
 rw [if_pos (.inl hq)]
 clear hq
 go_enter Tryz.func71, Tryz.ntmps71
 go_wp2_with fail
 refine wp_region_any (by kernel_rfl) ?_
 try (change wpAny _ _ _ _ _ _ _ (World.drew _))
 refine takeA (i := 0) (d := some 4) (v := ?_) rfl rfl (by kernel_rfl) (by kernel_rfl) (by kernel_rfl) (fun _ _ _ h => h) (Or.inl ⟨by kernel_rfl, ?_⟩) ?_
 rotate_left
 ·intro w; go_simp; try with_reducible rfl
 try simp only [put_norm]
 refine takeA (i := 1) (d := some 5) (v := ?_) rfl rfl (by kernel_rfl) (by kernel_rfl) (by kernel_rfl) (fun _ _ _ h => h) (Or.inl ⟨by kernel_rfl, ?_⟩) ?_
 rotate_left
 ·intro w; go_simp; try with_reducible rfl
 try simp only [put_norm]
 refine takeA (i := 2) (d := some 6) (v := ?_) rfl rfl (by kernel_rfl) (by kernel_rfl) (by kernel_rfl) (fun _ _ _ h => h) (Or.inl ⟨by kernel_rfl, ?_⟩) ?_
 rotate_left
 ·intro w; go_simp; try with_reducible rfl
 try simp only [put_norm]
 refine takeA (i := 4) (d := some 8) (v := ?_) rfl rfl (by kernel_rfl) (by kernel_rfl) (by kernel_rfl) (fun _ _ _ h => h) (Or.inl ⟨by kernel_rfl, ?_⟩) ?_
 rotate_left
 ·intro w; go_simp; try with_reducible rfl
 try simp only [put_norm]
 refine takeA (i := 5) (d := some 9) (v := ?_) rfl rfl (by kernel_rfl) (by kernel_rfl) (by kernel_rfl) (fun _ _ _ h => h) (Or.inl ⟨by kernel_rfl, ?_⟩) ?_
 rotate_left
 ·intro w; go_simp; try with_reducible rfl
 try simp only [put_norm]
 refine takeA (i := 6) (d := some 10) (v := ?_) rfl rfl (by kernel_rfl) (by kernel_rfl) (by kernel_rfl) (fun _ _ _ h => h) (Or.inl ⟨by kernel_rfl, ?_⟩) ?_
 rotate_left
 ·intro w; go_simp; try with_reducible rfl
 try simp only [put_norm]
 refine wpAny_ready (rs := [3, 7]) (by kernel_rfl) (by simp) ?_
 refine AllReady.cons rfl (fun K hK => ?_) ?_
 ·go_simp
  refine hK _ _ ?_
  clear hK K
  refine wpAny_ready (rs := [7]) (by kernel_rfl) (by simp) ?_
  refine AllReady.cons rfl (fun K hK => ?_) ?_
  ·go_simp
   refine hK _ _ ?_
   clear hK K
   refine wpAny_ready (rs := [8]) (by kernel_rfl) (by simp) ?_
   refine AllReady.cons rfl (fun K hK => ?_) ?_
   ·go_simp
    refine HN.out.mono ?_
    rintro e w' ⟨hb, rfl⟩
    exact ⟨rfl, L, Go2.of_below ((drew_below (w := w)).trans hb), rfl⟩
   exact AllReady.nil
  exact AllReady.nil
 refine AllReady.cons rfl (fun K hK => ?_) ?_
 ·go_simp
  refine hK _ _ ?_
  clear hK K
  refine wpAny_ready (rs := [3, 8]) (by kernel_rfl) (by simp) ?_
  refine AllReady.cons rfl (fun K hK => ?_) ?_
  ·go_simp
   refine hK _ _ ?_
   clear hK K
   refine wpAny_ready (rs := [8]) (by kernel_rfl) (by simp) ?_
   refine AllReady.cons rfl (fun K hK => ?_) ?_
   ·go_simp
    refine HN.out.mono ?_
    rintro e w' ⟨hb, rfl⟩
    exact ⟨rfl, L, Go2.of_below ((drew_below (w := w)).trans hb), rfl⟩
   exact AllReady.nil
  refine AllReady.cons rfl (fun K hK => ?_) ?_
  ·go_simp
   refine HN.out.mono ?_
   rintro e w' ⟨hb, rfl⟩
   exact ⟨rfl, L, Go2.of_below ((drew_below (w := w)).trans hb), rfl⟩
  exact AllReady.nil
 exact AllReady.nil
end Go.Proofs.YtkdajhmlhjkcdaaGreatDoor
namespace Go.Proofs.YtkdajhmlhjkcdaaGreatDoor
open Go.RowKit Go.Maps
theorem own_uniq {w : World} {B e size n : Nat} {v : Value} {xs ys : List Value} (h : w.ownsRow B e size v n xs) (h' : w.ownsRow B e size v n ys) : xs = ys := by
 rcases h.2 with ⟨rfl, h0⟩ | ⟨g, cap, cur, rfl, _, hb, _, _, _, ht⟩
 ·have h1 := h.1
  have h2 := h'.1
  rw [h0, Nat.zero_mul] at h1 h2
  rw [List.eq_nil_of_length_eq_zero h1, List.eq_nil_of_length_eq_zero h2]
 rcases h'.2 with ⟨hv, _⟩ | ⟨g', cap', cur', hv, _, hb', _, _, _, ht'⟩
 ·cases hv
 cases hv
 rw [hb] at hb'
 cases hb'
 rw [← ht, ← ht']
theorem step_pushL {P : Program} {w : World} {ops : Array Oper} {o : Oper} {a : Act} {K : Act → World → Prop} {Q : Exit → Act → World → Prop} {E : Prop} (hgd : o.guard = none) (s x : Operand) (t : TypeId)
  (ho : o.op = .call { callee := .builtin .append, args := #[s, x], argTypes := #[t, t] })
  (base : Nat) (e : TypeId) (i : TypeInfo) (z : Value) (size bytes : Nat) (ht : P.underlying t = some (.slice e)) (hi : P.info? e = some i) (hz : i.zero = some z)
  (hsize : i.size = size) (hby : i.bytes = bytes) (hzs : z.cells.size = size) (hsz : 0 < size)
  (v : Value) (n : Nat) (xs : List Value) (hs : a.eval s = v) (hown : w.ownsRow base e size v n xs)
  (us : Array Value) (hus : us.size = size) (h1 : ∀ u ∈ us.toList, u.oneCell' = true) (hx : a.eval x = .slice (some ⟨w.heap.size, 0, none⟩) 1 1)
  (h63 : n + 1 ≤ maxLen) (hbytes : (n + 1) * bytes ≤ 140737488355328) (hbase : base ≤ w.heap.size)
  (h : ∀ g cap w', w'.ownsRow base e size (.slice (some ⟨g, 0, none⟩) (n + 1) cap) (n + 1) (xs ++ us.toList) → w.grownBy w' v.ownBlock → LocP w w' v (.slice (some ⟨g, 0, none⟩) (n + 1) cap) → K (a.put o.dst (.slice (some ⟨g, 0, none⟩) (n + 1) cap)) w') :
  if Region.wanted o (yielded ops a.tmps) = true then Oper.wp P o a (w.alloc (.cells us e)) K Q else E := by
 have hw : Region.wanted o (yielded ops a.tmps) = true := by simp [Region.wanted, hgd]
 rw [if_pos hw]
 obtain ⟨v', w', hrun, h2, h3, h4⟩ := run_append_src (P := P) (w.alloc (.cells us e)) base t o.type e i z size bytes ht hi hz hsize hby hzs hsz v n xs (hown.alloc _) (some ⟨w.heap.size, 0, none⟩) 1 1 us.toList (by simp [hus])
  (.inr ⟨_, rfl, by
   intro j u hj
   rw [row_addr, cell_of_row (w.alloc (.cells us e)) w.heap.size j us e (0, 0) (heap_alloc_new w _)]
   simpa using hj⟩) h1 h63 hbytes (by simp; omega)
 obtain ⟨g, cap, rfl⟩ : ∃ g cap, v' = .slice (some ⟨g, 0, none⟩) (n + 1) cap := by
  rcases h2.2 with ⟨_, h0⟩ | ⟨g, cap, cur, hv, _⟩
  ·omega
  exact ⟨g, cap, hv⟩
 unfold Oper.wp execOp
 simp only [ho, resolve, invoke, builtin, Sem.run_bind, Sem.run_pure, Result.andThen_ok, List.map_toArray, List.map_cons, List.map_nil, hs, hx, hrun]
 refine h g cap w' h2 (grown_of_alloc h3) ?_
 rcases h4 with h4 | h4
 ·exact .inl h4
 refine .inr ⟨g, rfl, ?_, (h2.lt g rfl).2⟩
 have : g = (w.alloc (.cells us e)).heap.size := by simpa [Value.ownBlock] using h4
 rw [this, World.size_alloc]; omega
section
variable {w0 w w1 : World} {L : List Nat} {i : Ids} {v : Vs} {E : Int} {S : Sx} {nx : List Int} {tf : Int → Int} {tn cn : Nat} {cf : Int → Option Nat} {r : Option Nat}
theorem RMv.file_grown {e : Nat} (h : RMv w0 w L i v E S nx tf tn cf cn) (hg : w.grownBy w1 r) (hr : ∀ g, r = some g → TyB w g e) (hne : 92 ≠ e) : w1.heap[i.fb]? = some (.cells (fileV i v S.fl) 92 (0, 0)) :=
 (hg.block i.fb (h.hl _ h.fbL).2 (fun e1 => h.tyF.ne (hr _ e1.symm) hne rfl)).trans h.file
theorem RMv.rdr_grown {e : Nat} (h : RMv w0 w L i v E S nx tf tn cf cn) (hg : w.grownBy w1 r) (hr : ∀ g, r = some g → TyB w g e) (hne : 95 ≠ e) : w1.heap[i.rb]? = some (.cells (rdrV i v E S) 95 (0, 0)) :=
 (hg.block i.rb (h.hl _ h.rbL).2 (fun e1 => h.tyR.ne (hr _ e1.symm) hne rfl)).trans h.rdr
theorem RMv.grown_base (h : RMv w0 w L i v E S nx tf tn cf cn) (hg : w.grownBy w1 r) (hr : ∀ g, r = some g → g ∈ L) : Below w0.heap.size w0 w1 :=
 h.base.grown hg h.base.size (fun g hgv => (h.hl _ (hr g hgv)).1)
end
end Go.Proofs.YtkdajhmlhjkcdaaGreatDoor
namespace Go.Proofs.YtkdajhmlhjkcdaaGreatDoor
open Go.RowKit Go.Maps
theorem Bd.pushReps {kh k : Nat} {S : Sx} (h : Bd (kh + 1) (k + 1) S) (a b : ByteArray) : Bd kh k { S with fl := { S.fl with reps := S.fl.reps ++ [(a, b)] } } :=
 ⟨h.row, by have := h.heads; show S.heads.length + S.rows.length + kh ≤ 65536; omega, h.headS, by have := h.reps; show (S.fl.reps ++ [(a, b)]).length + S.rows.length + k ≤ 65536; rw [List.length_append]; show S.fl.reps.length + 1 + S.rows.length + k ≤ 65536; omega,
  by have := h.als; show S.fl.als.length + S.rows.length + k ≤ 65536; omega, by have := h.cls; show S.fl.cls.length + S.rows.length + k ≤ 65536; omega, by have := h.rls; show S.fl.rls.length + S.rows.length + k ≤ 65536; omega, h.flags, h.sets, h.nexts, h.kind, h.sp, h.line⟩
theorem rep_info : (Tryz.prog.info? 72).map (fun i => (i.zero, i.size, i.bytes)) = some (some (.agg #[.string ByteArray.empty, .string ByteArray.empty]), 2, 32) := by kernel_rfl
theorem rowF1_of {w0 : World} {fv : Value} {l : Int} {row : List ByteArray} {rest : List Row} {kh k : Nat} {S : Sx} (hb : Bd kh k S) (hr : S.rows = (l, row) :: rest) (h : Rd w0 1 fv row.length (strV row)) : RowF1 w0 fv row :=
 have h1 := hb.row (l, row) (by rw [hr]; simp)
 ⟨h, h1.2.1, h1.2.2.1⟩
theorem head_rd {w : World} {L : List Nat} (hL : ∀ x ∈ L, x < w.heap.size) (s : ByteArray) : ∀ w', Kept L (w.alloc (.cells #[.string s] 9)) w' → Rd w' 1 (.slice (some ⟨w.heap.size, 0, none⟩) 1 1) [s].length (strV [s]) := by
 intro w' hk
 refine ⟨rfl, _, 1, rfl, Nat.le_refl _, .inr ⟨_, 0, rfl, fun j u hj => ?_⟩⟩
 have h1 := hk.at (heap_alloc_new w (.cells #[.string s] 9)) (fun hm => absurd (hL _ hm) (by omega))
 rw [Nat.zero_add, cell_of_row _ w.heap.size j _ 9 (0, 0) h1]
 simpa [strV] using hj
set_option maxHeartbeats 8000000 in
set_option maxRecDepth 100000 in
theorem so_reps (w0 : World) (L : List Nat) (i : Ids) (E : Int) (kh k : Nat) (S : Sx) (fv : Value) (row : List ByteArray) (w : World) (h : RM w0 w L i E kh (k + 1) S) (hr : RowF1 w0 fv row) (hl : row.length = 2) :
  Calls Tryz.prog 72 #[.pointer (some ⟨i.rb, 0, none⟩), fv] w (HeadP w0 L i E kh k (repsG E S (fieldAt row 1)) w) := by
 obtain ⟨i0, hi, hz0, hz1, hz2⟩ := info_parts rep_info
 have hsz := fieldAt_le hr.each 1
 obtain ⟨g, o, c, rfl, hc, hcells⟩ := hr.cells (by omega)
 have d1 := field_in (hcells 1 (by omega)) h.base
 have HN := Lib.hid (so_rdNumber i.rb S.line (fieldAt row 1) 256 w (by unfold maxLen; omega) (by decide) (by decide) h.r2)
 have HM := Lib.hid h
 rw [hl] at hc ⊢
 clear hcells hr h
 unfold repsG
 unfold numR_ at HN
 rcases numErr_13 (fieldAt row 1).data.toList 256 with hq | hq
 ·rw [if_neg (by simpa using hq)] at HN ⊢
  obtain ⟨b0, b1⟩ := numVal_bd (fieldAt row 1).data.toList 256 (by decide)
  obtain ⟨n, hn⟩ : ∃ n : Nat, numVal (fieldAt row 1).data.toList 256 = n := ⟨_, (Int.toNat_of_nonneg b0).symm⟩
  rw [hn] at HN b0 b1 ⊢
  rw [Int.toNat_natCast]
  obtain ⟨R, hR⟩ : ∃ R, groupR E (fun r => decide (r.take 1 = [kREP])) repR_ n S = R := ⟨_, rfl⟩
  rw [hR]
  have HR := Lib.hid hR
  clear hR hq hn b0
  have hn2 : (n : Int) ≤ 256 := b1
  clear b1
  go_enter Tryz.func72, Tryz.ntmps72
  go_wp2_with fail
  refine HN.out.mono ?_
  rintro e w1 ⟨hb, rfl⟩
  have HM1 := Lib.hid (HM.out.below hb)
  have HG1 := Lib.hid (Go2.of_below (L := L) hb)
  clear hb
  go_wp2_with fail
  go_loopw [4, 5, 11] (fun _ _ x wr => ∃ (m : Nat) (S' : Sx) (L' : List Nat), m ≤ n ∧ x = .int .i64 m ∧ Hid (RM w0 wr L' i E kh (k + 1) S') ∧ Hid (Go2 L w L' wr) ∧ Hid (groupR E (fun r => decide (r.take 1 = [kREP])) repR_ (n - m) S' = R)) (fun _ _ x _ => n - (intOf x).toNat)
  case atStart => exact ⟨0, S, L, Nat.zero_le _, rfl, HM1, HG1, HR⟩
  case round =>
  obtain ⟨m, S', L', hm, rfl, HRM, HGo, HGr⟩ := hrel
  by_cases hlt : m < n
  ·have hnm : n - m = (n - (m + 1)) + 1 := by omega
   have HIn := Lib.hid (so_inner w0 L' i E kh (k + 1) S' (.slice (some ⟨wr.heap.size, 0, none⟩) 1 1) [kREP] (wr.alloc (.cells #[.string kREP] 9)) (HRM.out.below ((Below.refl _ _).alloc (Nat.le_refl _) _))
    (head_rd (fun x hx => by obtain ⟨_, v, hv⟩ := HRM.out; exact (hv.hl x hx).2) kREP) (by decide))
   have HGo2 := Lib.hid (HGo.out.trans (Go2.of_below (L := L') ((Below.refl _ wr).alloc (Nat.le_refl _) (.cells #[.string kREP] 9))))
   rcases hrows : S'.rows with _ | ⟨⟨l, rw_⟩, rest⟩
   ·have HRe : Hid (R = .error (E, 116)) := Lib.hid (by rw [← HGr.out, hnm, groupR, hrows])
    clear hnm
    unfold InnerP at HIn
    rw [hrows] at HIn
    clear hrows
    go_wp2_with fail
    refine HIn.out.mono ?_
    rintro e w2 ⟨hg, rfl⟩
    exact ⟨rfl, L', HGo2.out.trans hg, by rw [HRe.out]⟩
   have HBd := Lib.hid HRM.out.1
   have HRW : Hid (∀ fv, Rd w0 1 fv rw_.length (strV rw_) → RowF1 w0 fv rw_) := Lib.hid (fun fv h => rowF1_of HBd.out hrows h)
   have HFs : Hid (∀ j, (fieldAt rw_ j).size ≤ 1048576) := Lib.hid (fun j => Nat.le_trans (fieldAt_le (HBd.out.row (l, rw_) (by rw [hrows]; simp)).2.2.1 j) (by decide))
   have hrl : rw_.length ≤ 65536 := (HBd.out.row (l, rw_) (by rw [hrows]; simp)).2.1
   have HGr2 : Hid (R = if decide (rw_.take 1 = [kREP]) = true then (match repR_ S'.fl l rw_ with
    | .error c => .error (l, c)
    | .ok F => groupR E (fun r => decide (r.take 1 = [kREP])) repR_ (n - (m + 1)) { fl := F, rows := rest, heads := S'.heads, line := l }) else .error (l, 116)) := Lib.hid (by rw [← HGr.out, hnm, groupR, hrows]; rfl)
   clear hnm
   unfold InnerP at HIn
   rw [hrows] at HIn
   dsimp only at HIn
   clear hrows
   by_cases hh : rw_.take 1 = [kREP]
   ·simp only [List.length_singleton, if_pos hh] at HIn
    rw [decide_eq_true hh] at HGr2
    clear hh
    by_cases h3 : rw_.length = 3
    ·have q3 : ((rw_.length : Int) == 3) = true := by rw [h3]; rfl
     have HRp : Hid (repR_ S'.fl l rw_ = match pieceR false (fieldAt rw_ 1) with
      | .error c => .error c
      | .ok a => match pieceR true (fieldAt rw_ 2) with
        | .error c => .error c
        | .ok b => .ok { S'.fl with reps := S'.fl.reps ++ [(a, b)] }) := Lib.hid (by rw [repR_, if_neg (by simp [h3])]; rfl)
     cases hp1 : pieceR false (fieldAt rw_ 1) with
     | error c1 =>
      have HRe : Hid (R = .error (l, c1)) := Lib.hid (by rw [HGr2.out, if_pos rfl, HRp.out, hp1])
      have HP1 := Lib.hid hp1
      clear hp1
      go_wp2_with fail
      refine HIn.out.mono ?_
      rintro e w2 ⟨hg, fv2, rfl, hrd, hrm⟩
      have HRM2 := Lib.hid hrm
      have HGo3 := Lib.hid (HGo2.out.trans hg)
      clear hg hrm
      obtain ⟨g2, o2, c2, rfl, hc2, hcells2⟩ := (HRW.out _ hrd).cells (by omega)
      have d1' := field_in (hcells2 1 (by omega)) HRM2.out.base
      have D2 := Lib.hid (hcells2 2 (by omega))
      have hc3 : 3 ≤ c2 := by omega
      clear hcells2 hrd
      go_wp2_with fail
      refine (so_must i.rb l _ _ _ (by decide) HRM2.out.r2).mono ?_
      rintro e w' ⟨⟨-, rfl⟩ | ⟨hx, -⟩, rfl⟩
      rotate_left
      ·exact absurd hx (by simp)
      go_wp2_with fail
      refine (so_piece i.rb l (fieldAt rw_ 1) _ (HFs.out 1) HRM2.out.r2).mono ?_
      rw [HP1.out]
      rintro e w3 ⟨hb, rfl⟩
      exact ⟨rfl, L', HGo3.out.trans (Go2.of_below hb), by rw [HRe.out]⟩
     | ok a =>
      have HP1 := Lib.hid hp1
      cases hp2 : pieceR true (fieldAt rw_ 2) with
      | error c1 =>
       have HRe : Hid (R = .error (l, c1)) := Lib.hid (by rw [HGr2.out, if_pos rfl, HRp.out, hp1]; dsimp only; rw [hp2])
       have HP2 := Lib.hid hp2
       clear hp1 hp2
       go_wp2_with fail
       refine HIn.out.mono ?_
       rintro e w2 ⟨hg, fv2, rfl, hrd, hrm⟩
       have HRM2 := Lib.hid hrm
       have HGo3 := Lib.hid (HGo2.out.trans hg)
       clear hg hrm
       obtain ⟨g2, o2, c2, rfl, hc2, hcells2⟩ := (HRW.out _ hrd).cells (by omega)
       have d1' := field_in (hcells2 1 (by omega)) HRM2.out.base
       have D2 := Lib.hid (hcells2 2 (by omega))
       have hc3 : 3 ≤ c2 := by omega
       clear hcells2 hrd
       go_wp2_with fail
       refine (so_must i.rb l _ _ _ (by decide) HRM2.out.r2).mono ?_
       rintro e w' ⟨⟨-, rfl⟩ | ⟨hx, -⟩, rfl⟩
       rotate_left
       ·exact absurd hx (by simp)
       go_wp2_with fail
       refine (so_piece i.rb l (fieldAt rw_ 1) _ (HFs.out 1) HRM2.out.r2).mono ?_
       rw [HP1.out]
       rintro e w3 ⟨hb, rfl⟩
       have HRM3 := Lib.hid (HRM2.out.below hb)
       have HGo4 := Lib.hid (HGo3.out.trans (Go2.of_below (L := L') hb))
       clear hb
       obtain ⟨hbd3, v3, hm3⟩ := HRM3.out
       obtain ⟨A3, cp3, hv3⟩ := own_slice hm3.reps.1
       have c0 := hm3.r0
       have c9 := hm3.f9
       rw [hv3] at c9
       have HM3 := Lib.hid hm3
       have HV3 := Lib.hid hv3
       have HB3 := Lib.hid hbd3
       have HS : Hid (∀ W, Below w3.heap.size w3 W → W.cell? ⟨i.rb, 0, none⟩ = some (.pointer (some ⟨i.fb, 0, none⟩)) ∧ W.cell? ⟨g2, o2 + 2, none⟩ = some (.string (fieldAt rw_ 2))) := Lib.hid (fun W hW => ⟨(HM3.out.below hW).r0, field_in D2.out (HM3.out.below hW).base⟩)
       clear hm3 hbd3 hv3
       go_wp2_with fail
       refine wp_region_held_drew (S := fun W' => W'.cell? ⟨i.rb, 0, none⟩ = some (.pointer (some ⟨i.fb, 0, none⟩)) ∧ W'.cell? ⟨g2, o2 + 2, none⟩ = some (.string (fieldAt rw_ 2))) (by kernel_rfl) ?_ (fun hHeld => ?_)
       ·exact HS.out _ drew_below
       refine tkA 0 (some 26) hHeld ?_; try simp only [put_norm]
       refine tkA 1 (some 27) hHeld ?_; try simp only [put_norm]
       refine tkA 2 (some 28) hHeld ?_; try simp only [put_norm]
       refine tkA 3 (some 29) hHeld ?_; try simp only [put_norm]
       refine tkA 4 (some 30) hHeld ?_; try simp only [put_norm]
       refine tkA 5 (some 31) hHeld ?_; try simp only [put_norm]
       refine tkA 6 (some 32) hHeld ?_; try simp only [put_norm]
       refine tkA 7 (some 33) hHeld ?_; try simp only [put_norm]
       refine tkA 8 (some 34) hHeld ?_; try simp only [put_norm]
       refine tkA 9 (some 35) hHeld ?_; try simp only [put_norm]
       refine tkA 10 (some 36) hHeld ?_; try simp only [put_norm]
       refine tkA 12 (some 38) hHeld ?_; try simp only [put_norm]
       refine tkA 13 (some 39) hHeld ?_; try simp only [put_norm]
       refine tkA 14 (some 40) hHeld ?_; try simp only [put_norm]
       refine tkA 15 (some 41) hHeld ?_; try simp only [put_norm]
       refine tkA 16 (some 42) hHeld ?_; try simp only [put_norm]
       refine wpAnyH_ready (rs := [11, 17]) (by kernel_rfl) (by simp) ?_
       refine AllReadyH.cons rfl (fun K hK => ?_) ?_
       ·go_simp
        refine hK.out _ _ ?_ (fun hHeld => ?_)
        ·first | exact HS.out _ drew_below | exact HS.out _ HB4.out | exact HS.out _ (HB4.out.alloc (Nat.le_of_lt_succ (Nat.lt_succ_of_le HB4.out.size)) _) | exact ⟨HMF.out.r0, field_in D2.out HMF.out.base⟩
        clear hK K
        refine rdy1 17 (fun K hK => ?_)
        go_simp
        refine (so_pieceOrNone i.rb l (fieldAt rw_ 2) w3.drew (HFs.out 2) HRM3.out.r2).mono ?_
        rw [HP2.out]
        rintro e w4 ⟨hb, rfl⟩
        exact ⟨rfl, L', HGo4.out.trans (Go2.of_below (drew_below.trans hb)), by rw [HRe.out]⟩
       refine AllReadyH.cons rfl (fun K hK => ?_) ?_
       ·go_simp
        refine (so_pieceOrNone i.rb l (fieldAt rw_ 2) w3.drew (HFs.out 2) HRM3.out.r2).mono ?_
        rw [HP2.out]
        rintro e w4 ⟨hb, rfl⟩
        exact ⟨rfl, L', HGo4.out.trans (Go2.of_below (drew_below.trans hb)), by rw [HRe.out]⟩
       exact AllReadyH.nil
      | ok b =>
       have HRe : Hid (R = groupR E (fun r => decide (r.take 1 = [kREP])) repR_ (n - (m + 1)) { fl := { S'.fl with reps := S'.fl.reps ++ [(a, b)] }, rows := rest, heads := S'.heads, line := l }) := Lib.hid (by rw [HGr2.out, if_pos rfl, HRp.out, hp1]; dsimp only; rw [hp2])
       have HP2 := Lib.hid hp2
       clear hp1 hp2
       go_wp2_with fail
       refine HIn.out.mono ?_
       rintro e w2 ⟨hg, fv2, rfl, hrd, hrm⟩
       have HRM2 := Lib.hid hrm
       have HGo3 := Lib.hid (HGo2.out.trans hg)
       clear hg hrm
       obtain ⟨g2, o2, c2, rfl, hc2, hcells2⟩ := (HRW.out _ hrd).cells (by omega)
       have d1' := field_in (hcells2 1 (by omega)) HRM2.out.base
       have D2 := Lib.hid (hcells2 2 (by omega))
       have hc3 : 3 ≤ c2 := by omega
       clear hcells2 hrd
       go_wp2_with fail
       refine (so_must i.rb l _ _ _ (by decide) HRM2.out.r2).mono ?_
       rintro e w' ⟨⟨-, rfl⟩ | ⟨hx, -⟩, rfl⟩
       rotate_left
       ·exact absurd hx (by simp)
       go_wp2_with fail
       refine (so_piece i.rb l (fieldAt rw_ 1) _ (HFs.out 1) HRM2.out.r2).mono ?_
       rw [HP1.out]
       rintro e w3 ⟨hb, rfl⟩
       have HRM3 := Lib.hid (HRM2.out.below hb)
       have HGo4 := Lib.hid (HGo3.out.trans (Go2.of_below (L := L') hb))
       clear hb
       obtain ⟨hbd3, v3, hm3⟩ := HRM3.out
       obtain ⟨A3, cp3, hv3⟩ := own_slice hm3.reps.1
       have c0 := hm3.r0
       have c9 := hm3.f9
       rw [hv3] at c9
       have HM3 := Lib.hid hm3
       have HV3 := Lib.hid hv3
       have HB3 := Lib.hid hbd3
       have HS : Hid (∀ W, Below w3.heap.size w3 W → W.cell? ⟨i.rb, 0, none⟩ = some (.pointer (some ⟨i.fb, 0, none⟩)) ∧ W.cell? ⟨g2, o2 + 2, none⟩ = some (.string (fieldAt rw_ 2))) := Lib.hid (fun W hW => ⟨(HM3.out.below hW).r0, field_in D2.out (HM3.out.below hW).base⟩)
       clear hm3 hbd3 hv3
       go_wp2_with fail
       refine wp_region_held_drew (S := fun W' => W'.cell? ⟨i.rb, 0, none⟩ = some (.pointer (some ⟨i.fb, 0, none⟩)) ∧ W'.cell? ⟨g2, o2 + 2, none⟩ = some (.string (fieldAt rw_ 2))) (by kernel_rfl) ?_ (fun hHeld => ?_)
       ·exact HS.out _ drew_below
       refine tkA 0 (some 26) hHeld ?_; try simp only [put_norm]
       refine tkA 1 (some 27) hHeld ?_; try simp only [put_norm]
       refine tkA 2 (some 28) hHeld ?_; try simp only [put_norm]
       refine tkA 3 (some 29) hHeld ?_; try simp only [put_norm]
       refine tkA 4 (some 30) hHeld ?_; try simp only [put_norm]
       refine tkA 5 (some 31) hHeld ?_; try simp only [put_norm]
       refine tkA 6 (some 32) hHeld ?_; try simp only [put_norm]
       refine tkA 7 (some 33) hHeld ?_; try simp only [put_norm]
       refine tkA 8 (some 34) hHeld ?_; try simp only [put_norm]
       refine tkA 9 (some 35) hHeld ?_; try simp only [put_norm]
       refine tkA 10 (some 36) hHeld ?_; try simp only [put_norm]
       refine tkA 12 (some 38) hHeld ?_; try simp only [put_norm]
       refine tkA 13 (some 39) hHeld ?_; try simp only [put_norm]
       refine tkA 14 (some 40) hHeld ?_; try simp only [put_norm]
       refine tkA 15 (some 41) hHeld ?_; try simp only [put_norm]
       refine tkA 16 (some 42) hHeld ?_; try simp only [put_norm]
       refine wpAnyH_ready (rs := [11, 17]) (by kernel_rfl) (by simp) ?_
       refine AllReadyH.cons rfl (fun K hK => ?_) ?_
       ·go_simp
        refine hK.out _ _ ?_ (fun hHeld => ?_)
        ·first | exact HS.out _ drew_below | exact HS.out _ HB4.out | exact HS.out _ (HB4.out.alloc (Nat.le_of_lt_succ (Nat.lt_succ_of_le HB4.out.size)) _) | exact ⟨HMF.out.r0, field_in D2.out HMF.out.base⟩
        clear hK K
        refine rdy1 17 (fun K hK => ?_)
        go_simp
        refine (so_pieceOrNone i.rb l (fieldAt rw_ 2) w3.drew (HFs.out 2) HRM3.out.r2).mono ?_
        rw [HP2.out]
        rintro e w4 ⟨hb, rfl⟩
        have HB4 : Hid (Below w3.heap.size w3 w4) := Lib.hid (drew_below.trans hb)
        clear hb
        have HM4 := Lib.hid (HM3.out.below HB4.out)
        have c9' := HM4.out.f9
        rw [HV3.out] at c9'
        have hfl4 := (HM4.out.hl _ HM4.out.fbL).2
        have HO4 := Lib.hid HM4.out.reps.1
        rw [HV3.out] at HO4
        refine hK.out _ _ ?_ (fun hHeld => ?_)
        ·exact HS.out _ HB4.out
        clear hK K
        refine tkA 18 (some 44) hHeld ?_; try simp only [put_norm]
        refine rdy1 19 (fun K hK => ?_)
        go_simp
        refine hK.out _ _ ?_ (fun hHeld => ?_)
        ·first | exact HS.out _ drew_below | exact HS.out _ HB4.out | exact HS.out _ (HB4.out.alloc (Nat.le_of_lt_succ (Nat.lt_succ_of_le HB4.out.size)) _) | exact ⟨HMF.out.r0, field_in D2.out HMF.out.base⟩
        clear hK K
        refine rdy1 20 (fun K hK => ?_)
        refine step_pushL (by rfl) _ _ 36 (by rfl) 0 72 i0 _ 2 32 Tryz.underlying36 hi hz0 hz1 hz2 rfl (by decide) (.slice A3 _ cp3) _ _ (by rfl) HO4.out #[.string a, .string b] (by rfl) (by intro x hx; simp at hx; rcases hx with rfl | rfl <;> rfl) (by rfl) (by have := HB3.out.reps; unfold maxLen; omega) (by have := HB3.out.reps; omega) (Nat.zero_le _) ?_
        intro gg cc w9 hown hg9 hloc
        rw [← HV3.out] at hg9 hloc
        obtain ⟨L9, hG9, hM9⟩ := HM4.out.push_reps a b hg9 hloc hown
        have hf9 := HM4.out.file_grown hg9 (HM4.out.ty_reps) (by decide)
        have hr9 := HM4.out.rdr_grown hg9 (HM4.out.ty_reps) (by decide)
        have c9'' : w9.cell? ⟨i.fb, 9, none⟩ = some (.slice A3 S'.fl.reps.length cp3) := by rw [Lib.cell_of_heap hf9]; exact congrArg some HV3.out
        have z9 : w9.frozen? ⟨i.fb, 9, none⟩ = false := Lib.frozen_of_heap hf9 9
        have HMF := Lib.hid hM9
        have HG9 := Lib.hid hG9
        have HS9 : Hid (w9.cell? ⟨i.rb, 0, none⟩ = some (.pointer (some ⟨i.fb, 0, none⟩)) ∧ w9.cell? ⟨g2, o2 + 2, none⟩ = some (.string (fieldAt rw_ 2))) := Lib.hid ⟨by rw [Lib.cell_of_heap hr9]; rfl, field_in D2.out (HM4.out.grown_base hg9 HM4.out.reps.2)⟩
        clear hown hg9 hloc hG9 hM9 hf9 hr9
        refine hK.out _ _ ?_ (fun hHeld => ?_)
        ·exact HS9.out
        clear hK K
        refine tkA 21 (some 47) hHeld ?_; try simp only [put_norm]
        refine tkA 22 (some 48) hHeld ?_; try simp only [put_norm]
        refine tkA 23 (some 49) hHeld ?_; try simp only [put_norm]
        refine rdy1 24 (fun K hK => ?_)
        go_simp
        refine hK.out _ _ ?_ (fun hHeld => ?_)
        ·first | exact HS.out _ drew_below | exact HS.out _ HB4.out | exact HS.out _ (HB4.out.alloc (Nat.le_of_lt_succ (Nat.lt_succ_of_le HB4.out.size)) _) | exact ⟨HMF.out.r0, field_in D2.out HMF.out.base⟩
        clear hK K
        refine wpAnyH_done (by kernel_rfl) ?_ _
        go_wp2_with fail
        go_roundw
        case rel => exact ⟨m + 1, _, L9, by omega, by go_num, Lib.hid ⟨HB3.out.pushReps a b, _, HMF.out⟩, Lib.hid ((HGo4.out.trans (Go2.of_below HB4.out)).trans HG9.out), Lib.hid HRe.out.symm⟩
        case measure => simp [intOf]; omega
       refine AllReadyH.cons rfl (fun K hK => ?_) ?_
       ·go_simp
        refine (so_pieceOrNone i.rb l (fieldAt rw_ 2) w3.drew (HFs.out 2) HRM3.out.r2).mono ?_
        rw [HP2.out]
        rintro e w4 ⟨hb, rfl⟩
        have HB4 : Hid (Below w3.heap.size w3 w4) := Lib.hid (drew_below.trans hb)
        clear hb
        have HM4 := Lib.hid (HM3.out.below HB4.out)
        have c9' := HM4.out.f9
        rw [HV3.out] at c9'
        have hfl4 := (HM4.out.hl _ HM4.out.fbL).2
        have HO4 := Lib.hid HM4.out.reps.1
        rw [HV3.out] at HO4
        refine hK.out _ _ ?_ (fun hHeld => ?_)
        ·exact HS.out _ HB4.out
        refine tkA 18 (some 44) hHeld ?_; try simp only [put_norm]
        refine wpAnyH_ready (rs := [11, 19]) (by kernel_rfl) (by simp) ?_
        refine AllReadyH.cons rfl (fun K hK => ?_) ?_
        ·go_simp
         refine hK.out _ _ ?_ (fun hHeld => ?_)
         ·first | exact HS.out _ drew_below | exact HS.out _ HB4.out | exact HS.out _ (HB4.out.alloc (Nat.le_of_lt_succ (Nat.lt_succ_of_le HB4.out.size)) _) | exact ⟨HMF.out.r0, field_in D2.out HMF.out.base⟩
         clear hK K
         refine rdy1 19 (fun K hK => ?_)
         go_simp
         refine hK.out _ _ ?_ (fun hHeld => ?_)
         ·first | exact HS.out _ drew_below | exact HS.out _ HB4.out | exact HS.out _ (HB4.out.alloc (Nat.le_of_lt_succ (Nat.lt_succ_of_le HB4.out.size)) _) | exact ⟨HMF.out.r0, field_in D2.out HMF.out.base⟩
         clear hK K
         refine rdy1 20 (fun K hK => ?_)
         refine step_pushL (by rfl) _ _ 36 (by rfl) 0 72 i0 _ 2 32 Tryz.underlying36 hi hz0 hz1 hz2 rfl (by decide) (.slice A3 _ cp3) _ _ (by rfl) HO4.out #[.string a, .string b] (by rfl) (by intro x hx; simp at hx; rcases hx with rfl | rfl <;> rfl) (by rfl) (by have := HB3.out.reps; unfold maxLen; omega) (by have := HB3.out.reps; omega) (Nat.zero_le _) ?_
         intro gg cc w9 hown hg9 hloc
         rw [← HV3.out] at hg9 hloc
         obtain ⟨L9, hG9, hM9⟩ := HM4.out.push_reps a b hg9 hloc hown
         have hf9 := HM4.out.file_grown hg9 (HM4.out.ty_reps) (by decide)
         have hr9 := HM4.out.rdr_grown hg9 (HM4.out.ty_reps) (by decide)
         have c9'' : w9.cell? ⟨i.fb, 9, none⟩ = some (.slice A3 S'.fl.reps.length cp3) := by rw [Lib.cell_of_heap hf9]; exact congrArg some HV3.out
         have z9 : w9.frozen? ⟨i.fb, 9, none⟩ = false := Lib.frozen_of_heap hf9 9
         have HMF := Lib.hid hM9
         have HG9 := Lib.hid hG9
         have HS9 : Hid (w9.cell? ⟨i.rb, 0, none⟩ = some (.pointer (some ⟨i.fb, 0, none⟩)) ∧ w9.cell? ⟨g2, o2 + 2, none⟩ = some (.string (fieldAt rw_ 2))) := Lib.hid ⟨by rw [Lib.cell_of_heap hr9]; rfl, field_in D2.out (HM4.out.grown_base hg9 HM4.out.reps.2)⟩
         clear hown hg9 hloc hG9 hM9 hf9 hr9
         refine hK.out _ _ ?_ (fun hHeld => ?_)
         ·exact HS9.out
         clear hK K
         refine tkA 21 (some 47) hHeld ?_; try simp only [put_norm]
         refine tkA 22 (some 48) hHeld ?_; try simp only [put_norm]
         refine tkA 23 (some 49) hHeld ?_; try simp only [put_norm]
         refine rdy1 24 (fun K hK => ?_)
         go_simp
         refine hK.out _ _ ?_ (fun hHeld => ?_)
         ·first | exact HS.out _ drew_below | exact HS.out _ HB4.out | exact HS.out _ (HB4.out.alloc (Nat.le_of_lt_succ (Nat.lt_succ_of_le HB4.out.size)) _) | exact ⟨HMF.out.r0, field_in D2.out HMF.out.base⟩
         clear hK K
         refine wpAnyH_done (by kernel_rfl) ?_ _
         go_wp2_with fail
         go_roundw
         case rel => exact ⟨m + 1, _, L9, by omega, by go_num, Lib.hid ⟨HB3.out.pushReps a b, _, HMF.out⟩, Lib.hid ((HGo4.out.trans (Go2.of_below HB4.out)).trans HG9.out), Lib.hid HRe.out.symm⟩
         case measure => simp [intOf]; omega
        refine AllReadyH.cons rfl (fun K hK => ?_) ?_
        ·go_simp
         refine hK.out _ _ ?_ (fun hHeld => ?_)
         ·first | exact HS.out _ drew_below | exact HS.out _ HB4.out | exact HS.out _ (HB4.out.alloc (Nat.le_of_lt_succ (Nat.lt_succ_of_le HB4.out.size)) _) | exact ⟨HMF.out.r0, field_in D2.out HMF.out.base⟩
         clear hK K
         refine rdy1 11 (fun K hK => ?_)
         go_simp
         refine hK.out _ _ ?_ (fun hHeld => ?_)
         ·first | exact HS.out _ drew_below | exact HS.out _ HB4.out | exact HS.out _ (HB4.out.alloc (Nat.le_of_lt_succ (Nat.lt_succ_of_le HB4.out.size)) _) | exact ⟨HMF.out.r0, field_in D2.out HMF.out.base⟩
         clear hK K
         refine rdy1 20 (fun K hK => ?_)
         refine step_pushL (by rfl) _ _ 36 (by rfl) 0 72 i0 _ 2 32 Tryz.underlying36 hi hz0 hz1 hz2 rfl (by decide) (.slice A3 _ cp3) _ _ (by rfl) HO4.out #[.string a, .string b] (by rfl) (by intro x hx; simp at hx; rcases hx with rfl | rfl <;> rfl) (by rfl) (by have := HB3.out.reps; unfold maxLen; omega) (by have := HB3.out.reps; omega) (Nat.zero_le _) ?_
         intro gg cc w9 hown hg9 hloc
         rw [← HV3.out] at hg9 hloc
         obtain ⟨L9, hG9, hM9⟩ := HM4.out.push_reps a b hg9 hloc hown
         have hf9 := HM4.out.file_grown hg9 (HM4.out.ty_reps) (by decide)
         have hr9 := HM4.out.rdr_grown hg9 (HM4.out.ty_reps) (by decide)
         have c9'' : w9.cell? ⟨i.fb, 9, none⟩ = some (.slice A3 S'.fl.reps.length cp3) := by rw [Lib.cell_of_heap hf9]; exact congrArg some HV3.out
         have z9 : w9.frozen? ⟨i.fb, 9, none⟩ = false := Lib.frozen_of_heap hf9 9
         have HMF := Lib.hid hM9
         have HG9 := Lib.hid hG9
         have HS9 : Hid (w9.cell? ⟨i.rb, 0, none⟩ = some (.pointer (some ⟨i.fb, 0, none⟩)) ∧ w9.cell? ⟨g2, o2 + 2, none⟩ = some (.string (fieldAt rw_ 2))) := Lib.hid ⟨by rw [Lib.cell_of_heap hr9]; rfl, field_in D2.out (HM4.out.grown_base hg9 HM4.out.reps.2)⟩
         clear hown hg9 hloc hG9 hM9 hf9 hr9
         refine hK.out _ _ ?_ (fun hHeld => ?_)
         ·exact HS9.out
         clear hK K
         refine tkA 21 (some 47) hHeld ?_; try simp only [put_norm]
         refine tkA 22 (some 48) hHeld ?_; try simp only [put_norm]
         refine tkA 23 (some 49) hHeld ?_; try simp only [put_norm]
         refine rdy1 24 (fun K hK => ?_)
         go_simp
         refine hK.out _ _ ?_ (fun hHeld => ?_)
         ·first | exact HS.out _ drew_below | exact HS.out _ HB4.out | exact HS.out _ (HB4.out.alloc (Nat.le_of_lt_succ (Nat.lt_succ_of_le HB4.out.size)) _) | exact ⟨HMF.out.r0, field_in D2.out HMF.out.base⟩
         clear hK K
         refine wpAnyH_done (by kernel_rfl) ?_ _
         go_wp2_with fail
         go_roundw
         case rel => exact ⟨m + 1, _, L9, by omega, by go_num, Lib.hid ⟨HB3.out.pushReps a b, _, HMF.out⟩, Lib.hid ((HGo4.out.trans (Go2.of_below HB4.out)).trans HG9.out), Lib.hid HRe.out.symm⟩
         case measure => simp [intOf]; omega
        exact AllReadyH.nil
       exact AllReadyH.nil
    have q3 : ((rw_.length : Int) == 3) = false := by rw [beq_eq_false_iff_ne]; omega
    have HRe : Hid (R = .error (l, 111)) := Lib.hid (by rw [HGr2.out, if_pos rfl, repR_, if_pos h3])
    clear h3
    go_wp2_with fail
    refine HIn.out.mono ?_
    rintro e w2 ⟨hg, fv2, rfl, hrd, hrm⟩
    have HRM2 := Lib.hid hrm
    have HGo3 := Lib.hid (HGo2.out.trans hg)
    clear hg hrm
    obtain ⟨-, A2, c2, rfl, hc2, -⟩ := hrd
    go_wp2_with fail
    refine (so_must i.rb l _ _ _ (by decide) HRM2.out.r2).mono ?_
    rintro e w' ⟨⟨hx, -⟩ | ⟨-, rfl⟩, rfl⟩
    ·exact absurd hx (by simp)
    exact ⟨rfl, L', HGo3.out, by rw [HRe.out]⟩
   simp only [List.length_singleton, if_neg hh] at HIn
   have HRe : Hid (R = .error (l, 116)) := Lib.hid (by rw [HGr2.out, if_neg (by simpa using hh)])
   clear hh
   go_wp2_with fail
   refine HIn.out.mono ?_
   rintro e w2 ⟨hg, rfl⟩
   exact ⟨rfl, L', HGo2.out.trans hg, by rw [HRe.out]⟩
  obtain rfl : m = n := by omega
  have HRe : Hid (R = .ok S') := Lib.hid (by rw [← HGr.out, Nat.sub_self, groupR])
  go_wp2_with fail
  go_end0
  exact ⟨L', HGo.out, by rw [HRe.out]; exact ⟨rfl, HRM.out.1.mono, HRM.out.2⟩⟩
 rw [if_pos (by rw [hq]; decide)] at HN ⊢
 clear hq
 go_enter Tryz.func72, Tryz.ntmps72
 go_wp2_with fail
 refine HN.out.mono ?_
 rintro e w' ⟨hb, rfl⟩
 exact ⟨rfl, L, Go2.of_below hb, rfl⟩
end Go.Proofs.YtkdajhmlhjkcdaaGreatDoor
namespace Go.Proofs.YtkdajhmlhjkcdaaGreatDoor
open Go.RowKit Go.Maps
theorem Bd.pushAls {kh k : Nat} {S : Sx} (h : Bd (kh + 1) (k + 1) S) (a : List Int) (h1 : canon a = a) (h2 : ∀ x ∈ a, 0 ≤ x ∧ x ≤ 65535) : Bd kh k { S with fl := { S.fl with als := S.fl.als ++ [a] } } :=
 ⟨h.row, by have := h.heads; show S.heads.length + S.rows.length + kh ≤ 65536; omega, h.headS, by have := h.reps; show S.fl.reps.length + S.rows.length + k ≤ 65536; omega,
  by have := h.als; show (S.fl.als ++ [a]).length + S.rows.length + k ≤ 65536; rw [List.length_append]; show S.fl.als.length + 1 + S.rows.length + k ≤ 65536; omega, by have := h.cls; show S.fl.cls.length + S.rows.length + k ≤ 65536; omega, by have := h.rls; show S.fl.rls.length + S.rows.length + k ≤ 65536; omega, h.flags,
  fun b hb => by
   rcases List.mem_append.1 hb with hb | hb
   ·exact h.sets b hb
   ·simp at hb; subst hb; exact ⟨h1, h2⟩, h.nexts, h.kind, h.sp, h.line⟩
theorem alias_info : (Tryz.prog.info? 44).map (fun i => (i.zero, i.size, i.bytes)) = some (some (.slice none 0 0), 1, 24) := by kernel_rfl
theorem readF_canon (kind : Int) (l : List UInt8) : canon (readF kind l).1 = (readF kind l).1 := by
 unfold readF
 split
 ·exact canon_nil
 split
 ·exact canon_nil
 split
 ·exact canon_nil
 split
 ·exact canon_nil
 exact canon_idem _
set_option maxHeartbeats 8000000 in
set_option maxRecDepth 100000 in
theorem so_aliases (w0 : World) (L : List Nat) (i : Ids) (E : Int) (kh k : Nat) (S : Sx) (fv : Value) (row : List ByteArray) (m0 : Int) (w : World) (h : RM w0 w L i E kh (k + 1) S) (hr : RowF1 w0 fv row) (hl : row.length = 2) (hm0 : w0.cell? ⟨0, 0, none⟩ = some (.int .i64 m0)) :
  Calls Tryz.prog 73 #[.pointer (some ⟨i.rb, 0, none⟩), fv] w (HeadP w0 L i E kh k (aliasG E S (fieldAt row 1)) w) := by
 obtain ⟨i0, hi, hz0, hz1, hz2⟩ := info_parts alias_info
 have hsz := fieldAt_le hr.each 1
 obtain ⟨g, o, c, rfl, hc, hcells⟩ := hr.cells (by omega)
 have d1 := field_in (hcells 1 (by omega)) h.base
 have HN : Hid (∀ x, Calls Tryz.prog 105 #[.pointer (some ⟨i.rb, 0, none⟩), .string (fieldAt row 1), .int .i64 1024] (w.drewN x) (OutW S.line (w.drewN x) (Value.int .i64) (numR_ (fieldAt row 1) 1024))) := Lib.hid (fun x => so_rdNumber i.rb S.line (fieldAt row 1) 1024 (w.drewN x) (by unfold maxLen; omega) (by decide) (by decide) (h.below (drewN_below x)).r2)
 have HM := Lib.hid h
 have HM0 := Lib.hid hm0
 rw [hl] at hc ⊢
 clear hcells hr hm0
 obtain ⟨hbd, v0, hm⟩ := h
 have hc4 := hm.r4
 have hcl : S.heads.count kPFX ≤ S.heads.length := List.count_le_length
 have hcl2 : S.heads.count kSFX ≤ S.heads.length := List.count_le_length
 have hhd := hbd.heads
 have hl1 := fun x => (hm.below (drewN_below (w := w) x)).seen.look kPFX (by decide)
 have hl2 := fun x => (hm.below (drewN_below (w := w) x)).seen.look kSFX (by decide)
 have HMq : Hid (∀ x, Calls Tryz.prog 39 #[.pointer (some ⟨i.rb, 0, none⟩), .bool true, .int .i64 113] (w.drewN x) fun e w' => e = .returned (.tuple #[]) ∧ ∃ n, w' = w.drewN n) := Lib.hid (fun x => (so_must i.rb S.line true 113 (w.drewN x) (by decide) (hm.below (drewN_below x)).r2).mono (by
  rintro e w' ⟨⟨-, rfl⟩ | ⟨hx, -⟩, rfl⟩
  ·exact ⟨rfl, x, rfl⟩
  cases hx))
 obtain ⟨q1, hq1⟩ : ∃ q, S.heads.count kPFX = q := ⟨_, rfl⟩
 obtain ⟨q2, hq2⟩ : ∃ q, S.heads.count kSFX = q := ⟨_, rfl⟩
 rw [hq1] at hl1 hcl
 rw [hq2] at hl2 hcl2
 have HS0 : Hid (∀ W, Below w.heap.size w W → W.cell? ⟨i.rb, 4, none⟩ = some (.map (some i.sb))) := Lib.hid (fun W hW => (hm.below hW).r4)
 have HHn : Hid (¬ (S.heads.contains kPFX = true ∨ S.heads.contains kSFX = true) ↔ (q1 = 0 ∧ q2 = 0)) := Lib.hid (by
  rw [← hq1, ← hq2, List.count_eq_zero, List.count_eq_zero]; simp)
 clear hm hbd hq1 hq2
 unfold aliasG
 have hwr : IntKind.i64.wrap ((q1 : Int) + (q2 : Int)) = (q1 : Int) + (q2 : Int) := by rw [IntKind.wrap_i64]; omega
 by_cases h0 : q1 = 0 ∧ q2 = 0
 ·rw [if_neg (HHn.out.2 h0)]
  obtain ⟨rfl, rfl⟩ := h0
  clear hcl hcl2 hhd
  rcases numErr_13 (fieldAt row 1).data.toList 1024 with hq | hq
  ·rw [if_neg (by simpa using hq)]
   obtain ⟨b0, b1⟩ := numVal_bd (fieldAt row 1).data.toList 1024 (by decide)
   obtain ⟨n, hn⟩ : ∃ n : Nat, numVal (fieldAt row 1).data.toList 1024 = n := ⟨_, (Int.toNat_of_nonneg b0).symm⟩
   have HNR : Hid (numR_ (fieldAt row 1) 1024 = .ok (n : Int)) := Lib.hid (by unfold numR_; rw [if_neg (by simpa using hq), hn])
   rw [hn] at b0 b1 ⊢
   rw [Int.toNat_natCast]
   obtain ⟨R, hR⟩ : ∃ R, groupR E (fun r => decide (r.take 1 = [kAF])) aliasR n S = R := ⟨_, rfl⟩
   rw [hR]
   have HR := Lib.hid hR
   clear hR hq hn b0
   have hn2 : (n : Int) ≤ 1024 := b1
   clear b1
   go_enter Tryz.func73, Tryz.ntmps73
   go_wp2_with fail
   go_quiet (first | (go_at_call 39; exact HMq.out _))
   clear hl1 hl2 hc4
   go_wp2_with fail
   refine (HN.out _).mono ?_
   rw [HNR.out]
   rintro e w1 ⟨hb', rfl⟩
   have hb : Below w.heap.size w w1 := (drewN_below _).trans hb'
   clear hb'
   have HM1 := Lib.hid (HM.out.below hb)
   have HG1 := Lib.hid (Go2.of_below (L := L) hb)
   clear hb
   go_wp2_with fail
   go_loopw [4, 5, 6, 26] (fun _ _ _ x wr => ∃ (m : Nat) (S' : Sx) (L' : List Nat), m ≤ n ∧ x = .int .i64 m ∧ Hid (RM w0 wr L' i E kh (k + 1) S') ∧ Hid (Go2 L w L' wr) ∧ Hid (groupR E (fun r => decide (r.take 1 = [kAF])) aliasR (n - m) S' = R)) (fun _ _ _ x _ => n - (intOf x).toNat)
   case atStart => exact ⟨0, S, L, Nat.zero_le _, rfl, HM1, HG1, HR⟩
   case round =>
   obtain ⟨m, S', L', hm, rfl, HRM, HGo, HGr⟩ := hrel
   by_cases hlt : m < n
   ·have hnm : n - m = (n - (m + 1)) + 1 := by omega
    have HIn := Lib.hid (so_inner w0 L' i E kh (k + 1) S' (.slice (some ⟨wr.heap.size, 0, none⟩) 1 1) [kAF] (wr.alloc (.cells #[.string kAF] 9)) (HRM.out.below ((Below.refl _ _).alloc (Nat.le_refl _) _))
     (head_rd (fun x hx => by obtain ⟨_, v, hv⟩ := HRM.out; exact (hv.hl x hx).2) kAF) (by decide))
    have HGo2 := Lib.hid (HGo.out.trans (Go2.of_below (L := L') ((Below.refl _ wr).alloc (Nat.le_refl _) (.cells #[.string kAF] 9))))
    rcases hrows : S'.rows with _ | ⟨⟨l, rw_⟩, rest⟩
    ·have HRe : Hid (R = .error (E, 116)) := Lib.hid (by rw [← HGr.out, hnm, groupR, hrows])
     clear hnm
     unfold InnerP at HIn
     rw [hrows] at HIn
     clear hrows
     go_wp2_with fail
     refine HIn.out.mono ?_
     rintro e w2 ⟨hg, rfl⟩
     exact ⟨rfl, L', HGo2.out.trans hg, by rw [HRe.out]⟩
    have HBd2 := Lib.hid HRM.out.1
    have HRW : Hid (∀ fv, Rd w0 1 fv rw_.length (strV rw_) → RowF1 w0 fv rw_) := Lib.hid (fun fv h => rowF1_of HBd2.out hrows h)
    have HFs : Hid (∀ j, (fieldAt rw_ j).size ≤ 1048576) := Lib.hid (fun j => Nat.le_trans (fieldAt_le (HBd2.out.row (l, rw_) (by rw [hrows]; simp)).2.2.1 j) (by decide))
    have hrl : rw_.length ≤ 65536 := (HBd2.out.row (l, rw_) (by rw [hrows]; simp)).2.1
    have HGr2 : Hid (R = if decide (rw_.take 1 = [kAF]) = true then (match aliasR S'.fl l rw_ with
     | .error c => .error (l, c)
     | .ok F => groupR E (fun r => decide (r.take 1 = [kAF])) aliasR (n - (m + 1)) { fl := F, rows := rest, heads := S'.heads, line := l }) else .error (l, 116)) := Lib.hid (by rw [← HGr.out, hnm, groupR, hrows]; rfl)
    clear hnm
    unfold InnerP at HIn
    rw [hrows] at HIn
    dsimp only at HIn
    clear hrows
    by_cases hh : rw_.take 1 = [kAF]
    ·simp only [List.length_singleton, if_pos hh] at HIn
     rw [decide_eq_true hh] at HGr2
     clear hh
     by_cases h3 : rw_.length = 2
     ·have q3 : ((rw_.length : Int) == 2) = true := by rw [h3]; rfl
      have hcan := readF_canon S'.fl.kind (fieldAt rw_ 1).data.toList
      have hrb := readF_bd S'.fl.kind (fieldAt rw_ 1).data.toList
      have hAR : aliasR S'.fl l rw_ = if (readF S'.fl.kind (fieldAt rw_ 1).data.toList).2 ≠ 0 then .error (readF S'.fl.kind (fieldAt rw_ 1).data.toList).2 else .ok { S'.fl with als := S'.fl.als ++ [(readF S'.fl.kind (fieldAt rw_ 1).data.toList).1] } := by rw [aliasR, if_neg (by simp [h3])]
      obtain ⟨⟨az, e0⟩, hre⟩ : ∃ r, readF S'.fl.kind (fieldAt rw_ 1).data.toList = r := ⟨_, rfl⟩
      rw [hre] at hcan hrb hAR
      dsimp only at hcan hrb hAR
      have HP1 := Lib.hid hre
      have HAR := Lib.hid hAR
      have HCa := Lib.hid (⟨hcan, hrb⟩ : canon az = az ∧ ∀ x ∈ az, 0 ≤ x ∧ x ≤ 65535)
      clear hre hAR hcan hrb
      by_cases he0 : e0 = 0
      ·subst he0
       have HRe : Hid (R = groupR E (fun r => decide (r.take 1 = [kAF])) aliasR (n - (m + 1)) { fl := { S'.fl with als := S'.fl.als ++ [az] }, rows := rest, heads := S'.heads, line := l }) := Lib.hid (by rw [HGr2.out, if_pos rfl, HAR.out, if_neg (by simp)])
       go_wp2_with fail
       refine HIn.out.mono ?_
       rintro e w2 ⟨hg, fv2, rfl, hrd, hrm⟩
       have HRM2 := Lib.hid hrm
       have HGo3 := Lib.hid (HGo2.out.trans hg)
       clear hg hrm
       obtain ⟨g2, o2, c2, rfl, hc2, hcells2⟩ := (HRW.out _ hrd).cells (by omega)
       have D2 := Lib.hid (hcells2 1 (by omega))
       have hc3 : 2 ≤ c2 := by omega
       clear hcells2 hrd
       obtain ⟨hbd2, v2, hm2⟩ := HRM2.out
       have HM2 := Lib.hid hm2
       have HS : Hid (∀ W, Below w2.heap.size w2 W → W.cell? ⟨i.rb, 0, none⟩ = some (.pointer (some ⟨i.fb, 0, none⟩)) ∧ W.cell? ⟨i.fb, 0, none⟩ = some (.int .i64 S'.fl.kind) ∧ W.cell? ⟨g2, o2 + 1, none⟩ = some (.string (fieldAt rw_ 1))) := Lib.hid (fun W hW => ⟨(HM2.out.below hW).r0, (HM2.out.below hW).f0, field_in D2.out (HM2.out.below hW).base⟩)
       have HRd := Lib.hid (so_Read S'.fl.kind (fieldAt rw_ 1) m0 w2.drew (Nat.le_trans (HFs.out 1) (by decide)) ((HM2.out.base.cell (World.block_lt_of_cell? w0 _ HM0.out)).trans HM0.out))
       rw [HP1.out] at HRd
       clear hbd2 hm2
       go_wp2_with fail
       refine (so_must i.rb l _ _ _ (by decide) HRM2.out.r2).mono ?_
       rintro e w' ⟨⟨-, rfl⟩ | ⟨hx, -⟩, rfl⟩
       rotate_left
       ·exact absurd hx (by simp)
       go_wp2_with fail
       refine wp_region_held_drew (S := fun W' => W'.cell? ⟨i.rb, 0, none⟩ = some (.pointer (some ⟨i.fb, 0, none⟩)) ∧ W'.cell? ⟨i.fb, 0, none⟩ = some (.int .i64 S'.fl.kind) ∧ W'.cell? ⟨g2, o2 + 1, none⟩ = some (.string (fieldAt rw_ 1))) (by kernel_rfl) ?_ (fun hHeld => ?_)
       ·exact HS.out _ drew_below
       refine tkA 0 (some 37) hHeld ?_; try simp only [put_norm]
       refine tkA 1 (some 38) hHeld ?_; try simp only [put_norm]
       refine tkA 2 (some 39) hHeld ?_; try simp only [put_norm]
       refine tkA 3 (some 40) hHeld ?_; try simp only [put_norm]
       refine tkA 4 (some 41) hHeld ?_; try simp only [put_norm]
       refine tkA 5 (some 42) hHeld ?_; try simp only [put_norm]
       refine tkA 6 (some 43) hHeld ?_; try simp only [put_norm]
       refine tkA 7 (some 44) hHeld ?_; try simp only [put_norm]
       refine tkA 8 (some 45) hHeld ?_; try simp only [put_norm]
       refine tkA 9 (some 46) hHeld ?_; try simp only [put_norm]
       refine tkA 10 (some 47) hHeld ?_; try simp only [put_norm]
       refine rdy1 11 (fun K hK => ?_)
       go_simp
       refine HRd.out.mono ?_
       rintro e w3 ⟨u, rfl, hfn, hb⟩
       have HB3 : Hid (Below w2.heap.size w2 w3) := Lib.hid (drew_below.trans hb)
       have HFO := Lib.hid (FO.of_fn (L := L') (w := w2.drew) hfn (fun x hx => (HM2.out.hl x hx).2))
       clear hb hfn
       refine hK.out _ _ ?_ (fun hHeld => ?_)
       ·exact HS.out _ HB3.out
       clear hK K
       refine tkA 12 (some 36) hHeld ?_; try simp only [put_norm]
       refine tkA 13 (some 49) hHeld ?_; try simp only [put_norm]
       refine tkA 14 (some 50) hHeld ?_; try simp only [put_norm]
       refine tkA 15 (some 5) hHeld ?_; try simp only [put_norm]
       refine tkA 16 (some 6) hHeld ?_; try simp only [put_norm]
       refine wpAnyH_done (by kernel_rfl) ?_ _
       have HRM3 := Lib.hid (HRM2.out.below HB3.out)
       have HGo4 := Lib.hid (HGo3.out.trans (Go2.of_below (L := L') HB3.out))
       go_wp2_with fail
       refine (so_need i.rb l _ _ HRM3.out.r2).mono ?_
       rintro e w' ⟨⟨-, rfl⟩ | ⟨hx, -⟩, rfl⟩
       rotate_left
       ·exact absurd hx (by decide)
       obtain ⟨hbd3, v3, hm3⟩ := HRM3.out
       obtain ⟨us3, ho3, hul3, hua3⟩ := hm3.als
       obtain ⟨A3, cp3, hv3⟩ := own_slice ho3.1
       have c0 := hm3.r0
       have c9 := hm3.f10
       rw [hv3] at c9
       have HO3 := Lib.hid ho3.1
       rw [hv3] at HO3
       have hfl3 := (hm3.hl _ hm3.fbL).2
       have HM3 := Lib.hid hm3
       have HV3 := Lib.hid hv3
       have HB3' := Lib.hid hbd3
       have hal3 : S'.fl.als.length ≤ 65536 := by have h : S'.fl.als.length + rest.length + _ ≤ 65536 := hbd3.als; omega
       have HSs : Hid (∀ W, Below w3.heap.size w3 W → W.cell? ⟨i.rb, 0, none⟩ = some (.pointer (some ⟨i.fb, 0, none⟩))) := Lib.hid (fun W hW => (HM3.out.below hW).r0)
       obtain ⟨pu, cu, rfl⟩ : ∃ p c, u = .slice p az.length c := by
        obtain ⟨p, c, h1, -⟩ := HFO.out
        exact ⟨p, c, h1⟩
       clear hm3 hbd3 hv3 ho3 hul3 hua3
       go_wp2_with fail
       refine wp_region_held_drew (S := fun W' => W'.cell? ⟨i.rb, 0, none⟩ = some (.pointer (some ⟨i.fb, 0, none⟩))) (by kernel_rfl) ?_ (fun hHeld => ?_)
       ·exact HSs.out _ drew_below
       refine tkA 0 (some 54) hHeld ?_; try simp only [put_norm]
       refine tkA 1 (some 55) hHeld ?_; try simp only [put_norm]
       refine tkA 2 (some 56) hHeld ?_; try simp only [put_norm]
       refine tkA 3 (some 57) hHeld ?_; try simp only [put_norm]
       refine tkA 4 (some 58) hHeld ?_; try simp only [put_norm]
       refine tkA 5 (some 59) hHeld ?_; try simp only [put_norm]
       refine tkA 6 (some 60) hHeld ?_; try simp only [put_norm]
       refine tkA 7 (some 61) hHeld ?_; try simp only [put_norm]
       refine tkA 8 (some 62) hHeld ?_; try simp only [put_norm]
       refine tkA 9 (some 63) hHeld ?_; try simp only [put_norm]
       refine tkA 10 (some 64) hHeld ?_; try simp only [put_norm]
       refine tkA 12 (some 66) hHeld ?_; try simp only [put_norm]
       refine wpAnyH_ready (rs := [11, 13]) (by kernel_rfl) (by simp) ?_
       refine AllReadyH.cons rfl (fun K hK => ?_) ?_
       ·go_simp
        refine hK.out _ _ ?_ (fun hHeld => ?_)
        ·first | exact HSs.out _ drew_below | exact HSs.out _ (drew_below.alloc (Nat.le_refl _) _) | exact HMF.out.r0
        clear hK K
        refine rdy1 13 (fun K hK => ?_)
        go_simp
        refine hK.out _ _ ?_ (fun hHeld => ?_)
        ·first | exact HSs.out _ drew_below | exact HSs.out _ (drew_below.alloc (Nat.le_refl _) _) | exact HMF.out.r0
        clear hK K
        refine rdy1 14 (fun K hK => ?_)
        refine step_pushL (w := w3.drew) (by rfl) _ _ 37 (by rfl) 0 44 i0 _ 1 24 Tryz.underlying37 hi hz0 hz1 hz2 rfl (by decide) (.slice A3 S'.fl.als.length cp3) S'.fl.als.length us3 (by rfl) HO3.out #[.slice pu az.length cu] (by rfl) (by intro x hx; simp at hx; subst hx; rfl) (by rfl) (by unfold maxLen; omega) (by omega) (Nat.zero_le _) ?_
        intro gg cc w9 hown hg9 hloc
        rw [← HV3.out] at hg9 hloc
        obtain ⟨L9, hG9, hM9⟩ := (HM3.out.below drew_below).push_als (.slice pu az.length cu) az (HFO.out.keep (Go2.of_below drew_below)) hg9 hloc (fun us hus => by have e1 := own_uniq HO3.out (show w3.ownsRow 0 44 1 (.slice A3 S'.fl.als.length cp3) S'.fl.als.length us by rw [← HV3.out]; exact hus); subst e1; exact hown)
        have hf9 := (HM3.out.below (drew_below (w := w3))).file_grown hg9 ((HM3.out.below (drew_below (w := w3))).ty_als) (by decide)
        have hr9 := (HM3.out.below (drew_below (w := w3))).rdr_grown hg9 ((HM3.out.below (drew_below (w := w3))).ty_als) (by decide)
        have c9'' : w9.cell? ⟨i.fb, 10, none⟩ = some (.slice A3 S'.fl.als.length cp3) := by rw [Lib.cell_of_heap hf9]; exact congrArg some HV3.out
        have z9 : w9.frozen? ⟨i.fb, 10, none⟩ = false := Lib.frozen_of_heap hf9 10
        have HMF := Lib.hid hM9
        have HG9 := Lib.hid hG9
        have HS9 : Hid (w9.cell? ⟨i.rb, 0, none⟩ = some (.pointer (some ⟨i.fb, 0, none⟩))) := Lib.hid (by rw [Lib.cell_of_heap hr9]; rfl)
        clear hown hg9 hloc hG9 hM9 hf9 hr9
        refine hK.out _ _ ?_ (fun hHeld => ?_)
        ·exact HS9.out
        clear hK K
        refine tkA 15 (some 69) hHeld ?_; try simp only [put_norm]
        refine tkA 16 (some 70) hHeld ?_; try simp only [put_norm]
        refine tkA 17 (some 71) hHeld ?_; try simp only [put_norm]
        refine rdy1 18 (fun K hK => ?_)
        go_simp
        refine hK.out _ _ ?_ (fun hHeld => ?_)
        ·first | exact HSs.out _ drew_below | exact HSs.out _ (drew_below.alloc (Nat.le_refl _) _) | exact HMF.out.r0
        clear hK K
        refine wpAnyH_done (by kernel_rfl) ?_ _
        go_wp2_with fail
        go_roundw
        case rel => exact ⟨m + 1, _, L9, by omega, by go_num, Lib.hid ⟨HB3'.out.pushAls az HCa.out.1 HCa.out.2, _, HMF.out⟩, Lib.hid ((HGo4.out.trans (Go2.of_below drew_below)).trans HG9.out), Lib.hid HRe.out.symm⟩
        case measure => simp [intOf]; omega
       refine AllReadyH.cons rfl (fun K hK => ?_) ?_
       ·go_simp
        refine hK.out _ _ ?_ (fun hHeld => ?_)
        ·first | exact HSs.out _ drew_below | exact HSs.out _ (drew_below.alloc (Nat.le_refl _) _) | exact HMF.out.r0
        clear hK K
        refine rdy1 11 (fun K hK => ?_)
        go_simp
        refine hK.out _ _ ?_ (fun hHeld => ?_)
        ·first | exact HSs.out _ drew_below | exact HSs.out _ (drew_below.alloc (Nat.le_refl _) _) | exact HMF.out.r0
        clear hK K
        refine rdy1 14 (fun K hK => ?_)
        refine step_pushL (w := w3.drew) (by rfl) _ _ 37 (by rfl) 0 44 i0 _ 1 24 Tryz.underlying37 hi hz0 hz1 hz2 rfl (by decide) (.slice A3 S'.fl.als.length cp3) S'.fl.als.length us3 (by rfl) HO3.out #[.slice pu az.length cu] (by rfl) (by intro x hx; simp at hx; subst hx; rfl) (by rfl) (by unfold maxLen; omega) (by omega) (Nat.zero_le _) ?_
        intro gg cc w9 hown hg9 hloc
        rw [← HV3.out] at hg9 hloc
        obtain ⟨L9, hG9, hM9⟩ := (HM3.out.below drew_below).push_als (.slice pu az.length cu) az (HFO.out.keep (Go2.of_below drew_below)) hg9 hloc (fun us hus => by have e1 := own_uniq HO3.out (show w3.ownsRow 0 44 1 (.slice A3 S'.fl.als.length cp3) S'.fl.als.length us by rw [← HV3.out]; exact hus); subst e1; exact hown)
        have hf9 := (HM3.out.below (drew_below (w := w3))).file_grown hg9 ((HM3.out.below (drew_below (w := w3))).ty_als) (by decide)
        have hr9 := (HM3.out.below (drew_below (w := w3))).rdr_grown hg9 ((HM3.out.below (drew_below (w := w3))).ty_als) (by decide)
        have c9'' : w9.cell? ⟨i.fb, 10, none⟩ = some (.slice A3 S'.fl.als.length cp3) := by rw [Lib.cell_of_heap hf9]; exact congrArg some HV3.out
        have z9 : w9.frozen? ⟨i.fb, 10, none⟩ = false := Lib.frozen_of_heap hf9 10
        have HMF := Lib.hid hM9
        have HG9 := Lib.hid hG9
        have HS9 : Hid (w9.cell? ⟨i.rb, 0, none⟩ = some (.pointer (some ⟨i.fb, 0, none⟩))) := Lib.hid (by rw [Lib.cell_of_heap hr9]; rfl)
        clear hown hg9 hloc hG9 hM9 hf9 hr9
        refine hK.out _ _ ?_ (fun hHeld => ?_)
        ·exact HS9.out
        clear hK K
        refine tkA 15 (some 69) hHeld ?_; try simp only [put_norm]
        refine tkA 16 (some 70) hHeld ?_; try simp only [put_norm]
        refine tkA 17 (some 71) hHeld ?_; try simp only [put_norm]
        refine rdy1 18 (fun K hK => ?_)
        go_simp
        refine hK.out _ _ ?_ (fun hHeld => ?_)
        ·first | exact HSs.out _ drew_below | exact HSs.out _ (drew_below.alloc (Nat.le_refl _) _) | exact HMF.out.r0
        clear hK K
        refine wpAnyH_done (by kernel_rfl) ?_ _
        go_wp2_with fail
        go_roundw
        case rel => exact ⟨m + 1, _, L9, by omega, by go_num, Lib.hid ⟨HB3'.out.pushAls az HCa.out.1 HCa.out.2, _, HMF.out⟩, Lib.hid ((HGo4.out.trans (Go2.of_below drew_below)).trans HG9.out), Lib.hid HRe.out.symm⟩
        case measure => simp [intOf]; omega
       exact AllReadyH.nil
      have HRe : Hid (R = .error (l, e0)) := Lib.hid (by rw [HGr2.out, if_pos rfl, HAR.out, if_pos he0])
      have HE0 : Hid ((e0 == 0) = false) := Lib.hid (by simpa using he0)
      clear he0
      go_wp2_with fail
      refine HIn.out.mono ?_
      rintro e w2 ⟨hg, fv2, rfl, hrd, hrm⟩
      have HRM2 := Lib.hid hrm
      have HGo3 := Lib.hid (HGo2.out.trans hg)
      clear hg hrm
      obtain ⟨g2, o2, c2, rfl, hc2, hcells2⟩ := (HRW.out _ hrd).cells (by omega)
      have D2 := Lib.hid (hcells2 1 (by omega))
      have hc3 : 2 ≤ c2 := by omega
      clear hcells2 hrd
      obtain ⟨hbd2, v2, hm2⟩ := HRM2.out
      have HM2 := Lib.hid hm2
      have HS : Hid (∀ W, Below w2.heap.size w2 W → W.cell? ⟨i.rb, 0, none⟩ = some (.pointer (some ⟨i.fb, 0, none⟩)) ∧ W.cell? ⟨i.fb, 0, none⟩ = some (.int .i64 S'.fl.kind) ∧ W.cell? ⟨g2, o2 + 1, none⟩ = some (.string (fieldAt rw_ 1))) := Lib.hid (fun W hW => ⟨(HM2.out.below hW).r0, (HM2.out.below hW).f0, field_in D2.out (HM2.out.below hW).base⟩)
      have HRd := Lib.hid (so_Read S'.fl.kind (fieldAt rw_ 1) m0 w2.drew (Nat.le_trans (HFs.out 1) (by decide)) ((HM2.out.base.cell (World.block_lt_of_cell? w0 _ HM0.out)).trans HM0.out))
      rw [HP1.out] at HRd
      clear hbd2 hm2
      go_wp2_with fail
      refine (so_must i.rb l _ _ _ (by decide) HRM2.out.r2).mono ?_
      rintro e w' ⟨⟨-, rfl⟩ | ⟨hx, -⟩, rfl⟩
      rotate_left
      ·exact absurd hx (by simp)
      go_wp2_with fail
      refine wp_region_held_drew (S := fun W' => W'.cell? ⟨i.rb, 0, none⟩ = some (.pointer (some ⟨i.fb, 0, none⟩)) ∧ W'.cell? ⟨i.fb, 0, none⟩ = some (.int .i64 S'.fl.kind) ∧ W'.cell? ⟨g2, o2 + 1, none⟩ = some (.string (fieldAt rw_ 1))) (by kernel_rfl) ?_ (fun hHeld => ?_)
      ·exact HS.out _ drew_below
      refine tkA 0 (some 37) hHeld ?_; try simp only [put_norm]
      refine tkA 1 (some 38) hHeld ?_; try simp only [put_norm]
      refine tkA 2 (some 39) hHeld ?_; try simp only [put_norm]
      refine tkA 3 (some 40) hHeld ?_; try simp only [put_norm]
      refine tkA 4 (some 41) hHeld ?_; try simp only [put_norm]
      refine tkA 5 (some 42) hHeld ?_; try simp only [put_norm]
      refine tkA 6 (some 43) hHeld ?_; try simp only [put_norm]
      refine tkA 7 (some 44) hHeld ?_; try simp only [put_norm]
      refine tkA 8 (some 45) hHeld ?_; try simp only [put_norm]
      refine tkA 9 (some 46) hHeld ?_; try simp only [put_norm]
      refine tkA 10 (some 47) hHeld ?_; try simp only [put_norm]
      refine rdy1 11 (fun K hK => ?_)
      go_simp
      refine HRd.out.mono ?_
      rintro e w3 ⟨u, rfl, hfn, hb⟩
      have HB3 : Hid (Below w2.heap.size w2 w3) := Lib.hid (drew_below.trans hb)
      have HFO := Lib.hid (FO.of_fn (L := L') (w := w2.drew) hfn (fun x hx => (HM2.out.hl x hx).2))
      clear hb hfn
      refine hK.out _ _ ?_ (fun hHeld => ?_)
      ·exact HS.out _ HB3.out
      clear hK K
      refine tkA 12 (some 36) hHeld ?_; try simp only [put_norm]
      refine tkA 13 (some 49) hHeld ?_; try simp only [put_norm]
      refine tkA 14 (some 50) hHeld ?_; try simp only [put_norm]
      refine tkA 15 (some 5) hHeld ?_; try simp only [put_norm]
      refine tkA 16 (some 6) hHeld ?_; try simp only [put_norm]
      refine wpAnyH_done (by kernel_rfl) ?_ _
      have HRM3 := Lib.hid (HRM2.out.below HB3.out)
      have HGo4 := Lib.hid (HGo3.out.trans (Go2.of_below (L := L') HB3.out))
      go_wp2_with fail
      refine (so_need i.rb l _ _ HRM3.out.r2).mono ?_
      rw [HE0.out]
      rintro e w' ⟨⟨hx, -⟩ | ⟨-, rfl⟩, rfl⟩
      ·cases hx
      exact ⟨rfl, L', HGo4.out, by rw [HRe.out]⟩
     have q3 : ((rw_.length : Int) == 2) = false := by rw [beq_eq_false_iff_ne]; omega
     have HRe : Hid (R = .error (l, 111)) := Lib.hid (by rw [HGr2.out, if_pos rfl, aliasR, if_pos h3])
     clear h3
     go_wp2_with fail
     refine HIn.out.mono ?_
     rintro e w2 ⟨hg, fv2, rfl, hrd, hrm⟩
     have HRM2 := Lib.hid hrm
     have HGo3 := Lib.hid (HGo2.out.trans hg)
     clear hg hrm
     obtain ⟨-, A2, c2, rfl, hc2, -⟩ := hrd
     go_wp2_with fail
     refine (so_must i.rb l _ _ _ (by decide) HRM2.out.r2).mono ?_
     rintro e w' ⟨⟨hx, -⟩ | ⟨-, rfl⟩, rfl⟩
     ·exact absurd hx (by simp)
     exact ⟨rfl, L', HGo3.out, by rw [HRe.out]⟩
    simp only [List.length_singleton, if_neg hh] at HIn
    have HRe : Hid (R = .error (l, 116)) := Lib.hid (by rw [HGr2.out, if_neg (by simpa using hh)])
    clear hh
    go_wp2_with fail
    refine HIn.out.mono ?_
    rintro e w2 ⟨hg, rfl⟩
    exact ⟨rfl, L', HGo2.out.trans hg, by rw [HRe.out]⟩
   obtain rfl : m = n := by omega
   have HRe : Hid (R = .ok S') := Lib.hid (by rw [← HGr.out, Nat.sub_self, groupR])
   go_wp2_with fail
   go_end0
   exact ⟨L', HGo.out, by rw [HRe.out]; exact ⟨rfl, HRM.out.1.mono, HRM.out.2⟩⟩
  rw [if_pos (by rw [hq]; decide)]
  have HNR : Hid (numR_ (fieldAt row 1) 1024 = .error 13) := Lib.hid (by unfold numR_; rw [if_pos (by rw [hq]; decide)])
  clear hq
  go_enter Tryz.func73, Tryz.ntmps73
  go_wp2_with fail
  go_quiet (first | (go_at_call 39; exact HMq.out _))
  clear hl1 hl2 hc4
  go_wp2_with fail
  refine (HN.out _).mono ?_
  rw [HNR.out]
  rintro e w1 ⟨hb', rfl⟩
  have hb : Below w.heap.size w w1 := (drewN_below _).trans hb'
  clear hb'
  exact ⟨rfl, L, Go2.of_below hb, rfl⟩
 rw [if_pos (Classical.not_not.1 (fun h => h0 (HHn.out.1 h)))]
 have hne : (((q1 : Int) + (q2 : Int)) == 0) = false := by rw [beq_eq_false_iff_ne]; omega
 clear h0
 have hl1' : (Instr.lookup 93 (.map (some i.sb)) (.string kPFX) false).run Tryz.prog w.drew = .ok (.int .i64 (q1 : Int)) w.drew := hl1 1
 have hl2' : (Instr.lookup 93 (.map (some i.sb)) (.string kSFX) false).run Tryz.prog w.drew = .ok (.int .i64 (q2 : Int)) w.drew := hl2 1
 clear hl1 hl2
 go_enter Tryz.func73, Tryz.ntmps73
 go_wp2_with fail
 refine wp_region_held_drew (S := fun W' => W'.cell? ⟨i.rb, 4, none⟩ = some (.map (some i.sb))) (by kernel_rfl) ?_ (fun hHeld => ?_)
 ·exact HS0.out _ drew_below
 refine tkA 0 (some 7) hHeld ?_; try simp only [put_norm]
 refine tkA 1 (some 8) hHeld ?_; try simp only [put_norm]
 refine tkA 2 (some 9) hHeld ?_; try simp only [put_norm]
 refine tkA 3 (some 10) hHeld ?_; try simp only [put_norm]
 refine tkA 4 (some 11) hHeld ?_; try simp only [put_norm]
 refine tkA 6 (some 13) hHeld ?_; try simp only [put_norm]
 refine tkA 7 (some 14) hHeld ?_; try simp only [put_norm]
 refine tkA 8 (some 15) hHeld ?_; try simp only [put_norm]
 refine tkA 9 (some 16) hHeld ?_; try simp only [put_norm]
 refine wpAnyH_ready (rs := [5, 10]) (by kernel_rfl) (by simp) ?_
 refine AllReadyH.cons rfl (fun K hK => ?_) ?_
 ·go_simp
  refine hK.out _ _ ?_ (fun hHeld => ?_)
  ·exact HS0.out _ drew_below
  clear hK K
  refine rdy1 10 (fun K hK => ?_)
  go_simp
  refine hK.out _ _ ?_ (fun hHeld => ?_)
  ·exact HS0.out _ drew_below
  clear hK K
  refine tkA 11 (some 18) hHeld ?_; try simp only [put_norm]
  refine tkA 12 (some 19) hHeld ?_; try simp only [put_norm]
  refine rdy1 13 (fun K hK => ?_)
  go_simp
  refine (so_must i.rb S.line _ _ _ (by decide) (HM.out.below (drew_below (w := w))).r2).mono ?_
  rintro e w' ⟨⟨hx, -⟩ | ⟨-, rfl⟩, rfl⟩
  ·exact absurd hx (by simp)
  exact ⟨rfl, L, Go2.of_below drew_below, rfl⟩
 refine AllReadyH.cons rfl (fun K hK => ?_) ?_
 ·go_simp
  refine hK.out _ _ ?_ (fun hHeld => ?_)
  ·exact HS0.out _ drew_below
  clear hK K
  refine rdy1 5 (fun K hK => ?_)
  go_simp
  refine hK.out _ _ ?_ (fun hHeld => ?_)
  ·exact HS0.out _ drew_below
  clear hK K
  refine tkA 11 (some 18) hHeld ?_; try simp only [put_norm]
  refine tkA 12 (some 19) hHeld ?_; try simp only [put_norm]
  refine rdy1 13 (fun K hK => ?_)
  go_simp
  refine (so_must i.rb S.line _ _ _ (by decide) (HM.out.below (drew_below (w := w))).r2).mono ?_
  rintro e w' ⟨⟨hx, -⟩ | ⟨-, rfl⟩, rfl⟩
  ·exact absurd hx (by simp)
  exact ⟨rfl, L, Go2.of_below drew_below, rfl⟩
 exact AllReadyH.nil
end Go.Proofs.YtkdajhmlhjkcdaaGreatDoor
namespace Go.Proofs.YtkdajhmlhjkcdaaGreatDoor
open Go.RowKit Go.Maps
structure FileF (w : World) (fb : Nat) (kind : Int) (av : Value) (us : List Value) (al : List (List Int)) : Prop where
 kind : w.cell? ⟨fb, 0, none⟩ = some (.int .i64 kind)
 als : w.cell? ⟨fb, 10, none⟩ = some av
 row : Rd w 1 av al.length us
 sets : ∀ (k : Nat) u a, us[k]? = some u → al[k]? = some a → FS w u a
 canons : ∀ a ∈ al, canon a = a ∧ a.length ≤ 65536
def FlgP (r : List Int × Int) (w : World) (e : Ending) (w' : World) : Prop := ∃ v, e = .returned (.tuple #[v, .int .i64 r.2]) ∧ FN w.heap.size w' v r.1 ∧ Below w.heap.size w w'
def flagsA (kind : Int) (al : List (List Int)) (s : List UInt8) : List Int × Int :=
 if al.length = 0 then readF kind s else if numErr s al.length ≠ 0 ∨ numVal s al.length = 0 then ([], 13) else (al.getD (numVal s al.length - 1).toNat [], 0)
theorem flagsR_eq (F : Fl) (s : ByteArray) : flagsR F s = flagsA F.kind F.als s.data.toList := rfl
set_option maxHeartbeats 1000000 in
set_option maxRecDepth 100000 in
theorem so_fileFlags (fb : Nat) (kind m0 : Int) (av : Value) (us : List Value) (al : List (List Int)) (s : ByteArray) (w : World) (h : FileF w fb kind av us al) (hn : al.length ≤ 65536) (hs : s.size ≤ 4194304) (hm : w.cell? ⟨0, 0, none⟩ = some (.int .i64 m0)) :
  Calls Tryz.prog 21 #[.pointer (some ⟨fb, 0, none⟩), .string s] w (FlgP (flagsA kind al s.data.toList) w) := by
 have hk := h.kind
 have ha := h.als
 obtain ⟨h1, A, cp, rfl, hcap, hcells⟩ := h.row
 have HC := Lib.hid hcells
 have HF := Lib.hid h
 have HL := Lib.hid h1
 clear hcells h h1
 by_cases h0 : al.length = 0
 ·have e0 : ((al.length : Int) == 0) = true := by rw [h0]; rfl
  have HR := Lib.hid (so_Read kind s m0 w hs hm)
  have HX : Hid (flagsA kind al s.data.toList = readF kind s.data.toList) := Lib.hid (by rw [flagsA, if_pos h0])
  clear h0 hm
  go_enter Tryz.func21, Tryz.ntmps21
  go_wp2_with (go_at_call 52; refine HR.out.mono ?_; rintro e w2 ⟨v, rfl, hv, hb⟩; have HV := Lib.hid hv; have HB := Lib.hid hb; clear hv hb)
  refine bodyPost_ret (v := .tuple #[v, .int .i64 (readF kind s.data.toList).2]) (by simp [results, Tryz.results21, go_sem]; try rfl) rfl ?_
  unfold FlgP
  rw [HX.out]
  exact ⟨v, rfl, HV.out, HB.out⟩
 have e0 : ((al.length : Int) == 0) = false := by rw [beq_eq_false_iff_ne]; omega
 have HN := Lib.hid (Number_any s al.length w (by unfold maxLen; omega) (by omega) (by omega))
 obtain ⟨b, off, rfl, hc⟩ := HC.out.resolve_left h0
 have HCl := Lib.hid hc
 obtain ⟨b0, b1⟩ := numVal_bd s.data.toList al.length (by omega)
 clear hc HC hm
 by_cases h13 : numErr s.data.toList al.length ≠ 0 ∨ numVal s.data.toList al.length = 0
 ·have HX : Hid (flagsA kind al s.data.toList = ([], 13)) := Lib.hid (by rw [flagsA, if_neg h0, if_pos h13])
  rcases numErr_13 s.data.toList al.length with h | h
  ·have hv : numVal s.data.toList al.length = 0 := h13.resolve_left (by rw [h]; simp)
   have HN2 : Hid (Calls Tryz.prog 53 #[.string s, .int .i64 (al.length : Int)] w fun e w' => e = .returned (.tuple #[.int .i64 0, .int .i64 0]) ∧ w = w') := Lib.hid (by
    have h2 := HN.out
    unfold NumRet at h2
    rwa [h, hv] at h2)
   clear h hv h13 b0 b1 HN h0
   go_enter Tryz.func21, Tryz.ntmps21
   go_wp2_with (go_at_call 53; refine HN2.out.mono ?_; rintro e w2 ⟨rfl, rfl⟩)
   refine bodyPost_ret (v := .tuple #[.slice none 0 0, .int .i64 13]) (by simp [results, Tryz.results21, go_sem]; try rfl) rfl ?_
   unfold FlgP
   rw [HX.out]
   exact ⟨_, rfl, FN.nil _ _ _ _, Below.refl _ _⟩
  have HN2 : Hid (∃ x, Calls Tryz.prog 53 #[.string s, .int .i64 (al.length : Int)] w fun e w' => e = .returned (.tuple #[.int .i64 x, .int .i64 13]) ∧ w = w') := Lib.hid (by
   have h2 := HN.out
   unfold NumRet at h2
   rw [h] at h2
   exact ⟨_, h2⟩)
  obtain ⟨x, hx⟩ := HN2.out
  have HN3 := Lib.hid hx
  clear h h13 b0 b1 HN HN2 h0 hx
  go_enter Tryz.func21, Tryz.ntmps21
  go_wp2_with (go_at_call 53; refine HN3.out.mono ?_; rintro e w2 ⟨rfl, rfl⟩)
  refine bodyPost_ret (v := .tuple #[.slice none 0 0, .int .i64 13]) (by simp [results, Tryz.results21, go_sem]; try rfl) rfl ?_
  unfold FlgP
  rw [HX.out]
  exact ⟨_, rfl, FN.nil _ _ _ _, Below.refl _ _⟩
 have hE : numErr s.data.toList al.length = 0 := by
  rcases numErr_13 s.data.toList al.length with h | h
  ·exact h
  exact absurd (.inl (by rw [h]; simp)) h13
 have hV : numVal s.data.toList al.length ≠ 0 := fun e => h13 (.inr e)
 obtain ⟨j, hj⟩ : ∃ j : Nat, numVal s.data.toList al.length = (j : Int) + 1 := ⟨(numVal s.data.toList al.length - 1).toNat, by omega⟩
 rw [hj] at b1
 have hjl : j < al.length := by omega
 have HX : Hid (flagsA kind al s.data.toList = (al[j], 0)) := Lib.hid (by
  rw [flagsA, if_neg h0, if_neg h13, hj, show ((j : Int) + 1 - 1).toNat = j by omega]
  simp [List.getD, hjl])
 have HN2 : Hid (Calls Tryz.prog 53 #[.string s, .int .i64 (al.length : Int)] w fun e w' => e = .returned (.tuple #[.int .i64 ((j : Int) + 1), .int .i64 0]) ∧ w = w') := Lib.hid (by
  have h2 := HN.out
  unfold NumRet at h2
  rwa [hE, hj] at h2)
 have hul : us.length = al.length := by have := HL.out; omega
 have hFS := HF.out.sets j us[j] al[j] (List.getElem?_eq_getElem (by omega)) (List.getElem?_eq_getElem hjl)
 have hcan := HF.out.canons al[j] (List.getElem_mem hjl)
 have hcell := HCl.out j us[j] (List.getElem?_eq_getElem (by omega))
 have HO := Lib.hid (so_Of us[j] al[j] w hFS (by omega))
 have HCN := Lib.hid hcan.1
 obtain ⟨p, c, hu, -, -⟩ := hFS
 rw [hu] at hcell HO
 generalize al[j] = a at *
 have hne : ((j : Int) + 1 == 0) = false := by rw [beq_eq_false_iff_ne]; omega
 have hw1 : IntKind.i64.wrap ((j : Int) + 1 - 1) = (j : Int) := by rw [IntKind.wrap_i64]; omega
 have hj0 : (0 : Int) ≤ (j : Int) := by omega
 clear hu hcan hE hV h13 hj b0 b1 HN h0 hul
 go_enter Tryz.func21, Tryz.ntmps21
 go_wp2_with (first | (go_at_call 53; refine HN2.out.mono ?_; rintro e w2 ⟨rfl, rfl⟩) | (go_at_call 54; refine HO.out.mono ?_; rintro e w3 ⟨v, rfl, hv, hb⟩; have HV := Lib.hid hv; have HB := Lib.hid hb; clear hv hb))
 refine bodyPost_ret (v := .tuple #[v, .int .i64 0]) (by simp [results, Tryz.results21, go_sem]; try rfl) rfl ?_
 unfold FlgP
 rw [HX.out]
 exact ⟨v, rfl, by rw [← HCN.out]; exact HV.out, HB.out⟩
end Go.Proofs.YtkdajhmlhjkcdaaGreatDoor
namespace Go.Proofs.YtkdajhmlhjkcdaaGreatDoor
open Go.RowKit
theorem ws_get (X : Ws) (j : Nat) (hj : j < 4) : (#[Value.int .u64 (X 0 : Nat), Value.int .u64 (X 1 : Nat), Value.int .u64 (X 2 : Nat), Value.int .u64 (X 3 : Nat)] : Array Value)[j]? = some (.int .u64 (X j : Nat)) := by
 rcases j with _ | _ | _ | _ | j
 ·rfl
 ·rfl
 ·rfl
 ·rfl
 omega
theorem bit_has (x m : Nat) (hx : x < 18446744073709551616) : (bits .and .u64 ((x : Int) / 2 ^ m) 1 == 1) = x.testBit m := by
 have e : ((x : Int) / 2 ^ m) = ((x / 2 ^ m : Nat) : Int) := by simp
 have hl : x / 2 ^ m < 2 ^ 64 := Nat.lt_of_le_of_lt (Nat.div_le_self _ _) hx
 rw [e, show (1 : Int) = ((1 : Nat) : Int) from rfl, (bits_nat .u64 64 (by decide) wraps_u64 _ _ hl (by decide)).1, Nat.testBit_eq_decide_div_mod_eq, Nat.and_one_is_mod, Bool.eq_iff_iff]
 simp
 omega
theorem bit_put (x m : Nat) (hx : x < 18446744073709551616) (hm : m < 64) : bits .or .u64 (x : Int) ((2 ^ m : Nat) : Int) = ((x ||| 2 ^ m : Nat) : Int) :=
 (bits_nat .u64 64 (by decide) wraps_u64 _ _ hx (Nat.pow_lt_pow_right (by decide) hm)).2
theorem wrap_pow (m : Nat) (hm : m < 64) : IntKind.u64.wrap ((2 : Int) ^ m) = ((2 ^ m : Nat) : Int) := by
 have h1 : 2 ^ m < 2 ^ 64 := Nat.pow_lt_pow_right (by decide) hm
 have h2 : (2 : Int) ^ m = ((2 ^ m : Nat) : Int) := by simp
 rw [h2]
 generalize 2 ^ m = x at h1
 rw [IntKind.wrap_u64]
 omega
theorem bit_not (x : Nat) (hx : x < 18446744073709551616) : bits .xor .u64 IntKind.u64.max (x : Int) = ((18446744073709551615 - x : Nat) : Int) := by
 have e1 : IntKind.u64.max = ((18446744073709551615 : Nat) : Int) := by decide
 have e2 : (BitVec.ofInt 64 ((18446744073709551615 : Nat) : Int) ^^^ BitVec.ofInt 64 (x : Int)).toNat = 18446744073709551615 - x := by
  rw [BitVec.ofInt_natCast, BitVec.ofInt_natCast, show BitVec.ofNat 64 18446744073709551615 = BitVec.allOnes 64 by decide, BitVec.allOnes_xor, BitVec.toNat_not, BitVec.toNat_ofNat]
  omega
 rw [e1]
 show IntKind.u64.wrap (((BitVec.ofInt 64 _ ^^^ BitVec.ofInt 64 _).toNat : Nat) : Int) = _
 rw [e2, IntKind.wrap_u64]
 omega
set_option maxHeartbeats 1000000 in
theorem so_has (X : Ws) (p : UInt8 → Bool) (b : UInt8) (w : World) (h : HasP X p) :
  Calls Tryz.prog 186 #[clV X, .int .u8 b.toNat] w fun e w' => e = .returned (.bool (p b)) ∧ Below w.heap.size w w' := by
 have hb := b.toNat_lt
 have HP := Lib.hid h
 have hx := h.1 (b.toNat / 64)
 have hget := ws_get X (b.toNat / 64) (by omega)
 have hand : bits .and .u8 (b.toNat : Int) 63 = (b.toNat : Int) % 64 := u8_and63 _ (by omega) (by omega)
 clear h
 unfold clV
 go_enter Tryz.func186, Tryz.ntmps186
 go_wp2_with fail
 go_ret
 exact ⟨by rw [← HP.out.2 b, ← bit_has _ _ hx]; rfl, (Below.refl _ _).alloc (Nat.le_refl _) _⟩
def wsA (X : Ws) : Array Value := #[.int .u64 (X 0 : Nat), .int .u64 (X 1 : Nat), .int .u64 (X 2 : Nat), .int .u64 (X 3 : Nat)]
theorem wsA_put (X : Ws) (n : Nat) (hn : n < 256) : (wsA X).setIfInBounds (n / 64) (.int .u64 ((X (n / 64) ||| 2 ^ (n % 64) : Nat) : Int)) = wsA (put4 X n) := by
 have h4 : n / 64 < 4 := by omega
 obtain ⟨j, hj⟩ : ∃ j, n / 64 = j := ⟨_, rfl⟩
 unfold wsA put4
 rw [hj] at h4 ⊢
 rcases j with _ | _ | _ | _ | j
 ·simp
 ·simp
 ·simp
 ·simp
 omega
set_option maxHeartbeats 1000000 in
theorem so_put (X : Ws) (g : Nat) (c : UInt8) (w : World) (hx : X (c.toNat / 64) < 18446744073709551616) (h0 : w.heap[g]? = some (.cells (wsA X) 227 (0, 0))) :
  Calls Tryz.prog 157 #[.pointer (some ⟨g, 0, none⟩), .int .u8 c.toNat] w fun e w' => e = .returned (.tuple #[]) ∧ w'.heap[g]? = some (.cells (wsA (put4 X c.toNat)) 227 (0, 0)) ∧ Kept [g] w w' := by
 have hb := c.toNat_lt
 have hc : ∀ j, j < 4 → w.cell? ⟨g, j, none⟩ = some (.int .u64 (X j : Nat)) := fun j hj => by rw [Lib.cell_of_heap h0]; exact ws_get X j hj
 have hcell := hc (c.toNat / 64) (by omega)
 have hf := Lib.frozen_of_heap h0 (c.toNat / 64)
 have hand : bits .and .u8 (c.toNat : Int) 63 = (c.toNat : Int) % 64 := u8_and63 _ (by omega) (by omega)
 have H0 := Lib.hid h0
 have HX := Lib.hid hx
 clear hc h0 hx
 go_enter Tryz.func157, Tryz.ntmps157
 go_wp2_with fail
 go_region
 all_goals go_end0
 all_goals
  have hw : IntKind.u64.wrap (2 ^ (c.toNat % 64)) = ((2 ^ (c.toNat % 64) : Nat) : Int) := by
   exact wrap_pow _ (by omega)
  rw [hw, bit_put _ _ HX.out (by omega)]
  refine ⟨rfl, ?_, ?_⟩
  ·rw [← wsA_put X c.toNat (by omega)]
   exact heap_setCell_same _ g _ _ _ _ H0.out
  exact ((Kept.refl [g] w).set g _ _ (.inl (by simp))).drew
set_option maxHeartbeats 1000000 in
theorem so_other (X : Ws) (p : UInt8 → Bool) (w : World) (h : HasP X p) :
  Calls Tryz.prog 156 #[clV X] w fun e w' => e = .returned (clV (not4 X)) ∧ Below w.heap.size w w' := by
 have HP := Lib.hid h
 clear h
 unfold clV
 go_enter Tryz.func156, Tryz.ntmps156
 go_wp2_with fail
 have e0 := bit_not (X 0) (HP.out.1 0)
 have e1 := bit_not (X 1) (HP.out.1 1)
 have e2 := bit_not (X 2) (HP.out.1 2)
 have e3 := bit_not (X 3) (HP.out.1 3)
 rw [e0, e1, e2, e3]
 refine bodyPost_ret (v := clV (not4 X)) (by simp [results, Tryz.results156, go_sem]; rfl) rfl ?_
 exact ⟨rfl, ((Below.refl _ _).alloc (Nat.le_refl _) _).alloc (by simp) _⟩
end Go.Proofs.YtkdajhmlhjkcdaaGreatDoor
namespace Go.Proofs.YtkdajhmlhjkcdaaGreatDoor
open Go.RowKit
theorem HasP.snocT {X : Ws} {s : ByteArray} {k : Nat} (h : HasP X (fun b => (s.data.toList.take k).contains b)) (hk : k < s.size) : HasP (put4 X s[k].toNat) (fun b => (s.data.toList.take (k + 1)).contains b) := by
 refine (h.put s[k]).ext (fun b => ?_)
 rw [take_snoc s k hk, Bool.eq_iff_iff]
 simp
 exact ⟨fun h => h.imp id Eq.symm, fun h => h.imp id Eq.symm⟩
theorem HasP.lt {X : Ws} {p : UInt8 → Bool} (h : HasP X p) (j : Nat) : X j < 18446744073709551616 := h.1 j
theorem ws_cells {w : World} {g : Nat} {X : Ws} (h : w.heap[g]? = some (.cells (wsA X) 227 (0, 0))) :
  w.cell? ⟨g, 0, none⟩ = some (.int .u64 (X 0 : Nat)) ∧ w.cell? ⟨g, 1, none⟩ = some (.int .u64 (X 1 : Nat)) ∧ w.cell? ⟨g, 2, none⟩ = some (.int .u64 (X 2 : Nat)) ∧ w.cell? ⟨g, 3, none⟩ = some (.int .u64 (X 3 : Nat)) := by
 refine ⟨?_, ?_, ?_, ?_⟩ <;> (rw [Lib.cell_of_heap h]; rfl)
set_option maxHeartbeats 2000000 in
set_option maxRecDepth 100000 in
theorem so_of (s : ByteArray) (w : World) (hs : s.size ≤ 1048576) :
  Calls Tryz.prog 184 #[.string s] w fun e w' => ∃ X, e = .returned (clV X) ∧ HasP X (fun b => s.data.toList.contains b) ∧ Below w.heap.size w w' := by
 go_enter Tryz.func184, Tryz.ntmps184
 go_wp2_with fail
 go_loopw [4, 7] (fun _ i wr => ∃ (k : Nat) (X : Ws), k ≤ s.size ∧ i = .int .i64 k ∧ Hid (HasP X (fun b => (s.data.toList.take k).contains b)) ∧ Hid (wr.heap[w.heap.size]? = some (.cells (wsA (fun _ => 0)) 227 (0, 0))) ∧ Hid (wr.heap[w.heap.size + 1]? = some (.cells (wsA X) 227 (0, 0))) ∧ Hid (Below w.heap.size w wr)) (fun _ i _ => s.size - (intOf i).toNat)
 case atStart =>
  refine ⟨0, fun _ => 0, Nat.zero_le _, rfl, HasP.none.ext (fun b => by simp), ?_, ?_, ?_⟩
  ·exact (Below.heap_alloc _ _ w.heap.size (by simp)).trans (heap_alloc_new w _)
  ·have := heap_alloc_new (w.alloc (.cells (wsA (fun _ => 0)) 227)) (.cells (wsA (fun _ => 0)) 227)
   rw [World.size_alloc] at this
   exact this
  exact ((Below.refl _ _).alloc (Nat.le_refl _) _).alloc (by simp) _
 case round =>
 obtain ⟨k, X, hk, rfl, HP, H0, H1, HB⟩ := hrel
 by_cases hlt : k < s.size
 ·have HN := Lib.hid (HP.out.snocT hlt)
  go_wp2_with (go_at_call 157; refine (so_put X _ s[k] _ (HP.out.lt _) H1.out).mono ?_; rintro e w2 ⟨rfl, h1, h2⟩; have H1' := Lib.hid h1; have H0' := Lib.hid (h2.at H0.out (by simp)); have HB' := Lib.hid (HB.out.trans (h2.below HB.out.size (by intro x hx; simp at hx; omega))); clear h1 h2)
  go_roundw
  case rel => exact ⟨k + 1, _, by omega, by go_num, HN, H0', H1', HB'⟩
  case measure => simp [intOf]; omega
 obtain rfl : k = s.size := by omega
 obtain ⟨a0, a1, a2, a3⟩ := ws_cells H0.out
 obtain ⟨c0, c1, c2, c3⟩ := ws_cells H1.out
 have z := Lib.frozen_of_heap H0.out
 have z0 := z 0
 have z1 := z 1
 have z2 := z 2
 have z3 := z 3
 clear z
 go_wp2_with fail
 refine bodyPost_ret (v := clV X) (by simp [results, Tryz.results184, go_sem, a0, a1, a2, a3]; rfl) rfl ?_
 refine ⟨X, rfl, ?_, ?_⟩
 ·have := HP.out
  rwa [List.take_of_length_le (by simp)] at this
 exact (((HB.out.setCell (Nat.le_refl _) _).setCell (Nat.le_refl _) _).setCell (Nat.le_refl _) _).setCell (Nat.le_refl _) _
theorem all_len : all256.length = 256 := by simp [all256]
theorem all_get (k : Nat) (h : k < 256) : all256[k]? = some (UInt8.ofNat k) := by simp [all256, h]
theorem all_take256 (p : UInt8 → Bool) (k : Nat) (h : k < 256) : (all256.take (k + 1)).filter p = (all256.take k).filter p ++ (if p (UInt8.ofNat k) = true then [UInt8.ofNat k] else []) := by
 rw [List.take_add_one, all_get k h, List.filter_append]
 congr 1
 by_cases hp : p (UInt8.ofNat k) = true <;> simp [hp]
theorem filter_le (p : UInt8 → Bool) (k : Nat) : ((all256.take k).filter p).length ≤ 256 := by
 have h1 := List.length_filter_le p (all256.take k)
 have h2 := List.length_take_le' k all256
 rw [all_len] at h2
 omega
set_option maxHeartbeats 2000000 in
set_option maxRecDepth 100000 in
theorem so_bytesC (X : Ws) (p : UInt8 → Bool) (w : World) (h : HasP X p) :
  Calls Tryz.prog 185 #[clV X] w fun e w' => ∃ v, e = .returned v ∧ Own w w' 5 1 v (all256.filter p).length (Lib.byteCells (all256.filter p)) := by
 obtain ⟨i0, hi, hz0, hz1, hz2⟩ := info_parts byte_info
 have HP := Lib.hid h
 clear h
 unfold clV
 go_enter Tryz.func185, Tryz.ntmps185
 go_wp2_with fail
 obtain ⟨w1, hw1⟩ : ∃ W, w.alloc (.cells (wsA X) 227) = W := ⟨_, rfl⟩
 have HB1 : Hid (Below w.heap.size w w1) := Lib.hid (by rw [← hw1]; exact (Below.refl _ _).alloc (Nat.le_refl _) _)
 have HX : Hid (w1.heap[w.heap.size]? = some (.cells (wsA X) 227 (0, 0))) := Lib.hid (by rw [← hw1]; exact heap_alloc_new w _)
 have hw1' : w.alloc (.cells #[.int .u64 (X 0 : Nat), .int .u64 (X 1 : Nat), .int .u64 (X 2 : Nat), .int .u64 (X 3 : Nat)] 227) = w1 := hw1
 rw [hw1']
 have hsz1 : w.heap.size < w1.heap.size := block_lt HX.out
 clear hw1 hw1'
 go_loopw [3, 4, 5] (fun v _ i wr => ∃ k : Nat, k ≤ 256 ∧ i = .int .i64 k ∧ Hid (Own w1 wr 5 1 v ((all256.take k).filter p).length (Lib.byteCells ((all256.take k).filter p)))) (fun _ _ i _ => 256 - (intOf i).toNat)
 case atStart => exact ⟨0, Nat.zero_le _, rfl, Own.nil_ _ _ _⟩
 case round =>
 obtain ⟨k, hk, rfl, HO⟩ := hrel
 have hszr := HO.out.size
 by_cases hlt : k < 256
 ·have hbn : (UInt8.ofNat k).toNat = k := by simp; omega
  have HH : Hid (∀ W, Calls Tryz.prog 186 #[.agg #[.int .u64 (X 0 : Nat), .int .u64 (X 1 : Nat), .int .u64 (X 2 : Nat), .int .u64 (X 3 : Nat)], .int .u8 (k : Int)] W fun e w' => e = .returned (.bool (p (UInt8.ofNat k))) ∧ Below W.heap.size W w') := Lib.hid (fun W => by
   have := so_has X p (UInt8.ofNat k) W HP.out
   rwa [hbn] at this)
  have hx := (HO.out.below.block w.heap.size hsz1).trans HX.out
  obtain ⟨c0, c1, c2, c3⟩ := ws_cells hx
  have hwr : IntKind.u8.wrap (k : Int) = (k : Int) := by rw [IntKind.wrap_u8]; omega
  have hwm : (k : Int) % 256 = (k : Int) := by omega
  have HT := Lib.hid (all_take256 p k hlt)
  have HFl := Lib.hid (filter_le p k)
  clear hx hbn
  cases hq : p (UInt8.ofNat k)
  ·rw [hq] at HH HT
   rw [if_neg (by simp), List.append_nil] at HT
   clear hq
   go_wp2_with (go_at_call 186; refine (HH.out _).mono ?_; rintro e w2 ⟨rfl, hb⟩; have HO2 := Lib.hid (HO.out.call hb); clear hb)
   go_roundw
   case rel => exact ⟨k + 1, by omega, by go_num, by rw [HT.out]; exact HO2⟩
   case measure => simp [intOf]; omega
  rw [hq] at HH HT
  rw [if_pos rfl] at HT
  clear hq
  go_wp2_with (first | (go_at_call 186; refine (HH.out _).mono ?_; rintro e w2 ⟨rfl, hb⟩; have HO2 := Lib.hid (HO.out.call hb); clear hb) | (at_builtin; refine wpList_push1 rfl _ _ 154 rfl w1.heap.size 5 i0 (.int .u8 0) 1 Tryz.underlying154 hi hz0 hz1 hz2 rfl _ _ _ rfl HO2.out.own _ rfl rfl (by have := HFl.out; unfold maxLen; omega) (by have := HFl.out; omega) HO2.out.size ?_; intro g cap w3 hown hg; have HO3 := Lib.hid (HO2.out.push hown hg); clear hown hg))
  go_roundw
  case rel =>
   refine ⟨k + 1, by omega, by go_num, ?_⟩
   have e : (UInt8.ofNat k).toNat = k := by simp; omega
   have := HO3.out
   rw [HT.out, ← bytes_snoc, List.length_append, e]
   exact this
  case measure => simp [intOf]; omega
 obtain rfl : k = 256 := by omega
 have HT : Hid (all256.take 256 = all256) := Lib.hid (List.take_of_length_le (by rw [all_len]; exact Nat.le_refl _))
 rw [HT.out] at HO
 go_wp2_with fail
 go_ret
 exact ⟨_, rfl, HO.out.from_ HB1.out⟩
end Go.Proofs.YtkdajhmlhjkcdaaGreatDoor
