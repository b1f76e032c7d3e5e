/-
  Parts of the proof: AF6, Held, AF7, AS6, AF10, AF11, AF12.
-/
import Derived.Test.YtfkblpjfknfgbaaGreatDoorRows
import Derived.Test.YtfkblpjfknfgbaaGreatDoorZ4
import Derived.Deep.RegionHeld3
import Derived.Deep.DrawnRows
import Derived.Test.YtfkblpjfknfgbaaGreatDoorZ3
import Derived.BigRegion
import Derived.RegionTactic
set_option linter.unusedVariables false
set_option linter.unusedSimpArgs false
namespace Go.Proofs.YtfkblpjfknfgbaaGreatDoor
open Go.RowKit Go.Maps
theorem Rd.front {w : World} {A : Option Addr} {n k c : Nat} {xs : List Value} (h : Rd w 1 (.slice A n c) n xs) (hk : k ≤ n) : Rd w 1 (.slice A k c) k (xs.take k) := by
  obtain ⟨h1, A', c', hv, hc, h2⟩ := h
  cases hv
  refine ⟨by rw [List.length_take]; omega, _, c, rfl, by omega, ?_⟩
  rcases h2 with h2 | ⟨g, o, hA, h3⟩
  · exact .inl (by omega)
  refine .inr ⟨g, o, hA, fun j u hj => h3 j u ?_⟩
  rw [List.getElem?_take] at hj
  split at hj
  · exact hj
  cases hj
theorem strV_take (ss : List ByteArray) (k : Nat) : (strV ss).take k = strV (ss.take k) := by simp [strV]
theorem set_kept' {w : World} {L : List Nat} {b j : Nat} {x : Value} (h : b ∈ L) : Kept L w (w.setCell ⟨b, j, none⟩ x) := (Kept.refl L w).set b j x (.inl h)
def InnerP (w0 : World) (L : List Nat) (i : Ids) (E : Int) (kh k : Nat) (S : Sx) (hs : List ByteArray) (w : World) (e : Ending) (w' : World) : Prop :=
  Go2 L w L w' ∧ match S.rows with
    | [] => e = .panicked [flt E 116]
    | (l, row) :: rest => if row.take hs.length = hs then ∃ fv, e = .returned fv ∧ Rd w0 1 fv row.length (strV row) ∧ RM w0 w' L i E (kh + 1) (k + 1) { S with rows := rest, line := l } else e = .panicked [flt l 116]
set_option maxHeartbeats 2000000 in
set_option maxRecDepth 100000 in
theorem so_inner (w0 : World) (L : List Nat) (i : Ids) (E : Int) (kh k : Nat) (S : Sx) (u : Value) (hs : List ByteArray) (w : World) (h : RM w0 w L i E kh k S) (hu : ∀ w', Kept L w w' → Rd w' 1 u hs.length (strV hs)) (hsl : hs.length ≤ 1048576) :
    Calls Tryz.prog 115 #[.pointer (some ⟨i.rb, 0, none⟩), u] w (InnerP w0 L i E kh k S hs w) := by
  unfold InnerP
  rcases hrows : S.rows with _ | ⟨⟨l, row⟩, rest⟩
  · obtain ⟨hbd, v, hm⟩ := h
    have hr := hm.rows
    rw [hrows] at hr
    obtain ⟨rs, ha, ⟨-, A, cap, hv, -, -⟩, -⟩ := hr
    have hn : rs.length = 0 := by simpa [rowAbs] using congrArg List.length ha
    rw [hn] at hv
    have c1 := hm.r1
    rw [hv] at c1
    have c2 := hm.r2
    have c3 := hm.r3
    have z2 := hm.rz 2
    have HM := Lib.hid hm
    have HU := Lib.hid hu
    clear hm hbd ha hv hn hu hrows
    have HL := Lib.hid (HM.out.setLine E).r2
    go_enter Tryz.func115, Tryz.ntmps115
    go_wp2_with fail
    refine (so_need i.rb E 116 _ HL.out).mono ?_
    rintro e w' ⟨⟨h, -⟩ | ⟨-, rfl⟩, rfl⟩
    · exact absurd h (by decide)
    exact ⟨rfl, ⟨set_kept' HM.out.rbL, fun x hx => .inl hx⟩, rfl⟩
  dsimp only
  have HT := Lib.hid (so_take w0 L i E kh k S l row rest w h hrows)
  obtain ⟨hbd, v, hm⟩ := h
  have hrl : row.length ≤ 65536 := (hbd.row (l, row) (by rw [hrows]; simp)).2.1
  have hr := hm.rows
  rw [hrows] at hr
  obtain ⟨g, o, cap, fv0, hv, hcap, -⟩ := rows_split hr
  have c1 := hm.r1
  rw [hv] at c1
  have hrest : rest.length + 1 ≤ 65536 := by have := hbd.heads; rw [hrows] at this; simp at this; omega
  have hq : (((rest.length + 1 : Nat) : Int) == 0) = false := by rw [beq_eq_false_iff_ne]; omega
  have HLt : Hid (∀ x ∈ L, w0.heap.size ≤ x) := Lib.hid (fun x hx => (hm.hl x hx).1)
  have HBs := Lib.hid hm.base.size
  have HU := Lib.hid hu
  obtain ⟨-, A, cu, rfl, hcu, -⟩ := hu w (Kept.refl _ _)
  clear hm hbd hr hv hrows
  have hne : ¬ (rest.length : Int) + 1 = 0 := by omega
  by_cases hge : hs.length ≤ row.length
  · have hge2 : decide ((hs.length : Int) ≤ (row.length : Int)) = true := by rw [decide_eq_true_iff]; omega
    by_cases hq2 : row.take hs.length = hs
    · simp only [if_pos hq2]
      have HQ := Lib.hid hq2
      clear hq2
      go_enter Tryz.func115, Tryz.ntmps115
      go_wp2_with fail
      refine HT.out.mono ?_
      rintro e w1 ⟨fv, rfl, hf, h1, hg⟩
      have HF := Lib.hid hf
      have HM1 := Lib.hid h1
      have HG := Lib.hid hg
      have HFw : Hid (Rd w1 1 fv row.length (strV row)) := by
        obtain ⟨_, v1, hm1⟩ := h1
        exact Lib.hid (hf.keep hm1.base)
      obtain ⟨-, A1, c1', rfl, hc1, -⟩ := hf
      have HUw := Lib.hid (HU.out w1 hg.1)
      have HL1 : Hid (w1.cell? ⟨i.rb, 2, none⟩ = some (.int .i64 l)) := by
        obtain ⟨_, v1, hm1⟩ := h1
        exact Lib.hid hm1.r2
      clear h1 hg
      have hle : hs.length ≤ c1' := by omega
      have HE := Lib.hid (so_EqualS (.slice A1 hs.length c1') (.slice A hs.length cu) (row.take hs.length) hs w1 (by rw [List.length_take, Nat.min_eq_left hge, ← strV_take]; exact HFw.out.front hge) HUw.out (by rw [List.length_take]; omega) hsl)
      rw [decide_eq_true HQ.out] at HE
      go_wp2_with fail
      refine HE.out.mono ?_
      rintro e w2 ⟨rfl, hb⟩
      have HB := Lib.hid hb
      clear hb
      go_wp2_with fail
      refine (so_must i.rb l _ _ _ (by decide) (line_keep HL1.out HB.out)).mono ?_
      rintro e w' ⟨⟨-, rfl⟩ | ⟨h, -⟩, rfl⟩
      · go_wp2_with fail
        go_ret
        exact ⟨HG.out.trans (Go2.of_below HB.out), _, rfl, HF.out, HM1.out.below HB.out⟩
      exact absurd h (by decide)
    simp only [if_neg hq2]
    have HQ := Lib.hid hq2
    clear hq2
    go_enter Tryz.func115, Tryz.ntmps115
    go_wp2_with fail
    refine HT.out.mono ?_
    rintro e w1 ⟨fv, rfl, hf, h1, hg⟩
    have HF := Lib.hid hf
    have HM1 := Lib.hid h1
    have HG := Lib.hid hg
    have HFw : Hid (Rd w1 1 fv row.length (strV row)) := by
      obtain ⟨_, v1, hm1⟩ := h1
      exact Lib.hid (hf.keep hm1.base)
    obtain ⟨-, A1, c1', rfl, hc1, -⟩ := hf
    have HUw := Lib.hid (HU.out w1 hg.1)
    have HL1 : Hid (w1.cell? ⟨i.rb, 2, none⟩ = some (.int .i64 l)) := by
      obtain ⟨_, v1, hm1⟩ := h1
      exact Lib.hid hm1.r2
    clear h1 hg
    have hle : hs.length ≤ c1' := by omega
    have HE := Lib.hid (so_EqualS (.slice A1 hs.length c1') (.slice A hs.length cu) (row.take hs.length) hs w1 (by rw [List.length_take, Nat.min_eq_left hge, ← strV_take]; exact HFw.out.front hge) HUw.out (by rw [List.length_take]; omega) hsl)
    rw [decide_eq_false HQ.out] at HE
    go_wp2_with fail
    refine HE.out.mono ?_
    rintro e w2 ⟨rfl, hb⟩
    have HB := Lib.hid hb
    clear hb
    go_wp2_with fail
    refine (so_must i.rb l _ _ _ (by decide) (line_keep HL1.out HB.out)).mono ?_
    rintro e w' ⟨⟨h, -⟩ | ⟨-, rfl⟩, rfl⟩
    · exact absurd h (by decide)
    exact ⟨rfl, HG.out.trans (Go2.of_below HB.out), rfl⟩
  have hge2 : decide ((hs.length : Int) ≤ (row.length : Int)) = false := by rw [decide_eq_false_iff_not]; omega
  have hq2 : ¬ row.take hs.length = hs := fun e => by
    have := congrArg List.length e
    rw [List.length_take] at this; omega
  simp only [if_neg hq2]
  clear hq2
  go_enter Tryz.func115, Tryz.ntmps115
  go_wp2_with fail
  refine HT.out.mono ?_
  rintro e w1 ⟨fv, rfl, hf, h1, hg⟩
  have HF := Lib.hid hf
  have HM1 := Lib.hid h1
  have HG := Lib.hid hg
  have HFw : Hid (Rd w1 1 fv row.length (strV row)) := by
    obtain ⟨_, v1, hm1⟩ := h1
    exact Lib.hid (hf.keep hm1.base)
  obtain ⟨-, A1, c1', rfl, hc1, -⟩ := hf
  have HUw := Lib.hid (HU.out w1 hg.1)
  have HL1 : Hid (w1.cell? ⟨i.rb, 2, none⟩ = some (.int .i64 l)) := by
    obtain ⟨_, v1, hm1⟩ := h1
    exact Lib.hid hm1.r2
  clear h1 hg
  go_wp2_with fail
  refine (so_must i.rb l _ _ _ (by decide) HL1.out).mono ?_
  rintro e w' ⟨⟨h, -⟩ | ⟨-, rfl⟩, rfl⟩
  · exact absurd h (by decide)
  exact ⟨rfl, HG.out, rfl⟩
end Go.Proofs.YtfkblpjfknfgbaaGreatDoor
namespace Go.Proofs.YtfkblpjfknfgbaaGreatDoor
open Go
theorem takeH {P : Program} {md : Region.Mode} {ops : Array Oper} {Q : Exit → Act → World → Prop} {S : World → Prop} {i : Nat} {d : Option Tmp} {oi : Oper} {v : Value} {fuel : Nat} {listed : Array Bool} {a : Act} {w : World} (hi : ops[i]? = some oi) (hd : oi.dst = d)
    (hs : Region.noSelect ops = true) (hf : Region.free md ops listed i = true) (hr : (Region.ready md ops listed).contains i = true)
    (hQ : ∀ c a w, Q (.panic c) (a.put d v) w → Q (.panic c) a w) (hy : YieldsIf P ops S oi v a) (hS : S w)
    (h : wpAnyH P md ops Q S fuel (listed.setIfInBounds i true) (a.put d v) w) : wpAnyH P md ops Q S (fuel + 1) listed a w := by
  subst hd
  exact wpAnyH_take hi hs hf hr hQ hy hS h
theorem takeA {P : Program} {md : Region.Mode} {ops : Array Oper} {Q : Exit → Act → World → Prop} {i : Nat} {d : Option Tmp} {oi : Oper} {v : Value} {fuel : Nat} {listed : Array Bool} {a : Act} {w : World} (hi : ops[i]? = some oi) (hd : oi.dst = d)
    (hs : Region.noSelect ops = true) (hf : Region.free md ops listed i = true) (hr : (Region.ready md ops listed).contains i = true)
    (hQ : ∀ c a w, Q (.panic c) (a.put d v) w → Q (.panic c) a w) (hy : Yields P ops oi v a)
    (h : wpAny P md ops Q fuel (listed.setIfInBounds i true) (a.put d v) w) : wpAny P md ops Q (fuel + 1) listed a w := by
  subst hd
  exact wpAny_take hi hs hf hr hQ hy h
theorem tkH {P : Program} {md : Region.Mode} {ops : Array Oper} {Q : Exit → Act → World → Prop} {S : World → Prop} (i : Nat) (d : Option Tmp) {oi : Oper} (v : Value) {fuel : Nat} {listed : Array Bool} {a : Act} {w : World}
    (hy : ∀ w, S w → (execOp a.eval oi).run P w = .ok (.value v) w) (hS : S w) (h : wpAnyH P md ops Q S fuel (listed.setIfInBounds i true) (a.put d v) w)
    (hi : ops[i]? = some oi := by rfl) (hd : oi.dst = d := by rfl) (hs : Region.noSelect ops = true := by kernel_rfl) (hf : Region.free md ops listed i = true := by kernel_rfl) (hr : (Region.ready md ops listed).contains i = true := by kernel_rfl)
    (hg : Region.wanted oi (yielded ops a.tmps) = true := by kernel_rfl) (hQ : ∀ c a w, Q (.panic c) (a.put d v) w → Q (.panic c) a w := by exact fun _ _ _ h => h) : wpAnyH P md ops Q S (fuel + 1) listed a w :=
  takeH hi hd hs hf hr hQ (.inl ⟨hg, hy⟩) hS h
theorem tkU {P : Program} {md : Region.Mode} {ops : Array Oper} {Q : Exit → Act → World → Prop} {S : World → Prop} (i : Nat) (d : Option Tmp) {oi : Oper} {fuel : Nat} {listed : Array Bool} {a : Act} {w : World}
    (hS : S w) (h : wpAnyH P md ops Q S fuel (listed.setIfInBounds i true) (a.put d undef) w)
    (hi : ops[i]? = some oi := by rfl) (hd : oi.dst = d := by rfl) (hs : Region.noSelect ops = true := by kernel_rfl) (hf : Region.free md ops listed i = true := by kernel_rfl) (hr : (Region.ready md ops listed).contains i = true := by kernel_rfl)
    (hg : Region.wanted oi (yielded ops a.tmps) = false := by kernel_rfl) (hQ : ∀ c a w, Q (.panic c) (a.put d undef) w → Q (.panic c) a w := by exact fun _ _ _ h => h) : wpAnyH P md ops Q S (fuel + 1) listed a w :=
  takeH hi hd hs hf hr hQ (.inr ⟨hg, rfl⟩) hS h
theorem rdy1 {P : Program} {md : Region.Mode} {ops : Array Oper} {Q : Exit → Act → World → Prop} {S : World → Prop} (i : Nat) {fuel : Nat} {listed : Array Bool} {a : Act} {w : World} {o : Oper}
    (h : ∀ K' : Act → World → Prop, Shut (∀ a w, S w → (S w → wpAnyH P md ops Q S fuel (listed.setIfInBounds i true) a w) → K' a w) → if Region.wanted o (yielded ops a.tmps) = true then Oper.wp P o a w K' Q else K' (a.put o.dst undef) w)
    (ho : ops[i]? = some o := by rfl) (hr : Region.ready md ops listed = [i] := by kernel_rfl) : wpAnyH P md ops Q S (fuel + 1) listed a w :=
  wpAnyH_ready hr (by simp) (AllReadyH.cons ho h AllReadyH.nil)
theorem put_norm : (∀ (a : Act) (t : Tmp) (v : Value), a.put (some t) v = { a with tmps := a.tmps.setIfInBounds t v }) ∧ (∀ (a : Act) (v : Value), a.put none v = a) ∧ (∀ (l : List Value) (i : Nat) (v : Value), l.toArray.setIfInBounds i v = (l.set i v).toArray) ∧
    (∀ (x v : Value) (l : List Value), (x :: l).set 0 v = v :: l) ∧ (∀ (x v : Value) (l : List Value) (i : Nat), (x :: l).set (i + 1) v = x :: l.set i v) :=
  ⟨fun _ _ _ => rfl, fun _ _ => rfl, fun _ _ _ => List.setIfInBounds_toArray .., fun _ _ _ => rfl, fun _ _ _ _ => rfl⟩
end Go.Proofs.YtfkblpjfknfgbaaGreatDoor
namespace Go.Proofs.YtfkblpjfknfgbaaGreatDoor
open Go.RowKit Go.Maps
def HeadP (w0 : World) (L : List Nat) (i : Ids) (E : Int) (kh k : Nat) (R : RX) (w : World) (e : Ending) (w' : World) : Prop :=
  ∃ L', Go2 L w L' w' ∧ match R with
    | .ok S' => e = .returned (.tuple #[]) ∧ RM w0 w' L' i E kh k S'
    | .error p => e = .panicked [flt p.1 p.2]
theorem Bd.mono {kh k : Nat} {S : Sx} (h : Bd kh (k + 1) S) : Bd kh k S :=
  ⟨h.row, h.heads, h.headS, by have := h.reps; omega, by have := h.als; omega, by have := h.cls; omega, by have := h.rls; omega, h.flags, h.sets, h.nexts, h.kind, h.sp, h.line⟩
theorem Bd.same {kh k : Nat} {S : Sx} (h : Bd kh k S) (F : Fl) (h1 : F.reps = S.fl.reps) (h2 : F.als = S.fl.als) (h3 : F.cls = S.fl.cls) (h4 : F.rls = S.fl.rls) (h5 : 1 ≤ F.kind ∧ F.kind ≤ 3) (h6 : ∀ n, 0 ≤ spAt F n ∧ spAt F n ≤ 65535) : Bd kh k { S with fl := F } :=
  ⟨h.row, h.heads, h.headS, by rw [show ({ S with fl := F } : Sx).fl.reps = S.fl.reps from h1]; exact h.reps, by rw [show ({ S with fl := F } : Sx).fl.als = S.fl.als from h2]; exact h.als, by rw [show ({ S with fl := F } : Sx).fl.cls = S.fl.cls from h3]; exact h.cls, by rw [show ({ S with fl := F } : Sx).fl.rls = S.fl.rls from h4]; exact h.rls,
    by rw [show ({ S with fl := F } : Sx).fl.cls = S.fl.cls from h3]; exact h.flags, by rw [show ({ S with fl := F } : Sx).fl.als = S.fl.als from h2]; exact h.sets, by rw [show ({ S with fl := F } : Sx).fl.rls = S.fl.rls from h4]; exact h.nexts, h5, h6, h.line⟩
theorem drewN_below {w : World} (n : Nat) : Below w.heap.size w (w.drewN n) := below_drewN (Below.refl _ _) n
theorem drew_below {w : World} : Below w.heap.size w w.drew := (Below.refl _ w).drew
structure RowF1 (w0 : World) (fv : Value) (row : List ByteArray) : Prop where
  rd : Rd w0 1 fv row.length (strV row)
  len : row.length ≤ 65536
  each : ∀ f ∈ row, f.size ≤ 65536
theorem fieldAt_le {row : List ByteArray} (h : ∀ f ∈ row, f.size ≤ 65536) (j : Nat) : (fieldAt row j).size ≤ 65536 := by
  unfold fieldAt
  rw [List.getD]
  rcases hj : row[j]? with _ | f
  · show 0 ≤ 65536; omega
  exact h f (List.mem_of_getElem? hj)
theorem RowF1.cells {w0 : World} {fv : Value} {row : List ByteArray} (h : RowF1 w0 fv row) (h0 : 0 < row.length) : ∃ g o c, fv = .slice (some ⟨g, o, none⟩) row.length c ∧ row.length ≤ c ∧ ∀ j, j < row.length → w0.cell? ⟨g, o + j, none⟩ = some (.string (fieldAt row j)) := by
  obtain ⟨-, A, c, rfl, hc, h2⟩ := h.rd
  obtain ⟨g, o, rfl, h3⟩ := h2.resolve_left (by omega)
  refine ⟨g, o, c, rfl, hc, fun j hj => ?_⟩
  have := h3 j _ (strV_get row j hj)
  rw [this]; simp [fieldAt, List.getD, hj]
theorem field_in {w0 w : World} {g o j : Nat} {x : Value} (h : w0.cell? ⟨g, o + j, none⟩ = some x) (hb : Below w0.heap.size w0 w) : w.cell? ⟨g, o + j, none⟩ = some x := (hb.cell (World.block_lt_of_cell? w0 _ h)).trans h
theorem RM.base {w0 w : World} {L : List Nat} {i : Ids} {E : Int} {kh k : Nat} {S : Sx} (h : RM w0 w L i E kh k S) : Below w0.heap.size w0 w := by
  obtain ⟨_, v, hm⟩ := h; exact hm.base
theorem RM.r2 {w0 w : World} {L : List Nat} {i : Ids} {E : Int} {kh k : Nat} {S : Sx} (h : RM w0 w L i E kh k S) : w.cell? ⟨i.rb, 2, none⟩ = some (.int .i64 S.line) := by
  obtain ⟨_, v, hm⟩ := h; exact hm.r2
theorem RMv.f1 {w0 w : World} {L : List Nat} {i : Ids} {v : Vs} {E : Int} {S : Sx} {nx : List Int} {tf : Int → Int} {tn cn : Nat} {cf : Int → Option Nat} (h : RMv w0 w L i v E S nx tf tn cf cn) : w.cell? ⟨i.fb, 1, none⟩ = some (.string S.fl.charset) ∧ w.cell? ⟨i.fb, 2, none⟩ = some (.string S.fl.tryT) := by
  constructor <;> (rw [Lib.cell_of_heap h.file]; rfl)
set_option maxHeartbeats 2000000 in
set_option maxRecDepth 100000 in
theorem so_charset (w0 : World) (L : List Nat) (i : Ids) (E : Int) (kh k : Nat) (S : Sx) (fv : Value) (row : List ByteArray) (w : World) (h : RM w0 w L i E kh (k + 1) S) (hr : RowF1 w0 fv row) (hl : row.length = 2) :
    Calls Tryz.prog 76 #[.pointer (some ⟨i.rb, 0, none⟩), fv] w (HeadP w0 L i E kh k (onFl S.line S (setR S.fl (fieldAt row 1))) w) := by
  have hsz := fieldAt_le hr.each 1
  obtain ⟨g, o, c, rfl, hc, hcells⟩ := hr.cells (by omega)
  have d1 := field_in (hcells 1 (by omega)) h.base
  have HP := Lib.hid (so_plainR i.rb S.line (fieldAt row 1) w (by omega) h.r2)
  obtain ⟨hbd, v, hm⟩ := h
  have c0 := hm.r0
  have e1 := hm.f1.1
  have fz := hm.fz 1
  have HM := Lib.hid hm
  have HB := Lib.hid hbd
  rw [hl] at hc ⊢
  clear hcells hm hbd hr
  unfold setR
  cases hq : fitAll (fieldAt row 1)
  · have HQ := Lib.hid hq
    rw [if_pos rfl]
    clear hq
    go_enter Tryz.func76, Tryz.ntmps76
    go_wp2_with fail
    refine HP.out.mono ?_
    rw [HQ.out]
    rintro e w' ⟨⟨h, -⟩ | ⟨-, rfl⟩, rfl⟩
    · cases h
    exact ⟨rfl, L, Go2.refl _ _, rfl⟩
  have HQ := Lib.hid hq
  rw [if_neg (by simp)]
  clear hq
  go_enter Tryz.func76, Tryz.ntmps76
  go_wp2_with fail
  refine HP.out.mono ?_
  rw [HQ.out]
  rintro e w' ⟨⟨-, rfl⟩ | ⟨h, -⟩, rfl⟩
  · go_wp2_with fail
    go_region
    all_goals go_end0
    all_goals
      refine ⟨L, ⟨(set_kept' HM.out.fbL).drew, fun x hx => .inl hx⟩, rfl, ⟨?_, v, ?_⟩⟩
      · exact HB.out.mono.same _ rfl rfl rfl rfl HB.out.kind HB.out.sp
      exact (HM.out.setF (F' := { S.fl with charset := fieldAt row 1 }) 1 _ (by rfl) rfl rfl rfl rfl).below drew_below
  cases h
set_option maxHeartbeats 2000000 in
set_option maxRecDepth 100000 in
theorem so_try (w0 : World) (L : List Nat) (i : Ids) (E : Int) (kh k : Nat) (S : Sx) (fv : Value) (row : List ByteArray) (w : World) (h : RM w0 w L i E kh (k + 1) S) (hr : RowF1 w0 fv row) (hl : row.length = 2) :
    Calls Tryz.prog 77 #[.pointer (some ⟨i.rb, 0, none⟩), fv] w (HeadP w0 L i E kh k (onFl S.line S (tryR S.fl (fieldAt row 1))) w) := by
  have hsz := fieldAt_le hr.each 1
  obtain ⟨g, o, c, rfl, hc, hcells⟩ := hr.cells (by omega)
  have d1 := field_in (hcells 1 (by omega)) h.base
  have HL := Lib.hid (Letters_any (fieldAt row 1) w (by omega))
  have H2 := Lib.hid h.r2
  obtain ⟨hbd, v, hm⟩ := h
  have HM := Lib.hid hm
  have HB := Lib.hid hbd
  rw [hl] at hc ⊢
  clear hcells hm hbd hr
  unfold tryR
  obtain ⟨⟨t, e⟩, hq⟩ : ∃ r, lettersS (fieldAt row 1) = r := ⟨_, rfl⟩
  rw [hq] at HL ⊢
  dsimp only at HL ⊢
  clear hq
  by_cases he : e = 0
  · subst he
    rw [if_neg (by simp)]
    go_enter Tryz.func77, Tryz.ntmps77
    go_wp2_with fail
    refine HL.out.mono ?_
    rintro e w1 ⟨rfl, hb⟩
    have HB1 := Lib.hid hb
    have HM1 := Lib.hid (HM.out.below hb)
    clear hb
    go_wp2_with fail
    refine (so_need i.rb S.line 0 _ HM1.out.r2).mono ?_
    rintro e w' ⟨⟨-, rfl⟩ | ⟨h, -⟩, rfl⟩
    · have c0 := HM1.out.r0
      have e1 := HM1.out.f1.2
      have fz := HM1.out.fz 2
      go_wp2_with fail
      go_end0
      exact ⟨L, (Go2.of_below HB1.out).trans ⟨set_kept' HM1.out.fbL, fun x hx => .inl hx⟩, rfl, HB.out.mono.same _ rfl rfl rfl rfl HB.out.kind HB.out.sp, v, HM1.out.setF (F' := { S.fl with tryT := t }) 2 _ (by rfl) rfl rfl rfl rfl⟩
    exact absurd h (by decide)
  have he2 : (e == 0) = false := by simpa using he
  have HE := Lib.hid he2
  rw [if_pos he]
  clear he he2
  go_enter Tryz.func77, Tryz.ntmps77
  go_wp2_with fail
  refine HL.out.mono ?_
  rintro e' w1 ⟨rfl, hb⟩
  have HB1 := Lib.hid hb
  have HM1 := Lib.hid (HM.out.below hb)
  clear hb
  go_wp2_with fail
  refine (so_need i.rb S.line e _ HM1.out.r2).mono ?_
  rw [HE.out]
  rintro e' w' ⟨⟨h, -⟩ | ⟨-, rfl⟩, rfl⟩
  · cases h
  exact ⟨rfl, L, Go2.of_below HB1.out, rfl⟩
set_option maxHeartbeats 2000000 in
set_option maxRecDepth 100000 in
theorem so_least (w0 : World) (L : List Nat) (i : Ids) (E : Int) (kh k : Nat) (S : Sx) (fv : Value) (row : List ByteArray) (w : World) (h : RM w0 w L i E kh (k + 1) S) (hr : RowF1 w0 fv row) (hl : row.length = 2) :
    Calls Tryz.prog 79 #[.pointer (some ⟨i.rb, 0, none⟩), fv] w (HeadP w0 L i E kh k (onFl S.line S (leastR S.fl (fieldAt row 1))) w) := by
  have hsz := fieldAt_le hr.each 1
  obtain ⟨g, o, c, rfl, hc, hcells⟩ := hr.cells (by omega)
  have d1 := field_in (hcells 1 (by omega)) h.base
  have HN := Lib.hid (so_rdNumber i.rb S.line (fieldAt row 1) 64 w.drew (by unfold maxLen; omega) (by decide) (by decide) h.r2)
  obtain ⟨hbd, v, hm⟩ := h
  have c0 := hm.r0
  have e8 := hm.f8
  have fz := hm.fz 8
  have HM := Lib.hid hm
  have HB := Lib.hid hbd
  rw [hl] at hc ⊢
  clear hcells hm hbd hr
  unfold leastR
  unfold numR_ at HN
  by_cases hq : numErr (fieldAt row 1).data.toList 64 = 0
  · rw [if_neg (by simpa using hq)] at HN
    obtain ⟨n, hn⟩ : ∃ n, numVal (fieldAt row 1).data.toList 64 = n := ⟨_, rfl⟩
    have hn0 := numVal_bd (fieldAt row 1).data.toList 64 (by decide)
    rw [hn] at HN hn0 ⊢
    by_cases h0 : n = 0
    · rw [if_pos (.inr h0)]
      subst h0
      clear hq hn hn0
      go_enter Tryz.func79, Tryz.ntmps79
      go_wp2_with fail
      go_region_with (go_at_call 114; refine HN.out.mono ?_; rintro e w1 ⟨hb, rfl⟩; have HB1 := Lib.hid ((drew_below (w := w)).trans hb); have HM1 := Lib.hid (HM.out.below HB1.out); have c0' := HM1.out.r0; have e8' := HM1.out.f8; have fz' := HM1.out.fz 8; clear hb)
      all_goals
        have c0'' := (HM1.out.setF (F' := { S.fl with least := 0 }) 8 _ (by rfl) rfl rfl rfl rfl).r0
        have c8'' := (HM1.out.setF (F' := { S.fl with least := 0 }) 8 _ (by rfl) rfl rfl rfl rfl).f8
        have HR2 := Lib.hid (HM1.out.setF (F' := { S.fl with least := 0 }) 8 _ (by rfl) rfl rfl rfl rfl).r2
        go_wp2_with fail
        refine (so_must i.rb S.line _ _ _ (by decide) HR2.out).mono ?_
        rintro e w' ⟨⟨h, -⟩ | ⟨-, rfl⟩, rfl⟩
        · exact absurd h (by decide)
        exact ⟨rfl, L, (Go2.of_below HB1.out).trans ⟨set_kept' HM1.out.fbL, fun x hx => .inl hx⟩, rfl⟩
    rw [if_neg (fun h => h.elim (fun h => h hq) h0)]
    have hgt : decide (0 < n) = true := by rw [decide_eq_true_iff]; omega
    clear hq hn
    go_enter Tryz.func79, Tryz.ntmps79
    go_wp2_with fail
    go_region_with (go_at_call 114; refine HN.out.mono ?_; rintro e w1 ⟨hb, rfl⟩; have HB1 := Lib.hid ((drew_below (w := w)).trans hb); have HM1 := Lib.hid (HM.out.below HB1.out); have c0' := HM1.out.r0; have e8' := HM1.out.f8; have fz' := HM1.out.fz 8; clear hb)
    all_goals
      have HF := Lib.hid (HM1.out.setF (F' := { S.fl with least := n }) 8 _ (by rfl) rfl rfl rfl rfl)
      have c0'' := HF.out.r0
      have c8'' := HF.out.f8
      go_wp2_with fail
      refine (so_must i.rb S.line _ _ _ (by decide) HF.out.r2).mono ?_
      rintro e w' ⟨⟨-, rfl⟩ | ⟨h, -⟩, rfl⟩
      · go_wp2_with fail
        go_end0
        exact ⟨L, (Go2.of_below HB1.out).trans ⟨set_kept' HM1.out.fbL, fun x hx => .inl hx⟩, rfl, HB.out.mono.same _ rfl rfl rfl rfl HB.out.kind HB.out.sp, v, HF.out⟩
      exact absurd h (by simp)
  rw [if_pos hq] at HN
  rw [if_pos (.inl hq)]
  clear hq
  go_enter Tryz.func79, Tryz.ntmps79
  go_wp2_with fail
  refine wp_region_any (by kernel_rfl) ?_
  try (change wpAny _ _ _ _ _ _ _ (World.drew _))
  refine takeA (i := 0) (d := some 4) (v := ?_) rfl rfl (by kernel_rfl) (by kernel_rfl) (by kernel_rfl) (fun _ _ _ h => h) (Or.inl ⟨by kernel_rfl, ?_⟩) ?_
  rotate_left
  · intro w; go_simp; try with_reducible rfl
  try simp only [put_norm]
  refine takeA (i := 1) (d := some 5) (v := ?_) rfl rfl (by kernel_rfl) (by kernel_rfl) (by kernel_rfl) (fun _ _ _ h => h) (Or.inl ⟨by kernel_rfl, ?_⟩) ?_
  rotate_left
  · intro w; go_simp; try with_reducible rfl
  try simp only [put_norm]
  refine takeA (i := 2) (d := some 6) (v := ?_) rfl rfl (by kernel_rfl) (by kernel_rfl) (by kernel_rfl) (fun _ _ _ h => h) (Or.inl ⟨by kernel_rfl, ?_⟩) ?_
  rotate_left
  · intro w; go_simp; try with_reducible rfl
  try simp only [put_norm]
  refine takeA (i := 4) (d := some 8) (v := ?_) rfl rfl (by kernel_rfl) (by kernel_rfl) (by kernel_rfl) (fun _ _ _ h => h) (Or.inl ⟨by kernel_rfl, ?_⟩) ?_
  rotate_left
  · intro w; go_simp; try with_reducible rfl
  try simp only [put_norm]
  refine takeA (i := 5) (d := some 9) (v := ?_) rfl rfl (by kernel_rfl) (by kernel_rfl) (by kernel_rfl) (fun _ _ _ h => h) (Or.inl ⟨by kernel_rfl, ?_⟩) ?_
  rotate_left
  · intro w; go_simp; try with_reducible rfl
  try simp only [put_norm]
  refine takeA (i := 6) (d := some 10) (v := ?_) rfl rfl (by kernel_rfl) (by kernel_rfl) (by kernel_rfl) (fun _ _ _ h => h) (Or.inl ⟨by kernel_rfl, ?_⟩) ?_
  rotate_left
  · intro w; go_simp; try with_reducible rfl
  try simp only [put_norm]
  refine wpAny_ready (rs := [3, 7]) (by kernel_rfl) (by simp) ?_
  refine AllReady.cons rfl (fun K hK => ?_) ?_
  · go_simp
    refine hK _ _ ?_
    clear hK K
    refine wpAny_ready (rs := [7]) (by kernel_rfl) (by simp) ?_
    refine AllReady.cons rfl (fun K hK => ?_) ?_
    · go_simp
      refine hK _ _ ?_
      clear hK K
      refine wpAny_ready (rs := [8]) (by kernel_rfl) (by simp) ?_
      refine AllReady.cons rfl (fun K hK => ?_) ?_
      · go_simp
        refine HN.out.mono ?_
        rintro e w' ⟨hb, rfl⟩
        exact ⟨rfl, L, Go2.of_below ((drew_below (w := w)).trans hb), rfl⟩
      exact AllReady.nil
    exact AllReady.nil
  refine AllReady.cons rfl (fun K hK => ?_) ?_
  · go_simp
    refine hK _ _ ?_
    clear hK K
    refine wpAny_ready (rs := [3, 8]) (by kernel_rfl) (by simp) ?_
    refine AllReady.cons rfl (fun K hK => ?_) ?_
    · go_simp
      refine hK _ _ ?_
      clear hK K
      refine wpAny_ready (rs := [8]) (by kernel_rfl) (by simp) ?_
      refine AllReady.cons rfl (fun K hK => ?_) ?_
      · go_simp
        refine HN.out.mono ?_
        rintro e w' ⟨hb, rfl⟩
        exact ⟨rfl, L, Go2.of_below ((drew_below (w := w)).trans hb), rfl⟩
      exact AllReady.nil
    refine AllReady.cons rfl (fun K hK => ?_) ?_
    · go_simp
      refine HN.out.mono ?_
      rintro e w' ⟨hb, rfl⟩
      exact ⟨rfl, L, Go2.of_below ((drew_below (w := w)).trans hb), rfl⟩
    exact AllReady.nil
  exact AllReady.nil
end Go.Proofs.YtfkblpjfknfgbaaGreatDoor
namespace Go.Proofs.YtfkblpjfknfgbaaGreatDoor
open Go.RowKit Go.Maps
theorem own_uniq {w : World} {B e size n : Nat} {v : Value} {xs ys : List Value} (h : w.ownsRow B e size v n xs) (h' : w.ownsRow B e size v n ys) : xs = ys := by
  rcases h.2 with ⟨rfl, h0⟩ | ⟨g, cap, cur, rfl, _, hb, _, _, _, ht⟩
  · have h1 := h.1
    have h2 := h'.1
    rw [h0, Nat.zero_mul] at h1 h2
    rw [List.eq_nil_of_length_eq_zero h1, List.eq_nil_of_length_eq_zero h2]
  rcases h'.2 with ⟨hv, _⟩ | ⟨g', cap', cur', hv, _, hb', _, _, _, ht'⟩
  · cases hv
  cases hv
  rw [hb] at hb'
  cases hb'
  rw [← ht, ← ht']
theorem step_pushL {P : Program} {w : World} {ops : Array Oper} {o : Oper} {a : Act} {K : Act → World → Prop} {Q : Exit → Act → World → Prop} {E : Prop} (hgd : o.guard = none) (s x : Operand) (t : TypeId)
    (ho : o.op = .call { callee := .builtin .append, args := #[s, x], argTypes := #[t, t] })
    (base : Nat) (e : TypeId) (i : TypeInfo) (z : Value) (size bytes : Nat) (ht : P.underlying t = some (.slice e)) (hi : P.info? e = some i) (hz : i.zero = some z)
    (hsize : i.size = size) (hby : i.bytes = bytes) (hzs : z.cells.size = size) (hsz : 0 < size)
    (v : Value) (n : Nat) (xs : List Value) (hs : a.eval s = v) (hown : w.ownsRow base e size v n xs)
    (us : Array Value) (hus : us.size = size) (h1 : ∀ u ∈ us.toList, u.oneCell' = true) (hx : a.eval x = .slice (some ⟨w.heap.size, 0, none⟩) 1 1)
    (h63 : n + 1 ≤ maxLen) (hbytes : (n + 1) * bytes ≤ 140737488355328) (hbase : base ≤ w.heap.size)
    (h : ∀ g cap w', w'.ownsRow base e size (.slice (some ⟨g, 0, none⟩) (n + 1) cap) (n + 1) (xs ++ us.toList) → w.grownBy w' v.ownBlock → LocP w w' v (.slice (some ⟨g, 0, none⟩) (n + 1) cap) → K (a.put o.dst (.slice (some ⟨g, 0, none⟩) (n + 1) cap)) w') :
    if Region.wanted o (yielded ops a.tmps) = true then Oper.wp P o a (w.alloc (.cells us e)) K Q else E := by
  have hw : Region.wanted o (yielded ops a.tmps) = true := by simp [Region.wanted, hgd]
  rw [if_pos hw]
  obtain ⟨v', w', hrun, h2, h3, h4⟩ := run_append_src (P := P) (w.alloc (.cells us e)) base t o.type e i z size bytes ht hi hz hsize hby hzs hsz v n xs (hown.alloc _) (some ⟨w.heap.size, 0, none⟩) 1 1 us.toList (by simp [hus])
    (.inr ⟨_, rfl, by
      intro j u hj
      rw [row_addr, cell_of_row (w.alloc (.cells us e)) w.heap.size j us e (0, 0) (heap_alloc_new w _)]
      simpa using hj⟩) h1 h63 hbytes (by simp; omega)
  obtain ⟨g, cap, rfl⟩ : ∃ g cap, v' = .slice (some ⟨g, 0, none⟩) (n + 1) cap := by
    rcases h2.2 with ⟨_, h0⟩ | ⟨g, cap, cur, hv, _⟩
    · omega
    exact ⟨g, cap, hv⟩
  unfold Oper.wp execOp
  simp only [ho, resolve, invoke, builtin, Sem.run_bind, Sem.run_pure, Result.andThen_ok, List.map_toArray, List.map_cons, List.map_nil, hs, hx, hrun]
  refine h g cap w' h2 (grown_of_alloc h3) ?_
  rcases h4 with h4 | h4
  · exact .inl h4
  refine .inr ⟨g, rfl, ?_, (h2.lt g rfl).2⟩
  have : g = (w.alloc (.cells us e)).heap.size := by simpa [Value.ownBlock] using h4
  rw [this, World.size_alloc]; omega
section
variable {w0 w w1 : World} {L : List Nat} {i : Ids} {v : Vs} {E : Int} {S : Sx} {nx : List Int} {tf : Int → Int} {tn cn : Nat} {cf : Int → Option Nat} {r : Option Nat}
theorem RMv.file_grown {e : Nat} (h : RMv w0 w L i v E S nx tf tn cf cn) (hg : w.grownBy w1 r) (hr : ∀ g, r = some g → TyB w g e) (hne : 116 ≠ e) : w1.heap[i.fb]? = some (.cells (fileV i v S.fl) 116 (0, 0)) :=
  (hg.block i.fb (h.hl _ h.fbL).2 (fun e1 => h.tyF.ne (hr _ e1.symm) hne rfl)).trans h.file
theorem RMv.rdr_grown {e : Nat} (h : RMv w0 w L i v E S nx tf tn cf cn) (hg : w.grownBy w1 r) (hr : ∀ g, r = some g → TyB w g e) (hne : 119 ≠ e) : w1.heap[i.rb]? = some (.cells (rdrV i v E S) 119 (0, 0)) :=
  (hg.block i.rb (h.hl _ h.rbL).2 (fun e1 => h.tyR.ne (hr _ e1.symm) hne rfl)).trans h.rdr
theorem RMv.grown_base (h : RMv w0 w L i v E S nx tf tn cf cn) (hg : w.grownBy w1 r) (hr : ∀ g, r = some g → g ∈ L) : Below w0.heap.size w0 w1 :=
  h.base.grown hg h.base.size (fun g hgv => (h.hl _ (hr g hgv)).1)
end
end Go.Proofs.YtfkblpjfknfgbaaGreatDoor
namespace Go.Proofs.YtfkblpjfknfgbaaGreatDoor
open Go.RowKit Go.Maps
theorem Bd.pushReps {kh k : Nat} {S : Sx} (h : Bd (kh + 1) (k + 1) S) (a b : ByteArray) : Bd kh k { S with fl := { S.fl with reps := S.fl.reps ++ [(a, b)] } } :=
  ⟨h.row, by have := h.heads; show S.heads.length + S.rows.length + kh ≤ 65536; omega, h.headS, by have := h.reps; show (S.fl.reps ++ [(a, b)]).length + S.rows.length + k ≤ 65536; rw [List.length_append]; show S.fl.reps.length + 1 + S.rows.length + k ≤ 65536; omega,
    by have := h.als; show S.fl.als.length + S.rows.length + k ≤ 65536; omega, by have := h.cls; show S.fl.cls.length + S.rows.length + k ≤ 65536; omega, by have := h.rls; show S.fl.rls.length + S.rows.length + k ≤ 65536; omega, h.flags, h.sets, h.nexts, h.kind, h.sp, h.line⟩
theorem rep_info : (Tryz.prog.info? 145).map (fun i => (i.zero, i.size, i.bytes)) = some (some (.agg #[.string ByteArray.empty, .string ByteArray.empty]), 2, 32) := by kernel_rfl
theorem rowF1_of {w0 : World} {fv : Value} {l : Int} {row : List ByteArray} {rest : List Row} {kh k : Nat} {S : Sx} (hb : Bd kh k S) (hr : S.rows = (l, row) :: rest) (h : Rd w0 1 fv row.length (strV row)) : RowF1 w0 fv row :=
  have h1 := hb.row (l, row) (by rw [hr]; simp)
  ⟨h, h1.2.1, h1.2.2.1⟩
theorem head_rd {w : World} {L : List Nat} (hL : ∀ x ∈ L, x < w.heap.size) (s : ByteArray) : ∀ w', Kept L (w.alloc (.cells #[.string s] 9)) w' → Rd w' 1 (.slice (some ⟨w.heap.size, 0, none⟩) 1 1) [s].length (strV [s]) := by
  intro w' hk
  refine ⟨rfl, _, 1, rfl, Nat.le_refl _, .inr ⟨_, 0, rfl, fun j u hj => ?_⟩⟩
  have h1 := hk.at (heap_alloc_new w (.cells #[.string s] 9)) (fun hm => absurd (hL _ hm) (by omega))
  rw [Nat.zero_add, cell_of_row _ w.heap.size j _ 9 (0, 0) h1]
  simpa [strV] using hj
set_option maxHeartbeats 8000000 in
set_option maxRecDepth 100000 in
theorem so_reps (w0 : World) (L : List Nat) (i : Ids) (E : Int) (kh k : Nat) (S : Sx) (fv : Value) (row : List ByteArray) (w : World) (h : RM w0 w L i E kh (k + 1) S) (hr : RowF1 w0 fv row) (hl : row.length = 2) :
    Calls Tryz.prog 80 #[.pointer (some ⟨i.rb, 0, none⟩), fv] w (HeadP w0 L i E kh k (repsG E S (fieldAt row 1)) w) := by
  obtain ⟨i0, hi, hz0, hz1, hz2⟩ := info_parts rep_info
  have hsz := fieldAt_le hr.each 1
  obtain ⟨g, o, c, rfl, hc, hcells⟩ := hr.cells (by omega)
  have d1 := field_in (hcells 1 (by omega)) h.base
  have HN := Lib.hid (so_rdNumber i.rb S.line (fieldAt row 1) 256 w (by unfold maxLen; omega) (by decide) (by decide) h.r2)
  have HM := Lib.hid h
  rw [hl] at hc ⊢
  clear hcells hr h
  unfold repsG
  unfold numR_ at HN
  rcases numErr_13 (fieldAt row 1).data.toList 256 with hq | hq
  · rw [if_neg (by simpa using hq)] at HN ⊢
    obtain ⟨b0, b1⟩ := numVal_bd (fieldAt row 1).data.toList 256 (by decide)
    obtain ⟨n, hn⟩ : ∃ n : Nat, numVal (fieldAt row 1).data.toList 256 = n := ⟨_, (Int.toNat_of_nonneg b0).symm⟩
    rw [hn] at HN b0 b1 ⊢
    rw [Int.toNat_natCast]
    obtain ⟨R, hR⟩ : ∃ R, groupR E (fun r => decide (r.take 1 = [kREP])) repR_ n S = R := ⟨_, rfl⟩
    rw [hR]
    have HR := Lib.hid hR
    clear hR hq hn b0
    have hn2 : (n : Int) ≤ 256 := b1
    clear b1
    go_enter Tryz.func80, Tryz.ntmps80
    go_wp2_with fail
    refine HN.out.mono ?_
    rintro e w1 ⟨hb, rfl⟩
    have HM1 := Lib.hid (HM.out.below hb)
    have HG1 := Lib.hid (Go2.of_below (L := L) hb)
    clear hb
    go_wp2_with fail
    go_loopw [4, 5, 11] (fun _ _ x wr => ∃ (m : Nat) (S' : Sx) (L' : List Nat), m ≤ n ∧ x = .int .i64 m ∧ Hid (RM w0 wr L' i E kh (k + 1) S') ∧ Hid (Go2 L w L' wr) ∧ Hid (groupR E (fun r => decide (r.take 1 = [kREP])) repR_ (n - m) S' = R)) (fun _ _ x _ => n - (intOf x).toNat)
    case atStart => exact ⟨0, S, L, Nat.zero_le _, rfl, HM1, HG1, HR⟩
    case round =>
    obtain ⟨m, S', L', hm, rfl, HRM, HGo, HGr⟩ := hrel
    by_cases hlt : m < n
    · have hnm : n - m = (n - (m + 1)) + 1 := by omega
      have HIn := Lib.hid (so_inner w0 L' i E kh (k + 1) S' (.slice (some ⟨wr.heap.size, 0, none⟩) 1 1) [kREP] (wr.alloc (.cells #[.string kREP] 9)) (HRM.out.below ((Below.refl _ _).alloc (Nat.le_refl _) _))
        (head_rd (fun x hx => by obtain ⟨_, v, hv⟩ := HRM.out; exact (hv.hl x hx).2) kREP) (by decide))
      have HGo2 := Lib.hid (HGo.out.trans (Go2.of_below (L := L') ((Below.refl _ wr).alloc (Nat.le_refl _) (.cells #[.string kREP] 9))))
      rcases hrows : S'.rows with _ | ⟨⟨l, rw_⟩, rest⟩
      · have HRe : Hid (R = .error (E, 116)) := Lib.hid (by rw [← HGr.out, hnm, groupR, hrows])
        clear hnm
        unfold InnerP at HIn
        rw [hrows] at HIn
        clear hrows
        go_wp2_with fail
        refine HIn.out.mono ?_
        rintro e w2 ⟨hg, rfl⟩
        exact ⟨rfl, L', HGo2.out.trans hg, by rw [HRe.out]⟩
      have HBd := Lib.hid HRM.out.1
      have HRW : Hid (∀ fv, Rd w0 1 fv rw_.length (strV rw_) → RowF1 w0 fv rw_) := Lib.hid (fun fv h => rowF1_of HBd.out hrows h)
      have HFs : Hid (∀ j, (fieldAt rw_ j).size ≤ 1048576) := Lib.hid (fun j => Nat.le_trans (fieldAt_le (HBd.out.row (l, rw_) (by rw [hrows]; simp)).2.2.1 j) (by decide))
      have hrl : rw_.length ≤ 65536 := (HBd.out.row (l, rw_) (by rw [hrows]; simp)).2.1
      have HGr2 : Hid (R = if decide (rw_.take 1 = [kREP]) = true then (match repR_ S'.fl l rw_ with
        | .error c => .error (l, c)
        | .ok F => groupR E (fun r => decide (r.take 1 = [kREP])) repR_ (n - (m + 1)) { fl := F, rows := rest, heads := S'.heads, line := l }) else .error (l, 116)) := Lib.hid (by rw [← HGr.out, hnm, groupR, hrows]; rfl)
      clear hnm
      unfold InnerP at HIn
      rw [hrows] at HIn
      dsimp only at HIn
      clear hrows
      by_cases hh : rw_.take 1 = [kREP]
      · simp only [List.length_singleton, if_pos hh] at HIn
        rw [decide_eq_true hh] at HGr2
        clear hh
        by_cases h3 : rw_.length = 3
        · have q3 : ((rw_.length : Int) == 3) = true := by rw [h3]; rfl
          have HRp : Hid (repR_ S'.fl l rw_ = match pieceR false (fieldAt rw_ 1) with
            | .error c => .error c
            | .ok a => match pieceR true (fieldAt rw_ 2) with
              | .error c => .error c
              | .ok b => .ok { S'.fl with reps := S'.fl.reps ++ [(a, b)] }) := Lib.hid (by rw [repR_, if_neg (by simp [h3])]; rfl)
          cases hp1 : pieceR false (fieldAt rw_ 1) with
          | error c1 =>
            have HRe : Hid (R = .error (l, c1)) := Lib.hid (by rw [HGr2.out, if_pos rfl, HRp.out, hp1])
            have HP1 := Lib.hid hp1
            clear hp1
            go_wp2_with fail
            refine HIn.out.mono ?_
            rintro e w2 ⟨hg, fv2, rfl, hrd, hrm⟩
            have HRM2 := Lib.hid hrm
            have HGo3 := Lib.hid (HGo2.out.trans hg)
            clear hg hrm
            obtain ⟨g2, o2, c2, rfl, hc2, hcells2⟩ := (HRW.out _ hrd).cells (by omega)
            have d1' := field_in (hcells2 1 (by omega)) HRM2.out.base
            have D2 := Lib.hid (hcells2 2 (by omega))
            have hc3 : 3 ≤ c2 := by omega
            clear hcells2 hrd
            go_wp2_with fail
            refine (so_must i.rb l _ _ _ (by decide) HRM2.out.r2).mono ?_
            rintro e w' ⟨⟨-, rfl⟩ | ⟨hx, -⟩, rfl⟩
            rotate_left
            · exact absurd hx (by simp)
            go_wp2_with fail
            refine (so_piece i.rb l (fieldAt rw_ 1) _ (HFs.out 1) HRM2.out.r2).mono ?_
            rw [HP1.out]
            rintro e w3 ⟨hb, rfl⟩
            exact ⟨rfl, L', HGo3.out.trans (Go2.of_below hb), by rw [HRe.out]⟩
          | ok a =>
            have HP1 := Lib.hid hp1
            cases hp2 : pieceR true (fieldAt rw_ 2) with
            | error c1 =>
              have HRe : Hid (R = .error (l, c1)) := Lib.hid (by rw [HGr2.out, if_pos rfl, HRp.out, hp1]; dsimp only; rw [hp2])
              have HP2 := Lib.hid hp2
              clear hp1 hp2
              go_wp2_with fail
              refine HIn.out.mono ?_
              rintro e w2 ⟨hg, fv2, rfl, hrd, hrm⟩
              have HRM2 := Lib.hid hrm
              have HGo3 := Lib.hid (HGo2.out.trans hg)
              clear hg hrm
              obtain ⟨g2, o2, c2, rfl, hc2, hcells2⟩ := (HRW.out _ hrd).cells (by omega)
              have d1' := field_in (hcells2 1 (by omega)) HRM2.out.base
              have D2 := Lib.hid (hcells2 2 (by omega))
              have hc3 : 3 ≤ c2 := by omega
              clear hcells2 hrd
              go_wp2_with fail
              refine (so_must i.rb l _ _ _ (by decide) HRM2.out.r2).mono ?_
              rintro e w' ⟨⟨-, rfl⟩ | ⟨hx, -⟩, rfl⟩
              rotate_left
              · exact absurd hx (by simp)
              go_wp2_with fail
              refine (so_piece i.rb l (fieldAt rw_ 1) _ (HFs.out 1) HRM2.out.r2).mono ?_
              rw [HP1.out]
              rintro e w3 ⟨hb, rfl⟩
              have HRM3 := Lib.hid (HRM2.out.below hb)
              have HGo4 := Lib.hid (HGo3.out.trans (Go2.of_below (L := L') hb))
              clear hb
              obtain ⟨hbd3, v3, hm3⟩ := HRM3.out
              obtain ⟨A3, cp3, hv3⟩ := own_slice hm3.reps.1
              have c0 := hm3.r0
              have c9 := hm3.f9
              rw [hv3] at c9
              have HM3 := Lib.hid hm3
              have HV3 := Lib.hid hv3
              have HB3 := Lib.hid hbd3
              have HS : Hid (∀ W, Below w3.heap.size w3 W → W.cell? ⟨i.rb, 0, none⟩ = some (.pointer (some ⟨i.fb, 0, none⟩)) ∧ W.cell? ⟨g2, o2 + 2, none⟩ = some (.string (fieldAt rw_ 2))) := Lib.hid (fun W hW => ⟨(HM3.out.below hW).r0, field_in D2.out (HM3.out.below hW).base⟩)
              clear hm3 hbd3 hv3
              go_wp2_with fail
              refine wp_region_held_drew (S := fun W' => W'.cell? ⟨i.rb, 0, none⟩ = some (.pointer (some ⟨i.fb, 0, none⟩)) ∧ W'.cell? ⟨g2, o2 + 2, none⟩ = some (.string (fieldAt rw_ 2))) (by kernel_rfl) ?_ (fun hHeld => ?_)
              · exact HS.out _ drew_below
              refine tkH 0 (some 26) ?_ ?_ hHeld ?_; rotate_left; focus (intro w hSw; (try dsimp only at hSw); go_simp; try with_reducible rfl); try simp only [put_norm]
              refine tkH 1 (some 27) ?_ ?_ hHeld ?_; rotate_left; focus (intro w hSw; (try dsimp only at hSw); go_simp; try with_reducible rfl); try simp only [put_norm]
              refine tkH 2 (some 28) ?_ ?_ hHeld ?_; rotate_left; focus (intro w hSw; (try dsimp only at hSw); go_simp; try with_reducible rfl); try simp only [put_norm]
              refine tkH 3 (some 29) ?_ ?_ hHeld ?_; rotate_left; focus (intro w hSw; (try dsimp only at hSw); go_simp; try with_reducible rfl); try simp only [put_norm]
              refine tkH 4 (some 30) ?_ ?_ hHeld ?_; rotate_left; focus (intro w hSw; (try dsimp only at hSw); go_simp; try with_reducible rfl); try simp only [put_norm]
              refine tkH 5 (some 31) ?_ ?_ hHeld ?_; rotate_left; focus (intro w hSw; (try dsimp only at hSw); go_simp; try with_reducible rfl); try simp only [put_norm]
              refine tkH 6 (some 32) ?_ ?_ hHeld ?_; rotate_left; focus (intro w hSw; (try dsimp only at hSw); go_simp; try with_reducible rfl); try simp only [put_norm]
              refine tkH 7 (some 33) ?_ ?_ hHeld ?_; rotate_left; focus (intro w hSw; (try dsimp only at hSw); go_simp; try with_reducible rfl); try simp only [put_norm]
              refine tkH 8 (some 34) ?_ ?_ hHeld ?_; rotate_left; focus (intro w hSw; (try dsimp only at hSw); go_simp; try with_reducible rfl); try simp only [put_norm]
              refine tkH 9 (some 35) ?_ ?_ hHeld ?_; rotate_left; focus (intro w hSw; (try dsimp only at hSw); go_simp; try with_reducible rfl); try simp only [put_norm]
              refine tkH 10 (some 36) ?_ ?_ hHeld ?_; rotate_left; focus (intro w hSw; (try dsimp only at hSw); go_simp; try with_reducible rfl); try simp only [put_norm]
              refine tkH 12 (some 38) ?_ ?_ hHeld ?_; rotate_left; focus (intro w hSw; (try dsimp only at hSw); go_simp; try with_reducible rfl); try simp only [put_norm]
              refine tkH 13 (some 39) ?_ ?_ hHeld ?_; rotate_left; focus (intro w hSw; (try dsimp only at hSw); go_simp; try with_reducible rfl); try simp only [put_norm]
              refine tkH 14 (some 40) ?_ ?_ hHeld ?_; rotate_left; focus (intro w hSw; (try dsimp only at hSw); go_simp; try with_reducible rfl); try simp only [put_norm]
              refine tkH 15 (some 41) ?_ ?_ hHeld ?_; rotate_left; focus (intro w hSw; (try dsimp only at hSw); go_simp; try with_reducible rfl); try simp only [put_norm]
              refine tkH 16 (some 42) ?_ ?_ hHeld ?_; rotate_left; focus (intro w hSw; (try dsimp only at hSw); go_simp; try with_reducible rfl); try simp only [put_norm]
              refine wpAnyH_ready (rs := [11, 17]) (by kernel_rfl) (by simp) ?_
              refine AllReadyH.cons rfl (fun K hK => ?_) ?_
              · go_simp
                refine hK.out _ _ ?_ (fun hHeld => ?_)
                · first | exact HS.out _ drew_below | exact HS.out _ HB4.out | exact HS.out _ (HB4.out.alloc (Nat.le_of_lt_succ (Nat.lt_succ_of_le HB4.out.size)) _) | exact ⟨HMF.out.r0, field_in D2.out HMF.out.base⟩
                clear hK K
                refine rdy1 17 (fun K hK => ?_)
                go_simp
                refine (so_pieceOrNone i.rb l (fieldAt rw_ 2) w3.drew (HFs.out 2) HRM3.out.r2).mono ?_
                rw [HP2.out]
                rintro e w4 ⟨hb, rfl⟩
                exact ⟨rfl, L', HGo4.out.trans (Go2.of_below (drew_below.trans hb)), by rw [HRe.out]⟩
              refine AllReadyH.cons rfl (fun K hK => ?_) ?_
              · go_simp
                refine (so_pieceOrNone i.rb l (fieldAt rw_ 2) w3.drew (HFs.out 2) HRM3.out.r2).mono ?_
                rw [HP2.out]
                rintro e w4 ⟨hb, rfl⟩
                exact ⟨rfl, L', HGo4.out.trans (Go2.of_below (drew_below.trans hb)), by rw [HRe.out]⟩
              exact AllReadyH.nil
            | ok b =>
              have HRe : Hid (R = groupR E (fun r => decide (r.take 1 = [kREP])) repR_ (n - (m + 1)) { fl := { S'.fl with reps := S'.fl.reps ++ [(a, b)] }, rows := rest, heads := S'.heads, line := l }) := Lib.hid (by rw [HGr2.out, if_pos rfl, HRp.out, hp1]; dsimp only; rw [hp2])
              have HP2 := Lib.hid hp2
              clear hp1 hp2
              go_wp2_with fail
              refine HIn.out.mono ?_
              rintro e w2 ⟨hg, fv2, rfl, hrd, hrm⟩
              have HRM2 := Lib.hid hrm
              have HGo3 := Lib.hid (HGo2.out.trans hg)
              clear hg hrm
              obtain ⟨g2, o2, c2, rfl, hc2, hcells2⟩ := (HRW.out _ hrd).cells (by omega)
              have d1' := field_in (hcells2 1 (by omega)) HRM2.out.base
              have D2 := Lib.hid (hcells2 2 (by omega))
              have hc3 : 3 ≤ c2 := by omega
              clear hcells2 hrd
              go_wp2_with fail
              refine (so_must i.rb l _ _ _ (by decide) HRM2.out.r2).mono ?_
              rintro e w' ⟨⟨-, rfl⟩ | ⟨hx, -⟩, rfl⟩
              rotate_left
              · exact absurd hx (by simp)
              go_wp2_with fail
              refine (so_piece i.rb l (fieldAt rw_ 1) _ (HFs.out 1) HRM2.out.r2).mono ?_
              rw [HP1.out]
              rintro e w3 ⟨hb, rfl⟩
              have HRM3 := Lib.hid (HRM2.out.below hb)
              have HGo4 := Lib.hid (HGo3.out.trans (Go2.of_below (L := L') hb))
              clear hb
              obtain ⟨hbd3, v3, hm3⟩ := HRM3.out
              obtain ⟨A3, cp3, hv3⟩ := own_slice hm3.reps.1
              have c0 := hm3.r0
              have c9 := hm3.f9
              rw [hv3] at c9
              have HM3 := Lib.hid hm3
              have HV3 := Lib.hid hv3
              have HB3 := Lib.hid hbd3
              have HS : Hid (∀ W, Below w3.heap.size w3 W → W.cell? ⟨i.rb, 0, none⟩ = some (.pointer (some ⟨i.fb, 0, none⟩)) ∧ W.cell? ⟨g2, o2 + 2, none⟩ = some (.string (fieldAt rw_ 2))) := Lib.hid (fun W hW => ⟨(HM3.out.below hW).r0, field_in D2.out (HM3.out.below hW).base⟩)
              clear hm3 hbd3 hv3
              go_wp2_with fail
              refine wp_region_held_drew (S := fun W' => W'.cell? ⟨i.rb, 0, none⟩ = some (.pointer (some ⟨i.fb, 0, none⟩)) ∧ W'.cell? ⟨g2, o2 + 2, none⟩ = some (.string (fieldAt rw_ 2))) (by kernel_rfl) ?_ (fun hHeld => ?_)
              · exact HS.out _ drew_below
              refine tkH 0 (some 26) ?_ ?_ hHeld ?_; rotate_left; focus (intro w hSw; (try dsimp only at hSw); go_simp; try with_reducible rfl); try simp only [put_norm]
              refine tkH 1 (some 27) ?_ ?_ hHeld ?_; rotate_left; focus (intro w hSw; (try dsimp only at hSw); go_simp; try with_reducible rfl); try simp only [put_norm]
              refine tkH 2 (some 28) ?_ ?_ hHeld ?_; rotate_left; focus (intro w hSw; (try dsimp only at hSw); go_simp; try with_reducible rfl); try simp only [put_norm]
              refine tkH 3 (some 29) ?_ ?_ hHeld ?_; rotate_left; focus (intro w hSw; (try dsimp only at hSw); go_simp; try with_reducible rfl); try simp only [put_norm]
              refine tkH 4 (some 30) ?_ ?_ hHeld ?_; rotate_left; focus (intro w hSw; (try dsimp only at hSw); go_simp; try with_reducible rfl); try simp only [put_norm]
              refine tkH 5 (some 31) ?_ ?_ hHeld ?_; rotate_left; focus (intro w hSw; (try dsimp only at hSw); go_simp; try with_reducible rfl); try simp only [put_norm]
              refine tkH 6 (some 32) ?_ ?_ hHeld ?_; rotate_left; focus (intro w hSw; (try dsimp only at hSw); go_simp; try with_reducible rfl); try simp only [put_norm]
              refine tkH 7 (some 33) ?_ ?_ hHeld ?_; rotate_left; focus (intro w hSw; (try dsimp only at hSw); go_simp; try with_reducible rfl); try simp only [put_norm]
              refine tkH 8 (some 34) ?_ ?_ hHeld ?_; rotate_left; focus (intro w hSw; (try dsimp only at hSw); go_simp; try with_reducible rfl); try simp only [put_norm]
              refine tkH 9 (some 35) ?_ ?_ hHeld ?_; rotate_left; focus (intro w hSw; (try dsimp only at hSw); go_simp; try with_reducible rfl); try simp only [put_norm]
              refine tkH 10 (some 36) ?_ ?_ hHeld ?_; rotate_left; focus (intro w hSw; (try dsimp only at hSw); go_simp; try with_reducible rfl); try simp only [put_norm]
              refine tkH 12 (some 38) ?_ ?_ hHeld ?_; rotate_left; focus (intro w hSw; (try dsimp only at hSw); go_simp; try with_reducible rfl); try simp only [put_norm]
              refine tkH 13 (some 39) ?_ ?_ hHeld ?_; rotate_left; focus (intro w hSw; (try dsimp only at hSw); go_simp; try with_reducible rfl); try simp only [put_norm]
              refine tkH 14 (some 40) ?_ ?_ hHeld ?_; rotate_left; focus (intro w hSw; (try dsimp only at hSw); go_simp; try with_reducible rfl); try simp only [put_norm]
              refine tkH 15 (some 41) ?_ ?_ hHeld ?_; rotate_left; focus (intro w hSw; (try dsimp only at hSw); go_simp; try with_reducible rfl); try simp only [put_norm]
              refine tkH 16 (some 42) ?_ ?_ hHeld ?_; rotate_left; focus (intro w hSw; (try dsimp only at hSw); go_simp; try with_reducible rfl); try simp only [put_norm]
              refine wpAnyH_ready (rs := [11, 17]) (by kernel_rfl) (by simp) ?_
              refine AllReadyH.cons rfl (fun K hK => ?_) ?_
              · go_simp
                refine hK.out _ _ ?_ (fun hHeld => ?_)
                · first | exact HS.out _ drew_below | exact HS.out _ HB4.out | exact HS.out _ (HB4.out.alloc (Nat.le_of_lt_succ (Nat.lt_succ_of_le HB4.out.size)) _) | exact ⟨HMF.out.r0, field_in D2.out HMF.out.base⟩
                clear hK K
                refine rdy1 17 (fun K hK => ?_)
                go_simp
                refine (so_pieceOrNone i.rb l (fieldAt rw_ 2) w3.drew (HFs.out 2) HRM3.out.r2).mono ?_
                rw [HP2.out]
                rintro e w4 ⟨hb, rfl⟩
                have HB4 : Hid (Below w3.heap.size w3 w4) := Lib.hid (drew_below.trans hb)
                clear hb
                have HM4 := Lib.hid (HM3.out.below HB4.out)
                have c9' := HM4.out.f9
                rw [HV3.out] at c9'
                have hfl4 := (HM4.out.hl _ HM4.out.fbL).2
                have HO4 := Lib.hid HM4.out.reps.1
                rw [HV3.out] at HO4
                refine hK.out _ _ ?_ (fun hHeld => ?_)
                · exact HS.out _ HB4.out
                clear hK K
                refine tkH 18 (some 44) ?_ ?_ hHeld ?_; rotate_left; focus (intro w hSw; (try dsimp only at hSw); go_simp; try with_reducible rfl); try simp only [put_norm]
                refine rdy1 19 (fun K hK => ?_)
                go_simp
                refine hK.out _ _ ?_ (fun hHeld => ?_)
                · first | exact HS.out _ drew_below | exact HS.out _ HB4.out | exact HS.out _ (HB4.out.alloc (Nat.le_of_lt_succ (Nat.lt_succ_of_le HB4.out.size)) _) | exact ⟨HMF.out.r0, field_in D2.out HMF.out.base⟩
                clear hK K
                refine rdy1 20 (fun K hK => ?_)
                refine step_pushL (by rfl) _ _ 78 (by rfl) 0 145 i0 _ 2 32 Tryz.underlying78 hi hz0 hz1 hz2 rfl (by decide) (.slice A3 _ cp3) _ _ (by rfl) HO4.out #[.string a, .string b] (by rfl) (by intro x hx; simp at hx; rcases hx with rfl | rfl <;> rfl) (by rfl) (by have := HB3.out.reps; unfold maxLen; omega) (by have := HB3.out.reps; omega) (Nat.zero_le _) ?_
                intro gg cc w9 hown hg9 hloc
                rw [← HV3.out] at hg9 hloc
                obtain ⟨L9, hG9, hM9⟩ := HM4.out.push_reps a b hg9 hloc hown
                have hf9 := HM4.out.file_grown hg9 (HM4.out.ty_reps) (by decide)
                have hr9 := HM4.out.rdr_grown hg9 (HM4.out.ty_reps) (by decide)
                have c9'' : w9.cell? ⟨i.fb, 9, none⟩ = some (.slice A3 S'.fl.reps.length cp3) := by rw [Lib.cell_of_heap hf9]; exact congrArg some HV3.out
                have z9 : w9.frozen? ⟨i.fb, 9, none⟩ = false := Lib.frozen_of_heap hf9 9
                have HMF := Lib.hid hM9
                have HG9 := Lib.hid hG9
                have HS9 : Hid (w9.cell? ⟨i.rb, 0, none⟩ = some (.pointer (some ⟨i.fb, 0, none⟩)) ∧ w9.cell? ⟨g2, o2 + 2, none⟩ = some (.string (fieldAt rw_ 2))) := Lib.hid ⟨by rw [Lib.cell_of_heap hr9]; rfl, field_in D2.out (HM4.out.grown_base hg9 HM4.out.reps.2)⟩
                clear hown hg9 hloc hG9 hM9 hf9 hr9
                refine hK.out _ _ ?_ (fun hHeld => ?_)
                · exact HS9.out
                clear hK K
                refine tkH 21 (some 47) ?_ ?_ hHeld ?_; rotate_left; focus (intro w hSw; (try dsimp only at hSw); go_simp; try with_reducible rfl); try simp only [put_norm]
                refine tkH 22 (some 48) ?_ ?_ hHeld ?_; rotate_left; focus (intro w hSw; (try dsimp only at hSw); go_simp; try with_reducible rfl); try simp only [put_norm]
                refine tkH 23 (some 49) ?_ ?_ hHeld ?_; rotate_left; focus (intro w hSw; (try dsimp only at hSw); go_simp; try with_reducible rfl); try simp only [put_norm]
                refine rdy1 24 (fun K hK => ?_)
                go_simp
                refine hK.out _ _ ?_ (fun hHeld => ?_)
                · first | exact HS.out _ drew_below | exact HS.out _ HB4.out | exact HS.out _ (HB4.out.alloc (Nat.le_of_lt_succ (Nat.lt_succ_of_le HB4.out.size)) _) | exact ⟨HMF.out.r0, field_in D2.out HMF.out.base⟩
                clear hK K
                refine wpAnyH_done (by kernel_rfl) ?_ _
                go_wp2_with fail
                go_roundw
                case rel => exact ⟨m + 1, _, L9, by omega, by go_num, Lib.hid ⟨HB3.out.pushReps a b, _, HMF.out⟩, Lib.hid ((HGo4.out.trans (Go2.of_below HB4.out)).trans HG9.out), Lib.hid HRe.out.symm⟩
                case measure => simp [intOf]; omega
              refine AllReadyH.cons rfl (fun K hK => ?_) ?_
              · go_simp
                refine (so_pieceOrNone i.rb l (fieldAt rw_ 2) w3.drew (HFs.out 2) HRM3.out.r2).mono ?_
                rw [HP2.out]
                rintro e w4 ⟨hb, rfl⟩
                have HB4 : Hid (Below w3.heap.size w3 w4) := Lib.hid (drew_below.trans hb)
                clear hb
                have HM4 := Lib.hid (HM3.out.below HB4.out)
                have c9' := HM4.out.f9
                rw [HV3.out] at c9'
                have hfl4 := (HM4.out.hl _ HM4.out.fbL).2
                have HO4 := Lib.hid HM4.out.reps.1
                rw [HV3.out] at HO4
                refine hK.out _ _ ?_ (fun hHeld => ?_)
                · exact HS.out _ HB4.out
                refine tkH 18 (some 44) ?_ ?_ hHeld ?_; rotate_left; focus (intro w hSw; (try dsimp only at hSw); go_simp; try with_reducible rfl); try simp only [put_norm]
                refine wpAnyH_ready (rs := [11, 19]) (by kernel_rfl) (by simp) ?_
                refine AllReadyH.cons rfl (fun K hK => ?_) ?_
                · go_simp
                  refine hK.out _ _ ?_ (fun hHeld => ?_)
                  · first | exact HS.out _ drew_below | exact HS.out _ HB4.out | exact HS.out _ (HB4.out.alloc (Nat.le_of_lt_succ (Nat.lt_succ_of_le HB4.out.size)) _) | exact ⟨HMF.out.r0, field_in D2.out HMF.out.base⟩
                  clear hK K
                  refine rdy1 19 (fun K hK => ?_)
                  go_simp
                  refine hK.out _ _ ?_ (fun hHeld => ?_)
                  · first | exact HS.out _ drew_below | exact HS.out _ HB4.out | exact HS.out _ (HB4.out.alloc (Nat.le_of_lt_succ (Nat.lt_succ_of_le HB4.out.size)) _) | exact ⟨HMF.out.r0, field_in D2.out HMF.out.base⟩
                  clear hK K
                  refine rdy1 20 (fun K hK => ?_)
                  refine step_pushL (by rfl) _ _ 78 (by rfl) 0 145 i0 _ 2 32 Tryz.underlying78 hi hz0 hz1 hz2 rfl (by decide) (.slice A3 _ cp3) _ _ (by rfl) HO4.out #[.string a, .string b] (by rfl) (by intro x hx; simp at hx; rcases hx with rfl | rfl <;> rfl) (by rfl) (by have := HB3.out.reps; unfold maxLen; omega) (by have := HB3.out.reps; omega) (Nat.zero_le _) ?_
                  intro gg cc w9 hown hg9 hloc
                  rw [← HV3.out] at hg9 hloc
                  obtain ⟨L9, hG9, hM9⟩ := HM4.out.push_reps a b hg9 hloc hown
                  have hf9 := HM4.out.file_grown hg9 (HM4.out.ty_reps) (by decide)
                  have hr9 := HM4.out.rdr_grown hg9 (HM4.out.ty_reps) (by decide)
                  have c9'' : w9.cell? ⟨i.fb, 9, none⟩ = some (.slice A3 S'.fl.reps.length cp3) := by rw [Lib.cell_of_heap hf9]; exact congrArg some HV3.out
                  have z9 : w9.frozen? ⟨i.fb, 9, none⟩ = false := Lib.frozen_of_heap hf9 9
                  have HMF := Lib.hid hM9
                  have HG9 := Lib.hid hG9
                  have HS9 : Hid (w9.cell? ⟨i.rb, 0, none⟩ = some (.pointer (some ⟨i.fb, 0, none⟩)) ∧ w9.cell? ⟨g2, o2 + 2, none⟩ = some (.string (fieldAt rw_ 2))) := Lib.hid ⟨by rw [Lib.cell_of_heap hr9]; rfl, field_in D2.out (HM4.out.grown_base hg9 HM4.out.reps.2)⟩
                  clear hown hg9 hloc hG9 hM9 hf9 hr9
                  refine hK.out _ _ ?_ (fun hHeld => ?_)
                  · exact HS9.out
                  clear hK K
                  refine tkH 21 (some 47) ?_ ?_ hHeld ?_; rotate_left; focus (intro w hSw; (try dsimp only at hSw); go_simp; try with_reducible rfl); try simp only [put_norm]
                  refine tkH 22 (some 48) ?_ ?_ hHeld ?_; rotate_left; focus (intro w hSw; (try dsimp only at hSw); go_simp; try with_reducible rfl); try simp only [put_norm]
                  refine tkH 23 (some 49) ?_ ?_ hHeld ?_; rotate_left; focus (intro w hSw; (try dsimp only at hSw); go_simp; try with_reducible rfl); try simp only [put_norm]
                  refine rdy1 24 (fun K hK => ?_)
                  go_simp
                  refine hK.out _ _ ?_ (fun hHeld => ?_)
                  · first | exact HS.out _ drew_below | exact HS.out _ HB4.out | exact HS.out _ (HB4.out.alloc (Nat.le_of_lt_succ (Nat.lt_succ_of_le HB4.out.size)) _) | exact ⟨HMF.out.r0, field_in D2.out HMF.out.base⟩
                  clear hK K
                  refine wpAnyH_done (by kernel_rfl) ?_ _
                  go_wp2_with fail
                  go_roundw
                  case rel => exact ⟨m + 1, _, L9, by omega, by go_num, Lib.hid ⟨HB3.out.pushReps a b, _, HMF.out⟩, Lib.hid ((HGo4.out.trans (Go2.of_below HB4.out)).trans HG9.out), Lib.hid HRe.out.symm⟩
                  case measure => simp [intOf]; omega
                refine AllReadyH.cons rfl (fun K hK => ?_) ?_
                · go_simp
                  refine hK.out _ _ ?_ (fun hHeld => ?_)
                  · first | exact HS.out _ drew_below | exact HS.out _ HB4.out | exact HS.out _ (HB4.out.alloc (Nat.le_of_lt_succ (Nat.lt_succ_of_le HB4.out.size)) _) | exact ⟨HMF.out.r0, field_in D2.out HMF.out.base⟩
                  clear hK K
                  refine rdy1 11 (fun K hK => ?_)
                  go_simp
                  refine hK.out _ _ ?_ (fun hHeld => ?_)
                  · first | exact HS.out _ drew_below | exact HS.out _ HB4.out | exact HS.out _ (HB4.out.alloc (Nat.le_of_lt_succ (Nat.lt_succ_of_le HB4.out.size)) _) | exact ⟨HMF.out.r0, field_in D2.out HMF.out.base⟩
                  clear hK K
                  refine rdy1 20 (fun K hK => ?_)
                  refine step_pushL (by rfl) _ _ 78 (by rfl) 0 145 i0 _ 2 32 Tryz.underlying78 hi hz0 hz1 hz2 rfl (by decide) (.slice A3 _ cp3) _ _ (by rfl) HO4.out #[.string a, .string b] (by rfl) (by intro x hx; simp at hx; rcases hx with rfl | rfl <;> rfl) (by rfl) (by have := HB3.out.reps; unfold maxLen; omega) (by have := HB3.out.reps; omega) (Nat.zero_le _) ?_
                  intro gg cc w9 hown hg9 hloc
                  rw [← HV3.out] at hg9 hloc
                  obtain ⟨L9, hG9, hM9⟩ := HM4.out.push_reps a b hg9 hloc hown
                  have hf9 := HM4.out.file_grown hg9 (HM4.out.ty_reps) (by decide)
                  have hr9 := HM4.out.rdr_grown hg9 (HM4.out.ty_reps) (by decide)
                  have c9'' : w9.cell? ⟨i.fb, 9, none⟩ = some (.slice A3 S'.fl.reps.length cp3) := by rw [Lib.cell_of_heap hf9]; exact congrArg some HV3.out
                  have z9 : w9.frozen? ⟨i.fb, 9, none⟩ = false := Lib.frozen_of_heap hf9 9
                  have HMF := Lib.hid hM9
                  have HG9 := Lib.hid hG9
                  have HS9 : Hid (w9.cell? ⟨i.rb, 0, none⟩ = some (.pointer (some ⟨i.fb, 0, none⟩)) ∧ w9.cell? ⟨g2, o2 + 2, none⟩ = some (.string (fieldAt rw_ 2))) := Lib.hid ⟨by rw [Lib.cell_of_heap hr9]; rfl, field_in D2.out (HM4.out.grown_base hg9 HM4.out.reps.2)⟩
                  clear hown hg9 hloc hG9 hM9 hf9 hr9
                  refine hK.out _ _ ?_ (fun hHeld => ?_)
                  · exact HS9.out
                  clear hK K
                  refine tkH 21 (some 47) ?_ ?_ hHeld ?_; rotate_left; focus (intro w hSw; (try dsimp only at hSw); go_simp; try with_reducible rfl); try simp only [put_norm]
                  refine tkH 22 (some 48) ?_ ?_ hHeld ?_; rotate_left; focus (intro w hSw; (try dsimp only at hSw); go_simp; try with_reducible rfl); try simp only [put_norm]
                  refine tkH 23 (some 49) ?_ ?_ hHeld ?_; rotate_left; focus (intro w hSw; (try dsimp only at hSw); go_simp; try with_reducible rfl); try simp only [put_norm]
                  refine rdy1 24 (fun K hK => ?_)
                  go_simp
                  refine hK.out _ _ ?_ (fun hHeld => ?_)
                  · first | exact HS.out _ drew_below | exact HS.out _ HB4.out | exact HS.out _ (HB4.out.alloc (Nat.le_of_lt_succ (Nat.lt_succ_of_le HB4.out.size)) _) | exact ⟨HMF.out.r0, field_in D2.out HMF.out.base⟩
                  clear hK K
                  refine wpAnyH_done (by kernel_rfl) ?_ _
                  go_wp2_with fail
                  go_roundw
                  case rel => exact ⟨m + 1, _, L9, by omega, by go_num, Lib.hid ⟨HB3.out.pushReps a b, _, HMF.out⟩, Lib.hid ((HGo4.out.trans (Go2.of_below HB4.out)).trans HG9.out), Lib.hid HRe.out.symm⟩
                  case measure => simp [intOf]; omega
                exact AllReadyH.nil
              exact AllReadyH.nil
        have q3 : ((rw_.length : Int) == 3) = false := by rw [beq_eq_false_iff_ne]; omega
        have HRe : Hid (R = .error (l, 111)) := Lib.hid (by rw [HGr2.out, if_pos rfl, repR_, if_pos h3])
        clear h3
        go_wp2_with fail
        refine HIn.out.mono ?_
        rintro e w2 ⟨hg, fv2, rfl, hrd, hrm⟩
        have HRM2 := Lib.hid hrm
        have HGo3 := Lib.hid (HGo2.out.trans hg)
        clear hg hrm
        obtain ⟨-, A2, c2, rfl, hc2, -⟩ := hrd
        go_wp2_with fail
        refine (so_must i.rb l _ _ _ (by decide) HRM2.out.r2).mono ?_
        rintro e w' ⟨⟨hx, -⟩ | ⟨-, rfl⟩, rfl⟩
        · exact absurd hx (by simp)
        exact ⟨rfl, L', HGo3.out, by rw [HRe.out]⟩
      simp only [List.length_singleton, if_neg hh] at HIn
      have HRe : Hid (R = .error (l, 116)) := Lib.hid (by rw [HGr2.out, if_neg (by simpa using hh)])
      clear hh
      go_wp2_with fail
      refine HIn.out.mono ?_
      rintro e w2 ⟨hg, rfl⟩
      exact ⟨rfl, L', HGo2.out.trans hg, by rw [HRe.out]⟩
    obtain rfl : m = n := by omega
    have HRe : Hid (R = .ok S') := Lib.hid (by rw [← HGr.out, Nat.sub_self, groupR])
    go_wp2_with fail
    go_end0
    exact ⟨L', HGo.out, by rw [HRe.out]; exact ⟨rfl, HRM.out.1.mono, HRM.out.2⟩⟩
  rw [if_pos (by rw [hq]; decide)] at HN ⊢
  clear hq
  go_enter Tryz.func80, Tryz.ntmps80
  go_wp2_with fail
  refine HN.out.mono ?_
  rintro e w' ⟨hb, rfl⟩
  exact ⟨rfl, L, Go2.of_below hb, rfl⟩
end Go.Proofs.YtfkblpjfknfgbaaGreatDoor
namespace Go.Proofs.YtfkblpjfknfgbaaGreatDoor
open Go.RowKit Go.Maps
theorem Bd.pushAls {kh k : Nat} {S : Sx} (h : Bd (kh + 1) (k + 1) S) (a : List Int) (h1 : canon a = a) (h2 : ∀ x ∈ a, 0 ≤ x ∧ x ≤ 65535) : Bd kh k { S with fl := { S.fl with als := S.fl.als ++ [a] } } :=
  ⟨h.row, by have := h.heads; show S.heads.length + S.rows.length + kh ≤ 65536; omega, h.headS, by have := h.reps; show S.fl.reps.length + S.rows.length + k ≤ 65536; omega,
    by have := h.als; show (S.fl.als ++ [a]).length + S.rows.length + k ≤ 65536; rw [List.length_append]; show S.fl.als.length + 1 + S.rows.length + k ≤ 65536; omega, by have := h.cls; show S.fl.cls.length + S.rows.length + k ≤ 65536; omega, by have := h.rls; show S.fl.rls.length + S.rows.length + k ≤ 65536; omega, h.flags,
    fun b hb => by
      rcases List.mem_append.1 hb with hb | hb
      · exact h.sets b hb
      · simp at hb; subst hb; exact ⟨h1, h2⟩, h.nexts, h.kind, h.sp, h.line⟩
theorem alias_info : (Tryz.prog.info? 29).map (fun i => (i.zero, i.size, i.bytes)) = some (some (.slice none 0 0), 1, 24) := by kernel_rfl
theorem readF_canon (kind : Int) (l : List UInt8) : canon (readF kind l).1 = (readF kind l).1 := by
  unfold readF
  split
  · exact canon_nil
  split
  · exact canon_nil
  split
  · exact canon_nil
  split
  · exact canon_nil
  exact canon_idem _
set_option maxHeartbeats 8000000 in
set_option maxRecDepth 100000 in
theorem so_aliases (w0 : World) (L : List Nat) (i : Ids) (E : Int) (kh k : Nat) (S : Sx) (fv : Value) (row : List ByteArray) (m0 : Int) (w : World) (h : RM w0 w L i E kh (k + 1) S) (hr : RowF1 w0 fv row) (hl : row.length = 2) (hm0 : w0.cell? ⟨0, 0, none⟩ = some (.int .i64 m0)) :
    Calls Tryz.prog 81 #[.pointer (some ⟨i.rb, 0, none⟩), fv] w (HeadP w0 L i E kh k (aliasG E S (fieldAt row 1)) w) := by
  obtain ⟨i0, hi, hz0, hz1, hz2⟩ := info_parts alias_info
  have hsz := fieldAt_le hr.each 1
  obtain ⟨g, o, c, rfl, hc, hcells⟩ := hr.cells (by omega)
  have d1 := field_in (hcells 1 (by omega)) h.base
  have HN : Hid (∀ x, Calls Tryz.prog 114 #[.pointer (some ⟨i.rb, 0, none⟩), .string (fieldAt row 1), .int .i64 1024] (w.drewN x) (OutW S.line (w.drewN x) (Value.int .i64) (numR_ (fieldAt row 1) 1024))) := Lib.hid (fun x => so_rdNumber i.rb S.line (fieldAt row 1) 1024 (w.drewN x) (by unfold maxLen; omega) (by decide) (by decide) (h.below (drewN_below x)).r2)
  have HM := Lib.hid h
  have HM0 := Lib.hid hm0
  rw [hl] at hc ⊢
  clear hcells hr hm0
  obtain ⟨hbd, v0, hm⟩ := h
  have hc4 := hm.r4
  have hcl : S.heads.count kPFX ≤ S.heads.length := List.count_le_length
  have hcl2 : S.heads.count kSFX ≤ S.heads.length := List.count_le_length
  have hhd := hbd.heads
  have hl1 := fun x => (hm.below (drewN_below (w := w) x)).seen.look kPFX (by decide)
  have hl2 := fun x => (hm.below (drewN_below (w := w) x)).seen.look kSFX (by decide)
  have HMq : Hid (∀ x, Calls Tryz.prog 46 #[.pointer (some ⟨i.rb, 0, none⟩), .bool true, .int .i64 113] (w.drewN x) fun e w' => e = .returned (.tuple #[]) ∧ ∃ n, w' = w.drewN n) := Lib.hid (fun x => (so_must i.rb S.line true 113 (w.drewN x) (by decide) (hm.below (drewN_below x)).r2).mono (by
    rintro e w' ⟨⟨-, rfl⟩ | ⟨hx, -⟩, rfl⟩
    · exact ⟨rfl, x, rfl⟩
    cases hx))
  obtain ⟨q1, hq1⟩ : ∃ q, S.heads.count kPFX = q := ⟨_, rfl⟩
  obtain ⟨q2, hq2⟩ : ∃ q, S.heads.count kSFX = q := ⟨_, rfl⟩
  rw [hq1] at hl1 hcl
  rw [hq2] at hl2 hcl2
  have HS0 : Hid (∀ W, Below w.heap.size w W → W.cell? ⟨i.rb, 4, none⟩ = some (.map (some i.sb))) := Lib.hid (fun W hW => (hm.below hW).r4)
  have HHn : Hid (¬ (S.heads.contains kPFX = true ∨ S.heads.contains kSFX = true) ↔ (q1 = 0 ∧ q2 = 0)) := Lib.hid (by
    rw [← hq1, ← hq2, List.count_eq_zero, List.count_eq_zero]; simp)
  clear hm hbd hq1 hq2
  unfold aliasG
  have hwr : IntKind.i64.wrap ((q1 : Int) + (q2 : Int)) = (q1 : Int) + (q2 : Int) := by rw [IntKind.wrap_i64]; omega
  by_cases h0 : q1 = 0 ∧ q2 = 0
  · rw [if_neg (HHn.out.2 h0)]
    obtain ⟨rfl, rfl⟩ := h0
    clear hcl hcl2 hhd
    rcases numErr_13 (fieldAt row 1).data.toList 1024 with hq | hq
    · rw [if_neg (by simpa using hq)]
      obtain ⟨b0, b1⟩ := numVal_bd (fieldAt row 1).data.toList 1024 (by decide)
      obtain ⟨n, hn⟩ : ∃ n : Nat, numVal (fieldAt row 1).data.toList 1024 = n := ⟨_, (Int.toNat_of_nonneg b0).symm⟩
      have HNR : Hid (numR_ (fieldAt row 1) 1024 = .ok (n : Int)) := Lib.hid (by unfold numR_; rw [if_neg (by simpa using hq), hn])
      rw [hn] at b0 b1 ⊢
      rw [Int.toNat_natCast]
      obtain ⟨R, hR⟩ : ∃ R, groupR E (fun r => decide (r.take 1 = [kAF])) aliasR n S = R := ⟨_, rfl⟩
      rw [hR]
      have HR := Lib.hid hR
      clear hR hq hn b0
      have hn2 : (n : Int) ≤ 1024 := b1
      clear b1
      go_enter Tryz.func81, Tryz.ntmps81
      go_wp2_with fail
      go_quiet (first | (go_at_call 46; exact HMq.out _))
      clear hl1 hl2 hc4
      go_wp2_with fail
      refine (HN.out _).mono ?_
      rw [HNR.out]
      rintro e w1 ⟨hb', rfl⟩
      have hb : Below w.heap.size w w1 := (drewN_below _).trans hb'
      clear hb'
      have HM1 := Lib.hid (HM.out.below hb)
      have HG1 := Lib.hid (Go2.of_below (L := L) hb)
      clear hb
      go_wp2_with fail
      go_loopw [4, 5, 6, 26] (fun _ _ _ x wr => ∃ (m : Nat) (S' : Sx) (L' : List Nat), m ≤ n ∧ x = .int .i64 m ∧ Hid (RM w0 wr L' i E kh (k + 1) S') ∧ Hid (Go2 L w L' wr) ∧ Hid (groupR E (fun r => decide (r.take 1 = [kAF])) aliasR (n - m) S' = R)) (fun _ _ _ x _ => n - (intOf x).toNat)
      case atStart => exact ⟨0, S, L, Nat.zero_le _, rfl, HM1, HG1, HR⟩
      case round =>
      obtain ⟨m, S', L', hm, rfl, HRM, HGo, HGr⟩ := hrel
      by_cases hlt : m < n
      · have hnm : n - m = (n - (m + 1)) + 1 := by omega
        have HIn := Lib.hid (so_inner w0 L' i E kh (k + 1) S' (.slice (some ⟨wr.heap.size, 0, none⟩) 1 1) [kAF] (wr.alloc (.cells #[.string kAF] 9)) (HRM.out.below ((Below.refl _ _).alloc (Nat.le_refl _) _))
          (head_rd (fun x hx => by obtain ⟨_, v, hv⟩ := HRM.out; exact (hv.hl x hx).2) kAF) (by decide))
        have HGo2 := Lib.hid (HGo.out.trans (Go2.of_below (L := L') ((Below.refl _ wr).alloc (Nat.le_refl _) (.cells #[.string kAF] 9))))
        rcases hrows : S'.rows with _ | ⟨⟨l, rw_⟩, rest⟩
        · have HRe : Hid (R = .error (E, 116)) := Lib.hid (by rw [← HGr.out, hnm, groupR, hrows])
          clear hnm
          unfold InnerP at HIn
          rw [hrows] at HIn
          clear hrows
          go_wp2_with fail
          refine HIn.out.mono ?_
          rintro e w2 ⟨hg, rfl⟩
          exact ⟨rfl, L', HGo2.out.trans hg, by rw [HRe.out]⟩
        have HBd2 := Lib.hid HRM.out.1
        have HRW : Hid (∀ fv, Rd w0 1 fv rw_.length (strV rw_) → RowF1 w0 fv rw_) := Lib.hid (fun fv h => rowF1_of HBd2.out hrows h)
        have HFs : Hid (∀ j, (fieldAt rw_ j).size ≤ 1048576) := Lib.hid (fun j => Nat.le_trans (fieldAt_le (HBd2.out.row (l, rw_) (by rw [hrows]; simp)).2.2.1 j) (by decide))
        have hrl : rw_.length ≤ 65536 := (HBd2.out.row (l, rw_) (by rw [hrows]; simp)).2.1
        have HGr2 : Hid (R = if decide (rw_.take 1 = [kAF]) = true then (match aliasR S'.fl l rw_ with
          | .error c => .error (l, c)
          | .ok F => groupR E (fun r => decide (r.take 1 = [kAF])) aliasR (n - (m + 1)) { fl := F, rows := rest, heads := S'.heads, line := l }) else .error (l, 116)) := Lib.hid (by rw [← HGr.out, hnm, groupR, hrows]; rfl)
        clear hnm
        unfold InnerP at HIn
        rw [hrows] at HIn
        dsimp only at HIn
        clear hrows
        by_cases hh : rw_.take 1 = [kAF]
        · simp only [List.length_singleton, if_pos hh] at HIn
          rw [decide_eq_true hh] at HGr2
          clear hh
          by_cases h3 : rw_.length = 2
          · have q3 : ((rw_.length : Int) == 2) = true := by rw [h3]; rfl
            have hcan := readF_canon S'.fl.kind (fieldAt rw_ 1).data.toList
            have hrb := readF_bd S'.fl.kind (fieldAt rw_ 1).data.toList
            have hAR : aliasR S'.fl l rw_ = if (readF S'.fl.kind (fieldAt rw_ 1).data.toList).2 ≠ 0 then .error (readF S'.fl.kind (fieldAt rw_ 1).data.toList).2 else .ok { S'.fl with als := S'.fl.als ++ [(readF S'.fl.kind (fieldAt rw_ 1).data.toList).1] } := by rw [aliasR, if_neg (by simp [h3])]
            obtain ⟨⟨az, e0⟩, hre⟩ : ∃ r, readF S'.fl.kind (fieldAt rw_ 1).data.toList = r := ⟨_, rfl⟩
            rw [hre] at hcan hrb hAR
            dsimp only at hcan hrb hAR
            have HP1 := Lib.hid hre
            have HAR := Lib.hid hAR
            have HCa := Lib.hid (⟨hcan, hrb⟩ : canon az = az ∧ ∀ x ∈ az, 0 ≤ x ∧ x ≤ 65535)
            clear hre hAR hcan hrb
            by_cases he0 : e0 = 0
            · subst he0
              have HRe : Hid (R = groupR E (fun r => decide (r.take 1 = [kAF])) aliasR (n - (m + 1)) { fl := { S'.fl with als := S'.fl.als ++ [az] }, rows := rest, heads := S'.heads, line := l }) := Lib.hid (by rw [HGr2.out, if_pos rfl, HAR.out, if_neg (by simp)])
              go_wp2_with fail
              refine HIn.out.mono ?_
              rintro e w2 ⟨hg, fv2, rfl, hrd, hrm⟩
              have HRM2 := Lib.hid hrm
              have HGo3 := Lib.hid (HGo2.out.trans hg)
              clear hg hrm
              obtain ⟨g2, o2, c2, rfl, hc2, hcells2⟩ := (HRW.out _ hrd).cells (by omega)
              have D2 := Lib.hid (hcells2 1 (by omega))
              have hc3 : 2 ≤ c2 := by omega
              clear hcells2 hrd
              obtain ⟨hbd2, v2, hm2⟩ := HRM2.out
              have HM2 := Lib.hid hm2
              have HS : Hid (∀ W, Below w2.heap.size w2 W → W.cell? ⟨i.rb, 0, none⟩ = some (.pointer (some ⟨i.fb, 0, none⟩)) ∧ W.cell? ⟨i.fb, 0, none⟩ = some (.int .i64 S'.fl.kind) ∧ W.cell? ⟨g2, o2 + 1, none⟩ = some (.string (fieldAt rw_ 1))) := Lib.hid (fun W hW => ⟨(HM2.out.below hW).r0, (HM2.out.below hW).f0, field_in D2.out (HM2.out.below hW).base⟩)
              have HRd := Lib.hid (so_Read S'.fl.kind (fieldAt rw_ 1) m0 w2.drew (Nat.le_trans (HFs.out 1) (by decide)) ((HM2.out.base.cell (World.block_lt_of_cell? w0 _ HM0.out)).trans HM0.out))
              rw [HP1.out] at HRd
              clear hbd2 hm2
              go_wp2_with fail
              refine (so_must i.rb l _ _ _ (by decide) HRM2.out.r2).mono ?_
              rintro e w' ⟨⟨-, rfl⟩ | ⟨hx, -⟩, rfl⟩
              rotate_left
              · exact absurd hx (by simp)
              go_wp2_with fail
              refine wp_region_held_drew (S := fun W' => W'.cell? ⟨i.rb, 0, none⟩ = some (.pointer (some ⟨i.fb, 0, none⟩)) ∧ W'.cell? ⟨i.fb, 0, none⟩ = some (.int .i64 S'.fl.kind) ∧ W'.cell? ⟨g2, o2 + 1, none⟩ = some (.string (fieldAt rw_ 1))) (by kernel_rfl) ?_ (fun hHeld => ?_)
              · exact HS.out _ drew_below
              refine tkH 0 (some 37) ?_ ?_ hHeld ?_; rotate_left; focus (intro w hSw; (try dsimp only at hSw); go_simp; try with_reducible rfl); try simp only [put_norm]
              refine tkH 1 (some 38) ?_ ?_ hHeld ?_; rotate_left; focus (intro w hSw; (try dsimp only at hSw); go_simp; try with_reducible rfl); try simp only [put_norm]
              refine tkH 2 (some 39) ?_ ?_ hHeld ?_; rotate_left; focus (intro w hSw; (try dsimp only at hSw); go_simp; try with_reducible rfl); try simp only [put_norm]
              refine tkH 3 (some 40) ?_ ?_ hHeld ?_; rotate_left; focus (intro w hSw; (try dsimp only at hSw); go_simp; try with_reducible rfl); try simp only [put_norm]
              refine tkH 4 (some 41) ?_ ?_ hHeld ?_; rotate_left; focus (intro w hSw; (try dsimp only at hSw); go_simp; try with_reducible rfl); try simp only [put_norm]
              refine tkH 5 (some 42) ?_ ?_ hHeld ?_; rotate_left; focus (intro w hSw; (try dsimp only at hSw); go_simp; try with_reducible rfl); try simp only [put_norm]
              refine tkH 6 (some 43) ?_ ?_ hHeld ?_; rotate_left; focus (intro w hSw; (try dsimp only at hSw); go_simp; try with_reducible rfl); try simp only [put_norm]
              refine tkH 7 (some 44) ?_ ?_ hHeld ?_; rotate_left; focus (intro w hSw; (try dsimp only at hSw); go_simp; try with_reducible rfl); try simp only [put_norm]
              refine tkH 8 (some 45) ?_ ?_ hHeld ?_; rotate_left; focus (intro w hSw; (try dsimp only at hSw); go_simp; try with_reducible rfl); try simp only [put_norm]
              refine tkH 9 (some 46) ?_ ?_ hHeld ?_; rotate_left; focus (intro w hSw; (try dsimp only at hSw); go_simp; try with_reducible rfl); try simp only [put_norm]
              refine tkH 10 (some 47) ?_ ?_ hHeld ?_; rotate_left; focus (intro w hSw; (try dsimp only at hSw); go_simp; try with_reducible rfl); try simp only [put_norm]
              refine rdy1 11 (fun K hK => ?_)
              go_simp
              refine HRd.out.mono ?_
              rintro e w3 ⟨u, rfl, hfn, hb⟩
              have HB3 : Hid (Below w2.heap.size w2 w3) := Lib.hid (drew_below.trans hb)
              have HFO := Lib.hid (FO.of_fn (L := L') (w := w2.drew) hfn (fun x hx => (HM2.out.hl x hx).2))
              clear hb hfn
              refine hK.out _ _ ?_ (fun hHeld => ?_)
              · exact HS.out _ HB3.out
              clear hK K
              refine tkH 12 (some 36) ?_ ?_ hHeld ?_; rotate_left; focus (intro w hSw; (try dsimp only at hSw); go_simp; try with_reducible rfl); try simp only [put_norm]
              refine tkH 13 (some 49) ?_ ?_ hHeld ?_; rotate_left; focus (intro w hSw; (try dsimp only at hSw); go_simp; try with_reducible rfl); try simp only [put_norm]
              refine tkH 14 (some 50) ?_ ?_ hHeld ?_; rotate_left; focus (intro w hSw; (try dsimp only at hSw); go_simp; try with_reducible rfl); try simp only [put_norm]
              refine tkH 15 (some 5) ?_ ?_ hHeld ?_; rotate_left; focus (intro w hSw; (try dsimp only at hSw); go_simp; try with_reducible rfl); try simp only [put_norm]
              refine tkH 16 (some 6) ?_ ?_ hHeld ?_; rotate_left; focus (intro w hSw; (try dsimp only at hSw); go_simp; try with_reducible rfl); try simp only [put_norm]
              refine wpAnyH_done (by kernel_rfl) ?_ _
              have HRM3 := Lib.hid (HRM2.out.below HB3.out)
              have HGo4 := Lib.hid (HGo3.out.trans (Go2.of_below (L := L') HB3.out))
              go_wp2_with fail
              refine (so_need i.rb l _ _ HRM3.out.r2).mono ?_
              rintro e w' ⟨⟨-, rfl⟩ | ⟨hx, -⟩, rfl⟩
              rotate_left
              · exact absurd hx (by decide)
              obtain ⟨hbd3, v3, hm3⟩ := HRM3.out
              obtain ⟨us3, ho3, hul3, hua3⟩ := hm3.als
              obtain ⟨A3, cp3, hv3⟩ := own_slice ho3.1
              have c0 := hm3.r0
              have c9 := hm3.f10
              rw [hv3] at c9
              have HO3 := Lib.hid ho3.1
              rw [hv3] at HO3
              have hfl3 := (hm3.hl _ hm3.fbL).2
              have HM3 := Lib.hid hm3
              have HV3 := Lib.hid hv3
              have HB3' := Lib.hid hbd3
              have hal3 : S'.fl.als.length ≤ 65536 := by have h : S'.fl.als.length + rest.length + _ ≤ 65536 := hbd3.als; omega
              have HSs : Hid (∀ W, Below w3.heap.size w3 W → W.cell? ⟨i.rb, 0, none⟩ = some (.pointer (some ⟨i.fb, 0, none⟩))) := Lib.hid (fun W hW => (HM3.out.below hW).r0)
              obtain ⟨pu, cu, rfl⟩ : ∃ p c, u = .slice p az.length c := by
                obtain ⟨p, c, h1, -⟩ := HFO.out
                exact ⟨p, c, h1⟩
              clear hm3 hbd3 hv3 ho3 hul3 hua3
              go_wp2_with fail
              refine wp_region_held_drew (S := fun W' => W'.cell? ⟨i.rb, 0, none⟩ = some (.pointer (some ⟨i.fb, 0, none⟩))) (by kernel_rfl) ?_ (fun hHeld => ?_)
              · exact HSs.out _ drew_below
              refine tkH 0 (some 54) ?_ ?_ hHeld ?_; rotate_left; focus (intro w hSw; (try dsimp only at hSw); go_simp; try with_reducible rfl); try simp only [put_norm]
              refine tkH 1 (some 55) ?_ ?_ hHeld ?_; rotate_left; focus (intro w hSw; (try dsimp only at hSw); go_simp; try with_reducible rfl); try simp only [put_norm]
              refine tkH 2 (some 56) ?_ ?_ hHeld ?_; rotate_left; focus (intro w hSw; (try dsimp only at hSw); go_simp; try with_reducible rfl); try simp only [put_norm]
              refine tkH 3 (some 57) ?_ ?_ hHeld ?_; rotate_left; focus (intro w hSw; (try dsimp only at hSw); go_simp; try with_reducible rfl); try simp only [put_norm]
              refine tkH 4 (some 58) ?_ ?_ hHeld ?_; rotate_left; focus (intro w hSw; (try dsimp only at hSw); go_simp; try with_reducible rfl); try simp only [put_norm]
              refine tkH 5 (some 59) ?_ ?_ hHeld ?_; rotate_left; focus (intro w hSw; (try dsimp only at hSw); go_simp; try with_reducible rfl); try simp only [put_norm]
              refine tkH 6 (some 60) ?_ ?_ hHeld ?_; rotate_left; focus (intro w hSw; (try dsimp only at hSw); go_simp; try with_reducible rfl); try simp only [put_norm]
              refine tkH 7 (some 61) ?_ ?_ hHeld ?_; rotate_left; focus (intro w hSw; (try dsimp only at hSw); go_simp; try with_reducible rfl); try simp only [put_norm]
              refine tkH 8 (some 62) ?_ ?_ hHeld ?_; rotate_left; focus (intro w hSw; (try dsimp only at hSw); go_simp; try with_reducible rfl); try simp only [put_norm]
              refine tkH 9 (some 63) ?_ ?_ hHeld ?_; rotate_left; focus (intro w hSw; (try dsimp only at hSw); go_simp; try with_reducible rfl); try simp only [put_norm]
              refine tkH 10 (some 64) ?_ ?_ hHeld ?_; rotate_left; focus (intro w hSw; (try dsimp only at hSw); go_simp; try with_reducible rfl); try simp only [put_norm]
              refine tkH 12 (some 66) ?_ ?_ hHeld ?_; rotate_left; focus (intro w hSw; (try dsimp only at hSw); go_simp; try with_reducible rfl); try simp only [put_norm]
              refine wpAnyH_ready (rs := [11, 13]) (by kernel_rfl) (by simp) ?_
              refine AllReadyH.cons rfl (fun K hK => ?_) ?_
              · go_simp
                refine hK.out _ _ ?_ (fun hHeld => ?_)
                · first | exact HSs.out _ drew_below | exact HSs.out _ (drew_below.alloc (Nat.le_refl _) _) | exact HMF.out.r0
                clear hK K
                refine rdy1 13 (fun K hK => ?_)
                go_simp
                refine hK.out _ _ ?_ (fun hHeld => ?_)
                · first | exact HSs.out _ drew_below | exact HSs.out _ (drew_below.alloc (Nat.le_refl _) _) | exact HMF.out.r0
                clear hK K
                refine rdy1 14 (fun K hK => ?_)
                refine step_pushL (w := w3.drew) (by rfl) _ _ 79 (by rfl) 0 29 i0 _ 1 24 Tryz.underlying79 hi hz0 hz1 hz2 rfl (by decide) (.slice A3 S'.fl.als.length cp3) S'.fl.als.length us3 (by rfl) HO3.out #[.slice pu az.length cu] (by rfl) (by intro x hx; simp at hx; subst hx; rfl) (by rfl) (by unfold maxLen; omega) (by omega) (Nat.zero_le _) ?_
                intro gg cc w9 hown hg9 hloc
                rw [← HV3.out] at hg9 hloc
                obtain ⟨L9, hG9, hM9⟩ := (HM3.out.below drew_below).push_als (.slice pu az.length cu) az (HFO.out.keep (Go2.of_below drew_below)) hg9 hloc (fun us hus => by have e1 := own_uniq HO3.out (show w3.ownsRow 0 29 1 (.slice A3 S'.fl.als.length cp3) S'.fl.als.length us by rw [← HV3.out]; exact hus); subst e1; exact hown)
                have hf9 := (HM3.out.below (drew_below (w := w3))).file_grown hg9 ((HM3.out.below (drew_below (w := w3))).ty_als) (by decide)
                have hr9 := (HM3.out.below (drew_below (w := w3))).rdr_grown hg9 ((HM3.out.below (drew_below (w := w3))).ty_als) (by decide)
                have c9'' : w9.cell? ⟨i.fb, 10, none⟩ = some (.slice A3 S'.fl.als.length cp3) := by rw [Lib.cell_of_heap hf9]; exact congrArg some HV3.out
                have z9 : w9.frozen? ⟨i.fb, 10, none⟩ = false := Lib.frozen_of_heap hf9 10
                have HMF := Lib.hid hM9
                have HG9 := Lib.hid hG9
                have HS9 : Hid (w9.cell? ⟨i.rb, 0, none⟩ = some (.pointer (some ⟨i.fb, 0, none⟩))) := Lib.hid (by rw [Lib.cell_of_heap hr9]; rfl)
                clear hown hg9 hloc hG9 hM9 hf9 hr9
                refine hK.out _ _ ?_ (fun hHeld => ?_)
                · exact HS9.out
                clear hK K
                refine tkH 15 (some 69) ?_ ?_ hHeld ?_; rotate_left; focus (intro w hSw; (try dsimp only at hSw); go_simp; try with_reducible rfl); try simp only [put_norm]
                refine tkH 16 (some 70) ?_ ?_ hHeld ?_; rotate_left; focus (intro w hSw; (try dsimp only at hSw); go_simp; try with_reducible rfl); try simp only [put_norm]
                refine tkH 17 (some 71) ?_ ?_ hHeld ?_; rotate_left; focus (intro w hSw; (try dsimp only at hSw); go_simp; try with_reducible rfl); try simp only [put_norm]
                refine rdy1 18 (fun K hK => ?_)
                go_simp
                refine hK.out _ _ ?_ (fun hHeld => ?_)
                · first | exact HSs.out _ drew_below | exact HSs.out _ (drew_below.alloc (Nat.le_refl _) _) | exact HMF.out.r0
                clear hK K
                refine wpAnyH_done (by kernel_rfl) ?_ _
                go_wp2_with fail
                go_roundw
                case rel => exact ⟨m + 1, _, L9, by omega, by go_num, Lib.hid ⟨HB3'.out.pushAls az HCa.out.1 HCa.out.2, _, HMF.out⟩, Lib.hid ((HGo4.out.trans (Go2.of_below drew_below)).trans HG9.out), Lib.hid HRe.out.symm⟩
                case measure => simp [intOf]; omega
              refine AllReadyH.cons rfl (fun K hK => ?_) ?_
              · go_simp
                refine hK.out _ _ ?_ (fun hHeld => ?_)
                · first | exact HSs.out _ drew_below | exact HSs.out _ (drew_below.alloc (Nat.le_refl _) _) | exact HMF.out.r0
                clear hK K
                refine rdy1 11 (fun K hK => ?_)
                go_simp
                refine hK.out _ _ ?_ (fun hHeld => ?_)
                · first | exact HSs.out _ drew_below | exact HSs.out _ (drew_below.alloc (Nat.le_refl _) _) | exact HMF.out.r0
                clear hK K
                refine rdy1 14 (fun K hK => ?_)
                refine step_pushL (w := w3.drew) (by rfl) _ _ 79 (by rfl) 0 29 i0 _ 1 24 Tryz.underlying79 hi hz0 hz1 hz2 rfl (by decide) (.slice A3 S'.fl.als.length cp3) S'.fl.als.length us3 (by rfl) HO3.out #[.slice pu az.length cu] (by rfl) (by intro x hx; simp at hx; subst hx; rfl) (by rfl) (by unfold maxLen; omega) (by omega) (Nat.zero_le _) ?_
                intro gg cc w9 hown hg9 hloc
                rw [← HV3.out] at hg9 hloc
                obtain ⟨L9, hG9, hM9⟩ := (HM3.out.below drew_below).push_als (.slice pu az.length cu) az (HFO.out.keep (Go2.of_below drew_below)) hg9 hloc (fun us hus => by have e1 := own_uniq HO3.out (show w3.ownsRow 0 29 1 (.slice A3 S'.fl.als.length cp3) S'.fl.als.length us by rw [← HV3.out]; exact hus); subst e1; exact hown)
                have hf9 := (HM3.out.below (drew_below (w := w3))).file_grown hg9 ((HM3.out.below (drew_below (w := w3))).ty_als) (by decide)
                have hr9 := (HM3.out.below (drew_below (w := w3))).rdr_grown hg9 ((HM3.out.below (drew_below (w := w3))).ty_als) (by decide)
                have c9'' : w9.cell? ⟨i.fb, 10, none⟩ = some (.slice A3 S'.fl.als.length cp3) := by rw [Lib.cell_of_heap hf9]; exact congrArg some HV3.out
                have z9 : w9.frozen? ⟨i.fb, 10, none⟩ = false := Lib.frozen_of_heap hf9 10
                have HMF := Lib.hid hM9
                have HG9 := Lib.hid hG9
                have HS9 : Hid (w9.cell? ⟨i.rb, 0, none⟩ = some (.pointer (some ⟨i.fb, 0, none⟩))) := Lib.hid (by rw [Lib.cell_of_heap hr9]; rfl)
                clear hown hg9 hloc hG9 hM9 hf9 hr9
                refine hK.out _ _ ?_ (fun hHeld => ?_)
                · exact HS9.out
                clear hK K
                refine tkH 15 (some 69) ?_ ?_ hHeld ?_; rotate_left; focus (intro w hSw; (try dsimp only at hSw); go_simp; try with_reducible rfl); try simp only [put_norm]
                refine tkH 16 (some 70) ?_ ?_ hHeld ?_; rotate_left; focus (intro w hSw; (try dsimp only at hSw); go_simp; try with_reducible rfl); try simp only [put_norm]
                refine tkH 17 (some 71) ?_ ?_ hHeld ?_; rotate_left; focus (intro w hSw; (try dsimp only at hSw); go_simp; try with_reducible rfl); try simp only [put_norm]
                refine rdy1 18 (fun K hK => ?_)
                go_simp
                refine hK.out _ _ ?_ (fun hHeld => ?_)
                · first | exact HSs.out _ drew_below | exact HSs.out _ (drew_below.alloc (Nat.le_refl _) _) | exact HMF.out.r0
                clear hK K
                refine wpAnyH_done (by kernel_rfl) ?_ _
                go_wp2_with fail
                go_roundw
                case rel => exact ⟨m + 1, _, L9, by omega, by go_num, Lib.hid ⟨HB3'.out.pushAls az HCa.out.1 HCa.out.2, _, HMF.out⟩, Lib.hid ((HGo4.out.trans (Go2.of_below drew_below)).trans HG9.out), Lib.hid HRe.out.symm⟩
                case measure => simp [intOf]; omega
              exact AllReadyH.nil
            have HRe : Hid (R = .error (l, e0)) := Lib.hid (by rw [HGr2.out, if_pos rfl, HAR.out, if_pos he0])
            have HE0 : Hid ((e0 == 0) = false) := Lib.hid (by simpa using he0)
            clear he0
            go_wp2_with fail
            refine HIn.out.mono ?_
            rintro e w2 ⟨hg, fv2, rfl, hrd, hrm⟩
            have HRM2 := Lib.hid hrm
            have HGo3 := Lib.hid (HGo2.out.trans hg)
            clear hg hrm
            obtain ⟨g2, o2, c2, rfl, hc2, hcells2⟩ := (HRW.out _ hrd).cells (by omega)
            have D2 := Lib.hid (hcells2 1 (by omega))
            have hc3 : 2 ≤ c2 := by omega
            clear hcells2 hrd
            obtain ⟨hbd2, v2, hm2⟩ := HRM2.out
            have HM2 := Lib.hid hm2
            have HS : Hid (∀ W, Below w2.heap.size w2 W → W.cell? ⟨i.rb, 0, none⟩ = some (.pointer (some ⟨i.fb, 0, none⟩)) ∧ W.cell? ⟨i.fb, 0, none⟩ = some (.int .i64 S'.fl.kind) ∧ W.cell? ⟨g2, o2 + 1, none⟩ = some (.string (fieldAt rw_ 1))) := Lib.hid (fun W hW => ⟨(HM2.out.below hW).r0, (HM2.out.below hW).f0, field_in D2.out (HM2.out.below hW).base⟩)
            have HRd := Lib.hid (so_Read S'.fl.kind (fieldAt rw_ 1) m0 w2.drew (Nat.le_trans (HFs.out 1) (by decide)) ((HM2.out.base.cell (World.block_lt_of_cell? w0 _ HM0.out)).trans HM0.out))
            rw [HP1.out] at HRd
            clear hbd2 hm2
            go_wp2_with fail
            refine (so_must i.rb l _ _ _ (by decide) HRM2.out.r2).mono ?_
            rintro e w' ⟨⟨-, rfl⟩ | ⟨hx, -⟩, rfl⟩
            rotate_left
            · exact absurd hx (by simp)
            go_wp2_with fail
            refine wp_region_held_drew (S := fun W' => W'.cell? ⟨i.rb, 0, none⟩ = some (.pointer (some ⟨i.fb, 0, none⟩)) ∧ W'.cell? ⟨i.fb, 0, none⟩ = some (.int .i64 S'.fl.kind) ∧ W'.cell? ⟨g2, o2 + 1, none⟩ = some (.string (fieldAt rw_ 1))) (by kernel_rfl) ?_ (fun hHeld => ?_)
            · exact HS.out _ drew_below
            refine tkH 0 (some 37) ?_ ?_ hHeld ?_; rotate_left; focus (intro w hSw; (try dsimp only at hSw); go_simp; try with_reducible rfl); try simp only [put_norm]
            refine tkH 1 (some 38) ?_ ?_ hHeld ?_; rotate_left; focus (intro w hSw; (try dsimp only at hSw); go_simp; try with_reducible rfl); try simp only [put_norm]
            refine tkH 2 (some 39) ?_ ?_ hHeld ?_; rotate_left; focus (intro w hSw; (try dsimp only at hSw); go_simp; try with_reducible rfl); try simp only [put_norm]
            refine tkH 3 (some 40) ?_ ?_ hHeld ?_; rotate_left; focus (intro w hSw; (try dsimp only at hSw); go_simp; try with_reducible rfl); try simp only [put_norm]
            refine tkH 4 (some 41) ?_ ?_ hHeld ?_; rotate_left; focus (intro w hSw; (try dsimp only at hSw); go_simp; try with_reducible rfl); try simp only [put_norm]
            refine tkH 5 (some 42) ?_ ?_ hHeld ?_; rotate_left; focus (intro w hSw; (try dsimp only at hSw); go_simp; try with_reducible rfl); try simp only [put_norm]
            refine tkH 6 (some 43) ?_ ?_ hHeld ?_; rotate_left; focus (intro w hSw; (try dsimp only at hSw); go_simp; try with_reducible rfl); try simp only [put_norm]
            refine tkH 7 (some 44) ?_ ?_ hHeld ?_; rotate_left; focus (intro w hSw; (try dsimp only at hSw); go_simp; try with_reducible rfl); try simp only [put_norm]
            refine tkH 8 (some 45) ?_ ?_ hHeld ?_; rotate_left; focus (intro w hSw; (try dsimp only at hSw); go_simp; try with_reducible rfl); try simp only [put_norm]
            refine tkH 9 (some 46) ?_ ?_ hHeld ?_; rotate_left; focus (intro w hSw; (try dsimp only at hSw); go_simp; try with_reducible rfl); try simp only [put_norm]
            refine tkH 10 (some 47) ?_ ?_ hHeld ?_; rotate_left; focus (intro w hSw; (try dsimp only at hSw); go_simp; try with_reducible rfl); try simp only [put_norm]
            refine rdy1 11 (fun K hK => ?_)
            go_simp
            refine HRd.out.mono ?_
            rintro e w3 ⟨u, rfl, hfn, hb⟩
            have HB3 : Hid (Below w2.heap.size w2 w3) := Lib.hid (drew_below.trans hb)
            have HFO := Lib.hid (FO.of_fn (L := L') (w := w2.drew) hfn (fun x hx => (HM2.out.hl x hx).2))
            clear hb hfn
            refine hK.out _ _ ?_ (fun hHeld => ?_)
            · exact HS.out _ HB3.out
            clear hK K
            refine tkH 12 (some 36) ?_ ?_ hHeld ?_; rotate_left; focus (intro w hSw; (try dsimp only at hSw); go_simp; try with_reducible rfl); try simp only [put_norm]
            refine tkH 13 (some 49) ?_ ?_ hHeld ?_; rotate_left; focus (intro w hSw; (try dsimp only at hSw); go_simp; try with_reducible rfl); try simp only [put_norm]
            refine tkH 14 (some 50) ?_ ?_ hHeld ?_; rotate_left; focus (intro w hSw; (try dsimp only at hSw); go_simp; try with_reducible rfl); try simp only [put_norm]
            refine tkH 15 (some 5) ?_ ?_ hHeld ?_; rotate_left; focus (intro w hSw; (try dsimp only at hSw); go_simp; try with_reducible rfl); try simp only [put_norm]
            refine tkH 16 (some 6) ?_ ?_ hHeld ?_; rotate_left; focus (intro w hSw; (try dsimp only at hSw); go_simp; try with_reducible rfl); try simp only [put_norm]
            refine wpAnyH_done (by kernel_rfl) ?_ _
            have HRM3 := Lib.hid (HRM2.out.below HB3.out)
            have HGo4 := Lib.hid (HGo3.out.trans (Go2.of_below (L := L') HB3.out))
            go_wp2_with fail
            refine (so_need i.rb l _ _ HRM3.out.r2).mono ?_
            rw [HE0.out]
            rintro e w' ⟨⟨hx, -⟩ | ⟨-, rfl⟩, rfl⟩
            · cases hx
            exact ⟨rfl, L', HGo4.out, by rw [HRe.out]⟩
          have q3 : ((rw_.length : Int) == 2) = false := by rw [beq_eq_false_iff_ne]; omega
          have HRe : Hid (R = .error (l, 111)) := Lib.hid (by rw [HGr2.out, if_pos rfl, aliasR, if_pos h3])
          clear h3
          go_wp2_with fail
          refine HIn.out.mono ?_
          rintro e w2 ⟨hg, fv2, rfl, hrd, hrm⟩
          have HRM2 := Lib.hid hrm
          have HGo3 := Lib.hid (HGo2.out.trans hg)
          clear hg hrm
          obtain ⟨-, A2, c2, rfl, hc2, -⟩ := hrd
          go_wp2_with fail
          refine (so_must i.rb l _ _ _ (by decide) HRM2.out.r2).mono ?_
          rintro e w' ⟨⟨hx, -⟩ | ⟨-, rfl⟩, rfl⟩
          · exact absurd hx (by simp)
          exact ⟨rfl, L', HGo3.out, by rw [HRe.out]⟩
        simp only [List.length_singleton, if_neg hh] at HIn
        have HRe : Hid (R = .error (l, 116)) := Lib.hid (by rw [HGr2.out, if_neg (by simpa using hh)])
        clear hh
        go_wp2_with fail
        refine HIn.out.mono ?_
        rintro e w2 ⟨hg, rfl⟩
        exact ⟨rfl, L', HGo2.out.trans hg, by rw [HRe.out]⟩
      obtain rfl : m = n := by omega
      have HRe : Hid (R = .ok S') := Lib.hid (by rw [← HGr.out, Nat.sub_self, groupR])
      go_wp2_with fail
      go_end0
      exact ⟨L', HGo.out, by rw [HRe.out]; exact ⟨rfl, HRM.out.1.mono, HRM.out.2⟩⟩
    rw [if_pos (by rw [hq]; decide)]
    have HNR : Hid (numR_ (fieldAt row 1) 1024 = .error 13) := Lib.hid (by unfold numR_; rw [if_pos (by rw [hq]; decide)])
    clear hq
    go_enter Tryz.func81, Tryz.ntmps81
    go_wp2_with fail
    go_quiet (first | (go_at_call 46; exact HMq.out _))
    clear hl1 hl2 hc4
    go_wp2_with fail
    refine (HN.out _).mono ?_
    rw [HNR.out]
    rintro e w1 ⟨hb', rfl⟩
    have hb : Below w.heap.size w w1 := (drewN_below _).trans hb'
    clear hb'
    exact ⟨rfl, L, Go2.of_below hb, rfl⟩
  rw [if_pos (Classical.not_not.1 (fun h => h0 (HHn.out.1 h)))]
  have hne : (((q1 : Int) + (q2 : Int)) == 0) = false := by rw [beq_eq_false_iff_ne]; omega
  clear h0
  have hl1' : (Instr.lookup 117 (.map (some i.sb)) (.string kPFX) false).run Tryz.prog w.drew = .ok (.int .i64 (q1 : Int)) w.drew := hl1 1
  have hl2' : (Instr.lookup 117 (.map (some i.sb)) (.string kSFX) false).run Tryz.prog w.drew = .ok (.int .i64 (q2 : Int)) w.drew := hl2 1
  clear hl1 hl2
  go_enter Tryz.func81, Tryz.ntmps81
  go_wp2_with fail
  refine wp_region_held_drew (S := fun W' => W'.cell? ⟨i.rb, 4, none⟩ = some (.map (some i.sb))) (by kernel_rfl) ?_ (fun hHeld => ?_)
  · exact HS0.out _ drew_below
  refine tkH 0 (some 7) ?_ ?_ hHeld ?_; rotate_left; focus (intro w hSw; (try dsimp only at hSw); go_simp; try with_reducible rfl); try simp only [put_norm]
  refine tkH 1 (some 8) ?_ ?_ hHeld ?_; rotate_left; focus (intro w hSw; (try dsimp only at hSw); go_simp; try with_reducible rfl); try simp only [put_norm]
  refine tkH 2 (some 9) ?_ ?_ hHeld ?_; rotate_left; focus (intro w hSw; (try dsimp only at hSw); go_simp; try with_reducible rfl); try simp only [put_norm]
  refine tkH 3 (some 10) ?_ ?_ hHeld ?_; rotate_left; focus (intro w hSw; (try dsimp only at hSw); go_simp; try with_reducible rfl); try simp only [put_norm]
  refine tkH 4 (some 11) ?_ ?_ hHeld ?_; rotate_left; focus (intro w hSw; (try dsimp only at hSw); go_simp; try with_reducible rfl); try simp only [put_norm]
  refine tkH 6 (some 13) ?_ ?_ hHeld ?_; rotate_left; focus (intro w hSw; (try dsimp only at hSw); go_simp; try with_reducible rfl); try simp only [put_norm]
  refine tkH 7 (some 14) ?_ ?_ hHeld ?_; rotate_left; focus (intro w hSw; (try dsimp only at hSw); go_simp; try with_reducible rfl); try simp only [put_norm]
  refine tkH 8 (some 15) ?_ ?_ hHeld ?_; rotate_left; focus (intro w hSw; (try dsimp only at hSw); go_simp; try with_reducible rfl); try simp only [put_norm]
  refine tkH 9 (some 16) ?_ ?_ hHeld ?_; rotate_left; focus (intro w hSw; (try dsimp only at hSw); go_simp; try with_reducible rfl); try simp only [put_norm]
  refine wpAnyH_ready (rs := [5, 10]) (by kernel_rfl) (by simp) ?_
  refine AllReadyH.cons rfl (fun K hK => ?_) ?_
  · go_simp
    refine hK.out _ _ ?_ (fun hHeld => ?_)
    · exact HS0.out _ drew_below
    clear hK K
    refine rdy1 10 (fun K hK => ?_)
    go_simp
    refine hK.out _ _ ?_ (fun hHeld => ?_)
    · exact HS0.out _ drew_below
    clear hK K
    refine tkH 11 (some 18) ?_ ?_ hHeld ?_; rotate_left; focus (intro w hSw; (try dsimp only at hSw); go_simp; try with_reducible rfl); try simp only [put_norm]
    refine tkH 12 (some 19) ?_ ?_ hHeld ?_; rotate_left; focus (intro w hSw; (try dsimp only at hSw); go_simp; try with_reducible rfl); try simp only [put_norm]
    refine rdy1 13 (fun K hK => ?_)
    go_simp
    refine (so_must i.rb S.line _ _ _ (by decide) (HM.out.below (drew_below (w := w))).r2).mono ?_
    rintro e w' ⟨⟨hx, -⟩ | ⟨-, rfl⟩, rfl⟩
    · exact absurd hx (by simp)
    exact ⟨rfl, L, Go2.of_below drew_below, rfl⟩
  refine AllReadyH.cons rfl (fun K hK => ?_) ?_
  · go_simp
    refine hK.out _ _ ?_ (fun hHeld => ?_)
    · exact HS0.out _ drew_below
    clear hK K
    refine rdy1 5 (fun K hK => ?_)
    go_simp
    refine hK.out _ _ ?_ (fun hHeld => ?_)
    · exact HS0.out _ drew_below
    clear hK K
    refine tkH 11 (some 18) ?_ ?_ hHeld ?_; rotate_left; focus (intro w hSw; (try dsimp only at hSw); go_simp; try with_reducible rfl); try simp only [put_norm]
    refine tkH 12 (some 19) ?_ ?_ hHeld ?_; rotate_left; focus (intro w hSw; (try dsimp only at hSw); go_simp; try with_reducible rfl); try simp only [put_norm]
    refine rdy1 13 (fun K hK => ?_)
    go_simp
    refine (so_must i.rb S.line _ _ _ (by decide) (HM.out.below (drew_below (w := w))).r2).mono ?_
    rintro e w' ⟨⟨hx, -⟩ | ⟨-, rfl⟩, rfl⟩
    · exact absurd hx (by simp)
    exact ⟨rfl, L, Go2.of_below drew_below, rfl⟩
  exact AllReadyH.nil
end Go.Proofs.YtfkblpjfknfgbaaGreatDoor
namespace Go.Proofs.YtfkblpjfknfgbaaGreatDoor
open Go.RowKit Go.Maps
structure FileF (w : World) (fb : Nat) (kind : Int) (av : Value) (us : List Value) (al : List (List Int)) : Prop where
  kind : w.cell? ⟨fb, 0, none⟩ = some (.int .i64 kind)
  als : w.cell? ⟨fb, 10, none⟩ = some av
  row : Rd w 1 av al.length us
  sets : ∀ (k : Nat) u a, us[k]? = some u → al[k]? = some a → FS w u a
  canons : ∀ a ∈ al, canon a = a ∧ a.length ≤ 65536
def FlgP (r : List Int × Int) (w : World) (e : Ending) (w' : World) : Prop := ∃ v, e = .returned (.tuple #[v, .int .i64 r.2]) ∧ FN w.heap.size w' v r.1 ∧ Below w.heap.size w w'
def flagsA (kind : Int) (al : List (List Int)) (s : List UInt8) : List Int × Int :=
  if al.length = 0 then readF kind s else if numErr s al.length ≠ 0 ∨ numVal s al.length = 0 then ([], 13) else (al.getD (numVal s al.length - 1).toNat [], 0)
theorem flagsR_eq (F : Fl) (s : ByteArray) : flagsR F s = flagsA F.kind F.als s.data.toList := rfl
set_option maxHeartbeats 1000000 in
set_option maxRecDepth 100000 in
theorem so_fileFlags (fb : Nat) (kind m0 : Int) (av : Value) (us : List Value) (al : List (List Int)) (s : ByteArray) (w : World) (h : FileF w fb kind av us al) (hn : al.length ≤ 65536) (hs : s.size ≤ 4194304) (hm : w.cell? ⟨0, 0, none⟩ = some (.int .i64 m0)) :
    Calls Tryz.prog 34 #[.pointer (some ⟨fb, 0, none⟩), .string s] w (FlgP (flagsA kind al s.data.toList) w) := by
  have hk := h.kind
  have ha := h.als
  obtain ⟨h1, A, cp, rfl, hcap, hcells⟩ := h.row
  have HC := Lib.hid hcells
  have HF := Lib.hid h
  have HL := Lib.hid h1
  clear hcells h h1
  by_cases h0 : al.length = 0
  · have e0 : ((al.length : Int) == 0) = true := by rw [h0]; rfl
    have HR := Lib.hid (so_Read kind s m0 w hs hm)
    have HX : Hid (flagsA kind al s.data.toList = readF kind s.data.toList) := Lib.hid (by rw [flagsA, if_pos h0])
    clear h0 hm
    go_enter Tryz.func34, Tryz.ntmps34
    go_wp2_with (go_at_call 62; refine HR.out.mono ?_; rintro e w2 ⟨v, rfl, hv, hb⟩; have HV := Lib.hid hv; have HB := Lib.hid hb; clear hv hb)
    refine bodyPost_ret (v := .tuple #[v, .int .i64 (readF kind s.data.toList).2]) (by simp [results, Tryz.results34, go_sem]; try rfl) rfl ?_
    unfold FlgP
    rw [HX.out]
    exact ⟨v, rfl, HV.out, HB.out⟩
  have e0 : ((al.length : Int) == 0) = false := by rw [beq_eq_false_iff_ne]; omega
  have HN := Lib.hid (Number_any s al.length w (by unfold maxLen; omega) (by omega) (by omega))
  obtain ⟨b, off, rfl, hc⟩ := HC.out.resolve_left h0
  have HCl := Lib.hid hc
  obtain ⟨b0, b1⟩ := numVal_bd s.data.toList al.length (by omega)
  clear hc HC hm
  by_cases h13 : numErr s.data.toList al.length ≠ 0 ∨ numVal s.data.toList al.length = 0
  · have HX : Hid (flagsA kind al s.data.toList = ([], 13)) := Lib.hid (by rw [flagsA, if_neg h0, if_pos h13])
    rcases numErr_13 s.data.toList al.length with h | h
    · have hv : numVal s.data.toList al.length = 0 := h13.resolve_left (by rw [h]; simp)
      have HN2 : Hid (Calls Tryz.prog 63 #[.string s, .int .i64 (al.length : Int)] w fun e w' => e = .returned (.tuple #[.int .i64 0, .int .i64 0]) ∧ w = w') := Lib.hid (by
        have h2 := HN.out
        unfold NumRet at h2
        rwa [h, hv] at h2)
      clear h hv h13 b0 b1 HN h0
      go_enter Tryz.func34, Tryz.ntmps34
      go_wp2_with (go_at_call 63; refine HN2.out.mono ?_; rintro e w2 ⟨rfl, rfl⟩)
      refine bodyPost_ret (v := .tuple #[.slice none 0 0, .int .i64 13]) (by simp [results, Tryz.results34, go_sem]; try rfl) rfl ?_
      unfold FlgP
      rw [HX.out]
      exact ⟨_, rfl, FN.nil _ _ _ _, Below.refl _ _⟩
    have HN2 : Hid (∃ x, Calls Tryz.prog 63 #[.string s, .int .i64 (al.length : Int)] w fun e w' => e = .returned (.tuple #[.int .i64 x, .int .i64 13]) ∧ w = w') := Lib.hid (by
      have h2 := HN.out
      unfold NumRet at h2
      rw [h] at h2
      exact ⟨_, h2⟩)
    obtain ⟨x, hx⟩ := HN2.out
    have HN3 := Lib.hid hx
    clear h h13 b0 b1 HN HN2 h0 hx
    go_enter Tryz.func34, Tryz.ntmps34
    go_wp2_with (go_at_call 63; refine HN3.out.mono ?_; rintro e w2 ⟨rfl, rfl⟩)
    refine bodyPost_ret (v := .tuple #[.slice none 0 0, .int .i64 13]) (by simp [results, Tryz.results34, go_sem]; try rfl) rfl ?_
    unfold FlgP
    rw [HX.out]
    exact ⟨_, rfl, FN.nil _ _ _ _, Below.refl _ _⟩
  have hE : numErr s.data.toList al.length = 0 := by
    rcases numErr_13 s.data.toList al.length with h | h
    · exact h
    exact absurd (.inl (by rw [h]; simp)) h13
  have hV : numVal s.data.toList al.length ≠ 0 := fun e => h13 (.inr e)
  obtain ⟨j, hj⟩ : ∃ j : Nat, numVal s.data.toList al.length = (j : Int) + 1 := ⟨(numVal s.data.toList al.length - 1).toNat, by omega⟩
  rw [hj] at b1
  have hjl : j < al.length := by omega
  have HX : Hid (flagsA kind al s.data.toList = (al[j], 0)) := Lib.hid (by
    rw [flagsA, if_neg h0, if_neg h13, hj, show ((j : Int) + 1 - 1).toNat = j by omega]
    simp [List.getD, hjl])
  have HN2 : Hid (Calls Tryz.prog 63 #[.string s, .int .i64 (al.length : Int)] w fun e w' => e = .returned (.tuple #[.int .i64 ((j : Int) + 1), .int .i64 0]) ∧ w = w') := Lib.hid (by
    have h2 := HN.out
    unfold NumRet at h2
    rwa [hE, hj] at h2)
  have hul : us.length = al.length := by have := HL.out; omega
  have hFS := HF.out.sets j us[j] al[j] (List.getElem?_eq_getElem (by omega)) (List.getElem?_eq_getElem hjl)
  have hcan := HF.out.canons al[j] (List.getElem_mem hjl)
  have hcell := HCl.out j us[j] (List.getElem?_eq_getElem (by omega))
  have HO := Lib.hid (so_Of us[j] al[j] w hFS (by omega))
  have HCN := Lib.hid hcan.1
  obtain ⟨p, c, hu, -, -⟩ := hFS
  rw [hu] at hcell HO
  generalize al[j] = a at *
  have hne : ((j : Int) + 1 == 0) = false := by rw [beq_eq_false_iff_ne]; omega
  have hw1 : IntKind.i64.wrap ((j : Int) + 1 - 1) = (j : Int) := by rw [IntKind.wrap_i64]; omega
  have hj0 : (0 : Int) ≤ (j : Int) := by omega
  clear hu hcan hE hV h13 hj b0 b1 HN h0 hul
  go_enter Tryz.func34, Tryz.ntmps34
  go_wp2_with (first | (go_at_call 63; refine HN2.out.mono ?_; rintro e w2 ⟨rfl, rfl⟩) | (go_at_call 64; refine HO.out.mono ?_; rintro e w3 ⟨v, rfl, hv, hb⟩; have HV := Lib.hid hv; have HB := Lib.hid hb; clear hv hb))
  refine bodyPost_ret (v := .tuple #[v, .int .i64 0]) (by simp [results, Tryz.results34, go_sem]; try rfl) rfl ?_
  unfold FlgP
  rw [HX.out]
  exact ⟨v, rfl, by rw [← HCN.out]; exact HV.out, HB.out⟩
end Go.Proofs.YtfkblpjfknfgbaaGreatDoor
