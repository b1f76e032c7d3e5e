/-
  Parts of the proof: AF23, AL1, AL2.
-/
import Derived.Test.YtfkblpjfknfgbaaGreatDoorRows
import Derived.Test.YtfkblpjfknfgbaaGreatDoorZ9
import Derived.Laws.EntriesVeiled
import Derived.Test.YtfkblpjfknfgbaaGreatDoorZ3
import Derived.BigQuiet
set_option linter.unusedVariables false
set_option linter.unusedSimpArgs false
namespace Go.Proofs.YtfkblpjfknfgbaaGreatDoor
open Go.RowKit Go.Maps
structure FileAt (w : World) (fb : Nat) (F : Fl) : Prop where
  mem : ∃ (i : Ids) (v : Vs) (n : Nat), i.fb = fb ∧ w.heap[fb]? = some (.cells (fileV i v F) 116 (0, 0)) ∧ PlF w i.mb n (clsIx F.cls) ∧ Rd w 2 v.reps F.reps.length (repCells F.reps) ∧
    (∃ us : List Value, Rd w 1 v.als F.als.length us ∧ us.length = F.als.length ∧ ∀ (k : Nat) u a, us[k]? = some u → F.als[k]? = some a → FS w u a) ∧ Rd w 5 v.cls F.cls.length (clsCells F.cls) ∧
    (∃ rs : List (Rl × Value), rs.map (·.1) = F.rls ∧ Rd w 7 v.rls rs.length (rlsCells rs) ∧ ∀ r ∈ rs, FS w r.2 r.1.next)
structure FlOk (F : Fl) : Prop where
  reps : F.reps.length ≤ 65536
  als : F.als.length ≤ 65536
  cls : F.cls.length ≤ 65536
  rls : F.rls.length ≤ 65536
  flags : ∀ c ∈ F.cls, 0 < c.flag ∧ c.flag ≤ 65535
  sets : ∀ a ∈ F.als, canon a = a ∧ ∀ x ∈ a, 0 ≤ x ∧ x ≤ 65535
  nexts : ∀ r ∈ F.rls, canon r.next = r.next ∧ ∀ x ∈ r.next, 0 ≤ x ∧ x ≤ 65535
  kind : 1 ≤ F.kind ∧ F.kind ≤ 3
  sp : ∀ n, 0 ≤ spAt F n ∧ spAt F n ≤ 65535
theorem FileAt.keep {w w' : World} {fb : Nat} {F : Fl} (h : FileAt w fb F) (hb : Below w.heap.size w w') : FileAt w' fb F := by
  obtain ⟨i, v, n, h0, h1, h2, h3, ⟨us, h4, h5, h6⟩, h7, rs, h8, h9, h10⟩ := h.mem
  exact ⟨i, v, n, h0, (hb.block _ (block_lt h1)).trans h1, h2.below hb, h3.keep hb, ⟨us, h4.keep hb, h5, fun k u a hu ha => (h6 k u a hu ha).keep hb⟩, h7.keep hb, rs, h8, h9.keep hb, fun r hr => (h10 r hr).keep hb⟩
theorem Bd.flOk {kh k : Nat} {S : Sx} (h : Bd kh k S) : FlOk S.fl :=
  ⟨by have := h.reps; omega, by have := h.als; omega, by have := h.cls; omega, by have := h.rls; omega, h.flags, h.sets, h.nexts, h.kind, h.sp⟩
def affEnd : RX → Except (Int × Int) Fl
  | .error e => .error e
  | .ok S => match checkE S.fl with
    | some line => .error (line, 118)
    | none => .ok S.fl
theorem affR_small (l : List UInt8) (h : ¬ 65536 < l.length) : affR l = affEnd (readGo ((linesOf l).length + 1) (rowsOf (eachOf l)).length ⟨fl0, rowsOf (eachOf l), [], 0⟩) := by
  rw [affR, if_neg h]
  rcases readGo ((linesOf l).length + 1) (rowsOf (eachOf l)).length ⟨fl0, rowsOf (eachOf l), [], 0⟩ with e | S <;> rfl
def fltV (line c : Int) : Value := .agg #[.int .i64 1, .int .i64 line, .int .i64 c]
def ReadP (l : List UInt8) (w : World) (e : Ending) (w' : World) : Prop := Below w.heap.size w w' ∧ match affR l with
  | .error p => e = .returned (.tuple #[.pointer none, fltV p.1 p.2])
  | .ok F => ∃ fb, e = .returned (.tuple #[.pointer (some ⟨fb, 0, none⟩), .agg #[.int .i64 0, .int .i64 0, .int .i64 0]]) ∧ FileAt w' fb F ∧ FlOk F ∧ w.heap.size ≤ fb
theorem RM.go_base {w0 w w' : World} {L L' : List Nat} {i : Ids} {E : Int} {kh k : Nat} {S : Sx} (h : RM w0 w L i E kh k S) (hg : Go2 L w L' w') : Below w0.heap.size w0 w' := by
  obtain ⟨_, v, hv⟩ := h
  exact hv.base.trans (hg.1.below hv.base.size (fun x hx => (hv.hl x hx).1))
theorem read_fault {l : List UInt8} {w w2 W : World} {line c : Int} {tmps : Array Value} (hf : w2.heap[w.heap.size]? = some (.cells #[.pointer none] 57 (0, 0)) ∧ w2.heap[w.heap.size + 1]? = some (.cells #[.int .i64 0, .int .i64 0, .int .i64 0] 60 (0, 0)))
    (hB : Below w.heap.size w w2) (hb : Below w2.heap.size w2 W) (ha : affR l = .error (line, c)) (h2 : tmps[2]?.getD undef = .pointer (some ⟨w.heap.size, 0, none⟩)) (h3 : tmps[3]?.getD undef = .pointer (some ⟨w.heap.size + 1, 0, none⟩)) :
    bodyPostD Tryz.prog Tryz.f16 (ReadP l w) (Exit.panic [flt line c]) { tmps := tmps, defers := [readDefer w.heap.size (w.heap.size + 1)] } W := by
  refine leave_flt w.heap.size (w.heap.size + 1) _ _ _ _ line c W tmps _ h2 h3 ((hb.block _ (block_lt hf.1)).trans hf.1) ((hb.block _ (block_lt hf.2)).trans hf.2) (by omega) (fun W' hk => ⟨?_, ?_⟩)
  · have h1 := hB.trans (hb.mono hB.size)
    exact h1.trans (hk.below h1.size (by intro x hx; simp at hx; omega))
  rw [ha]; rfl
def HdB (W : World) (L : List Nat) (b : Nat) : Prop := b ∉ L ∧ HdM W b 13
theorem HdM.lt {W : World} {b n : Nat} (h : HdM W b n) : b < W.heap.size := by
  obtain ⟨D, hD, _⟩ := h
  exact hD.lt
theorem HdB.go {W W' : World} {L L' : List Nat} {b : Nat} (h : HdB W L b) (hg : Go2 L W L' W') : HdB W' L' b :=
  ⟨fun hm => by
    rcases hg.2 b hm with h1 | h1
    · exact h.1 h1
    · have := h.2.lt; omega, h.2.keep hg.1 h.1⟩
theorem FS.kept {E : List Nat} {w w' : World} {v : Value} {zs : List Int} (h : FS w v zs) (hk : Kept E w w') (hne : ∀ b ∈ E, ∀ j z, w.cell? ⟨b, j, none⟩ ≠ some (.int .u16 z)) : FS w' v zs := by
  obtain ⟨p, c, hv, hc, h⟩ := h
  refine ⟨p, c, hv, hc, h.imp id ?_⟩
  rintro ⟨b, off, hp, h2⟩
  refine ⟨b, off, hp, fun j hj => ?_⟩
  have h3 := h2 j hj
  exact (hk.cell (p := ⟨b, off + j, none⟩) (World.block_lt_of_cell? w _ h3) (fun hm => hne b hm _ _ h3)).trans h3
theorem RMv.fileKept {E0 : List Nat} {w0 w w' : World} {L : List Nat} {i : Ids} {v : Vs} {E : Int} {S : Sx} {nx : List Int} {tf : Int → Int} {tn cn : Nat} (h : RMv w0 w L i v E S nx tf tn (clsIx S.fl.cls) cn) (hk : Kept E0 w w') (hE : ∀ x ∈ E0, x < w0.heap.size) (hne : ∀ b ∈ E0, ∀ j z, w.cell? ⟨b, j, none⟩ ≠ some (.int .u16 z)) : FileAt w' i.fb S.fl := by
  have ho : ∀ g ∈ L, g ∉ E0 := fun g hg hm => by have := (h.hl g hg).1; have := hE g hm; omega
  obtain ⟨us, h1, h2, h3⟩ := h.als
  obtain ⟨rs, h4, h5, h6⟩ := h.rls
  refine ⟨i, v, cn, rfl, hk.at h.file (ho _ h.fbL), h.cmap.keep hk (ho _ h.mbL), Rd.of_own (hk.own h.reps.1 (fun g hg => ho _ (h.reps.2 g hg))), ⟨us, Rd.of_own (hk.own h1.1 (fun g hg => ho _ (h1.2 g hg))), h2, fun k u a hu ha => ((h3 k u a hu ha).fs).kept hk hne⟩,
    Rd.of_own (hk.own h.cls.1 (fun g hg => ho _ (h.cls.2 g hg))), rs, h4, Rd.of_own (hk.own h5.1 (fun g hg => ho _ (h5.2 g hg))), fun r hr => ((h6 r hr).fs).kept hk hne⟩
theorem HdB.start {W' : World} {n b : Nat} (h : HdM W' b 13) (hb : n + 5 ≤ b) : HdB W' (own0 n) b := ⟨fun hm => by simp [own0] at hm; omega, h⟩
set_option maxHeartbeats 8000000 in
set_option maxRecDepth 100000 in
theorem so_affRead (s : ByteArray) (m0 : Int) (w : World) (h0 : 0 < w.heap.size) (hm : w.cell? ⟨0, 0, none⟩ = some (.int .i64 m0)) :
    Calls Tryz.prog 16 #[.string s] w (ReadP s.data.toList w) := by
  obtain ⟨wA, hwA⟩ : ∃ W, ((w.alloc (.cells #[.pointer none] 57)).alloc (.cells #[.int .i64 0, .int .i64 0, .int .i64 0] 60)) = W := ⟨_, rfl⟩
  have hbA : Below w.heap.size w wA := by rw [← hwA]; exact ((Below.refl _ _).alloc (Nat.le_refl _) _).alloc (by simp) _
  have hsA : wA.heap.size = w.heap.size + 1 + 1 := by rw [← hwA]; simp
  have hfA : wA.heap[w.heap.size]? = some (.cells #[.pointer none] 57 (0, 0)) := by
    rw [← hwA, Below.heap_alloc _ _ _ (by simp)]; exact heap_alloc_new w _
  have heA : wA.heap[w.heap.size + 1]? = some (.cells #[.int .i64 0, .int .i64 0, .int .i64 0] 60 (0, 0)) := by
    have := heap_alloc_new (w.alloc (.cells #[.pointer none] 57)) (.cells #[.int .i64 0, .int .i64 0, .int .i64 0] 60)
    rw [World.size_alloc] at this
    rw [← hwA]; exact this
  have hmA : wA.cell? ⟨0, 0, none⟩ = some (.int .i64 m0) := (hbA.cell (World.block_lt_of_cell? _ _ hm)).trans hm
  have HRows := Lib.hid (Rows_any s m0 wA (by omega) hmA)
  have HSplit : Hid (∀ W, Below wA.heap.size wA W → Calls Tryz.prog 42 #[.string s] W fun e W' => ∃ v, e = .returned (.tuple #[v, .int .i64 (if 65536 < s.size then 10 else 0)]) ∧ W'.ownsRow W.heap.size 9 1 v (eachOf s.data.toList).length (lineV (eachOf s.data.toList)) ∧ Below W.heap.size W W') := Lib.hid (fun W hW => Split_any s m0 W (by have := hW.size; omega) ((hW.cell (World.block_lt_of_cell? _ _ hmA)).trans hmA))
  have HA := Lib.hid (⟨hbA, hsA, hfA, heA, hmA⟩ : _ ∧ _ ∧ _ ∧ _ ∧ _)
  clear hbA hsA hfA heA hmA hm
  by_cases hbig : 65536 < s.size
  · have HX : Hid (affR s.data.toList = .error (0, 10)) := Lib.hid (by rw [affR, if_pos (by rw [len_toList]; exact hbig)])
    unfold codeS at HRows
    rw [if_pos hbig] at HRows
    go_enter_defers Tryz.func16, Tryz.ntmps16
    obtain ⟨hbA, hsA, hfA, heA, hmA⟩ := HA.out
    clear hmA
    go_wp2_with (go_at_call 41; refine HRows.out.mono ?_; rintro e w1 ⟨v, rs, rfl, how, hrr, habs, hb1⟩; have HB1 := Lib.hid (hbA.trans (hb1.mono hbA.size)); have hf1 := (hb1.block _ (block_lt hfA)).trans hfA; have he1 := (hb1.block _ (block_lt heA)).trans heA; clear how hrr habs hb1; have q0 : w1.cell? ⟨w.heap.size, 0, none⟩ = some (.pointer none) := by { rw [Lib.cell_of_heap hf1]; rfl }; have q1 : w1.cell? ⟨w.heap.size + 1, 0, none⟩ = some (.int .i64 0) := by { rw [Lib.cell_of_heap he1]; rfl }; have q2 : w1.cell? ⟨w.heap.size + 1, 1, none⟩ = some (.int .i64 0) := by { rw [Lib.cell_of_heap he1]; rfl }; have q3 : w1.cell? ⟨w.heap.size + 1, 2, none⟩ = some (.int .i64 0) := by { rw [Lib.cell_of_heap he1]; rfl }; have y0 := Lib.frozen_of_heap hf1 0; have y1 := Lib.frozen_of_heap he1 0; have y2 := Lib.frozen_of_heap he1 1; have y3 := Lib.frozen_of_heap he1 2)
    refine leave_nowF w.heap.size (w.heap.size + 1) (.pointer none) (.int .i64 1) (.int .i64 0) (.int .i64 10) _ _ _ rfl rfl ?_ ?_ ⟨?_, ?_⟩
    · rw [heap_setCell_other _ ⟨w.heap.size + 1, 2, none⟩ w.heap.size _ (by simp), heap_setCell_other _ ⟨w.heap.size + 1, 1, none⟩ w.heap.size _ (by simp), heap_setCell_other _ ⟨w.heap.size + 1, 0, none⟩ w.heap.size _ (by simp)]
      exact heap_setCell_same w1 w.heap.size 0 _ _ _ hf1
    · have h1 := heap_setCell_same _ (w.heap.size + 1) 0 _ _ (Value.int .i64 1) ((heap_setCell_other w1 ⟨w.heap.size, 0, none⟩ (w.heap.size + 1) (.pointer none) (by simp)).trans he1)
      have h2 := heap_setCell_same _ (w.heap.size + 1) 1 _ _ (Value.int .i64 0) h1
      exact heap_setCell_same _ (w.heap.size + 1) 2 _ _ (Value.int .i64 10) h2
    · exact (((HB1.out.setCell (Nat.le_refl _) _).setCell (by simp) _).setCell (by simp) _).setCell (by simp) _
    rw [HX.out]; rfl
  have hcode : codeS s = 0 := by unfold codeS; rw [if_neg hbig]
  rw [hcode] at HRows
  rw [if_neg hbig] at HSplit
  go_enter_defers Tryz.func16, Tryz.ntmps16
  obtain ⟨hbA, hsA, hfA, heA, hmA⟩ := HA.out
  clear hmA
  go_upto_region 4 with (go_at_call 41; refine HRows.out.mono ?_; rintro e w1 ⟨v, rs, rfl, how, hrr, habs, hb1⟩; have HB1 := Lib.hid hb1; have HOw := Lib.hid how; have HRr := Lib.hid hrr; have HAbs := Lib.hid habs; clear how hrr habs hb1)
  obtain ⟨Av, cpv, rfl⟩ := own_slice HOw.out
  obtain ⟨nE, hnE⟩ : ∃ n, (eachOf s.data.toList).length = n := ⟨_, rfl⟩
  have hnE2 : nE ≤ 65536 := by rw [← hnE]; exact eachOf_len _
  rw [hnE] at HSplit
  have HNE := Lib.hid hnE
  clear hnE
  have hwr : IntKind.i64.wrap ((nE : Int) + 1) = (nE : Int) + 1 := by rw [IntKind.wrap_i64]; omega
  go_upto_region 5 with (go_at_call 42; refine (HSplit.out _ HB1.out).mono ?_; rintro e w2 ⟨v2, rfl, how2, hb2⟩; obtain ⟨A2, cp2, rfl⟩ := own_slice how2; have HB2 := Lib.hid hb2; clear how2 hb2)
  have hB12 : Below wA.heap.size wA w2 := HB1.out.trans (HB2.out.mono HB1.out.size)
  have HB := Lib.hid (hbA.trans (hB12.mono hbA.size))
  have HF2 : Hid (w2.heap[w.heap.size]? = some (.cells #[.pointer none] 57 (0, 0)) ∧ w2.heap[w.heap.size + 1]? = some (.cells #[.int .i64 0, .int .i64 0, .int .i64 0] 60 (0, 0))) := Lib.hid ⟨(hB12.block _ (block_lt hfA)).trans hfA, (hB12.block _ (block_lt heA)).trans heA⟩
  have HRows2 : Hid (RowsM w2 (.slice Av rs.length cpv) (rowsOf (eachOf s.data.toList))) := Lib.hid ⟨rs, HAbs.out, Rd.of_own (own_below HOw.out HB2.out), fun r hr => (HRr.out r hr).keep HB2.out⟩
  have HM2 := Lib.hid ((hB12.cell (World.block_lt_of_cell? _ _ HA.out.2.2.2.2)).trans HA.out.2.2.2.2)
  clear hbA hsA hfA heA hB12 HSplit HRows HOw HRr HB1 HB2 hwA HA
  go_cut [8] from 13 to 37 (fun p W => p = .pointer (some ⟨w2.heap.size + 4, 0, none⟩) ∧ Hid (RMv w2 W (own0 w2.heap.size) (ids0 w2.heap.size) (vs0 (.slice Av rs.length cpv)) ((nE : Int) + 1) ⟨flZ, rowsOf (eachOf s.data.toList), [], 0⟩ [] (fun _ => 0) 0 (fun _ => none) 0))
  case first =>
    have e1 : ∀ W, (Instr.makeMap 114 none).run Tryz.prog W = .ok (.map (some W.heap.size)) (W.alloc (.map #[] 0)) := fun W => run_makeMap _ W
    have e2 : ∀ W, (Instr.makeMap 117 none).run Tryz.prog W = .ok (.map (some W.heap.size)) (W.alloc (.map #[] 0)) := fun W => run_makeMap _ W
    have HSt := Lib.hid (RMv.start w2 (.slice Av rs.length cpv) ((nE : Int) + 1) _ HRows2.out)
    unfold worldR at HSt
    go_wp2_with fail
    all_goals go_meet
    all_goals exact ⟨rfl, HSt⟩
  case rest =>
  obtain ⟨rfl, HSt⟩ := hcut
  clear HRows2 hwr
  go_upto_region 6 with fail
  go_cut [] from 38 to 51 (fun W => Hid (RM w2 W (own0 w2.heap.size) (ids0 w2.heap.size) ((nE : Int) + 1) 0 0 ⟨fl0, rowsOf (eachOf s.data.toList), [], 0⟩))
  case first =>
    have HSk := Lib.hid (HSt.out.setF (F' := { flZ with kind := 1 }) 0 (.int .i64 1) (by rfl) rfl rfl rfl rfl)
    have HSl := Lib.hid (HSk.out.setF (F' := fl0) 8 (.int .i64 3) (by rfl) rfl rfl rfl rfl)
    have HSf := Lib.hid (RM.start s.data.toList (HSl.out.below drew_below))
    have c0 : wc.cell? ⟨w2.heap.size + 4, 0, none⟩ = some (.pointer (some ⟨w2.heap.size + 1, 0, none⟩)) := HSt.out.r0
    have k0 : wc.cell? ⟨w2.heap.size + 1, 0, none⟩ = some (.int .i64 0) := HSt.out.f0
    have k8 : wc.cell? ⟨w2.heap.size + 1, 8, none⟩ = some (.int .i64 0) := HSt.out.f8
    have z0 : wc.frozen? ⟨w2.heap.size + 1, 0, none⟩ = false := HSt.out.fz 0
    have z8 : wc.frozen? ⟨w2.heap.size + 1, 8, none⟩ = false := HSt.out.fz 8
    go_wp2_with fail
    go_region
    all_goals go_wp2_with fail
    all_goals go_meet
    all_goals exact HSf
  case rest =>
  have HRM := hcut
  clear HSt hcut
  have HHd : Hid (Calls Tryz.prog 44 #[] wc fun e w' => e = .returned (.map (some wc.heap.size)) ∧ HdM w' wc.heap.size 13 ∧ Below wc.heap.size wc w') := Lib.hid (so_headings wc)
  obtain ⟨R, hR⟩ : ∃ R, readGo ((nE : Int) + 1) (rowsOf (eachOf s.data.toList)).length ⟨fl0, rowsOf (eachOf s.data.toList), [], 0⟩ = R := ⟨_, rfl⟩
  have HAff : Hid (affR s.data.toList = affEnd R) := Lib.hid (by
    have h1 : ((linesOf s.data.toList).length : Int) = nE := by
      rw [← HNE.out, eachOf, if_neg (by rw [len_toList]; exact hbig), numbered_len]
    rw [affR_small _ (by rw [len_toList]; exact hbig), h1, hR])
  have HR := Lib.hid hR
  obtain ⟨kb, hkb⟩ : ∃ n, wc.heap.size = n := ⟨_, rfl⟩
  have HKb := Lib.hid hkb
  obtain ⟨N, hN⟩ : ∃ n, (rowsOf (eachOf s.data.toList)).length = n := ⟨_, rfl⟩
  have HNn := Lib.hid hN
  rw [hkb] at HHd
  clear hR hkb hN
  go_wp2_with (go_at_call 44; refine HHd.out.mono ?_; rintro e w3 ⟨rfl, hd3, hb3⟩; have HD3 := Lib.hid hd3; have HB3 := Lib.hid hb3; clear hd3 hb3)
  have HRM3 := Lib.hid (HRM.out.below (w' := w3) (by rw [HKb.out]; exact HB3.out))
  have HDB3 : Hid (HdB w3 (own0 w2.heap.size) kb) := Lib.hid (HdB.start HD3.out (by
    obtain ⟨_, v, hv⟩ := HRM.out
    have h1 := (hv.hl (w2.heap.size + 4) (by simp [own0])).2
    have h2 := HKb.out
    omega))
  have HSp : Hid (SpInv ⟨fl0, rowsOf (eachOf s.data.toList), [], 0⟩) := Lib.hid (fun n _ hn => absurd (by unfold spAt; split <;> rfl) hn)
  obtain ⟨ii, hii⟩ : ∃ i, ids0 w2.heap.size = i := ⟨_, rfl⟩
  have hrb : w2.heap.size + 4 = ii.rb := by rw [← hii]; rfl
  obtain ⟨EE, hEE⟩ : ∃ e, (nE : Int) + 1 = e := ⟨_, rfl⟩
  rw [hii, hEE] at HRM3
  rw [hEE] at HR
  rw [hrb]
  clear HKb HRM HD3 HB3 hii hrb hEE hcode HNE hnE2 HAbs hbig
  go_loopg [10, 11, 12] N (fun g _ _ _ wr => ∃ (S : Sx) (L : List Nat), S.rows.length ≤ g ∧ Hid (RM w2 wr L ii EE 0 0 S) ∧ Hid (HdB wr L kb) ∧ Hid (SpInv S) ∧ Hid (readGo EE g S = R))
  case atStart => exact ⟨_, _, Nat.le_of_eq HNn.out, HRM3, HDB3, HSp, Lib.hid (by rw [← HNn.out]; exact HR.out)⟩
  case round =>
  obtain ⟨S, L, hg, HRM, HDB, HSI, HGo⟩ := hrel
  clear HRM3 HDB3 HSp HNn HR HHd
  rcases hrows : S.rows with _ | ⟨⟨l, row⟩, rest⟩
  · have HRe : Hid (R = .ok S) := Lib.hid (by
      rw [← HGo.out]
      rcases gk with _ | g
      · rfl
      rw [readGo, hrows])
    have c1 : ∃ A c, wr.cell? ⟨ii.rb, 1, none⟩ = some (.slice A 0 c) := by
      obtain ⟨_, v, hv⟩ := HRM.out
      have hr := hv.rows
      rw [hrows] at hr
      obtain ⟨rs', ha, ⟨-, A, cap, hvv, -, -⟩, -⟩ := hr
      have hn : rs'.length = 0 := by simpa [rowAbs] using congrArg List.length ha
      have := hv.r1
      rw [hvv, hn] at this
      exact ⟨A, cap, this⟩
    obtain ⟨A1, cp1, c1⟩ := c1
    obtain ⟨hbd, v, hv⟩ := HRM.out
    have HCk := Lib.hid (so_check w2 L ii v EE 0 0 S wr hbd hv)
    have HBd := Lib.hid hbd
    have HV := Lib.hid hv
    have hfb : ii.fb ∈ L := hv.fbL
    clear hbd hv hrows
    unfold ChkP at HCk
    cases hce : checkE S.fl with
    | some line =>
      have HX : Hid (affR s.data.toList = .error (line, 118)) := Lib.hid (by rw [HAff.out, HRe.out, affEnd, hce])
      rw [hce] at HCk
      clear hce
      go_wp2_with fail
      refine HCk.out.mono ?_
      rintro e w9 ⟨hg9, rfl⟩
      exact read_fault HF2.out HB.out (HRM.out.go_base hg9) HX.out rfl rfl
    | none =>
      have HX : Hid (affR s.data.toList = .ok S.fl) := Lib.hid (by rw [HAff.out, HRe.out, affEnd, hce])
      rw [hce] at HCk
      clear hce
      go_wp2_with (go_at_call 47; refine HCk.out.mono ?_; rintro e w9 ⟨hg9, rfl, ln, hm9⟩; have HG9 := Lib.hid hg9; have HM9 := Lib.hid hm9; have q8 := hm9.r0; have hbb := HRM.out.go_base hg9; have hf9 := (hbb.block _ (block_lt HF2.out.1)).trans HF2.out.1; have he9 := (hbb.block _ (block_lt HF2.out.2)).trans HF2.out.2; have HF9 := Lib.hid hf9; have HE9 := Lib.hid he9; have HBB := Lib.hid hbb; have q0 : w9.cell? ⟨w.heap.size, 0, none⟩ = some (.pointer none) := by { rw [Lib.cell_of_heap hf9]; rfl }; have q1 : w9.cell? ⟨w.heap.size + 1, 0, none⟩ = some (.int .i64 0) := by { rw [Lib.cell_of_heap he9]; rfl }; have q2 : w9.cell? ⟨w.heap.size + 1, 1, none⟩ = some (.int .i64 0) := by { rw [Lib.cell_of_heap he9]; rfl }; have q3 : w9.cell? ⟨w.heap.size + 1, 2, none⟩ = some (.int .i64 0) := by { rw [Lib.cell_of_heap he9]; rfl }; have y0 := Lib.frozen_of_heap hf9 0; have y1 := Lib.frozen_of_heap he9 0; have y2 := Lib.frozen_of_heap he9 1; have y3 := Lib.frozen_of_heap he9 2; clear hf9 he9 hbb hg9 hm9)
      have hz1 := heap_setCell_same _ (w.heap.size + 1) 0 _ _ (Value.int .i64 0) ((heap_setCell_other w9 ⟨w.heap.size, 0, none⟩ (w.heap.size + 1) (.pointer (some ⟨ii.fb, 0, none⟩)) (by simp)).trans HE9.out)
      have hz2 := heap_setCell_same _ (w.heap.size + 1) 1 _ _ (Value.int .i64 0) hz1
      have hz3 := heap_setCell_same _ (w.heap.size + 1) 2 _ _ (Value.int .i64 0) hz2
      have hBs := HB.out.size
      have hZk : Kept [w.heap.size, w.heap.size + 1] w9 ((((w9.setCell ⟨w.heap.size, 0, none⟩ (.pointer (some ⟨ii.fb, 0, none⟩))).setCell ⟨w.heap.size + 1, 0, none⟩ (.int .i64 0)).setCell ⟨w.heap.size + 1, 1, none⟩ (.int .i64 0)).setCell ⟨w.heap.size + 1, 2, none⟩ (.int .i64 0)) :=
        ((((Kept.refl _ w9).set _ _ _ (.inl (by simp))).set _ _ _ (.inl (by simp))).set _ _ _ (.inl (by simp))).set _ _ _ (.inl (by simp))
      have hFA := HM9.out.fileKept hZk (by
        have h1 := block_lt HF2.out.2
        intro x hx; simp at hx; omega) (by
        intro b hb j z
        simp at hb
        rcases hb with rfl | rfl
        · rw [Lib.cell_of_heap HF9.out]
          rcases j with _ | j <;> simp
        rw [Lib.cell_of_heap HE9.out]
        rcases j with _ | _ | _ | j <;> simp)
      have HFA := Lib.hid hFA
      have HZk := Lib.hid hZk
      have hfbs : w.heap.size ≤ ii.fb := by
        obtain ⟨_, v', hv'⟩ := HRM.out
        exact Nat.le_trans hBs (hv'.hl _ hfb).1
      refine leave_ret w.heap.size (w.heap.size + 1) (.pointer (some ⟨ii.fb, 0, none⟩)) (.int .i64 0) (.int .i64 0) (.int .i64 0) _ _ _ rfl rfl ?_ hz3 (fun W' hb' => ⟨?_, ?_⟩)
      · rw [heap_setCell_other _ ⟨w.heap.size + 1, 2, none⟩ w.heap.size _ (by simp), heap_setCell_other _ ⟨w.heap.size + 1, 1, none⟩ w.heap.size _ (by simp), heap_setCell_other _ ⟨w.heap.size + 1, 0, none⟩ w.heap.size _ (by simp)]
        exact heap_setCell_same w9 w.heap.size 0 _ _ _ HF9.out
      · have h1 := HB.out.trans (HBB.out.mono hBs)
        have h2 := h1.trans (HZk.out.below h1.size (by intro x hx; simp at hx; omega))
        exact h2.trans (hb'.mono h2.size)
      rw [HX.out]
      exact ⟨ii.fb, rfl, HFA.out.keep hb', HBd.out.flOk, hfbs⟩
  obtain ⟨g, rfl⟩ : ∃ g, gk = g + 1 := ⟨gk - 1, by rw [hrows] at hg; simp at hg; omega⟩
  have hg2 : rest.length ≤ g := by rw [hrows] at hg; simpa using hg
  have HRs : Hid (R = match stepR EE S l row rest with
    | .error e => .error e
    | .ok S' => readGo EE g S') := Lib.hid (by rw [← HGo.out, readGo, hrows]; rfl)
  have HTk := Lib.hid (so_take w2 L ii EE 0 0 S l row rest wr HRM.out hrows)
  have HRW : Hid (∀ fv, Rd w2 1 fv row.length (strV row) → RowF1 w2 fv row) := Lib.hid (fun fv h => rowF1_of HRM.out.1 hrows h)
  have hrne : row ≠ [] := (HRM.out.1.row (l, row) (by rw [hrows]; simp)).1
  have hrl0 : 0 < row.length := List.length_pos_iff.2 hrne
  have hrl : row.length ≤ 65536 := (HRM.out.1.row (l, row) (by rw [hrows]; simp)).2.1
  have hs0 : (fieldAt row 0).size ≤ maxLen := Nat.le_trans (fieldAt_le (HRM.out.1.row (l, row) (by rw [hrows]; simp)).2.2.1 0) (by unfold maxLen; omega)
  have c1 : ∃ A c, wr.cell? ⟨ii.rb, 1, none⟩ = some (.slice A (rest.length + 1) c) := by
    obtain ⟨_, v, hv⟩ := HRM.out
    have hr := hv.rows
    rw [hrows] at hr
    obtain ⟨g0, o0, cap0, fv0, hv0, -⟩ := rows_split hr
    have := hv.r1
    rw [hv0] at this
    exact ⟨_, _, this⟩
  obtain ⟨A1, cp1, c1⟩ := c1
  have HSp2 : Hid (∀ S', stepR EE S l row rest = .ok S' → SpInv S') := Lib.hid (fun S' h => HSI.out.step h)
  have HSp3 : Hid (fieldAt row 0 ∉ S.heads → ∀ j, j < 5 → keyN (fieldAt row 0) = 3 + j → spAt S.fl j = 0) := Lib.hid (fun hn j hj hk => by
    by_cases h : spAt S.fl j = 0
    · exact h
    exact absurd (by have := HSI.out j hj h; rw [← hk] at this; rwa [← key_of _ (by omega)] at this) hn)
  clear hg hrne hrows HGo HSI
  obtain ⟨S2, hS2⟩ : ∃ S2, ({ S with rows := rest, line := l } : Sx) = S2 := ⟨_, rfl⟩
  rw [hS2] at HTk
  have HS2 := Lib.hid hS2
  clear hS2
  go_upto_region 11 with (go_at_call 45; refine HTk.out.mono ?_; rintro e w4 ⟨fv, rfl, hrd, hm4, hg4⟩; have HM4 := Lib.hid hm4; have HG4 := Lib.hid hg4; have HRw := Lib.hid (HRW.out _ hrd); have HDB4 := Lib.hid (HDB.out.go hg4); obtain ⟨g1, o1, cv1, rfl, hcv1, hcl1⟩ := (HRW.out _ hrd).cells hrl0; have d0 := hcl1 0 hrl0; rw [Nat.add_zero] at d0; have d0' := (hm4.base.cell (World.block_lt_of_cell? _ _ d0)).trans d0; have HD0 := Lib.hid d0; clear hrd hm4 hg4 hcl1 d0)
  have hlk := HDB4.out.2.look (fieldAt row 0) hs0 (zero_head _)
  have hln : S2.line = l := by rw [← HS2.out]
  have HMu : Hid (∀ W b c, Below w4.heap.size w4 W → c ≠ 0 → Calls Tryz.prog 46 #[.pointer (some ⟨ii.rb, 0, none⟩), .bool b, .int .i64 c] W (MustP b l c W)) := Lib.hid (fun W b c hb hc => by
    have := (HM4.out.below hb).r2
    rw [hln] at this
    exact so_must ii.rb l b c W hc this)
  have HBs : Hid (∀ W, Below w4.heap.size w4 W → Below w2.heap.size w2 W) := Lib.hid (fun W hb => (HM4.out.below hb).base)
  clear hln
  by_cases hk13 : keyN (fieldAt row 0) = 13
  · have HX : Hid (affR s.data.toList = .error (l, 110)) := Lib.hid (by rw [HAff.out, HRs.out, stepR, if_pos hk13]; rfl)
    rw [if_neg (by omega), decide_eq_false (by omega)] at hlk
    unfold hdZ at hlk
    clear hk13
    have hb5 : Below w4.heap.size w4 (w4.alloc (.cells #[.int .i64 0, .nilFunc] 126)) := (Below.refl _ _).alloc (Nat.le_refl _) _
    have HB5 := Lib.hid hb5
    clear hb5
    go_wp2_with fail
    refine (HMu.out _ _ _ HB5.out (by decide)).mono ?_
    rintro e w9 ⟨⟨hx, -⟩ | ⟨-, rfl⟩, rfl⟩
    · exact absurd hx (by simp)
    exact read_fault HF2.out HB.out (HBs.out _ HB5.out) HX.out rfl rfl
  have hkl : keyN (fieldAt row 0) < 13 := by have := keyN_le (fieldAt row 0); omega
  have hkey := key_of _ hk13
  rw [if_pos hkl, decide_eq_true hkl] at hlk
  obtain ⟨k, hk⟩ : ∃ k, keyN (fieldAt row 0) = k := ⟨_, rfl⟩
  have HK := Lib.hid hk
  rw [hk] at hlk hkl hkey
  have HKey := Lib.hid hkey
  unfold hdV at hlk
  obtain ⟨wd, hwd⟩ : ∃ n : Nat, widthN k = n := ⟨_, rfl⟩
  have HWd := Lib.hid hwd
  rw [hwd] at hlk
  obtain ⟨fn, hfn⟩ : ∃ n : Nat, hdF k = n := ⟨_, rfl⟩
  have HFn := Lib.hid hfn
  rw [hfn] at hlk
  clear hk hkey hwd hfn
  have hwd2 : wd = 2 ∧ k < 11 ∨ wd = 4 ∧ 11 ≤ k := by rw [← HWd.out]; exact widthN_of k
  have HW2 := Lib.hid hwd2
  have hwdb : wd ≤ 4 := by omega
  clear hwd2
  go_cut [11, 12] from 62 to 69 (fun p q W => ∃ hb : Nat, p = .pointer (some ⟨hb, 0, none⟩) ∧ q = .bool true ∧ Hid (Below w4.heap.size w4 W) ∧ W.cell? ⟨hb, 0, none⟩ = some (.int .i64 (wd : Int)) ∧ W.cell? ⟨hb, 1, none⟩ = some (.func (.func fn) #[] #[]))
  case first =>
    have HB5 : Hid (Below w4.heap.size w4 (w4.alloc (.cells #[.int .i64 (wd : Int), .func (.func fn) #[] #[]] 126))) := Lib.hid ((Below.refl _ _).alloc (Nat.le_refl _) _)
    have HHh : Hid ((w4.alloc (.cells #[.int .i64 (wd : Int), .func (.func fn) #[] #[]] 126)).heap[w4.heap.size]? = some (.cells #[.int .i64 (wd : Int), .func (.func fn) #[] #[]] 126 (0, 0))) := Lib.hid (heap_alloc_new w4 _)
    go_wp2_with fail
    all_goals go_meet
    all_goals exact ⟨_, rfl, rfl, HB5, by rw [Lib.cell_of_heap HHh.out]; rfl, by rw [Lib.cell_of_heap HHh.out]; rfl⟩
  case rest =>
  obtain ⟨hb, rfl, rfl, HB5, hh0, hh1⟩ := hcut
  have HM5 := Lib.hid (HM4.out.below HB5.out)
  have HDB5 := Lib.hid (HDB4.out.go (Go2.of_below HB5.out))
  have HG5 := Lib.hid (HG4.out.trans (Go2.of_below HB5.out))
  have d5 := (HB5.out.cell (World.block_lt_of_cell? _ _ d0')).trans d0'
  clear hlk d0'
  by_cases hlw : row.length = wd
  · have hlw2 : ((row.length : Int) == (wd : Int)) = true := by rw [hlw, beq_self_eq_true]
    have HLw := Lib.hid hlw
    have HMt : Hid (∀ c, c ≠ 0 → Calls Tryz.prog 46 #[.pointer (some ⟨ii.rb, 0, none⟩), .bool true, .int .i64 c] wc fun e w' => e = .returned (.tuple #[]) ∧ wc = w') := Lib.hid (fun c hc => (HMu.out wc true c HB5.out hc).mono (by
      rintro e w' ⟨⟨-, rfl⟩ | ⟨hx, -⟩, rfl⟩
      · exact ⟨rfl, rfl⟩
      cases hx))
    have c4 := HM5.out.1.heads
    obtain ⟨hbd5, v5, hm5⟩ := HM5.out
    have r4 := hm5.r4
    have hlk5 := fun x => (hm5.below (drewN_below (w := wc) x)).seen.look (fieldAt row 0) hs0
    obtain ⟨q, hq⟩ : ∃ q, S2.heads.count (fieldAt row 0) = q := ⟨_, rfl⟩
    have HQ := Lib.hid hq
    rw [hq] at hlk5
    have HSh : Hid (S2.heads = S.heads) := Lib.hid (by rw [← HS2.out])
    clear hm5 hbd5 hq hlw
    go_upto_region 14 with (go_at_call 46; refine (HMt.out _ (by decide)).mono ?_; rintro e w9 ⟨rfl, rfl⟩)
    by_cases htw : wd = 2 ∧ q ≠ 0
    · have HX : Hid (affR s.data.toList = .error (l, 112)) := Lib.hid (by
        have hc : S.heads.contains (fieldAt row 0) = true := by
          rw [List.contains_iff_mem]
          apply Classical.byContradiction
          intro hn
          exact htw.2 (by rw [← HQ.out, HSh.out]; exact List.count_eq_zero.2 hn)
        rw [HAff.out, HRs.out, stepR, if_neg hk13, HK.out, HWd.out, if_neg (by rw [HLw.out]; simp), if_pos ⟨htw.1, hc⟩]; rfl)
      obtain ⟨rfl, hq0⟩ := htw
      have hqe : ((q : Int) == 0) = false := by rw [beq_eq_false_iff_ne]; omega
      have hl1 : (Instr.lookup 117 (.map (some ii.sb)) (.string (fieldAt row 0)) false).run Tryz.prog wc.drew = .ok (.int .i64 (q : Int)) wc.drew := hlk5 1
      have HS14 : Hid (∀ W, Below wc.heap.size wc W → W.cell? ⟨ii.rb, 4, none⟩ = some (.map (some ii.sb)) ∧ W.cell? ⟨g1, o1, none⟩ = some (.string (fieldAt row 0)) ∧ W.cell? ⟨hb, 0, none⟩ = some (.int .i64 2)) := Lib.hid (fun W hW => ⟨(hW.cell (World.block_lt_of_cell? _ _ r4)).trans r4, (hW.cell (World.block_lt_of_cell? _ _ d5)).trans d5, (hW.cell (World.block_lt_of_cell? _ _ hh0)).trans hh0⟩)
      clear hlk5 hq0 hk13
      refine Code.wp_mono (PanicF.imp (bb := w.heap.size) (eb := w.heap.size + 1) (K := fun ch W => ch = [flt l 112] ∧ Below wc.heap.size wc W) ?_) ?_
      · rintro ch tmps W h2 h3 ⟨rfl, hk⟩
        exact read_fault HF2.out HB.out (HBs.out _ (HB5.out.trans (hk.mono HB5.out.size))) HX.out h2 h3
      refine wp_region_held_drew (S := fun W' => W'.cell? ⟨ii.rb, 4, none⟩ = some (.map (some ii.sb)) ∧ W'.cell? ⟨g1, o1, none⟩ = some (.string (fieldAt row 0)) ∧ W'.cell? ⟨hb, 0, none⟩ = some (.int .i64 2)) (by kernel_rfl) ?_ (fun hHeld => ?_)
      · exact HS14.out _ drew_below
      refine tkH 0 (some 80) ?_ ?_ hHeld ?_ (hQ := fun _ _ _ h => PanicF.put (by decide) h); rotate_left; focus (intro w hSw; (try dsimp only at hSw); go_simp; try with_reducible rfl); try simp only [put_norm]
      refine tkH 1 (some 81) ?_ ?_ hHeld ?_ (hQ := fun _ _ _ h => PanicF.put (by decide) h); rotate_left; focus (intro w hSw; (try dsimp only at hSw); go_simp; try with_reducible rfl); try simp only [put_norm]
      refine tkH 2 (some 82) ?_ ?_ hHeld ?_ (hQ := fun _ _ _ h => PanicF.put (by decide) h); rotate_left; focus (intro w hSw; (try dsimp only at hSw); go_simp; try with_reducible rfl); try simp only [put_norm]
      refine tkH 3 (some 83) ?_ ?_ hHeld ?_ (hQ := fun _ _ _ h => PanicF.put (by decide) h); rotate_left; focus (intro w hSw; (try dsimp only at hSw); go_simp; try with_reducible rfl); try simp only [put_norm]
      refine tkH 4 (some 84) ?_ ?_ hHeld ?_ (hQ := fun _ _ _ h => PanicF.put (by decide) h); rotate_left; focus (intro w hSw; (try dsimp only at hSw); go_simp; try with_reducible rfl); try simp only [put_norm]
      refine tkH 5 (some 85) ?_ ?_ hHeld ?_ (hQ := fun _ _ _ h => PanicF.put (by decide) h); rotate_left; focus (intro w hSw; (try dsimp only at hSw); go_simp; try with_reducible rfl); try simp only [put_norm]
      refine tkH 6 (some 86) ?_ ?_ hHeld ?_ (hQ := fun _ _ _ h => PanicF.put (by decide) h); rotate_left; focus (intro w hSw; (try dsimp only at hSw); go_simp; try with_reducible rfl); try simp only [put_norm]
      refine tkH 7 (some 87) ?_ ?_ hHeld ?_ (hQ := fun _ _ _ h => PanicF.put (by decide) h); rotate_left; focus (intro w hSw; (try dsimp only at hSw); go_simp; try with_reducible rfl); try simp only [put_norm]
      refine tkH 8 (some 88) ?_ ?_ hHeld ?_ (hQ := fun _ _ _ h => PanicF.put (by decide) h); rotate_left; focus (intro w hSw; (try dsimp only at hSw); go_simp; try with_reducible rfl); try simp only [put_norm]
      refine tkH 9 (some 89) ?_ ?_ hHeld ?_ (hQ := fun _ _ _ h => PanicF.put (by decide) h); rotate_left; focus (intro w hSw; (try dsimp only at hSw); go_simp; try with_reducible rfl); try simp only [put_norm]
      refine tkH 10 (some 90) ?_ ?_ hHeld ?_ (hQ := fun _ _ _ h => PanicF.put (by decide) h); rotate_left; focus (intro w hSw; (try dsimp only at hSw); go_simp; try with_reducible rfl); try simp only [put_norm]
      refine tkH 11 (some 91) ?_ ?_ hHeld ?_ (hQ := fun _ _ _ h => PanicF.put (by decide) h); rotate_left; focus (intro w hSw; (try dsimp only at hSw); go_simp; try with_reducible rfl); try simp only [put_norm]
      refine rdy1 12 (fun K hK => ?_)
      go_simp
      refine hK.out _ _ ?_ (fun hHeld => ?_)
      · first | exact HS14.out _ drew_below
      clear hK K
      refine tkH 13 (some 93) ?_ ?_ hHeld ?_ (hQ := fun _ _ _ h => PanicF.put (by decide) h); rotate_left; focus (intro w hSw; (try dsimp only at hSw); go_simp; try with_reducible rfl); try simp only [put_norm]
      refine tkH 14 (some 94) ?_ ?_ hHeld ?_ (hQ := fun _ _ _ h => PanicF.put (by decide) h); rotate_left; focus (intro w hSw; (try dsimp only at hSw); go_simp; try with_reducible rfl); try simp only [put_norm]
      refine rdy1 15 (fun K hK => ?_)
      go_simp
      refine (HMu.out _ false 112 (HB5.out.trans (drew_below.mono HB5.out.size)) (by decide)).mono ?_
      rintro e w9 ⟨⟨hx, -⟩ | ⟨-, rfl⟩, rfl⟩
      · exact absurd hx (by simp)
      exact ⟨rfl, rfl, rfl, rfl, drew_below⟩
    go_cut [] from 80 to 95 (fun W => Hid (Below wc.heap.size wc W))
    case first =>
      have HS14 : Hid (∀ W, Below wc.heap.size wc W → W.cell? ⟨ii.rb, 4, none⟩ = some (.map (some ii.sb)) ∧ W.cell? ⟨g1, o1, none⟩ = some (.string (fieldAt row 0)) ∧ W.cell? ⟨hb, 0, none⟩ = some (.int .i64 (wd : Int))) := Lib.hid (fun W hW => ⟨(hW.cell (World.block_lt_of_cell? _ _ r4)).trans r4, (hW.cell (World.block_lt_of_cell? _ _ d5)).trans d5, (hW.cell (World.block_lt_of_cell? _ _ hh0)).trans hh0⟩)
      have hl1 : (Instr.lookup 117 (.map (some ii.sb)) (.string (fieldAt row 0)) false).run Tryz.prog wc.drew = .ok (.int .i64 (q : Int)) wc.drew := hlk5 1
      clear hlk5
      rcases HW2.out with ⟨h2, -⟩ | ⟨h4, -⟩
      · obtain rfl : q = 0 := by
          apply Classical.byContradiction
          intro h; exact htw ⟨h2, h⟩
        subst h2
        clear htw
        refine Code.wp_mono (PanicF.imp (bb := w.heap.size) (eb := w.heap.size + 1) (K := fun _ _ => False) (fun _ _ _ _ _ h => h.elim)) ?_
        refine wp_region_held_drew (S := fun W' => W'.cell? ⟨ii.rb, 4, none⟩ = some (.map (some ii.sb)) ∧ W'.cell? ⟨g1, o1, none⟩ = some (.string (fieldAt row 0)) ∧ W'.cell? ⟨hb, 0, none⟩ = some (.int .i64 2)) (by kernel_rfl) ?_ (fun hHeld => ?_)
        · exact HS14.out _ drew_below
        refine tkH 0 (some 80) ?_ ?_ hHeld ?_ (hQ := fun _ _ _ h => PanicF.put (by decide) h); rotate_left; focus (intro w hSw; (try dsimp only at hSw); go_simp; try with_reducible rfl); try simp only [put_norm]
        refine tkH 1 (some 81) ?_ ?_ hHeld ?_ (hQ := fun _ _ _ h => PanicF.put (by decide) h); rotate_left; focus (intro w hSw; (try dsimp only at hSw); go_simp; try with_reducible rfl); try simp only [put_norm]
        refine tkH 2 (some 82) ?_ ?_ hHeld ?_ (hQ := fun _ _ _ h => PanicF.put (by decide) h); rotate_left; focus (intro w hSw; (try dsimp only at hSw); go_simp; try with_reducible rfl); try simp only [put_norm]
        refine tkH 3 (some 83) ?_ ?_ hHeld ?_ (hQ := fun _ _ _ h => PanicF.put (by decide) h); rotate_left; focus (intro w hSw; (try dsimp only at hSw); go_simp; try with_reducible rfl); try simp only [put_norm]
        refine tkH 4 (some 84) ?_ ?_ hHeld ?_ (hQ := fun _ _ _ h => PanicF.put (by decide) h); rotate_left; focus (intro w hSw; (try dsimp only at hSw); go_simp; try with_reducible rfl); try simp only [put_norm]
        refine tkH 5 (some 85) ?_ ?_ hHeld ?_ (hQ := fun _ _ _ h => PanicF.put (by decide) h); rotate_left; focus (intro w hSw; (try dsimp only at hSw); go_simp; try with_reducible rfl); try simp only [put_norm]
        refine tkH 6 (some 86) ?_ ?_ hHeld ?_ (hQ := fun _ _ _ h => PanicF.put (by decide) h); rotate_left; focus (intro w hSw; (try dsimp only at hSw); go_simp; try with_reducible rfl); try simp only [put_norm]
        refine tkH 7 (some 87) ?_ ?_ hHeld ?_ (hQ := fun _ _ _ h => PanicF.put (by decide) h); rotate_left; focus (intro w hSw; (try dsimp only at hSw); go_simp; try with_reducible rfl); try simp only [put_norm]
        refine tkH 8 (some 88) ?_ ?_ hHeld ?_ (hQ := fun _ _ _ h => PanicF.put (by decide) h); rotate_left; focus (intro w hSw; (try dsimp only at hSw); go_simp; try with_reducible rfl); try simp only [put_norm]
        refine tkH 9 (some 89) ?_ ?_ hHeld ?_ (hQ := fun _ _ _ h => PanicF.put (by decide) h); rotate_left; focus (intro w hSw; (try dsimp only at hSw); go_simp; try with_reducible rfl); try simp only [put_norm]
        refine tkH 10 (some 90) ?_ ?_ hHeld ?_ (hQ := fun _ _ _ h => PanicF.put (by decide) h); rotate_left; focus (intro w hSw; (try dsimp only at hSw); go_simp; try with_reducible rfl); try simp only [put_norm]
        refine tkH 11 (some 91) ?_ ?_ hHeld ?_ (hQ := fun _ _ _ h => PanicF.put (by decide) h); rotate_left; focus (intro w hSw; (try dsimp only at hSw); go_simp; try with_reducible rfl); try simp only [put_norm]
        refine rdy1 12 (fun K hK => ?_)
        go_simp
        refine hK.out _ _ ?_ (fun hHeld => ?_)
        · first | exact HS14.out _ drew_below
        clear hK K
        refine tkH 13 (some 93) ?_ ?_ hHeld ?_ (hQ := fun _ _ _ h => PanicF.put (by decide) h); rotate_left; focus (intro w hSw; (try dsimp only at hSw); go_simp; try with_reducible rfl); try simp only [put_norm]
        refine tkH 14 (some 94) ?_ ?_ hHeld ?_ (hQ := fun _ _ _ h => PanicF.put (by decide) h); rotate_left; focus (intro w hSw; (try dsimp only at hSw); go_simp; try with_reducible rfl); try simp only [put_norm]
        refine rdy1 15 (fun K hK => ?_)
        go_simp
        refine (HMu.out _ true 112 (HB5.out.trans (drew_below.mono HB5.out.size)) (by decide)).mono ?_
        rintro e w9 ⟨⟨-, rfl⟩ | ⟨hx, -⟩, rfl⟩
        rotate_left
        · cases hx
        refine hK.out _ _ ?_ (fun hHeld => ?_)
        · exact HS14.out _ drew_below
        clear hK K
        refine wpAnyH_done (by kernel_rfl) ?_ _
        simp only [PanicF]
        go_wp2_with fail
        go_meet
        exact Lib.hid drew_below
      subst h4
      clear htw
      refine Code.wp_mono (PanicF.imp (bb := w.heap.size) (eb := w.heap.size + 1) (K := fun _ _ => False) (fun _ _ _ _ _ h => h.elim)) ?_
      refine wp_region_held_drew (S := fun W' => W'.cell? ⟨ii.rb, 4, none⟩ = some (.map (some ii.sb)) ∧ W'.cell? ⟨g1, o1, none⟩ = some (.string (fieldAt row 0)) ∧ W'.cell? ⟨hb, 0, none⟩ = some (.int .i64 4)) (by kernel_rfl) ?_ (fun hHeld => ?_)
      · exact HS14.out _ drew_below
      refine tkH 0 (some 80) ?_ ?_ hHeld ?_ (hQ := fun _ _ _ h => PanicF.put (by decide) h); rotate_left; focus (intro w hSw; (try dsimp only at hSw); go_simp; try with_reducible rfl); try simp only [put_norm]
      refine tkH 1 (some 81) ?_ ?_ hHeld ?_ (hQ := fun _ _ _ h => PanicF.put (by decide) h); rotate_left; focus (intro w hSw; (try dsimp only at hSw); go_simp; try with_reducible rfl); try simp only [put_norm]
      refine tkH 2 (some 82) ?_ ?_ hHeld ?_ (hQ := fun _ _ _ h => PanicF.put (by decide) h); rotate_left; focus (intro w hSw; (try dsimp only at hSw); go_simp; try with_reducible rfl); try simp only [put_norm]
      refine tkH 3 (some 83) ?_ ?_ hHeld ?_ (hQ := fun _ _ _ h => PanicF.put (by decide) h); rotate_left; focus (intro w hSw; (try dsimp only at hSw); go_simp; try with_reducible rfl); try simp only [put_norm]
      refine tkH 4 (some 84) ?_ ?_ hHeld ?_ (hQ := fun _ _ _ h => PanicF.put (by decide) h); rotate_left; focus (intro w hSw; (try dsimp only at hSw); go_simp; try with_reducible rfl); try simp only [put_norm]
      refine tkU 5 (some 85) hHeld ?_ (hQ := fun _ _ _ h => PanicF.put (by decide) h); try simp only [put_norm]
      refine tkU 6 (some 86) hHeld ?_ (hQ := fun _ _ _ h => PanicF.put (by decide) h); try simp only [put_norm]
      refine tkU 7 (some 87) hHeld ?_ (hQ := fun _ _ _ h => PanicF.put (by decide) h); try simp only [put_norm]
      refine tkU 8 (some 88) hHeld ?_ (hQ := fun _ _ _ h => PanicF.put (by decide) h); try simp only [put_norm]
      refine tkU 9 (some 89) hHeld ?_ (hQ := fun _ _ _ h => PanicF.put (by decide) h); try simp only [put_norm]
      refine tkU 10 (some 90) hHeld ?_ (hQ := fun _ _ _ h => PanicF.put (by decide) h); try simp only [put_norm]
      refine tkU 11 (some 91) hHeld ?_ (hQ := fun _ _ _ h => PanicF.put (by decide) h); try simp only [put_norm]
      refine tkU 12 (some 92) hHeld ?_ (hQ := fun _ _ _ h => PanicF.put (by decide) h); try simp only [put_norm]
      refine tkU 13 (some 93) hHeld ?_ (hQ := fun _ _ _ h => PanicF.put (by decide) h); try simp only [put_norm]
      refine tkH 14 (some 94) ?_ ?_ hHeld ?_ (hQ := fun _ _ _ h => PanicF.put (by decide) h); rotate_left; focus (intro w hSw; (try dsimp only at hSw); go_simp; try with_reducible rfl); try simp only [put_norm]
      refine rdy1 15 (fun K hK => ?_)
      go_simp
      refine (HMu.out _ true 112 (HB5.out.trans (drew_below.mono HB5.out.size)) (by decide)).mono ?_
      rintro e w9 ⟨⟨-, rfl⟩ | ⟨hx, -⟩, rfl⟩
      rotate_left
      · cases hx
      refine hK.out _ _ ?_ (fun hHeld => ?_)
      · exact HS14.out _ drew_below
      clear hK K
      refine wpAnyH_done (by kernel_rfl) ?_ _
      simp only [PanicF]
      go_wp2_with fail
      go_meet
      exact Lib.hid drew_below
    case rest =>
    have HB6 := hcut
    clear hcut hlk5
    have HM6 := Lib.hid (HM5.out.below HB6.out)
    have HDB6 := Lib.hid (HDB5.out.go (Go2.of_below HB6.out))
    have hh6 := (HB6.out.cell (World.block_lt_of_cell? _ _ hh1)).trans hh1
    have HHF : Hid (Calls Tryz.prog fn #[.pointer (some ⟨ii.rb, 0, none⟩), .slice (some ⟨g1, o1, none⟩) row.length cv1] wc (HeadP w2 L ii EE (0 + 1) 0 (headR EE S2 row k) wc)) := Lib.hid (by
      rw [← HFn.out]
      refine so_head w2 L ii EE (0 + 1) 0 S2 _ row m0 k wc HM6.out HRw.out HM2.out hkl HKey.out (by rw [HLw.out, HWd.out]) (fun j hj hj5 => ?_)
      have h2 : wd = 2 := by
        rcases HW2.out with ⟨h2, -⟩ | ⟨-, h4⟩
        · exact h2
        omega
      have hq0 : q = 0 := Classical.byContradiction (fun h => htw ⟨h2, h⟩)
      have hn : fieldAt row 0 ∉ S.heads := by
        rw [← HSh.out]
        exact List.count_eq_zero.1 (by rw [HQ.out, hq0])
      have := HSp3.out hn j hj5 (by rw [HK.out, hj])
      rw [← HS2.out]; exact this)
    have HStp : Hid (stepR EE S l row rest = match headR EE S2 row k with
      | .error e => .error e
      | .ok S' => .ok { S' with heads := S'.heads ++ [fieldAt row 0] }) := Lib.hid (by
      have hnt : ¬ (widthN k = 2 ∧ S.heads.contains (fieldAt row 0) = true) := by
        rintro ⟨h2, hc⟩
        rw [HWd.out] at h2
        refine htw ⟨h2, fun h => ?_⟩
        rw [List.contains_iff_mem, ← HSh.out] at hc
        exact List.count_eq_zero.1 (by rw [HQ.out, h]) hc
      rw [stepR, if_neg hk13, HK.out, if_neg (by rw [HLw.out, HWd.out]; simp), if_neg hnt, HS2.out]
      rcases headR EE S2 row k with e | S' <;> rfl)
    have hen : ∀ args W, (callFunc fn args).run Tryz.prog W = .ok (.enter fn args) W := fun args W => by rw [← HFn.out]; exact enter_hd k hkl args W
    clear hk13 htw r4 d5 hh0 hh1
    unfold HeadP at HHF
    cases hhr : headR EE S2 row k with
    | error p =>
      obtain ⟨pl, pc⟩ := p
      have HX : Hid (affR s.data.toList = .error (pl, pc)) := Lib.hid (by rw [HAff.out, HRs.out, HStp.out, hhr]; rfl)
      rw [hhr] at HHF
      clear hhr
      go_wp2_with fail
      refine HHF.out.mono ?_
      rintro e w9 ⟨L9, hg9, rfl⟩
      exact read_fault HF2.out HB.out (HM6.out.go_base hg9) HX.out rfl rfl
    | ok S3 =>
      have HR3 : Hid (R = readGo EE g { S3 with heads := S3.heads ++ [fieldAt row 0] }) := Lib.hid (by rw [HRs.out, HStp.out, hhr])
      have HSp4 := Lib.hid (HSp2.out { S3 with heads := S3.heads ++ [fieldAt row 0] } (by rw [HStp.out, hhr]))
      have hrw := head_rows hhr
      have hr2 : S2.rows.length = rest.length := by rw [← HS2.out]
      rw [hr2] at hrw
      rw [hhr] at HHF
      clear hhr
      go_upto_region 16 with (refine HHF.out.mono ?_; rintro e w7 ⟨L7, hg7, rfl, hm7⟩; have HG7 := Lib.hid hg7; have HM7 := Lib.hid hm7; clear hg7 hm7)
      obtain ⟨hbd7, v7, hm7⟩ := HM7.out
      have r4 := hm7.r4
      have d7 := (hm7.base.cell (World.block_lt_of_cell? _ _ HD0.out)).trans HD0.out
      have hh7 := hbd7.heads
      obtain ⟨q3, hq3⟩ : ∃ q, S3.heads.count (fieldAt row 0) = q := ⟨_, rfl⟩
      have hq3l : q3 ≤ S3.heads.length := by rw [← hq3]; exact List.count_le_length
      have hlk7 := (hm7.below (drew_below (w := w7))).seen.look (fieldAt row 0) hs0
      rw [hq3] at hlk7
      obtain ⟨w8, hst, hcn, hkp⟩ := (hm7.below (drew_below (w := w7))).seen.store (fieldAt row 0) hs0 ((q3 : Int) + 1) (by omega) (by omega)
      have hcn2 : CntS w8 ii.sb ({ S3 with heads := S3.heads ++ [fieldAt row 0] } : Sx).heads.length (fun t => ((({ S3 with heads := S3.heads ++ [fieldAt row 0] } : Sx).heads.count t : Nat) : Int)) := by
        have e1 : (fun t => if t = fieldAt row 0 then (q3 : Int) + 1 else ((S3.heads.count t : Nat) : Int)) = fun t => (((S3.heads ++ [fieldAt row 0]).count t : Nat) : Int) := by
          funext t
          rw [List.count_append]
          by_cases ht : t = fieldAt row 0
          · subst ht
            rw [if_pos rfl, hq3, List.count_singleton_self]; omega
          rw [if_neg ht, (List.count_eq_zero (l := [fieldAt row 0]) (a := t)).2 (by rw [List.mem_singleton]; exact ht)]; omega
        show CntS w8 ii.sb (S3.heads ++ [fieldAt row 0]).length _
        rw [List.length_append]
        rw [e1] at hcn
        exact hcn
      have HM8 : Hid (RM w2 w8 L7 ii EE 0 0 { S3 with heads := S3.heads ++ [fieldAt row 0] }) := Lib.hid ⟨Bd.pushHead hbd7 _ (by
          have := HRw.out.each (fieldAt row 0) (by
            unfold fieldAt
            rw [List.getD, List.getElem?_eq_getElem hrl0]
            exact List.getElem_mem hrl0)
          exact this), v7, (hm7.below drew_below).setSeen hkp hcn2 rfl rfl rfl⟩
      have HG8 := Lib.hid (show Go2 L7 w7 L7 w8 from (Go2.of_below drew_below).trans ⟨hkp.mono (by intro x hx; simp at hx; subst hx; exact hm7.sbL), fun x hx => .inl hx⟩)
      have HDB8 := Lib.hid ((HDB6.out.go HG7.out).go HG8.out)
      have hwr8 : IntKind.i64.wrap ((q3 : Int) + 1) = (q3 : Int) + 1 := by rw [IntKind.wrap_i64]; omega
      have hrw2 : ({ S3 with heads := S3.heads ++ [fieldAt row 0] } : Sx).rows.length ≤ g := by show S3.rows.length ≤ g; omega
      have HRw2 := Lib.hid hrw2
      clear hm7 hbd7 hkp hcn hcn2 hq3 hrw2
      go_wp2_with fail
      go_region
      all_goals go_wp2_with fail
      all_goals go_roundg g
      case measure => omega
      case rel => exact ⟨{ S3 with heads := S3.heads ++ [fieldAt row 0] }, L7, HRw2.out, HM8, HDB8, HSp4, Lib.hid HR3.out.symm⟩
  have HX : Hid (affR s.data.toList = .error (l, 111)) := Lib.hid (by rw [HAff.out, HRs.out, stepR, if_neg hk13, HK.out, HWd.out, if_pos hlw]; rfl)
  have hlw2 : ((row.length : Int) == (wd : Int)) = false := by rw [beq_eq_false_iff_ne]; omega
  clear hlw hk13
  go_upto_region 13 with (go_at_call 46; refine (HMu.out _ true 110 HB5.out (by decide)).mono ?_; rintro e w9 ⟨⟨-, rfl⟩ | ⟨hx, -⟩, rfl⟩)
  go_wp2_with fail
  refine (HMu.out _ _ _ HB5.out (by decide)).mono ?_
  rintro e w9 ⟨⟨hx, -⟩ | ⟨-, rfl⟩, rfl⟩
  · exact absurd hx (by simp)
  exact read_fault HF2.out HB.out (HBs.out _ HB5.out) HX.out rfl rfl
end Go.Proofs.YtfkblpjfknfgbaaGreatDoor
namespace Go.Proofs.YtfkblpjfknfgbaaGreatDoor
open Go.RowKit
theorem news_of {w w' : World} {size n : Nat} {p : Option Addr} {xs : List Value} (hs : n = 0 ∨ ∃ g o, p = some ⟨g, o, none⟩ ∧ ∀ j u, xs[j]? = some u → w.cell? ⟨g, o + j, none⟩ = some u) (hl : xs.length = n * size) (hb : Below w.heap.size w w') :
    n = 0 ∨ ∃ ad, p = some ad ∧ ∀ j u, xs[j]? = some u → w'.cell? (ad.add j) = some u := by
  refine hs.imp id ?_
  rintro ⟨b, off, rfl, hc⟩
  refine ⟨_, rfl, fun j u hj => ?_⟩
  have h1 := hc j u hj
  rw [Addr.add_lit]
  exact (hb.cell (World.block_lt_of_cell? w _ h1)).trans h1
set_option maxHeartbeats 2000000 in
set_option maxRecDepth 100000 in
theorem so_CloneRep (v : Value) (n : Nat) (xs : List Value) (w : World) (h : Rd w 2 v n xs) (h1 : ∀ u ∈ xs, u.oneCell' = true) (hn : n ≤ 65536) :
    Calls Tryz.prog 57 #[v] w fun e w' => ∃ v', e = .returned v' ∧ Own w w' 145 2 v' n xs := by
  obtain ⟨hl, p, c, rfl, hcap, hs⟩ := h
  obtain ⟨i0, hi, hz0, hz1, hz2⟩ := info_parts rep_info
  have qn : ∀ (w : World) (a : Option Addr) (n c n' c' : Nat), (binOp .eql 78 (.slice a n c) (.slice none n' c')).run Tryz.prog w = .ok (.bool a.isNone) w := fun w a n c n' c' => Lib.run_eql_slice_nil w _ _ a n c n' c' Tryz.underlying78
  have hS := Lib.hid hs
  have HL := Lib.hid hl
  clear hs hl
  cases p with
  | none =>
    have h0 : n = 0 := hS.out.resolve_right (by rintro ⟨b, off, hp, _⟩; cases hp)
    clear hS
    subst h0
    have hx : Hid (xs = []) := Lib.hid (List.eq_nil_of_length_eq_zero (by rw [HL.out, Nat.zero_mul]))
    go_enter Tryz.func57, Tryz.ntmps57
    go_wp2
    go_ret
    exact ⟨_, rfl, by rw [hx.out]; exact Own.nil_ _ _ _⟩
  | some ad =>
    have hr := run_append_src (P := Tryz.prog) (w.alloc (.cells #[] 145)) w.heap.size 78 78 145 i0 (.agg #[.string ByteArray.empty, .string ByteArray.empty]) 2 32 Tryz.underlying78 hi hz0 hz1 hz2 rfl (by decide) _ 0 [] (World.ownsRow_made w #[] 0 (Nat.le_refl _) (Nat.zero_le _) rfl)
      (some ad) n c xs HL.out (news_of hS.out HL.out ((Below.refl _ w).alloc (Nat.le_refl _) _)) h1 (by unfold maxLen; omega) (by omega) (by simp)
    obtain ⟨v', w1, hrun, hown, hg, -⟩ := hr
    rw [Nat.zero_add, List.nil_append] at hown
    have HR := Lib.hid hrun
    have HO := Lib.hid hown
    have HG := Lib.hid hg
    clear hrun hown hg hS
    go_enter Tryz.func57, Tryz.ntmps57
    go_wp2_with (at_builtin; refine Lib.wpList_append_run _ rfl _ _ _ _ rfl _ _ rfl rfl _ _ HR.out ?_)
    go_ret
    refine ⟨v', rfl, ⟨?_, HO.out⟩⟩
    exact ((Below.refl _ w).alloc (Nat.le_refl _) _).grown HG.out (by simp) (by intro g hg; simp [Value.ownBlock] at hg; omega)
set_option maxHeartbeats 2000000 in
set_option maxRecDepth 100000 in
theorem so_CloneCls (v : Value) (n : Nat) (xs : List Value) (w : World) (h : Rd w 5 v n xs) (h1 : ∀ u ∈ xs, u.oneCell' = true) (hn : n ≤ 65536) :
    Calls Tryz.prog 58 #[v] w fun e w' => ∃ v', e = .returned v' ∧ Own w w' 99 5 v' n xs := by
  obtain ⟨hl, p, c, rfl, hcap, hs⟩ := h
  obtain ⟨i0, hi, hz0, hz1, hz2⟩ := info_parts class_info2
  have qn : ∀ (w : World) (a : Option Addr) (n c n' c' : Nat), (binOp .eql 80 (.slice a n c) (.slice none n' c')).run Tryz.prog w = .ok (.bool a.isNone) w := fun w a n c n' c' => Lib.run_eql_slice_nil w _ _ a n c n' c' Tryz.underlying80
  have hS := Lib.hid hs
  have HL := Lib.hid hl
  clear hs hl
  cases p with
  | none =>
    have h0 : n = 0 := hS.out.resolve_right (by rintro ⟨b, off, hp, _⟩; cases hp)
    clear hS
    subst h0
    have hx : Hid (xs = []) := Lib.hid (List.eq_nil_of_length_eq_zero (by rw [HL.out, Nat.zero_mul]))
    go_enter Tryz.func58, Tryz.ntmps58
    go_wp2
    go_ret
    exact ⟨_, rfl, by rw [hx.out]; exact Own.nil_ _ _ _⟩
  | some ad =>
    have hr := run_append_src (P := Tryz.prog) (w.alloc (.cells #[] 99)) w.heap.size 80 80 99 i0 (.agg #[.int .u16 0, .int .i64 0, .bool false, .int .i64 0, .int .i64 0]) 5 40 Tryz.underlying80 hi hz0 hz1 hz2 rfl (by decide) _ 0 [] (World.ownsRow_made w #[] 0 (Nat.le_refl _) (Nat.zero_le _) rfl)
      (some ad) n c xs HL.out (news_of hS.out HL.out ((Below.refl _ w).alloc (Nat.le_refl _) _)) h1 (by unfold maxLen; omega) (by omega) (by simp)
    obtain ⟨v', w1, hrun, hown, hg, -⟩ := hr
    rw [Nat.zero_add, List.nil_append] at hown
    have HR := Lib.hid hrun
    have HO := Lib.hid hown
    have HG := Lib.hid hg
    clear hrun hown hg hS
    go_enter Tryz.func58, Tryz.ntmps58
    go_wp2_with (at_builtin; refine Lib.wpList_append_run _ rfl _ _ _ _ rfl _ _ rfl rfl _ _ HR.out ?_)
    go_ret
    refine ⟨v', rfl, ⟨?_, HO.out⟩⟩
    exact ((Below.refl _ w).alloc (Nat.le_refl _) _).grown HG.out (by simp) (by intro g hg; simp [Value.ownBlock] at hg; omega)
set_option maxHeartbeats 2000000 in
set_option maxRecDepth 100000 in
theorem so_CloneAls (v : Value) (n : Nat) (xs : List Value) (w : World) (h : Rd w 1 v n xs) (h1 : ∀ u ∈ xs, u.oneCell' = true) (hn : n ≤ 65536) :
    Calls Tryz.prog 59 #[v] w fun e w' => ∃ v', e = .returned v' ∧ Own w w' 29 1 v' n xs := by
  obtain ⟨hl, p, c, rfl, hcap, hs⟩ := h
  obtain ⟨i0, hi, hz0, hz1, hz2⟩ := info_parts alias_info
  have qn : ∀ (w : World) (a : Option Addr) (n c n' c' : Nat), (binOp .eql 79 (.slice a n c) (.slice none n' c')).run Tryz.prog w = .ok (.bool a.isNone) w := fun w a n c n' c' => Lib.run_eql_slice_nil w _ _ a n c n' c' Tryz.underlying79
  have hS := Lib.hid hs
  have HL := Lib.hid hl
  clear hs hl
  cases p with
  | none =>
    have h0 : n = 0 := hS.out.resolve_right (by rintro ⟨b, off, hp, _⟩; cases hp)
    clear hS
    subst h0
    have hx : Hid (xs = []) := Lib.hid (List.eq_nil_of_length_eq_zero (by rw [HL.out, Nat.zero_mul]))
    go_enter Tryz.func59, Tryz.ntmps59
    go_wp2
    go_ret
    exact ⟨_, rfl, by rw [hx.out]; exact Own.nil_ _ _ _⟩
  | some ad =>
    have hr := run_append_src (P := Tryz.prog) (w.alloc (.cells #[] 29)) w.heap.size 79 79 29 i0 (.slice none 0 0) 1 24 Tryz.underlying79 hi hz0 hz1 hz2 rfl (by decide) _ 0 [] (World.ownsRow_made w #[] 0 (Nat.le_refl _) (Nat.zero_le _) rfl)
      (some ad) n c xs HL.out (news_of hS.out HL.out ((Below.refl _ w).alloc (Nat.le_refl _) _)) h1 (by unfold maxLen; omega) (by omega) (by simp)
    obtain ⟨v', w1, hrun, hown, hg, -⟩ := hr
    rw [Nat.zero_add, List.nil_append] at hown
    have HR := Lib.hid hrun
    have HO := Lib.hid hown
    have HG := Lib.hid hg
    clear hrun hown hg hS
    go_enter Tryz.func59, Tryz.ntmps59
    go_wp2_with (at_builtin; refine Lib.wpList_append_run _ rfl _ _ _ _ rfl _ _ rfl rfl _ _ HR.out ?_)
    go_ret
    refine ⟨v', rfl, ⟨?_, HO.out⟩⟩
    exact ((Below.refl _ w).alloc (Nat.le_refl _) _).grown HG.out (by simp) (by intro g hg; simp [Value.ownBlock] at hg; omega)
set_option maxHeartbeats 2000000 in
set_option maxRecDepth 100000 in
theorem so_CloneRls (v : Value) (n : Nat) (xs : List Value) (w : World) (h : Rd w 7 v n xs) (h1 : ∀ u ∈ xs, u.oneCell' = true) (hn : n ≤ 65536) :
    Calls Tryz.prog 60 #[v] w fun e w' => ∃ v', e = .returned v' ∧ Own w w' 31 7 v' n xs := by
  obtain ⟨hl, p, c, rfl, hcap, hs⟩ := h
  obtain ⟨i0, hi, hz0, hz1, hz2⟩ := info_parts rule_info
  have qn : ∀ (w : World) (a : Option Addr) (n c n' c' : Nat), (binOp .eql 81 (.slice a n c) (.slice none n' c')).run Tryz.prog w = .ok (.bool a.isNone) w := fun w a n c n' c' => Lib.run_eql_slice_nil w _ _ a n c n' c' Tryz.underlying81
  have hS := Lib.hid hs
  have HL := Lib.hid hl
  clear hs hl
  cases p with
  | none =>
    have h0 : n = 0 := hS.out.resolve_right (by rintro ⟨b, off, hp, _⟩; cases hp)
    clear hS
    subst h0
    have hx : Hid (xs = []) := Lib.hid (List.eq_nil_of_length_eq_zero (by rw [HL.out, Nat.zero_mul]))
    go_enter Tryz.func60, Tryz.ntmps60
    go_wp2
    go_ret
    exact ⟨_, rfl, by rw [hx.out]; exact Own.nil_ _ _ _⟩
  | some ad =>
    have hr := run_append_src (P := Tryz.prog) (w.alloc (.cells #[] 31)) w.heap.size 81 81 31 i0 (.agg #[.int .i64 0, .int .u16 0, .bool false, .string ByteArray.empty, .string ByteArray.empty, .string ByteArray.empty, .slice none 0 0]) 7 88 Tryz.underlying81 hi hz0 hz1 hz2 rfl (by decide) _ 0 [] (World.ownsRow_made w #[] 0 (Nat.le_refl _) (Nat.zero_le _) rfl)
      (some ad) n c xs HL.out (news_of hS.out HL.out ((Below.refl _ w).alloc (Nat.le_refl _) _)) h1 (by unfold maxLen; omega) (by omega) (by simp)
    obtain ⟨v', w1, hrun, hown, hg, -⟩ := hr
    rw [Nat.zero_add, List.nil_append] at hown
    have HR := Lib.hid hrun
    have HO := Lib.hid hown
    have HG := Lib.hid hg
    clear hrun hown hg hS
    go_enter Tryz.func60, Tryz.ntmps60
    go_wp2_with (at_builtin; refine Lib.wpList_append_run _ rfl _ _ _ _ rfl _ _ rfl rfl _ _ HR.out ?_)
    go_ret
    refine ⟨v', rfl, ⟨?_, HO.out⟩⟩
    exact ((Below.refl _ w).alloc (Nat.le_refl _) _).grown HG.out (by simp) (by intro g hg; simp [Value.ownBlock] at hg; omega)
end Go.Proofs.YtfkblpjfknfgbaaGreatDoor
namespace Go.Proofs.YtfkblpjfknfgbaaGreatDoor
open Go.RowKit Go.Maps
structure AV where
  reps : Value
  als : Value
  cls : Value
  rls : Value
def affA (F : Fl) (a : AV) : Array Value := #[.int .i64 F.kind, .string F.charset, .string F.tryT, .int .u16 F.s0, .int .u16 F.s1, .int .u16 F.s2, .int .u16 F.s3, .int .u16 F.s4, .int .i64 F.least, a.reps, a.als, a.cls, a.rls]
def affV (F : Fl) (a : AV) : Value := .agg (affA F a)
theorem FN.kept {B : Nat} {X : List Nat} {W W' : World} {v : Value} {zs : List Int} (h : FN B W v zs) (hk : Kept X W W') (hX : ∀ x ∈ X, x < B) : FN B W' v zs := by
  obtain ⟨p, c, hv, hc, h⟩ := h
  refine ⟨p, c, hv, hc, h.imp id ?_⟩
  rintro ⟨g, off, hp, h1, h2⟩
  refine ⟨g, off, hp, h1, fun i hi => ?_⟩
  obtain ⟨h3, h4⟩ := h2 i hi
  have hb := hk.block g (World.block_lt_of_cell? _ _ h3) (fun hm => by have := hX g hm; omega)
  exact ⟨(World.cell?_of_block hb).trans h3, (World.frozen?_of_block hb).trans h4⟩
theorem own_kept {B e size n : Nat} {X : List Nat} {W W' : World} {v : Value} {xs : List Value} (h : W.ownsRow B e size v n xs) (hk : Kept X W W') (hX : ∀ x ∈ X, x < B) : W'.ownsRow B e size v n xs :=
  hk.own h (fun g hg hm => by
    have := h.1
    rcases h.2 with ⟨rfl, _⟩ | ⟨g', cap, cur, rfl, hB, _⟩
    · simp [Value.ownBlock] at hg
    · have e1 : g' = g := by simpa [Value.ownBlock] using hg
      have := hX g hm
      omega)
theorem own_mono {B B' e size n : Nat} {W : World} {v : Value} {xs : List Value} (h : W.ownsRow B e size v n xs) (hB : B' ≤ B) : W.ownsRow B' e size v n xs := by
  refine ⟨h.1, h.2.imp id ?_⟩
  rintro ⟨g, cap, cur, hv, h1, r⟩
  exact ⟨g, cap, cur, hv, Nat.le_trans hB h1, r⟩
theorem own_put {B e size n cap g : Nat} {W : World} {xs : List Value} (h : W.ownsRow B e size (.slice (some ⟨g, 0, none⟩) n cap) n xs) (j : Nat) (u : Value) : (W.setCell ⟨g, j, none⟩ u).ownsRow B e size (.slice (some ⟨g, 0, none⟩) n cap) n (xs.set j u) := by
  refine ⟨by rw [List.length_set]; exact h.1, ?_⟩
  rcases h.2 with ⟨hv, _⟩ | ⟨g', cap', cur, hv, h1, h2, h3, h4, h5, h6⟩
  · cases hv
  cases hv
  refine .inr ⟨g, cap, cur.setIfInBounds j u, rfl, h1, heap_setCell_same W g j cur _ _ h2, h3, h4, by rw [Array.size_setIfInBounds]; exact h5, ?_⟩
  rw [Array.toList_setIfInBounds, ← h6]
  exact List.take_set
theorem own_at {B e size n : Nat} {W : World} {v : Value} {xs : List Value} (h : W.ownsRow B e size v n xs) (hn : 0 < n) : ∃ g cap, v = .slice (some ⟨g, 0, none⟩) n cap ∧ n ≤ cap ∧ B ≤ g ∧ g < W.heap.size ∧ (∀ j u, xs[j]? = some u → W.cell? ⟨g, j, none⟩ = some u) ∧ ∀ j, W.frozen? ⟨g, j, none⟩ = false := by
  rcases h.2 with ⟨_, h0⟩ | ⟨g, cap, cur, rfl, h1, h2, h3, h4, h5, h6⟩
  · omega
  refine ⟨g, cap, rfl, h3, h1, block_lt h2, fun j u hj => ?_, fun j => Lib.frozen_of_heap h2 j⟩
  have := h.cells (g := g) rfl j u hj
  rwa [row_addr] at this
structure AffN (B : Nat) (w : World) (F : Fl) (a : AV) : Prop where
  reps : w.ownsRow B 145 2 a.reps F.reps.length (repCells F.reps)
  als : ∃ us : List Value, w.ownsRow B 29 1 a.als F.als.length us ∧ us.length = F.als.length ∧ ∀ (k : Nat) u b, us[k]? = some u → F.als[k]? = some b → FN B w u b
  cls : w.ownsRow B 99 5 a.cls F.cls.length (clsCells F.cls)
  rls : ∃ rs : List (Rl × Value), rs.map (·.1) = F.rls ∧ w.ownsRow B 31 7 a.rls rs.length (rlsCells rs) ∧ ∀ r ∈ rs, FN B w r.2 r.1.next
theorem AffN.kept {B : Nat} {X : List Nat} {W W' : World} {F : Fl} {a : AV} (h : AffN B W F a) (hk : Kept X W W') (hX : ∀ x ∈ X, x < B) : AffN B W' F a := by
  obtain ⟨us, h1, h2, h3⟩ := h.als
  obtain ⟨rs, h4, h5, h6⟩ := h.rls
  exact ⟨own_kept h.reps hk hX, ⟨us, own_kept h1 hk hX, h2, fun k u b hu hb => (h3 k u b hu hb).kept hk hX⟩, own_kept h.cls hk hX, rs, h4, own_kept h5 hk hX, fun r hr => (h6 r hr).kept hk hX⟩
theorem AffN.keep {B : Nat} {W W' : World} {F : Fl} {a : AV} (h : AffN B W F a) (hb : Below W.heap.size W W') : AffN B W' F a := h.kept (Kept.of_below (E := []) hb) (by simp)
theorem AffN.mono {B B' : Nat} {W : World} {F : Fl} {a : AV} (h : AffN B W F a) (hB : B' ≤ B) : AffN B' W F a := by
  obtain ⟨us, h1, h2, h3⟩ := h.als
  obtain ⟨rs, h4, h5, h6⟩ := h.rls
  exact ⟨own_mono h.reps hB, ⟨us, own_mono h1 hB, h2, fun k u b hu hb => (h3 k u b hu hb).mono hB⟩, own_mono h.cls hB, rs, h4, own_mono h5 hB, fun r hr => (h6 r hr).mono hB⟩
theorem rls_set : ∀ (rs : List (Rl × Value)) (k : Nat) (hk : k < rs.length) (u : Value), (rlsCells rs).set (k * 7 + 6) u = rlsCells (rs.set k (rs[k].1, u))
  | [], _, hk, _ => absurd hk (Nat.not_lt_zero _)
  | c :: r, 0, _, u => rfl
  | c :: r, k + 1, hk, u => by
    have hk' : k < r.length := by simpa using hk
    have := rls_set r k hk' u
    have e : rlsCells (c :: r) = [.int .i64 c.1.kind, .int .u16 c.1.flag, .bool c.1.cross, .string c.1.strip, .string c.1.add, .string c.1.cond, c.2] ++ rlsCells r := by simp [rlsCells]
    have e2 : rlsCells ((c :: r).set (k + 1) ((c :: r)[k + 1].1, u)) = [.int .i64 c.1.kind, .int .u16 c.1.flag, .bool c.1.cross, .string c.1.strip, .string c.1.add, .string c.1.cond, c.2] ++ rlsCells (r.set k (r[k].1, u)) := by simp [rlsCells]
    rw [e2, ← this, e, List.set_append_right _ _ (by simp; omega)]
    congr 2
    simp; omega
theorem map_fst_set (rs : List (Rl × Value)) (k : Nat) (hk : k < rs.length) (u : Value) : (rs.set k (rs[k].1, u)).map (·.1) = rs.map (·.1) := by
  rw [List.map_set]
  apply List.ext_getElem
  · simp
  intro i h1 h2
  rw [List.getElem_set]
  split
  · rename_i e; subst e; simp
  rfl
structure Stg (w W : World) (F : Fl) (a : AV) : Prop where
  base : Below w.heap.size w W
  out : W.heap[w.heap.size + 1]? = some (.cells (affA F a) 83 (0, 0))
  res : W.heap[w.heap.size]? = some (.cells #[.int .i64 0, .string ByteArray.empty, .string ByteArray.empty, .int .u16 0, .int .u16 0, .int .u16 0, .int .u16 0, .int .u16 0, .int .i64 0, .slice none 0 0, .slice none 0 0, .slice none 0 0, .slice none 0 0] 83 (0, 0))
section
variable {w W W' : World} {F : Fl} {a : AV}
theorem Stg.start (w : World) (F : Fl) (a : AV) : Stg w ((w.alloc (.cells #[.int .i64 0, .string ByteArray.empty, .string ByteArray.empty, .int .u16 0, .int .u16 0, .int .u16 0, .int .u16 0, .int .u16 0, .int .i64 0, .slice none 0 0, .slice none 0 0, .slice none 0 0, .slice none 0 0] 83)).alloc (.cells (affA F a) 83)) F a := by
  obtain ⟨w1, hw1⟩ : ∃ W, w.alloc (.cells #[.int .i64 0, .string ByteArray.empty, .string ByteArray.empty, .int .u16 0, .int .u16 0, .int .u16 0, .int .u16 0, .int .u16 0, .int .i64 0, .slice none 0 0, .slice none 0 0, .slice none 0 0, .slice none 0 0] 83) = W := ⟨_, rfl⟩
  have s1 : w1.heap.size = w.heap.size + 1 := by rw [← hw1]; simp
  have b1 : Below w.heap.size w w1 := by rw [← hw1]; exact (Below.refl _ _).alloc (Nat.le_refl _) _
  have f1 : w1.heap[w.heap.size]? = some (.cells #[.int .i64 0, .string ByteArray.empty, .string ByteArray.empty, .int .u16 0, .int .u16 0, .int .u16 0, .int .u16 0, .int .u16 0, .int .i64 0, .slice none 0 0, .slice none 0 0, .slice none 0 0, .slice none 0 0] 83 (0, 0)) := by rw [← hw1]; exact heap_alloc_new w _
  rw [hw1]
  have b2 : Below w1.heap.size w1 (w1.alloc (.cells (affA F a) 83)) := (Below.refl _ _).alloc (Nat.le_refl _) _
  exact ⟨b1.trans (b2.mono (by omega)), by rw [← s1]; exact heap_alloc_new w1 _, (b2.block _ (by omega)).trans f1⟩
theorem Stg.size (h : Stg w W F a) : w.heap.size + 2 ≤ W.heap.size := block_lt h.out
theorem Stg.below (h : Stg w W F a) (hb : Below W.heap.size W W') : Stg w W' F a := ⟨h.base.trans (hb.mono h.base.size), (hb.block _ (block_lt h.out)).trans h.out, (hb.block _ (block_lt h.res)).trans h.res⟩
theorem Stg.setOut {a' : AV} (h : Stg w W F a) (j : Nat) (u : Value) (harr : (affA F a).setIfInBounds j u = affA F a') : Stg w (W.setCell ⟨w.heap.size + 1, j, none⟩ u) F a' :=
  ⟨h.base.setCell (by simp) _, by rw [← harr]; exact heap_setCell_same _ _ j _ _ _ h.out, by rw [heap_setCell_other _ ⟨w.heap.size + 1, j, none⟩ w.heap.size _ (by simp)]; exact h.res⟩
theorem Stg.setRow (h : Stg w W F a) (g j : Nat) (u : Value) (hg : w.heap.size + 2 ≤ g) : Stg w (W.setCell ⟨g, j, none⟩ u) F a :=
  ⟨h.base.setCell (by simp; omega) _, by rw [heap_setCell_other _ ⟨g, j, none⟩ (w.heap.size + 1) _ (by simp; omega)]; exact h.out, by rw [heap_setCell_other _ ⟨g, j, none⟩ w.heap.size _ (by simp; omega)]; exact h.res⟩
theorem Stg.oc (h : Stg w W F a) (j : Nat) : W.cell? ⟨w.heap.size + 1, j, none⟩ = (affA F a)[j]? := Lib.cell_of_heap h.out j
theorem Stg.oz (h : Stg w W F a) (j : Nat) : W.frozen? ⟨w.heap.size + 1, j, none⟩ = false := Lib.frozen_of_heap h.out j
end
theorem oneRep (rs : List (ByteArray × ByteArray)) : ∀ u ∈ repCells rs, u.oneCell' = true := by
  intro u hu
  simp only [repCells, List.mem_flatMap] at hu
  obtain ⟨x, _, hu⟩ := hu
  simp at hu; rcases hu with rfl | rfl <;> rfl
theorem oneCls (cs : List Cl) : ∀ u ∈ clsCells cs, u.oneCell' = true := by
  intro u hu
  simp only [clsCells, List.mem_flatMap] at hu
  obtain ⟨x, _, hu⟩ := hu
  simp at hu; rcases hu with rfl | rfl | rfl | rfl | rfl <;> rfl
theorem FS.one {w : World} {v : Value} {zs : List Int} (h : FS w v zs) : v.oneCell' = true := by
  obtain ⟨p, c, rfl, -⟩ := h; rfl
theorem oneRls {w : World} (rs : List (Rl × Value)) (h : ∀ r ∈ rs, FS w r.2 r.1.next) : ∀ u ∈ rlsCells rs, u.oneCell' = true := by
  intro u hu
  simp only [rlsCells, List.mem_flatMap] at hu
  obtain ⟨x, hx, hu⟩ := hu
  simp at hu
  rcases hu with rfl | rfl | rfl | rfl | rfl | rfl | rfl
  case inr.inr.inr.inr.inr.inr => exact (h x hx).one
  all_goals rfl
theorem oneAls {w : World} {us : List Value} {bs : List (List Int)} (hl : us.length = bs.length) (h : ∀ (k : Nat) u b, us[k]? = some u → bs[k]? = some b → FS w u b) : ∀ u ∈ us, u.oneCell' = true := by
  intro u hu
  obtain ⟨k, hk, rfl⟩ := List.mem_iff_getElem.1 hu
  exact (h k us[k] bs[k] (List.getElem?_eq_getElem hk) (List.getElem?_eq_getElem (by omega))).one
def AlsM (w : World) (G : Nat) (W : World) (us : List Value) (bs : List (List Int)) (k : Nat) : Prop := us.length = bs.length ∧ ∀ (j : Nat) u b, us[j]? = some u → bs[j]? = some b → (j < k → FN G W u b) ∧ (k ≤ j → FS w u b)
theorem AlsM.kept {w : World} {G : Nat} {X : List Nat} {W W' : World} {us : List Value} {bs : List (List Int)} {k : Nat} (h : AlsM w G W us bs k) (hk : Kept X W W') (hX : ∀ x ∈ X, x < G) : AlsM w G W' us bs k :=
  ⟨h.1, fun j u b hu hb' => ⟨fun hj => ((h.2 j u b hu hb').1 hj).kept hk hX, (h.2 j u b hu hb').2⟩⟩
theorem AlsM.step {w : World} {G : Nat} {W : World} {us : List Value} {bs : List (List Int)} {k : Nat} (h : AlsM w G W us bs k) (hk : k < bs.length) {u : Value} (hu : FN G W u bs[k]) : AlsM w G W (us.set k u) bs (k + 1) := by
  refine ⟨by rw [List.length_set]; exact h.1, fun j u' b hu' hb => ?_⟩
  rw [List.getElem?_set] at hu'
  by_cases e : k = j
  · subst e
    rw [if_pos rfl, if_pos (by rw [h.1]; exact hk)] at hu'
    cases hu'
    rw [List.getElem?_eq_getElem hk] at hb
    cases hb
    exact ⟨fun _ => hu, fun h => absurd h (by omega)⟩
  rw [if_neg e] at hu'
  exact ⟨fun hj => (h.2 j u' b hu' hb).1 (by omega), fun hj => (h.2 j u' b hu' hb).2 (by omega)⟩
def RlsM (w : World) (G : Nat) (W : World) (rs : List (Rl × Value)) (k : Nat) : Prop := ∀ (j : Nat) (hj : j < rs.length), (j < k → FN G W rs[j].2 rs[j].1.next) ∧ (k ≤ j → FS w rs[j].2 rs[j].1.next)
theorem RlsM.kept {w : World} {G : Nat} {X : List Nat} {W W' : World} {rs : List (Rl × Value)} {k : Nat} (h : RlsM w G W rs k) (hk : Kept X W W') (hX : ∀ x ∈ X, x < G) : RlsM w G W' rs k :=
  fun j hj => ⟨fun hk' => ((h j hj).1 hk').kept hk hX, (h j hj).2⟩
theorem RlsM.step {w : World} {G : Nat} {W : World} {rs : List (Rl × Value)} {k : Nat} (h : RlsM w G W rs k) (hk : k < rs.length) {u : Value} (hu : FN G W u rs[k].1.next) : RlsM w G W (rs.set k (rs[k].1, u)) (k + 1) := by
  intro j hj
  rw [List.length_set] at hj
  rw [List.getElem_set]
  split
  · rename_i e; subst e
    exact ⟨fun _ => hu, fun h => absurd h (by omega)⟩
  rename_i e
  exact ⟨fun hj' => (h j hj).1 (by omega), fun hj' => (h j hj).2 (by omega)⟩
set_option maxHeartbeats 8000000 in
set_option maxRecDepth 100000 in
theorem so_Affixes (fb : Nat) (F : Fl) (w : World) (h : FileAt w fb F) (hok : FlOk F) :
    Calls Tryz.prog 30 #[.pointer (some ⟨fb, 0, none⟩)] w fun e w' => ∃ a, e = .returned (affV F a) ∧ AffN w.heap.size w' F a ∧ Below w.heap.size w w' := by
  obtain ⟨i, v, n, h0, h1, -, h3, ⟨us, h4, h5, h6⟩, h7, rs, h8, h9, h10⟩ := h.mem
  have c0 : w.cell? ⟨fb, 0, none⟩ = some (.int .i64 F.kind) := by rw [Lib.cell_of_heap h1]; rfl
  have c1 : w.cell? ⟨fb, 1, none⟩ = some (.string F.charset) := by rw [Lib.cell_of_heap h1]; rfl
  have c2 : w.cell? ⟨fb, 2, none⟩ = some (.string F.tryT) := by rw [Lib.cell_of_heap h1]; rfl
  have c3 : w.cell? ⟨fb, 3, none⟩ = some (.int .u16 F.s0) := by rw [Lib.cell_of_heap h1]; rfl
  have c4 : w.cell? ⟨fb, 4, none⟩ = some (.int .u16 F.s1) := by rw [Lib.cell_of_heap h1]; rfl
  have c5 : w.cell? ⟨fb, 5, none⟩ = some (.int .u16 F.s2) := by rw [Lib.cell_of_heap h1]; rfl
  have c6 : w.cell? ⟨fb, 6, none⟩ = some (.int .u16 F.s3) := by rw [Lib.cell_of_heap h1]; rfl
  have c7 : w.cell? ⟨fb, 7, none⟩ = some (.int .u16 F.s4) := by rw [Lib.cell_of_heap h1]; rfl
  have c8 : w.cell? ⟨fb, 8, none⟩ = some (.int .i64 F.least) := by rw [Lib.cell_of_heap h1]; rfl
  have c9 : w.cell? ⟨fb, 9, none⟩ = some v.reps := by rw [Lib.cell_of_heap h1]; rfl
  have c10 : w.cell? ⟨fb, 10, none⟩ = some v.als := by rw [Lib.cell_of_heap h1]; rfl
  have c11 : w.cell? ⟨fb, 11, none⟩ = some v.cls := by rw [Lib.cell_of_heap h1]; rfl
  have c12 : w.cell? ⟨fb, 12, none⟩ = some v.rls := by rw [Lib.cell_of_heap h1]; rfl
  have hfb := block_lt h1
  have HRp := Lib.hid h3
  have HCl := Lib.hid h7
  have HAl := Lib.hid (⟨h4, h5, h6⟩ : _ ∧ _ ∧ _)
  have HRl := Lib.hid (⟨h8, h9, h10⟩ : _ ∧ _ ∧ _)
  have HOk := Lib.hid hok
  obtain ⟨vr, va, vc, vl⟩ := v
  dsimp only at c9 c10 c11 c12 HRp HCl HAl HRl
  obtain ⟨-, Ar, kr, rfl, -, -⟩ := h3
  obtain ⟨-, Aa, ka, rfl, -, -⟩ := h4
  obtain ⟨-, Ac, kc, rfl, -, -⟩ := h7
  obtain ⟨-, Al, kl, rfl, -, -⟩ := h9
  clear h h0 h1 h5 h6 h8 h10 hok
  go_enter Tryz.func30, Tryz.ntmps30
  go_upto_region 3 with fail
  go_cut [3] from 10 to 13 (fun p W => p = .pointer (some ⟨w.heap.size + 1, 0, none⟩) ∧ Hid (Stg w W F ⟨.slice Ar F.reps.length kr, .slice Aa F.als.length ka, .slice Ac F.cls.length kc, .slice Al rs.length kl⟩))
  case first =>
    go_wp2_with fail
    all_goals go_meet
    all_goals exact ⟨rfl, Lib.hid (Stg.start w F ⟨.slice Ar F.reps.length kr, .slice Aa F.als.length ka, .slice Ac F.cls.length kc, .slice Al rs.length kl⟩)⟩
  case rest =>
  obtain ⟨rfl, HS0⟩ := hcut
  clear c0 c1 c2 c3 c4 c5 c6 c7 c8 c9 c10 c11 c12 hfb
  have HQ1 : Hid (∀ W, Below w.heap.size w W → Calls Tryz.prog 57 #[.slice Ar F.reps.length kr] W fun e w' => ∃ v', e = .returned v' ∧ Own W w' 145 2 v' F.reps.length (repCells F.reps)) := Lib.hid (fun W hb => so_CloneRep _ _ _ W (HRp.out.keep hb) (oneRep _) HOk.out.reps)
  have HQ2 : Hid (∀ W, Below w.heap.size w W → Calls Tryz.prog 58 #[.slice Ac F.cls.length kc] W fun e w' => ∃ v', e = .returned v' ∧ Own W w' 99 5 v' F.cls.length (clsCells F.cls)) := Lib.hid (fun W hb => so_CloneCls _ _ _ W (HCl.out.keep hb) (oneCls _) HOk.out.cls)
  have HQ3 : Hid (∀ W, Below w.heap.size w W → Calls Tryz.prog 59 #[.slice Aa F.als.length ka] W fun e w' => ∃ v', e = .returned v' ∧ Own W w' 29 1 v' F.als.length us) := Lib.hid (fun W hb => so_CloneAls _ _ _ W (HAl.out.1.keep hb) (oneAls HAl.out.2.1 HAl.out.2.2) HOk.out.als)
  have hrn : rs.length = F.rls.length := by rw [← HRl.out.1]; simp
  have HQ4 : Hid (∀ W, Below w.heap.size w W → Calls Tryz.prog 60 #[.slice Al rs.length kl] W fun e w' => ∃ v', e = .returned v' ∧ Own W w' 31 7 v' rs.length (rlsCells rs)) := Lib.hid (fun W hb => so_CloneRls _ _ _ W (HRl.out.2.1.keep hb) (oneRls rs HRl.out.2.2) (by rw [hrn]; exact HOk.out.rls))
  have HNr := Lib.hid hrn
  clear hrn
  obtain ⟨w2, hw2⟩ : ∃ W : World, W = wc := ⟨_, rfl⟩
  rw [← hw2] at HS0 ⊢
  clear hw2 wc
  go_upto_region 4 with fail
  go_cut [] from 14 to 18 (fun W => ∃ A k, Hid (Stg w W F ⟨.slice A F.reps.length k, .slice Aa F.als.length ka, .slice Ac F.cls.length kc, .slice Al rs.length kl⟩) ∧ Hid (W.ownsRow (w.heap.size + 2) 145 2 (.slice A F.reps.length k) F.reps.length (repCells F.reps)))
  case first =>
    have d9 : w2.cell? ⟨w.heap.size + 1, 9, none⟩ = some (.slice Ar F.reps.length kr) := HS0.out.oc 9
    go_wp2_with (go_at_call 57; refine (HQ1.out _ HS0.out.base).mono ?_; rintro e w3 ⟨v3, rfl, ho⟩; obtain ⟨A3, k3, rfl⟩ := own_slice ho.own; have HO3 := Lib.hid ho; have HS3 := Lib.hid (HS0.out.below ho.below); have e9 : w3.cell? ⟨w.heap.size + 1, 9, none⟩ = some (.slice Ar F.reps.length kr) := HS3.out.oc 9; have z9 := HS3.out.oz 9; clear ho)
    all_goals go_meet
    all_goals exact ⟨A3, k3, Lib.hid (HS3.out.setOut 9 _ (by rfl)), Lib.hid (own_kept (own_mono HO3.out.own HS0.out.size) (set_kept _ _ _ _) (by simp))⟩
  case rest =>
  obtain ⟨A1, k1, HSA, HRA⟩ := hcut
  obtain ⟨wA, hwA⟩ : ∃ W : World, W = wc := ⟨_, rfl⟩
  rw [← hwA] at HSA HRA ⊢
  clear hwA wc HS0 HQ1
  go_upto_region 5 with fail
  go_cut [] from 18 to 21 (fun W => ∃ A k, Hid (Stg w W F ⟨.slice A1 F.reps.length k1, .slice Aa F.als.length ka, .slice A F.cls.length k, .slice Al rs.length kl⟩) ∧ Hid (W.ownsRow (w.heap.size + 2) 145 2 (.slice A1 F.reps.length k1) F.reps.length (repCells F.reps)) ∧ Hid (W.ownsRow (w.heap.size + 2) 99 5 (.slice A F.cls.length k) F.cls.length (clsCells F.cls)))
  case first =>
    have d11 : wA.cell? ⟨w.heap.size + 1, 11, none⟩ = some (.slice Ac F.cls.length kc) := HSA.out.oc 11
    go_wp2_with (go_at_call 58; refine (HQ2.out _ HSA.out.base).mono ?_; rintro e w3 ⟨v3, rfl, ho⟩; obtain ⟨A3, k3, rfl⟩ := own_slice ho.own; have HO3 := Lib.hid ho; have HS3 := Lib.hid (HSA.out.below ho.below); have e11 : w3.cell? ⟨w.heap.size + 1, 11, none⟩ = some (.slice Ac F.cls.length kc) := HS3.out.oc 11; have z11 := HS3.out.oz 11; clear ho)
    all_goals go_meet
    all_goals exact ⟨A3, k3, Lib.hid (HS3.out.setOut 11 _ (by rfl)), Lib.hid (own_kept (own_below HRA.out HO3.out.below) (set_kept _ _ _ _) (by simp)), Lib.hid (own_kept (own_mono HO3.out.own HSA.out.size) (set_kept _ _ _ _) (by simp))⟩
  case rest =>
  obtain ⟨A2, k2, HSB, HRB, HCB⟩ := hcut
  obtain ⟨wB, hwB⟩ : ∃ W : World, W = wc := ⟨_, rfl⟩
  rw [← hwB] at HSB HRB HCB ⊢
  clear hwB wc HSA HRA HQ2
  go_upto_region 6 with fail
  go_cut [] from 22 to 25 (fun W => ∃ A k, Hid (Stg w W F ⟨.slice A1 F.reps.length k1, .slice A F.als.length k, .slice A2 F.cls.length k2, .slice Al rs.length kl⟩) ∧ Hid (Kept [w.heap.size + 1] wB W) ∧ Hid (W.ownsRow wB.heap.size 29 1 (.slice A F.als.length k) F.als.length us))
  case first =>
    have d10 : wB.cell? ⟨w.heap.size + 1, 10, none⟩ = some (.slice Aa F.als.length ka) := HSB.out.oc 10
    go_wp2_with (go_at_call 59; refine (HQ3.out _ HSB.out.base).mono ?_; rintro e w3 ⟨v3, rfl, ho⟩; obtain ⟨A3, k3, rfl⟩ := own_slice ho.own; have HO3 := Lib.hid ho; have HS3 := Lib.hid (HSB.out.below ho.below); have e10 : w3.cell? ⟨w.heap.size + 1, 10, none⟩ = some (.slice Aa F.als.length ka) := HS3.out.oc 10; have z10 := HS3.out.oz 10; clear ho)
    all_goals go_meet
    all_goals exact ⟨A3, k3, Lib.hid (HS3.out.setOut 10 _ (by rfl)), Lib.hid ((Kept.of_below HO3.out.below).set _ _ _ (.inl (by simp))), Lib.hid (own_kept HO3.out.own (set_kept _ _ _ _) (by have := HSB.out.size; simp; omega))⟩
  case rest =>
  obtain ⟨A3, k3, HSC, HKC, HOC⟩ := hcut
  obtain ⟨wC, hwC⟩ : ∃ W : World, W = wc := ⟨_, rfl⟩
  rw [← hwC] at HSC HKC HOC ⊢
  clear hwC wc HQ3
  have d10 : wC.cell? ⟨w.heap.size + 1, 10, none⟩ = some (.slice A3 F.als.length k3) := HSC.out.oc 10
  have hbB := HSB.out.size
  have hnA := HOk.out.als
  have HG : Hid (AlsM w wC.heap.size wC us F.als 0) := Lib.hid ⟨HAl.out.2.1, fun j u b hu hb => ⟨fun h => absurd h (Nat.not_lt_zero _), fun _ => HAl.out.2.2 j u b hu hb⟩⟩
  obtain ⟨na, hna⟩ : ∃ n, F.als.length = n := ⟨_, rfl⟩
  have HNa := Lib.hid hna
  rw [hna] at d10 hnA HSC HOC
  have HGC : Hid (∀ g, A3 = some ⟨g, 0, none⟩ → 0 < na → g < wC.heap.size) := Lib.hid (fun g hA hn => by
    obtain ⟨g', cap, hv, -, -, hl, -⟩ := own_at HOC.out hn
    injection hv with e1
    rw [hA] at e1
    injection e1 with e1
    injection e1 with e1
    omega)
  go_wp2_with fail
  go_loopw [4, 5, 29] (fun _ _ x wr => ∃ (k : Nat) (us' : List Value), k ≤ na ∧ x = .int .i64 k ∧ Hid (Stg w wr F ⟨.slice A1 F.reps.length k1, .slice A3 na k3, .slice A2 F.cls.length k2, .slice Al rs.length kl⟩) ∧ Hid (wr.ownsRow wB.heap.size 29 1 (.slice A3 na k3) na us') ∧ Hid (AlsM w wC.heap.size wr us' F.als k) ∧ Hid (Kept [w.heap.size + 1] wB wr) ∧ Hid (wC.heap.size ≤ wr.heap.size)) (fun _ _ x _ => na - (intOf x).toNat)
  case atStart => exact ⟨0, us, Nat.zero_le _, rfl, HSC, HOC, HG, HKC, Lib.hid (Nat.le_refl _)⟩
  case round =>
  obtain ⟨k, us', hk, rfl, HSr, HOr, HMr, HKr, HZr⟩ := hrel
  clear d10 HG HSC HOC
  by_cases hlt : k < na
  · obtain ⟨g, cap, hva, hcap, hg, hgl, hcs, hzs⟩ := own_at HOr.out (by omega)
    cases hva
    have hk2 : k < F.als.length := by have := HNa.out; omega
    have hku : k < us'.length := by rw [HMr.out.1]; exact hk2
    have dk := hcs k us'[k] (List.getElem?_eq_getElem hku)
    have zk := hzs k
    have hfs := (HMr.out.2 k us'[k] F.als[k] (List.getElem?_eq_getElem hku) (List.getElem?_eq_getElem hk2)).2 (Nat.le_refl _)
    obtain ⟨u, hu⟩ : ∃ u, us'[k] = u := ⟨_, rfl⟩
    obtain ⟨b, hb⟩ : ∃ b, F.als[k] = b := ⟨_, rfl⟩
    rw [hu] at dk hfs
    rw [hb] at hfs
    have HBk : Hid (F.als[k] = b) := Lib.hid hb
    have hbl := HOk.out.sets b (by rw [← hb]; exact List.getElem_mem hk2)
    have hbn := canon_len hbl.1 hbl.2
    have HQf : Hid (∀ W, Below w.heap.size w W → Calls Tryz.prog 40 #[u] W fun e w' => ∃ v', e = .returned v' ∧ FN W.heap.size w' v' b ∧ Below W.heap.size W w') := Lib.hid (fun W hW => so_CloneF u b W (hfs.keep hW) (by omega))
    obtain ⟨pu, cu, rfl, -⟩ := hfs
    have HSo : Hid (∀ W, Below wr.heap.size wr W → W.cell? ⟨w.heap.size + 1, 10, none⟩ = some (.slice (some ⟨g, 0, none⟩) na k3)) := Lib.hid (fun W hW => (HSr.out.below hW).oc 10)
    have hgC : g < wC.heap.size := HGC.out g rfl (by omega)
    have hkn : (k : Int) < (na : Int) := by omega
    clear hcs hzs hu hb hbl
    go_upto_region 10 with fail
    refine wp_region_held_drew (S := fun W => W.cell? ⟨w.heap.size + 1, 10, none⟩ = some (.slice (some ⟨g, 0, none⟩) na k3)) (by kernel_rfl) ?_ (fun hHeld => ?_)
    · exact HSo.out _ drew_below
    refine tkH 0 (some 34) ?_ ?_ hHeld ?_; rotate_left; focus (intro w hSw; (try dsimp only at hSw); go_simp; try with_reducible rfl); try simp only [put_norm]
    refine tkH 1 (some 35) ?_ ?_ hHeld ?_; rotate_left; focus (intro w hSw; (try dsimp only at hSw); go_simp; try with_reducible rfl); try simp only [put_norm]
    refine tkH 2 (some 36) ?_ ?_ hHeld ?_; rotate_left; focus (intro w hSw; (try dsimp only at hSw); go_simp; try with_reducible rfl); try simp only [put_norm]
    refine tkH 3 (some 37) ?_ ?_ hHeld ?_; rotate_left; focus (intro w hSw; (try dsimp only at hSw); go_simp; try with_reducible rfl); try simp only [put_norm]
    refine rdy1 4 (fun K hK => ?_)
    go_simp
    refine (HQf.out _ (HSr.out.base.trans ((drew_below (w := wr)).mono HSr.out.base.size))).mono ?_
    rintro e w8 ⟨v8, rfl, hfn, hb8⟩
    obtain ⟨p8, c8, rfl⟩ : ∃ p c, v8 = .slice p b.length c := by obtain ⟨p, c, hv, -⟩ := hfn; exact ⟨p, c, hv⟩
    have HB8 : Hid (Below wr.heap.size wr w8) := Lib.hid ((drew_below (w := wr)).trans hb8)
    have HFN := Lib.hid hfn
    have d8 := (HB8.out.cell (p := ⟨g, k, none⟩) hgl).trans dk
    have z8 := (HB8.out.frozen (p := ⟨g, k, none⟩) hgl).trans zk
    have HS9 : Hid ((w8.setCell ⟨g, k, none⟩ (.slice p8 b.length c8)).cell? ⟨w.heap.size + 1, 10, none⟩ = some (.slice (some ⟨g, 0, none⟩) na k3)) := Lib.hid (((HSr.out.below HB8.out).setRow g k _ (by omega)).oc 10)
    clear hfn hb8
    refine hK.out _ _ ?_ (fun hHeld => ?_)
    · exact HSo.out _ HB8.out
    clear hK K
    refine tkH 5 (some 39) ?_ ?_ hHeld ?_; rotate_left; focus (intro w hSw; (try dsimp only at hSw); go_simp; try with_reducible rfl); try simp only [put_norm]
    refine rdy1 6 (fun K hK => ?_)
    go_simp
    refine hK.out _ _ ?_ (fun hHeld => ?_)
    · exact HS9.out
    clear hK K
    refine wpAnyH_done (by kernel_rfl) ?_ _
    go_wp2_with fail
    go_roundw
    case rel => exact ⟨k + 1, us'.set k (.slice p8 b.length c8), by omega, by go_num, Lib.hid ((HSr.out.below HB8.out).setRow g k _ (by omega)), Lib.hid (own_put (own_below HOr.out HB8.out) k _), Lib.hid (((HMr.out.kept (Kept.of_below (E := []) HB8.out) (by simp)).kept (set_kept _ _ _ _) (by simp; omega)).step hk2 (by rw [HBk.out]; exact (HFN.out.mono HZr.out).kept (set_kept _ _ _ _) (by simp; omega))), Lib.hid ((HKr.out.trans (Kept.of_below HB8.out)).set _ _ _ (.inr hg)), Lib.hid (Nat.le_trans HZr.out (by rw [set_size]; exact HB8.out.size))⟩
    case measure => simp [intOf]; omega
  obtain rfl : k = na := by omega
  have HAl2 : Hid (∃ us : List Value, wr.ownsRow (w.heap.size + 2) 29 1 (.slice A3 k k3) F.als.length us ∧ us.length = F.als.length ∧ ∀ (j : Nat) u b, us[j]? = some u → F.als[j]? = some b → FN (w.heap.size + 2) wr u b) := Lib.hid ⟨us', by
      have := own_mono HOr.out hbB
      rw [HNa.out]; exact this, HMr.out.1, fun j u b hu hb => ((HMr.out.2 j u b hu hb).1 (by
      have h1 := (List.getElem?_eq_some_iff.1 hb).1
      have h2 := HNa.out
      omega)).mono (Nat.le_trans hbB HKC.out.size)⟩
  have HRp2 : Hid (wr.ownsRow (w.heap.size + 2) 145 2 (.slice A1 F.reps.length k1) F.reps.length (repCells F.reps)) := Lib.hid (own_kept HRB.out HKr.out (by simp))
  have HCl2 : Hid (wr.ownsRow (w.heap.size + 2) 99 5 (.slice A2 F.cls.length k2) F.cls.length (clsCells F.cls)) := Lib.hid (own_kept HCB.out HKr.out (by simp))
  clear HKC HSB HRB HCB HOr HMr HKr HZr hbB hnA HGC HAl HRp HCl
  obtain ⟨wD, hwD⟩ : ∃ W : World, W = wr := ⟨_, rfl⟩
  rw [← hwD] at HSr HAl2 HRp2 HCl2 ⊢
  clear hwD
  go_upto_region 12 with fail
  go_cut [] from 41 to 44 (fun W => ∃ A kk, Hid (Stg w W F ⟨.slice A1 F.reps.length k1, .slice A3 k k3, .slice A2 F.cls.length k2, .slice A rs.length kk⟩) ∧ Hid (Kept [w.heap.size + 1] wD W) ∧ Hid (W.ownsRow wD.heap.size 31 7 (.slice A rs.length kk) rs.length (rlsCells rs)))
  case first =>
    have d12 : wD.cell? ⟨w.heap.size + 1, 12, none⟩ = some (.slice Al rs.length kl) := HSr.out.oc 12
    go_wp2_with (go_at_call 60; refine (HQ4.out _ HSr.out.base).mono ?_; rintro e w3 ⟨v3, rfl, ho⟩; obtain ⟨A4, k4, rfl⟩ := own_slice ho.own; have HO3 := Lib.hid ho; have HS3 := Lib.hid (HSr.out.below ho.below); have e12 : w3.cell? ⟨w.heap.size + 1, 12, none⟩ = some (.slice Al rs.length kl) := HS3.out.oc 12; have z12 := HS3.out.oz 12; clear ho)
    all_goals go_meet
    all_goals exact ⟨A4, k4, Lib.hid (HS3.out.setOut 12 _ (by rfl)), Lib.hid ((Kept.of_below HO3.out.below).set _ _ _ (.inl (by simp))), Lib.hid (own_kept HO3.out.own (set_kept _ _ _ _) (by have := HSr.out.size; simp; omega))⟩
  case rest =>
  obtain ⟨A4, k4, HSE, HKE, HOE⟩ := hcut
  obtain ⟨wE, hwE⟩ : ∃ W : World, W = wc := ⟨_, rfl⟩
  rw [← hwE] at HSE HKE HOE ⊢
  clear hwE wc HQ4
  have d12 : wE.cell? ⟨w.heap.size + 1, 12, none⟩ = some (.slice A4 rs.length k4) := HSE.out.oc 12
  have hbD := HSr.out.size
  have hnR : rs.length ≤ 65536 := by rw [HNr.out]; exact HOk.out.rls
  have HG : Hid (RlsM w wE.heap.size wE rs 0) := Lib.hid (fun j hj => ⟨fun h => absurd h (Nat.not_lt_zero _), fun _ => HRl.out.2.2 _ (List.getElem_mem hj)⟩)
  have HRm := Lib.hid HRl.out.1
  have HKE2 := Lib.hid HKE.out.size
  obtain ⟨nr, hnr⟩ : ∃ n, rs.length = n := ⟨_, rfl⟩
  have HNr2 := Lib.hid hnr
  rw [hnr] at d12 hnR HSE HOE
  have HGE : Hid (∀ g, A4 = some ⟨g, 0, none⟩ → 0 < nr → g < wE.heap.size) := Lib.hid (fun g hA hn => by
    obtain ⟨g', cap, hv, -, -, hl, -⟩ := own_at HOE.out hn
    injection hv with e1
    rw [hA] at e1
    injection e1 with e1
    injection e1 with e1
    omega)
  go_wp2_with fail
  go_loopw [6, 48] (fun _ x wr => ∃ (m : Nat) (rs' : List (Rl × Value)), m ≤ nr ∧ x = .int .i64 m ∧ Hid (rs'.length = nr) ∧ Hid (Stg w wr F ⟨.slice A1 F.reps.length k1, .slice A3 k k3, .slice A2 F.cls.length k2, .slice A4 nr k4⟩) ∧ Hid (wr.ownsRow wD.heap.size 31 7 (.slice A4 nr k4) nr (rlsCells rs')) ∧ Hid (rs'.map (·.1) = F.rls) ∧ Hid (RlsM w wE.heap.size wr rs' m) ∧ Hid (Kept [w.heap.size + 1] wD wr) ∧ Hid (wE.heap.size ≤ wr.heap.size)) (fun _ x _ => nr - (intOf x).toNat)
  case atStart => exact ⟨0, rs, Nat.zero_le _, rfl, HNr2, HSE, HOE, HRm, HG, HKE, Lib.hid (Nat.le_refl _)⟩
  case round =>
  obtain ⟨m, rs', hm, rfl, HLn, HSr2, HOr, HMp, HMr, HKr, HZr⟩ := hrel
  clear d12 HG HSE HOE HRm HKE
  by_cases hlt : m < nr
  · obtain ⟨g, cap, hva, hcap, hg, hgl, hcs, hzs⟩ := own_at HOr.out (by omega)
    cases hva
    have hmu : m < rs'.length := by rw [HLn.out]; exact hlt
    obtain ⟨-, -, -, -, -, -, q6⟩ := rls_at rs' m hmu
    have dk := hcs _ _ q6
    have zk := hzs (m * 7 + 6)
    have hfs := (HMr.out m hmu).2 (Nat.le_refl _)
    obtain ⟨r, hr⟩ : ∃ r, rs'[m] = r := ⟨_, rfl⟩
    obtain ⟨r1, u⟩ := r
    rw [hr] at dk hfs
    dsimp only at dk hfs
    have HRk : Hid (rs'[m] = (r1, u)) := Lib.hid hr
    have hin : r1 ∈ F.rls := by
      rw [← HMp.out]
      exact List.mem_map.2 ⟨rs'[m], List.getElem_mem hmu, by rw [hr]⟩
    have hbl := HOk.out.nexts r1 hin
    have hbn := canon_len hbl.1 hbl.2
    obtain ⟨b, hb⟩ : ∃ b, r1.next = b := ⟨_, rfl⟩
    rw [hb] at hfs hbn
    have HBk := Lib.hid hb
    have HQf : Hid (∀ W, Below w.heap.size w W → Calls Tryz.prog 40 #[u] W fun e w' => ∃ v', e = .returned v' ∧ FN W.heap.size w' v' b ∧ Below W.heap.size W w') := Lib.hid (fun W hW => so_CloneF u b W (hfs.keep hW) (by omega))
    obtain ⟨pu, cu, rfl, -⟩ := hfs
    have HSo : Hid (∀ W, Below wr.heap.size wr W → W.cell? ⟨w.heap.size + 1, 12, none⟩ = some (.slice (some ⟨g, 0, none⟩) nr k4)) := Lib.hid (fun W hW => (HSr2.out.below hW).oc 12)
    have hgE : g < wE.heap.size := HGE.out g rfl (by omega)
    have hmn : (m : Int) < (nr : Int) := by omega
    clear hcs hzs hr hb hbl hin q6
    go_upto_region 16 with fail
    refine wp_region_held_drew (S := fun W => W.cell? ⟨w.heap.size + 1, 12, none⟩ = some (.slice (some ⟨g, 0, none⟩) nr k4)) (by kernel_rfl) ?_ (fun hHeld => ?_)
    · exact HSo.out _ drew_below
    refine tkH 0 (some 51) ?_ ?_ hHeld ?_; rotate_left; focus (intro w hSw; (try dsimp only at hSw); go_simp; try with_reducible rfl); try simp only [put_norm]
    refine tkH 1 (some 52) ?_ ?_ hHeld ?_; rotate_left; focus (intro w hSw; (try dsimp only at hSw); go_simp; try with_reducible rfl); try simp only [put_norm]
    refine tkH 2 (some 53) ?_ ?_ hHeld ?_; rotate_left; focus (intro w hSw; (try dsimp only at hSw); go_simp; try with_reducible rfl); try simp only [put_norm]
    refine tkH 3 (some 54) ?_ ?_ hHeld ?_; rotate_left; focus (intro w hSw; (try dsimp only at hSw); go_simp; try with_reducible rfl); try simp only [put_norm]
    refine tkH 4 (some 55) ?_ ?_ hHeld ?_; rotate_left; focus (intro w hSw; (try dsimp only at hSw); go_simp; try with_reducible rfl); try simp only [put_norm]
    refine tkH 5 (some 56) ?_ ?_ hHeld ?_; rotate_left; focus (intro w hSw; (try dsimp only at hSw); go_simp; try with_reducible rfl); try simp only [put_norm]
    refine tkH 6 (some 57) ?_ ?_ hHeld ?_; rotate_left; focus (intro w hSw; (try dsimp only at hSw); go_simp; try with_reducible rfl); try simp only [put_norm]
    refine tkH 7 (some 58) ?_ ?_ hHeld ?_; rotate_left; focus (intro w hSw; (try dsimp only at hSw); go_simp; try with_reducible rfl); try simp only [put_norm]
    refine rdy1 8 (fun K hK => ?_)
    go_simp
    refine hK.out _ _ ?_ (fun hHeld => ?_)
    · first | exact HSo.out _ drew_below | exact HS9.out
    clear hK K
    refine rdy1 9 (fun K hK => ?_)
    go_simp
    refine (HQf.out _ (HSr2.out.base.trans ((drew_below (w := wr)).mono HSr2.out.base.size))).mono ?_
    rintro e w8 ⟨v8, rfl, hfn, hb8⟩
    obtain ⟨p8, c8, rfl⟩ : ∃ p c, v8 = .slice p b.length c := by obtain ⟨p, c, hv, -⟩ := hfn; exact ⟨p, c, hv⟩
    have HB8 : Hid (Below wr.heap.size wr w8) := Lib.hid ((drew_below (w := wr)).trans hb8)
    have HFN := Lib.hid hfn
    have d8 := (HB8.out.cell (p := ⟨g, m * 7 + 6, none⟩) hgl).trans dk
    have z8 := (HB8.out.frozen (p := ⟨g, m * 7 + 6, none⟩) hgl).trans zk
    have HS9 : Hid ((w8.setCell ⟨g, m * 7 + 6, none⟩ (.slice p8 b.length c8)).cell? ⟨w.heap.size + 1, 12, none⟩ = some (.slice (some ⟨g, 0, none⟩) nr k4)) := Lib.hid (((HSr2.out.below HB8.out).setRow g (m * 7 + 6) _ (by omega)).oc 12)
    clear hfn hb8
    refine hK.out _ _ ?_ (fun hHeld => ?_)
    · exact HSo.out _ HB8.out
    clear hK K
    refine tkH 10 (some 61) ?_ ?_ hHeld ?_; rotate_left; focus (intro w hSw; (try dsimp only at hSw); go_simp; try with_reducible rfl); try simp only [put_norm]
    refine tkH 11 (some 62) ?_ ?_ hHeld ?_; rotate_left; focus (intro w hSw; (try dsimp only at hSw); go_simp; try with_reducible rfl); try simp only [put_norm]
    refine rdy1 12 (fun K hK => ?_)
    go_simp
    refine hK.out _ _ ?_ (fun hHeld => ?_)
    · first | exact HSo.out _ drew_below | exact HS9.out
    clear hK K
    refine wpAnyH_done (by kernel_rfl) ?_ _
    go_wp2_with fail
    go_roundw
    case rel => exact ⟨m + 1, rs'.set m (rs'[m].1, .slice p8 b.length c8), by omega, by go_num, Lib.hid (by rw [List.length_set]; exact HLn.out), Lib.hid ((HSr2.out.below HB8.out).setRow g (m * 7 + 6) _ (by omega)), Lib.hid (by rw [← rls_set rs' m hmu]; exact own_put (own_below HOr.out HB8.out) (m * 7 + 6) _), Lib.hid (by rw [map_fst_set rs' m hmu]; exact HMp.out), Lib.hid (((HMr.out.kept (Kept.of_below (E := []) HB8.out) (by simp)).kept (set_kept _ _ _ _) (by simp; omega)).step hmu (by rw [HRk.out, HBk.out]; exact (HFN.out.mono HZr.out).kept (set_kept _ _ _ _) (by simp; omega))), Lib.hid ((HKr.out.trans (Kept.of_below HB8.out)).set _ _ _ (.inr hg)), Lib.hid (Nat.le_trans HZr.out (by rw [set_size]; exact HB8.out.size))⟩
    case measure => simp [intOf]; omega
  obtain rfl : m = nr := by omega
  have HAff : Hid (AffN (w.heap.size + 2) wr F ⟨.slice A1 F.reps.length k1, .slice A3 k k3, .slice A2 F.cls.length k2, .slice A4 m k4⟩) := Lib.hid (by
    obtain ⟨ua, a1, a2, a3⟩ := HAl2.out
    refine ⟨own_kept HRp2.out HKr.out (by simp), ⟨ua, own_kept a1 HKr.out (by simp), a2, fun j u b hu hb => (a3 j u b hu hb).kept HKr.out (by simp)⟩, own_kept HCl2.out HKr.out (by simp), rs', HMp.out, ?_, fun r hr => ?_⟩
    · rw [HLn.out]; exact own_mono HOr.out hbD
    obtain ⟨j, hj, rfl⟩ := List.mem_iff_getElem.1 hr
    exact ((HMr.out j hj).1 (by have := HLn.out; omega)).mono (Nat.le_trans hbD HKE2.out))
  clear HAl2 HRp2 HCl2 HOr HMp HMr HKr HZr HLn
  have x0 : wr.cell? ⟨w.heap.size + 1, 0, none⟩ = some (.int .i64 F.kind) := HSr2.out.oc 0
  have x1 : wr.cell? ⟨w.heap.size + 1, 1, none⟩ = some (.string F.charset) := HSr2.out.oc 1
  have x2 : wr.cell? ⟨w.heap.size + 1, 2, none⟩ = some (.string F.tryT) := HSr2.out.oc 2
  have x3 : wr.cell? ⟨w.heap.size + 1, 3, none⟩ = some (.int .u16 F.s0) := HSr2.out.oc 3
  have x4 : wr.cell? ⟨w.heap.size + 1, 4, none⟩ = some (.int .u16 F.s1) := HSr2.out.oc 4
  have x5 : wr.cell? ⟨w.heap.size + 1, 5, none⟩ = some (.int .u16 F.s2) := HSr2.out.oc 5
  have x6 : wr.cell? ⟨w.heap.size + 1, 6, none⟩ = some (.int .u16 F.s3) := HSr2.out.oc 6
  have x7 : wr.cell? ⟨w.heap.size + 1, 7, none⟩ = some (.int .u16 F.s4) := HSr2.out.oc 7
  have x8 : wr.cell? ⟨w.heap.size + 1, 8, none⟩ = some (.int .i64 F.least) := HSr2.out.oc 8
  have x9 : wr.cell? ⟨w.heap.size + 1, 9, none⟩ = some (.slice A1 F.reps.length k1) := HSr2.out.oc 9
  have x10 : wr.cell? ⟨w.heap.size + 1, 10, none⟩ = some (.slice A3 k k3) := HSr2.out.oc 10
  have x11 : wr.cell? ⟨w.heap.size + 1, 11, none⟩ = some (.slice A2 F.cls.length k2) := HSr2.out.oc 11
  have x12 : wr.cell? ⟨w.heap.size + 1, 12, none⟩ = some (.slice A4 m k4) := HSr2.out.oc 12
  have hz := Lib.cell_of_heap HSr2.out.res
  have z0 := hz 0
  have z1 := hz 1
  have z2 := hz 2
  have z3 := hz 3
  have z4 := hz 4
  have z5 := hz 5
  have z6 := hz 6
  have z7 := hz 7
  have z8 := hz 8
  have z9 := hz 9
  have z10 := hz 10
  have z11 := hz 11
  have z12 := hz 12
  simp only [List.getElem?_toArray, List.getElem?_cons_zero, List.getElem?_cons_succ] at z0 z1 z2 z3 z4 z5 z6 z7 z8 z9 z10 z11 z12
  have hy := Lib.frozen_of_heap HSr2.out.res
  have y0 := hy 0
  have y1 := hy 1
  have y2 := hy 2
  have y3 := hy 3
  have y4 := hy 4
  have y5 := hy 5
  have y6 := hy 6
  have y7 := hy 7
  have y8 := hy 8
  have y9 := hy 9
  have y10 := hy 10
  have y11 := hy 11
  have y12 := hy 12
  clear hz hy
  go_wp2_with fail
  refine bodyPost_ret (v := affV F ⟨.slice A1 F.reps.length k1, .slice A3 k k3, .slice A2 F.cls.length k2, .slice A4 m k4⟩) (by simp [results, Tryz.results30, go_sem, z0, z1, z2, z3, z4, z5, z6, z7, z8, z9, z10, z11, z12, affV, affA]; try rfl) rfl ?_
  refine ⟨_, rfl, (HAff.out.kept (X := [w.heap.size]) ?_ (by simp)).mono (by omega), ?_⟩
  · exact (((((((((((((Kept.refl _ wr).set _ _ _ (.inl (by simp))).set _ _ _ (.inl (by simp))).set _ _ _ (.inl (by simp))).set _ _ _ (.inl (by simp))).set _ _ _ (.inl (by simp))).set _ _ _ (.inl (by simp))).set _ _ _ (.inl (by simp))).set _ _ _ (.inl (by simp))).set _ _ _ (.inl (by simp))).set _ _ _ (.inl (by simp))).set _ _ _ (.inl (by simp))).set _ _ _ (.inl (by simp))).set _ _ _ (.inl (by simp))
  exact (((((((((((((HSr2.out.base).setCell (by simp) _).setCell (by simp) _).setCell (by simp) _).setCell (by simp) _).setCell (by simp) _).setCell (by simp) _).setCell (by simp) _).setCell (by simp) _).setCell (by simp) _).setCell (by simp) _).setCell (by simp) _).setCell (by simp) _).setCell (by simp) _
end Go.Proofs.YtfkblpjfknfgbaaGreatDoor
