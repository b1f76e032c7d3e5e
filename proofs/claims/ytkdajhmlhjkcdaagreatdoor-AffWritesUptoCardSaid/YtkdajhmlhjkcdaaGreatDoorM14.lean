/-
 Parts of the proof: AR14, AL3, AL4, AL5, AL6, AL7, AL9, AL8, LinesD, FP2, FS1, FA1, FR14, FS2, AP5, FS3, FS4.
-/
import Derived.BigQuiet
import Derived.Test.YtkdajhmlhjkcdaaGreatDoorRows
import Derived.Test.YtkdajhmlhjkcdaaGreatDoorM13
import Derived.Test.YtkdajhmlhjkcdaaGreatDoorM10
import Derived.WalkLawsBesides
import Derived.Test.YtkdajhmlhjkcdaaGreatDoorM3
import Derived.Test.YtkdajhmlhjkcdaaGreatDoorM4
import Derived.Lib.Join
import Derived.Lib.ItoaLen
import Derived.Deep.QuietTactic
import Derived.Deep.RegionWith
import Derived.Shelf.Vars
set_option linter.unusedVariables false
set_option linter.unusedSimpArgs false
namespace Go.Proofs.YtkdajhmlhjkcdaaGreatDoor
open Go.RowKit Go.Maps
theorem qrls_at : ∀ (rs : List (Rl × Value)) (k : Nat) (hk : k < rs.length), (qrls rs)[k * 8]? = some (.int .i64 rs[k].1.kind) ∧ (qrls rs)[k * 8 + 1]? = some (.int .i64 rs[k].1.flag) ∧ (qrls rs)[k * 8 + 2]? = some (.bool rs[k].1.cross) ∧ (qrls rs)[k * 8 + 3]? = some (.string rs[k].1.strip) ∧ (qrls rs)[k * 8 + 4]? = some (.string rs[k].1.add) ∧ (qrls rs)[k * 8 + 5]? = some (.string rs[k].1.cond) ∧ (qrls rs)[k * 8 + 6]? = some rs[k].2 ∧ (qrls rs)[k * 8 + 7]? = some (.int .i64 rs[k].1.line)
 | [], _, hk => absurd hk (Nat.not_lt_zero _)
 | c :: r, 0, _ => ⟨rfl, rfl, rfl, rfl, rfl, rfl, rfl, rfl⟩
 | c :: r, k + 1, hk => by
   have := qrls_at r k (by simpa using hk)
   have e : qrls (c :: r) = [.int .i64 c.1.kind, .int .i64 c.1.flag, .bool c.1.cross, .string c.1.strip, .string c.1.add, .string c.1.cond, c.2, .int .i64 c.1.line] ++ qrls r := by simp [qrls]
   have key : ∀ j, (qrls (c :: r))[(k + 1) * 8 + j]? = (qrls r)[k * 8 + j]? := fun j => by
    rw [e, List.getElem?_append_right (by simp; omega)]
    congr 1
    simp; omega
   exact ⟨(key 0).trans this.1, (key 1).trans this.2.1, (key 2).trans this.2.2.1, (key 3).trans this.2.2.2.1, (key 4).trans this.2.2.2.2.1, (key 5).trans this.2.2.2.2.2.1, (key 6).trans this.2.2.2.2.2.2.1, (key 7).trans this.2.2.2.2.2.2.2⟩
def QFileAt (w : World) (rf : Nat) (F : Fl) : Prop := ∃ v : Qs, w.heap[rf]? = some (.cells (qfile v F) 116 (0, 0)) ∧ Rd w 2 v.reps F.reps.length (repCells F.reps) ∧
 (∃ us : List Value, Rd w 1 v.als F.als.length us ∧ us.length = F.als.length ∧ ∀ (k : Nat) u b, us[k]? = some u → F.als[k]? = some b → IS w u b) ∧ Rd w 5 v.cls F.cls.length (qcls F.cls) ∧
 ∃ rs : List (Rl × Value), rs.map (·.1) = F.rls ∧ Rd w 8 v.rls rs.length (qrls rs) ∧ ∀ r ∈ rs, IS w r.2 r.1.next
theorem QFileAt.keep {w w' : World} {rf : Nat} {F : Fl} (h : QFileAt w rf F) (hb : Below w.heap.size w w') : QFileAt w' rf F := by
 obtain ⟨v, h1, h2, ⟨us, h3, h4, h5⟩, h6, rs, h7, h8, h9⟩ := h
 exact ⟨v, (hb.block _ (block_lt h1)).trans h1, h2.keep hb, ⟨us, h3.keep hb, h4, fun k u b hu hb' => (h5 k u b hu hb').keep hb⟩, h6.keep hb, rs, h7, h8.keep hb, fun r hr => (h9 r hr).keep hb⟩
theorem QM.fileAt {w0 w : World} {L : List Nat} {rr rf a : Nat} {v : Qs} {E : Int} {all : List Row} {S : Sx} (h : QM w0 w L rr rf v E all a S) : QFileAt w rf S.fl := by
 obtain ⟨us, h1, h2, h3⟩ := h.als
 obtain ⟨rs, h4, h5, h6⟩ := h.rls
 exact ⟨v, h.file, Rd.of_own h.reps.1, ⟨us, Rd.of_own h1.1, h2, fun k u a hu ha => (h3 k u a hu ha).is⟩, Rd.of_own h.cls.1, rs, h4, Rd.of_own h5.1, fun r hr => (h6 r hr).is⟩
def RefP (l : List UInt8) (w : World) (e : Ending) (w' : World) : Prop := Below w.heap.size w w' ∧ match affR l with
 | .error p => e = .returned (.tuple #[.pointer none, .int .i64 p.1, .int .i64 p.2])
 | .ok F => ∃ rf, e = .returned (.tuple #[.pointer (some ⟨rf, 0, none⟩), .int .i64 0, .int .i64 0]) ∧ QFileAt w' rf F ∧ FlOk F ∧ w.heap.size ≤ rf
theorem RefP.bad {l : List UInt8} {w w' : World} {line c : Int} (ha : affR l = .error (line, c)) (hb : Below w.heap.size w w') : RefP l w (.returned (.tuple #[.pointer none, .int .i64 line, .int .i64 c])) w' := ⟨hb, by rw [ha]⟩
theorem RefP.good {l : List UInt8} {w w' : World} {F : Fl} {rf : Nat} (ha : affR l = .ok F) (hb : Below w.heap.size w w') (hf : QFileAt w' rf F) (hk : FlOk F) (hr : w.heap.size ≤ rf) : RefP l w (.returned (.tuple #[.pointer (some ⟨rf, 0, none⟩), .int .i64 0, .int .i64 0])) w' := ⟨hb, by rw [ha]; exact ⟨rf, rfl, hf, hk, hr⟩⟩
def qs0 (rv : Value) : Qs := ⟨rv, .slice none 0 0, .slice none 0 0, .slice none 0 0, .slice none 0 0, .slice none 0 0⟩
theorem QM.start (w : World) (rv : Value) (E : Int) (rows : List Row) (hr : RowsM w rv rows) : QM w ((w.alloc (.cells #[.int .i64 1, .string ⟨#[]⟩, .string ⟨#[]⟩, .int .i64 0, .int .i64 0, .int .i64 0, .int .i64 0, .int .i64 0, .int .i64 3, .slice none 0 0, .slice none 0 0, .slice none 0 0, .slice none 0 0] 116)).alloc (.cells #[.pointer (some ⟨w.heap.size, 0, none⟩), rv, .int .i64 0, .int .i64 E, .slice none 0 0, .int .i64 0] 118))
  [w.heap.size, w.heap.size + 1] (w.heap.size + 1) w.heap.size (qs0 rv) E rows 0 ⟨fl0, rows, [], 0⟩ := by
 obtain ⟨w1, hw1⟩ : ∃ W, w.alloc (.cells #[.int .i64 1, .string ⟨#[]⟩, .string ⟨#[]⟩, .int .i64 0, .int .i64 0, .int .i64 0, .int .i64 0, .int .i64 0, .int .i64 3, .slice none 0 0, .slice none 0 0, .slice none 0 0, .slice none 0 0] 116) = W := ⟨_, rfl⟩
 have s1 : w1.heap.size = w.heap.size + 1 := by rw [← hw1]; simp
 have b1 : Below w.heap.size w w1 := by rw [← hw1]; exact (Below.refl _ _).alloc (Nat.le_refl _) _
 have f1 : w1.heap[w.heap.size]? = some (.cells #[.int .i64 1, .string ⟨#[]⟩, .string ⟨#[]⟩, .int .i64 0, .int .i64 0, .int .i64 0, .int .i64 0, .int .i64 0, .int .i64 3, .slice none 0 0, .slice none 0 0, .slice none 0 0, .slice none 0 0] 116 (0, 0)) := by rw [← hw1]; exact heap_alloc_new w _
 rw [hw1]
 obtain ⟨w2, hw2⟩ : ∃ W, w1.alloc (.cells #[.pointer (some ⟨w.heap.size, 0, none⟩), rv, .int .i64 0, .int .i64 E, .slice none 0 0, .int .i64 0] 118) = W := ⟨_, rfl⟩
 have s2 : w2.heap.size = w.heap.size + 1 + 1 := by rw [← hw2]; simp [s1]
 have b2 : Below w1.heap.size w1 w2 := by rw [← hw2]; exact (Below.refl _ _).alloc (Nat.le_refl _) _
 have f2 : w2.heap[w.heap.size + 1]? = some (.cells #[.pointer (some ⟨w.heap.size, 0, none⟩), rv, .int .i64 0, .int .i64 E, .slice none 0 0, .int .i64 0] 118 (0, 0)) := by rw [← hw2, ← s1]; exact heap_alloc_new w1 _
 rw [hw2]
 refine ⟨b1.trans (b2.mono (by omega)), ?_, by simp, by simp, f2, (b2.block _ (by omega)).trans f1, hr, OwnL.nil_ _ _ _ _, OwnL.nil_ _ _ _ _, ⟨[], OwnL.nil_ _ _ _ _, rfl, fun k u a hu => by simp at hu⟩, OwnL.nil_ _ _ _ _, ⟨[], rfl, OwnL.nil_ _ _ _ _, fun r hr => by cases hr⟩⟩
 intro x hx; simp at hx; omega
theorem wdQ_no {s : ByteArray} (h : keyN s = 13) : wdQ s = 0 := by unfold wdQ; rw [if_pos h]
theorem wdQ_key {s : ByteArray} {k : Nat} (h : keyN s = k) (hk : k < 13) : wdQ s = (widthN k : Nat) := by unfold wdQ; rw [if_neg (by omega), h]
set_option maxHeartbeats 8000000 in
set_option maxRecDepth 100000 in
theorem so_refAff (s : ByteArray) (w : World) : Calls Tryz.prog 13 #[.string s] w (RefP s.data.toList w) := by
 obtain ⟨i0, hi, hz0, hz1, hz2⟩ := info_parts str_info
 have HRows := Lib.hid (Rows01_any s w)
 by_cases hbig : 65536 < s.size
 ·have HX : Hid (affR s.data.toList = .error (0, 10)) := Lib.hid (by rw [affR, if_pos (by rw [len_toList]; exact hbig)])
  unfold codeS at HRows
  rw [if_pos hbig] at HRows
  go_enter Tryz.func13, Tryz.ntmps13
  go_wp2_with (go_at_call 41; refine HRows.out.mono ?_; rintro e w1 ⟨v, rs, rfl, how, hrr, habs⟩; have HB1 := Lib.hid how.below; clear how hrr habs)
  go_ret3
  exact .bad HX.out HB1.out
 have hcode : codeS s = 0 := by unfold codeS; rw [if_neg hbig]
 rw [hcode] at HRows
 have HL : Hid (∀ W, Calls Tryz.prog 42 #[.string s] W fun e w' => ∃ v, e = .returned v ∧ Own W w' 9 1 v (linesOf s.data.toList).length (strV ((linesOf s.data.toList).map mkS))) := Lib.hid (fun W => Lines01_any s W (by omega))
 obtain ⟨nE, hnE⟩ : ∃ n, (linesOf s.data.toList).length = n := ⟨_, rfl⟩
 have hnE2 : nE ≤ 65536 := by
  have := eachOf_len s.data.toList
  rw [eachOf, if_neg (by rw [len_toList]; exact hbig), numbered_len, hnE] at this
  exact this
 rw [hnE] at HL
 obtain ⟨R, hR⟩ : ∃ R, readGo ((nE : Int) + 1) (rowsOf (eachOf s.data.toList)).length ⟨fl0, rowsOf (eachOf s.data.toList), [], 0⟩ = R := ⟨_, rfl⟩
 have HAff : Hid (affR s.data.toList = affEnd R) := Lib.hid (by
  rw [affR_small _ (by rw [len_toList]; exact hbig), hnE, hR])
 have HBd0 := Lib.hid (Bd.start s.data.toList)
 have HR := Lib.hid hR
 have hwr : IntKind.i64.wrap ((nE : Int) + 1) = (nE : Int) + 1 := by rw [IntKind.wrap_i64]; omega
 clear hR hnE hcode hbig
 go_enter Tryz.func13, Tryz.ntmps13
 go_upto_region 4 with (go_at_call 41; refine HRows.out.mono ?_; rintro e w1 ⟨v, rs, rfl, how, hrr, habs⟩; have HOw := Lib.hid how; have HRr := Lib.hid hrr; have HAbs := Lib.hid habs; clear how hrr habs)
 obtain ⟨Av, cpv, rfl⟩ := own_slice HOw.out.own
 go_upto_region 5 with (go_at_call 42; refine (HL.out _).mono ?_; rintro e w2 ⟨v2, rfl, how2⟩; obtain ⟨A2, cp2, rfl⟩ := own_slice how2.own; have HB2 := Lib.hid how2.below; clear how2)
 have HB : Hid (Below w.heap.size w w2) := Lib.hid (HOw.out.below.trans (HB2.out.mono HOw.out.below.size))
 obtain ⟨all, hall⟩ : ∃ l, rowsOf (eachOf s.data.toList) = l := ⟨_, rfl⟩
 have HRows2 : Hid (RowsM w2 (.slice Av rs.length cpv) all) := Lib.hid ⟨rs, by rw [HAbs.out, hall], Rd.of_own (own_below HOw.out.own HB2.out), fun r hr => (HRr.out r hr).keep HB2.out⟩
 have hrl : rs.length = all.length := by have h := congrArg List.length HAbs.out; rw [hall] at h; simpa [rowAbs] using h
 rw [hall] at HR HBd0
 rw [hrl] at HRows2 ⊢
 obtain ⟨N, hN⟩ : ∃ n, all.length = n := ⟨_, rfl⟩
 have hN2 : N ≤ 65536 := by rw [← hN, ← hall]; exact rows_le _
 rw [hN] at HR HRows2 ⊢
 have HNn := Lib.hid hN
 clear hall hrl hN HOw HRr HAbs HB2 HL HRows
 go_cut [8] from 28 to 35 (fun p W => p = .pointer (some ⟨w2.heap.size + 1, 0, none⟩) ∧ Hid (QM w2 W [w2.heap.size, w2.heap.size + 1] (w2.heap.size + 1) w2.heap.size (qs0 (.slice Av N cpv)) ((nE : Int) + 1) all 0 ⟨fl0, all, [], 0⟩))
 case first =>
  have HSt := Lib.hid (QM.start w2 (.slice Av N cpv) ((nE : Int) + 1) all HRows2.out)
  go_wp2_with fail
  all_goals go_meet
  all_goals exact ⟨rfl, HSt⟩
 case rest =>
 obtain ⟨rfl, HSt⟩ := hcut
 obtain ⟨rr, hrr⟩ : ∃ n, w2.heap.size + 1 = n := ⟨_, rfl⟩
 obtain ⟨rf, hrf⟩ : ∃ n, w2.heap.size = n := ⟨_, rfl⟩
 have HRf : Hid (w.heap.size ≤ rf) := Lib.hid (by rw [← hrf]; exact HB.out.size)
 obtain ⟨EE, hEE⟩ : ∃ e, (nE : Int) + 1 = e := ⟨_, rfl⟩
 rw [hrr, hrf, hEE] at HSt
 rw [hEE] at HR
 rw [hrr]
 have HRQ0 : Hid (RQ w2 wc [rf, rr] rr rf EE all 0 0 ⟨fl0, all, [], 0⟩) := Lib.hid ⟨HBd0.out, _, 0, ⟨by simp, rfl⟩, HSt.out⟩
 clear HSt hrr hrf hEE hwr HBd0
 go_wp2_with fail
 go_loopg [6, 9, 10, 11] N (fun g _ _ _ _ wr => ∃ (S : Sx) (L : List Nat), S.rows.length ≤ g ∧ Hid (RQ w2 wr L rr rf EE all 0 0 S) ∧ Hid (readGo EE g S = R))
 case atStart => exact ⟨_, _, Nat.le_of_eq HNn.out, HRQ0, HR⟩
 case round =>
 obtain ⟨S, L, hg, HRQ, HGo⟩ := hrel
 clear HRQ0 HR
 obtain ⟨hbd, v, a, hpa, hqm⟩ := HRQ.out
 have c2 := hqm.r2
 rcases hrows : S.rows with _ | ⟨⟨l, row⟩, rest⟩
 ·have HRe : Hid (R = .ok S) := Lib.hid (by
   rw [← HGo.out]
   rcases gk with _ | g
   ·rfl
   rw [readGo, hrows])
  have haN : a = N := by have := hpa.1; rw [hrows] at this; rw [HNn.out] at this; simpa using this
  subst haN
  obtain ⟨wo, rfl⟩ : ∃ wo : World, wo = wr := ⟨_, rfl⟩
  have c0 := hqm.r0
  have hn : ∃ n, S.fl.rls.length = n := ⟨_, rfl⟩
  obtain ⟨n, hn⟩ := hn
  obtain ⟨rs, hrs1, hrs2, hrs3⟩ := hqm.rls
  have hlr : rs.length = n := by rw [← hn, ← hrs1]; simp
  have hn2 : n ≤ 65536 := by have := hbd.rls; omega
  obtain ⟨AR, cpR, hvR⟩ := own_slice hrs2.1
  rw [hlr] at hvR
  have c12 : wo.cell? ⟨rf, 12, none⟩ = some (.slice AR n cpR) := by rw [hqm.fc 12, ← hvR]; rfl
  have HRd := Lib.hid (Rd.of_own hrs2.1)
  have HRs1 := Lib.hid hrs1
  have HIs : Hid (∀ r ∈ rs, IS wo r.2 r.1.next) := Lib.hid (fun r hr => (hrs3 r hr).is)
  have HLr := Lib.hid hlr
  have HV := Lib.hid hvR
  have HNr := Lib.hid hn
  have HM := Lib.hid hqm
  have HBd := Lib.hid hbd
  have hrfl := block_lt hqm.file
  have hcl3 : S.fl.cls.length ≤ 65536 := by have h1 := hbd.cls; omega
  clear hrows hbd hpa hqm hrs1 hrs2 hrs3 hlr hvR hn hg
  go_wp2_with fail
  go_loopw [13, 14, 15, 16, 17] (fun x _ _ _ _ wz => ∃ m : Nat, m ≤ n ∧ x = .int .i64 m ∧ Hid (Below wo.heap.size wo wz) ∧ Hid (okTo S.fl m)) (fun x _ _ _ _ _ => n - (intOf x).toNat)
  case atStart => exact ⟨0, Nat.zero_le _, rfl, Lib.hid (Below.refl _ _), Lib.hid (fun j _ hj => absurd hj (Nat.not_lt_zero _))⟩
  case round =>
  obtain ⟨m, hm, rfl, HBz, HOk⟩ := hrel
  have e12 := (HBz.out.cell (World.block_lt_of_cell? _ _ c12)).trans c12
  by_cases hlt : m < n
  ·have hlt2 : m < S.fl.rls.length := by have := HNr.out; omega
   have hmr : m < rs.length := by have := HLr.out; omega
   have hr1 : rs[m].1 = S.fl.rls[m] := by
    have h : rs.map (·.1) = S.fl.rls := HRs1.out
    simp [← h]
   obtain ⟨-, A, cap, hvA, hcap, hcells⟩ := HRd.out
   rw [HV.out, HLr.out] at hvA
   cases hvA
   obtain ⟨g, o, rfl, hc2⟩ := hcells.resolve_left (by have := HLr.out; omega)
   obtain ⟨q0, q1, q2, q3, q4, q5, q6, q7⟩ := qrls_at rs m hmr
   have d6 := hc2 _ _ q6
   have d7 := hc2 _ _ q7
   rw [← Nat.add_assoc] at d6 d7
   have hio := HIs.out _ (List.getElem_mem hmr)
   obtain ⟨nv, hnv⟩ : ∃ u, rs[m].2 = u := ⟨_, rfl⟩
   rw [hr1] at d7 hio
   rw [hnv] at d6 hio
   obtain ⟨r, hr⟩ : ∃ r, S.fl.rls[m] = r := ⟨_, rfl⟩
   have HRl : Hid (S.fl.rls[m] = r) := Lib.hid hr
   rw [hr] at d7 hio
   obtain ⟨pn, cn, rfl, hcn, hnx⟩ := hio
   have HNx := Lib.hid hnx
   have HDd : Hid (∀ W, Below wo.heap.size wo W → W.cell? ⟨rf, 12, none⟩ = some (.slice (some ⟨g, o, none⟩) n cpR) ∧ W.cell? ⟨g, o + m * 8 + 6, none⟩ = some (.slice pn r.next.length cn) ∧ W.cell? ⟨g, o + m * 8 + 7, none⟩ = some (.int .i64 r.line)) := Lib.hid (fun W hW => ⟨(hW.cell (World.block_lt_of_cell? _ _ c12)).trans c12, (hW.cell (World.block_lt_of_cell? _ _ d6)).trans d6, (hW.cell (World.block_lt_of_cell? _ _ d7)).trans d7⟩)
   have hnb : canon r.next = r.next ∧ ∀ x ∈ r.next, 0 ≤ x ∧ x ≤ 65535 := by rw [← HRl.out]; exact HBd.out.nexts _ (List.getElem_mem hlt2)
   have HNb := Lib.hid hnb.2
   have hnl := canon_len hnb.1 hnb.2
   clear q0 q1 q2 q3 q4 q5 q6 q7 hc2 hcells hnv hr1 hmr hr hnx hnb d6 d7 hcap
   go_wp2_with fail
   go_loopw [14, 15, 16, 17] (fun x _ _ _ wy => ∃ q : Nat, q ≤ r.next.length ∧ x = .int .i64 q ∧ Hid (Below wo.heap.size wo wy) ∧ Hid ((r.next.take q).all (goesB S.fl) = true)) (fun x _ _ _ _ => r.next.length - (intOf x).toNat)
   case atStart => exact ⟨0, Nat.zero_le _, rfl, HBz, Lib.hid rfl⟩
   case round =>
   obtain ⟨q, hq, rfl, HBy, HTk⟩ := hrel
   clear e12
   obtain ⟨e12, d6, d7⟩ := HDd.out _ HBy.out
   by_cases hlt3 : q < r.next.length
   ·obtain ⟨x, hx⟩ : ∃ x, r.next[q] = x := ⟨_, rfl⟩
    have hxb := HNb.out _ (List.getElem_mem hlt3)
    rw [hx] at hxb
    obtain ⟨bb, off, rfl, hcs2⟩ := HNx.out.resolve_left (by omega)
    have e5 := hcs2 q hlt3
    have hgx : r.next.getD q 0 = x := by rw [← hx]; simp [List.getD, hlt3]
    rw [hgx] at e5
    have d5 := (HBy.out.cell (World.block_lt_of_cell? _ _ e5)).trans e5
    have hMy := HM.out.below HBy.out
    have hcl := so_qFind rf S.fl.cls x wr hMy.clsF hcl3
    have hgo := goes_of S.fl x _ _ rfl rfl
    unfold qclsP qclsV at hcl
    obtain ⟨d, hd⟩ : ∃ d, (S.fl.cls.find? (fun c => c.flag == x)).getD noCl = d := ⟨_, rfl⟩
    obtain ⟨is, his⟩ : ∃ b, (S.fl.cls.find? (fun c => c.flag == x)).isSome = b := ⟨_, rfl⟩
    rw [hd, his] at hcl hgo
    have HCl := Lib.hid hcl
    have HTn : Hid (∀ b, goesB S.fl x = b → (r.next.take (q + 1)).all (goesB S.fl) = b) := Lib.hid (fun b hb => by
     rw [List.take_succ_eq_append_getElem hlt3, List.all_append, HTk.out, hx]; simp [hb])
    have HBad : Hid (goesB S.fl x = false → affR s.data.toList = .error (r.line, 118)) := Lib.hid (fun hb => by
     have hck : checkE S.fl = some r.line := by
      rw [← HRl.out]
      refine HOk.out.bad hlt2 ?_
      rw [HRl.out]
      rw [Bool.eq_false_iff]
      intro h
      rw [List.all_eq_true] at h
      have := h x (by rw [← hx]; exact List.getElem_mem hlt3)
      rw [hb] at this; cases this
     rw [HAff.out, HRe.out, affEnd, hck])
    clear hcl e5 hcs2 hd his hx hgx hMy
    by_cases hs0 : x = S.fl.s0
    ·have hb0 : (x == S.fl.s0) = true := by rw [beq_iff_eq]; exact hs0
     have hb1 : (x != S.fl.s0) = false := by simp [hs0]
     have HTn2 := Lib.hid (HTn.out true (by rw [hgo, hb0]; rfl))
     clear hgo hs0 HBad
     go_wp2_with (go_at_call 19; refine HCl.out.mono ?_; rintro e9 w6 ⟨rfl, hb6⟩; have hb7 := hb6.alloc hb6.size (.cells #[.int .i64 d.flag, .int .i64 d.kind, .bool d.cross, .int .i64 d.first, .int .i64 d.count] 52); have HB7 := Lib.hid (HBy.out.trans (hb7.mono HBy.out.size)); have s7 : ((w6.alloc (.cells #[.int .i64 d.flag, .int .i64 d.kind, .bool d.cross, .int .i64 d.first, .int .i64 d.count] 52)).cell? ⟨rf, 3, none⟩) = some (.int .i64 S.fl.s0) := (HM.out.below HB7.out).fc 3; clear hb6 hb7)
     go_roundw
     case rel => exact ⟨q + 1, by omega, by go_num, HB7, HTn2⟩
     case measure => simp [intOf]; omega
    have hb0 : (x == S.fl.s0) = false := by rw [beq_eq_false_iff_ne]; exact hs0
    have hb1 : (x != S.fl.s0) = true := by simp [hs0]
    rw [hb0, Bool.false_or] at hgo
    clear hs0
    cases is
    ·have HE := Lib.hid (HBad.out hgo)
     clear hgo HBad HTn
     go_wp2_with (go_at_call 19; refine HCl.out.mono ?_; rintro e9 w6 ⟨rfl, hb6⟩; have hb7 := hb6.alloc hb6.size (.cells #[.int .i64 d.flag, .int .i64 d.kind, .bool d.cross, .int .i64 d.first, .int .i64 d.count] 52); have HB7 := Lib.hid (HBy.out.trans (hb7.mono HBy.out.size)); have s7 : ((w6.alloc (.cells #[.int .i64 d.flag, .int .i64 d.kind, .bool d.cross, .int .i64 d.first, .int .i64 d.count] 52)).cell? ⟨rf, 3, none⟩) = some (.int .i64 S.fl.s0) := (HM.out.below HB7.out).fc 3; clear hb6 hb7)
     obtain ⟨f12, f6, f7⟩ := HDd.out _ HB7.out
     go_quiet (fail)
     go_wp2_with fail
     go_ret3
     exact .bad HE.out (below_drewN (HB.out.trans ((HM.out.below HB7.out).base.mono HB.out.size)) _)
    rw [Bool.true_and] at hgo
    by_cases hk2 : d.kind = 2
    ·have ek : (d.kind == 2) = true := by rw [hk2]; rfl
     have ek2 : (d.kind != 2) = false := by rw [hk2]; rfl
     have HTn2 := Lib.hid (HTn.out true (by rw [hgo, ek]))
     clear hgo HBad HTn hk2
     go_wp2_with (go_at_call 19; refine HCl.out.mono ?_; rintro e9 w6 ⟨rfl, hb6⟩; have hb7 := hb6.alloc hb6.size (.cells #[.int .i64 d.flag, .int .i64 d.kind, .bool d.cross, .int .i64 d.first, .int .i64 d.count] 52); have HB7 := Lib.hid (HBy.out.trans (hb7.mono HBy.out.size)); have s7 : ((w6.alloc (.cells #[.int .i64 d.flag, .int .i64 d.kind, .bool d.cross, .int .i64 d.first, .int .i64 d.count] 52)).cell? ⟨rf, 3, none⟩) = some (.int .i64 S.fl.s0) := (HM.out.below HB7.out).fc 3; clear hb6 hb7)
     go_roundw
     case rel => exact ⟨q + 1, by omega, by go_num, HB7, HTn2⟩
     case measure => simp [intOf]; omega
    have ek : (d.kind == 2) = false := by rw [beq_eq_false_iff_ne]; exact hk2
    have ek2 : (d.kind != 2) = true := by simp [hk2]
    have HE := Lib.hid (HBad.out (by rw [hgo, ek]))
    clear hgo HBad HTn hk2
    go_wp2_with (go_at_call 19; refine HCl.out.mono ?_; rintro e9 w6 ⟨rfl, hb6⟩; have hb7 := hb6.alloc hb6.size (.cells #[.int .i64 d.flag, .int .i64 d.kind, .bool d.cross, .int .i64 d.first, .int .i64 d.count] 52); have HB7 := Lib.hid (HBy.out.trans (hb7.mono HBy.out.size)); have s7 : ((w6.alloc (.cells #[.int .i64 d.flag, .int .i64 d.kind, .bool d.cross, .int .i64 d.first, .int .i64 d.count] 52)).cell? ⟨rf, 3, none⟩) = some (.int .i64 S.fl.s0) := (HM.out.below HB7.out).fc 3; clear hb6 hb7)
    obtain ⟨f12, f6, f7⟩ := HDd.out _ HB7.out
    go_quiet (fail)
    go_wp2_with fail
    go_ret3
    exact .bad HE.out (below_drewN (HB.out.trans ((HM.out.below HB7.out).base.mono HB.out.size)) _)
   obtain rfl : q = r.next.length := by omega
   have HA : Hid (r.next.all (goesB S.fl) = true) := Lib.hid (by have := HTk.out; rwa [List.take_of_length_le (Nat.le_refl _)] at this)
   go_wp2_with fail
   go_roundw
   case rel => exact ⟨m + 1, by omega, by go_num, HBy, Lib.hid (HOk.out.step hlt2 (by rw [HRl.out]; exact HA.out))⟩
   case measure => simp [intOf]; omega
  obtain rfl : m = n := by omega
  have HE := Lib.hid (okTo.none_ (by rw [HNr.out]; exact HOk.out))
  go_wp2_with fail
  go_ret3
  refine .good (by rw [HAff.out, HRe.out, affEnd, HE.out]) (HB.out.trans ((HM.out.below HBz.out).base.mono HB.out.size)) (HM.out.below HBz.out).fileAt HBd.out.flOk HRf.out
 obtain ⟨g, rfl⟩ : ∃ g, gk = g + 1 := ⟨gk - 1, by rw [hrows] at hg; simp at hg; omega⟩
 have hg2 : rest.length ≤ g := by rw [hrows] at hg; simpa using hg
 have HRs : Hid (R = match stepR EE S l row rest with
  | .error e => .error e
  | .ok S' => readGo EE g S') := Lib.hid (by rw [← HGo.out, readGo, hrows]; rfl)
 obtain ⟨gr, orr, cr, fv, hvr, halt, hcr, e0, e1, hrd⟩ := rows_at HRows2.out (hpa.at_ hrows)
 rw [HNn.out] at hvr halt hcr
 cases hvr
 have HF1 := Lib.hid (rowF1_of hbd hrows hrd)
 have hne : row ≠ [] := (hbd.row (l, row) (by rw [hrows]; simp)).1
 have hpos : 0 < row.length := List.length_pos_iff.2 hne
 have hrwl : row.length ≤ 65536 := HF1.out.len
 have HTk := Lib.hid (hbd.take hrows)
 have HPn := Lib.hid (hpa.next (l := l) hrows)
 have HM := Lib.hid hqm
 obtain ⟨fg, fo, fc, rfl, hfc, fcells⟩ := HF1.out.cells hpos
 have d0 := (hqm.base.cell (World.block_lt_of_cell? w2 _ e0)).trans e0
 have d1 := (hqm.base.cell (World.block_lt_of_cell? w2 _ e1)).trans e1
 have ha0 : (0 : Int) ≤ (a : Int) := by omega
 have hai : (a : Int) < (N : Int) := by omega
 have hwa : IntKind.i64.wrap ((a : Int) + 1) = ((a + 1 : Nat) : Int) := by rw [IntKind.wrap_i64]; omega
 have z5 := hqm.rz 5
 have c5 := hqm.r5
 have HFC := Lib.hid fcells
 clear hrows hbd hpa hqm hrd hne fcells e0 e1 hg
 go_upto_region 9 with fail
 have HMy := Lib.hid (HM.out.setLine l)
 have HGy : Hid (Go2 L wr L (wr.setCell ⟨rr, 5, none⟩ (.int .i64 l))) := Lib.hid ⟨set_kept' HM.out.rrL, fun _ h => .inl h⟩
 generalize wr.setCell ⟨rr, 5, none⟩ (.int .i64 l) = wy at HMy HGy ⊢
 clear c2 c5 z5 d0 d1
 have c2 := HMy.out.r2
 have z2 := HMy.out.rz 2
 have HMz : Hid (QM w2 (wy.setCell ⟨rr, 2, none⟩ (.int .i64 ((a : Int) + 1))) L rr rf v EE all (a + 1) { S with line := l, rows := rest }) := Lib.hid (HMy.out.setAt (a + 1) rest)
 go_upto_region 10 with fail
 generalize wy.setCell ⟨rr, 2, none⟩ (.int .i64 ((a : Int) + 1)) = wz at HMz ⊢
 clear c2 z2 HMy HGy hwa ha0 hai
 have HFz : Hid (∀ W, Below wz.heap.size wz W → W.cell? ⟨fg, fo, none⟩ = some (.string (fieldAt row 0))) := Lib.hid (fun W hb => by
  have := field_in (HFC.out 0 hpos) (HMz.out.below hb).base
  rwa [Nat.add_zero] at this)
 have f0 := HFz.out wz (Below.refl _ _)
 have HF0 : Hid (∀ W, Below w2.heap.size w2 W → W.cell? ⟨fg, fo, none⟩ = some (.string (fieldAt row 0))) := Lib.hid (fun W hb => by
  have := field_in (HFC.out 0 hpos) hb
  rwa [Nat.add_zero] at this)
 have HBe : Hid (∀ W, Below wz.heap.size wz W → Below w.heap.size w W ∧ W.cell? ⟨rr, 5, none⟩ = some (.int .i64 l)) := Lib.hid (fun W hb => ⟨HB.out.trans ((HMz.out.below hb).base.mono HB.out.size), (HMz.out.below hb).r5⟩)
 have c5 := (HBe.out wz (Below.refl _ _)).2
 have HWd := Lib.hid (so_qwidth (fieldAt row 0) wz)
 by_cases hk13 : keyN (fieldAt row 0) = 13
 ·have HX : Hid (affR s.data.toList = .error (l, 110)) := Lib.hid (by rw [HAff.out, HRs.out, stepR, if_pos hk13]; rfl)
  rw [wdQ_no hk13] at HWd
  clear hk13
  go_wp2_with (go_at_call 43; refine HWd.out.mono ?_; rintro e9 w9 ⟨rfl, rfl⟩)
  go_quiet (fail)
  go_wp2_with fail
  go_ret3
  exact .bad HX.out (HBe.out _ (below_drewN (Below.refl _ _) _)).1
 obtain ⟨k, hk⟩ : ∃ k, keyN (fieldAt row 0) = k := ⟨_, rfl⟩
 have hkl : k < 13 := by have := keyN_le (fieldAt row 0); omega
 rw [wdQ_key hk hkl] at HWd
 have HK := Lib.hid hk
 obtain ⟨wd, hwd⟩ : ∃ n : Nat, widthN k = n := ⟨_, rfl⟩
 have HW := Lib.hid hwd
 have hw24 : wd = 2 ∨ wd = 4 := by rcases widthN_of k with h | h <;> omega
 rw [hwd] at HWd
 have hk13' := Lib.hid hk13
 clear hk hwd hk13
 by_cases hlw : row.length = wd
 ·have HLw := Lib.hid hlw
  have hlw1 : ((row.length : Int) == (wd : Int)) = true := by rw [hlw, beq_self_eq_true]
  have hlw2 : ((row.length : Int) != (wd : Int)) = false := by rw [hlw]; simp
  have c4 := HMz.out.r4
  have hhl : S.heads.length ≤ 65536 := by have := HRQ.out.1.heads; omega
  have HSt : Hid (Calls Tryz.prog 44 #[.pointer (some ⟨rr, 0, none⟩), .string (fieldAt row 0)] wz fun e w' => e = .returned (.bool (S.heads.contains (fieldAt row 0))) ∧ wz = w') := Lib.hid (so_qstood rr v.heads S.heads (fieldAt row 0) wz c4 (Rd.of_own HMz.out.heads.1) hhl)
  obtain ⟨b, hb⟩ : ∃ b, S.heads.contains (fieldAt row 0) = b := ⟨_, rfl⟩
  rw [hb] at HSt
  have HBb := Lib.hid hb
  clear hlw c4 hhl hb
  by_cases htw : wd = 2 ∧ b = true
  ·have HX : Hid (affR s.data.toList = .error (l, 112)) := Lib.hid (by
    rw [HAff.out, HRs.out, stepR, if_neg hk13'.out, HK.out, HW.out, if_neg (by rw [HLw.out]; simp), if_pos ⟨htw.1, by rw [HBb.out]; exact htw.2⟩]; rfl)
   obtain ⟨rfl, rfl⟩ := htw
   go_wp2_with (first | (go_at_call 43; refine HWd.out.mono ?_; rintro e9 w9 ⟨rfl, rfl⟩) | (go_at_call 44; refine HSt.out.mono ?_; rintro e8 w8 ⟨rfl, rfl⟩))
   go_quiet (fail)
   go_wp2_with fail
   go_ret3
   exact .bad HX.out (HBe.out _ (below_drewN (Below.refl _ _) _)).1
  have HRt : Hid (R = match headR EE { S with rows := rest, line := l } row k with
   | .error e => .error e
   | .ok S' => readGo EE g { S' with heads := S'.heads ++ [fieldAt row 0] }) := Lib.hid (by
   rw [HRs.out, stepR, if_neg hk13'.out, HK.out, HW.out, if_neg (by rw [HLw.out]; simp), if_neg (by rw [HBb.out]; exact htw)]
   cases headR EE { S with rows := rest, line := l } row k <;> rfl)
  have HHd : Hid (Calls Tryz.prog 45 #[.pointer (some ⟨rr, 0, none⟩), .slice (some ⟨fg, fo, none⟩) row.length fc] wz (GrpQ w2 L rr rf EE all 1 0 (headR EE { S with rows := rest, line := l } row k) wz)) := Lib.hid (so_qheading w2 L rr rf EE all 1 0 { S with rows := rest, line := l } _ row wz ⟨HTk.out, v, a + 1, HPn.out, HMz.out⟩ HF1.out k HK.out hkl (by rw [HLw.out, HW.out]) (by rw [HNn.out]; exact hN2))
  have htw2 : wd = 2 ∧ b = false ∨ wd = 4 := by
   rcases hw24 with h | h
   ·exact .inl ⟨h, by cases b; rfl; exact absurd ⟨h, rfl⟩ htw⟩
   exact .inr h
  clear htw hw24
  go_upto_region 11 with (go_at_call 43; refine HWd.out.mono ?_; rintro e9 w9 ⟨rfl, rfl⟩)
  have hwd0 : ((wd : Int) == 0) = false := by rw [beq_eq_false_iff_ne]; omega
  go_upto_region 16 with (go_at_call 44; refine HSt.out.mono ?_; rintro e8 w8 ⟨rfl, rfl⟩)
  go_cut [97] from 93 to 97 (fun p W => p = .bool false ∧ W = wz)
  case first =>
   rcases htw2 with ⟨rfl, rfl⟩ | rfl
   all_goals go_wp2_with fail
   all_goals go_meet
   all_goals exact ⟨rfl, rfl⟩
  case rest =>
  obtain ⟨rfl, hwz⟩ := hcut
  rw [hwz]
  clear hwz wc
  obtain ⟨H, hH⟩ : ∃ H, headR EE { S with rows := rest, line := l } row k = H := ⟨_, rfl⟩
  have HHe := Lib.hid hH
  rw [hH] at HHd HRt
  clear hH htw2
  cases H with
  | error p =>
   obtain ⟨l', c⟩ := p
   have HX : Hid (affR s.data.toList = .error (l', c)) := Lib.hid (by rw [HAff.out, HRt.out]; rfl)
   unfold GrpQ at HHd
   clear HRt HHe
   go_upto_region 20 with (go_at_call 45; refine HHd.out.mono ?_; rintro e5 w5 ⟨L5, hg5, hc0, rfl, hl5⟩; have HB5 : Hid (Below w.heap.size w w5) := Lib.hid (HB.out.trans ((HMz.out.base.trans (hg5.1.below HMz.out.base.size (fun x hx => (HMz.out.hl x hx).1))).mono HB.out.size)); have hc1 : (c != 0) = true := by { simpa using hc0 }; clear hg5 hc0)
   go_quiet (fail)
   go_wp2_with fail
   go_ret3
   exact .bad HX.out (below_drewN HB5.out _)
  | ok S3 =>
   have HRw : Hid (S3.rows.length ≤ g) := Lib.hid (Nat.le_trans (head_rows HHe.out) hg2)
   unfold GrpQ at HHd
   go_upto_region 21 with (go_at_call 45; refine HHd.out.mono ?_; rintro e5 w5 ⟨L5, hg5, rfl, hq5⟩; have HQ5 := Lib.hid hq5; clear hg5 hq5)
   obtain ⟨hbd5, v5, a5, hpa5, hm5⟩ := HQ5.out
   have HBd5 := Lib.hid hbd5
   have HPa5 := Lib.hid hpa5
   have HM5 := Lib.hid hm5
   obtain ⟨A4, cp4, hv4⟩ := own_slice hm5.heads.1
   have HV4 := Lib.hid hv4
   obtain ⟨nh, hnh⟩ : ∃ n, S3.heads.length = n := ⟨_, rfl⟩
   have hnh2 : nh ≤ 65536 := by rw [← hnh]; have := hbd5.heads; omega
   have HNh := Lib.hid hnh
   have c4 : w5.cell? ⟨rr, 4, none⟩ = some (.slice A4 nh cp4) := by rw [hm5.r4, hv4, hnh]
   have hrr5 := World.block_lt_of_cell? _ _ c4
   have f5 := field_in (HFC.out 0 hpos) hm5.base
   rw [Nat.add_zero] at f5
   have hfg5 := World.block_lt_of_cell? _ _ f5
   have z4 := hm5.rz 4
   have HOc : Hid (∀ W, Below w5.heap.size w5 W → W.cell? ⟨rr, 4, none⟩ = some (.slice A4 nh cp4) ∧ W.ownsRow 0 9 1 (.slice A4 nh cp4) nh (strV S3.heads)) := Lib.hid (fun W hW => ⟨by rw [(HM5.out.below hW).r4, HV4.out, HNh.out], by
    have := (HM5.out.below hW).heads.1
    rw [HV4.out, HNh.out] at this; exact this⟩)
   have HPu : Hid (∀ W, Below w5.heap.size w5 W → ∀ W9 g9 cap9, W9.ownsRow 0 9 1 (.slice (some ⟨g9, 0, none⟩) (nh + 1) cap9) (nh + 1) (strV S3.heads ++ [.string (fieldAt row 0)]) → W.grownBy W9 (Value.slice A4 nh cp4).ownBlock → LocP W W9 (.slice A4 nh cp4) (.slice (some ⟨g9, 0, none⟩) (nh + 1) cap9) →
     ∃ L', QM w2 (W9.setCell ⟨rr, 4, none⟩ (.slice (some ⟨g9, 0, none⟩) (nh + 1) cap9)) L' rr rf { v5 with heads := .slice (some ⟨g9, 0, none⟩) (nh + 1) cap9 } EE all a5 { S3 with heads := S3.heads ++ [fieldAt row 0] }) := Lib.hid (fun W hW W9 g9 cap9 hown hg hloc => by
    rw [← HNh.out] at hown hg hloc ⊢
    rw [← HV4.out] at hg hloc
    obtain ⟨L', hG, hM⟩ := (HM5.out.below hW).push_heads (fieldAt row 0) hg hloc hown
    exact ⟨L', hM⟩)
   have HFg : Hid (∀ W, Below w5.heap.size w5 W → ∀ W9, W.grownBy W9 (Value.slice A4 nh cp4).ownBlock → W9.cell? ⟨rr, 4, none⟩ = some (.slice A4 nh cp4) ∧ W9.frozen? ⟨rr, 4, none⟩ = false ∧ W9.cell? ⟨fg, fo, none⟩ = some (.string (fieldAt row 0))) := Lib.hid (fun W hW W9 hg => by
    rw [← HNh.out, ← HV4.out] at hg
    have hf := (HM5.out.below hW).rdr_grown hg (HM5.out.below hW).ty_heads (by decide)
    refine ⟨by rw [Lib.cell_of_heap hf, ← HNh.out, ← HV4.out]; rfl, Lib.frozen_of_heap hf 4, ?_⟩
    have hbs := (HM5.out.below hW).grown_base hg (HM5.out.below hW).heads.2
    have := field_in (HFC.out 0 hpos) hbs
    rwa [Nat.add_zero] at this)
   have HHs : Hid ((fieldAt row 0).size ≤ 65536) := Lib.hid (fieldAt_le HF1.out.each 0)
   clear hbd5 hpa5 hm5 hv4 hnh f0 c5 HQ5
   refine wp_region_held_drew (S := fun W => W.cell? ⟨fg, fo, none⟩ = some (.string (fieldAt row 0))) (by kernel_rfl) ?_ (fun hHeld => ?_)
   ·exact (drew_below.cell hfg5).trans f5
   refine tkA 0 (some 112) hHeld ?_; try simp only [put_norm]
   refine tkA 1 (some 113) hHeld ?_; try simp only [put_norm]
   refine tkA 2 (some 114) hHeld ?_; try simp only [put_norm]
   refine tkA 3 (some 115) hHeld ?_; try simp only [put_norm]
   refine tkA 5 (some 117) hHeld ?_; try simp only [put_norm]
   refine tkA 6 (some 118) hHeld ?_; try simp only [put_norm]
   refine tkA 7 (some 119) hHeld ?_; try simp only [put_norm]
   refine wpAnyH_ready (rs := [4, 8]) (by kernel_rfl) (by simp) ?_
   refine AllReadyH.cons rfl (fun K hK => ?_) ?_
   ·go_simp
    refine hK.out _ _ ?_ (fun hHeld => ?_)
    ·first | exact (drew_below.cell hfg5).trans f5 | exact ((drew_below.alloc (Nat.le_refl _) _).cell hfg5).trans f5 | exact R9 | exact HF0.out _ HMF.out.base
    clear hK K
    refine rdy1 8 (fun K hK => ?_)
    go_simp
    refine hK.out _ _ ?_ (fun hHeld => ?_)
    ·first | exact (drew_below.cell hfg5).trans f5 | exact ((drew_below.alloc (Nat.le_refl _) _).cell hfg5).trans f5 | exact R9 | exact HF0.out _ HMF.out.base
    clear hK K
    refine rdy1 9 (fun K hK => ?_)
    refine step_pushL (w := w5.drew) (by rfl) _ _ 65 (by rfl) 0 9 i0 _ 1 16 Tryz.underlying65 hi hz0 hz1 hz2 rfl (by decide) (.slice A4 nh cp4) nh (strV S3.heads) (by rfl) (HOc.out _ drew_below).2 #[.string (fieldAt row 0)] (by rfl) (by intro x hx; simp at hx; rcases hx with rfl; rfl) (by rfl) (by unfold maxLen; omega) (by omega) (Nat.zero_le _) ?_
    intro gg cc w9 hown hg9 hloc
    obtain ⟨L9, hM9⟩ := HPu.out _ drew_below _ _ _ hown hg9 hloc
    have HMF := Lib.hid hM9
    obtain ⟨c9'', z9, R9⟩ := HFg.out _ drew_below _ hg9
    clear hown hg9 hloc hM9
    refine hK.out _ _ ?_ (fun hHeld => ?_)
    ·exact R9
    clear hK K
    refine tkA 10 (some 122) hHeld ?_; try simp only [put_norm]
    refine tkA 11 (some 123) hHeld ?_; try simp only [put_norm]
    refine rdy1 12 (fun K hK => ?_)
    go_simp
    refine hK.out _ _ ?_ (fun hHeld => ?_)
    ·first | exact (drew_below.cell hfg5).trans f5 | exact ((drew_below.alloc (Nat.le_refl _) _).cell hfg5).trans f5 | exact R9 | exact HF0.out _ HMF.out.base
    clear hK K
    refine wpAnyH_done (by kernel_rfl) ?_ _
    go_wp2_with fail
    go_roundg g
    case measure => omega
    case rel => exact ⟨{ S3 with heads := S3.heads ++ [fieldAt row 0] }, L9, HRw.out, Lib.hid ⟨HBd5.out.pushHead (fieldAt row 0) HHs.out, _, a5, HPa5.out, HMF.out⟩, Lib.hid HRt.out.symm⟩
   refine AllReadyH.cons rfl (fun K hK => ?_) ?_
   ·go_simp
    refine hK.out _ _ ?_ (fun hHeld => ?_)
    ·first | exact (drew_below.cell hfg5).trans f5 | exact ((drew_below.alloc (Nat.le_refl _) _).cell hfg5).trans f5 | exact R9 | exact HF0.out _ HMF.out.base
    clear hK K
    refine rdy1 4 (fun K hK => ?_)
    go_simp
    refine hK.out _ _ ?_ (fun hHeld => ?_)
    ·first | exact (drew_below.cell hfg5).trans f5 | exact ((drew_below.alloc (Nat.le_refl _) _).cell hfg5).trans f5 | exact R9 | exact HF0.out _ HMF.out.base
    clear hK K
    refine rdy1 9 (fun K hK => ?_)
    refine step_pushL (w := w5.drew) (by rfl) _ _ 65 (by rfl) 0 9 i0 _ 1 16 Tryz.underlying65 hi hz0 hz1 hz2 rfl (by decide) (.slice A4 nh cp4) nh (strV S3.heads) (by rfl) (HOc.out _ drew_below).2 #[.string (fieldAt row 0)] (by rfl) (by intro x hx; simp at hx; rcases hx with rfl; rfl) (by rfl) (by unfold maxLen; omega) (by omega) (Nat.zero_le _) ?_
    intro gg cc w9 hown hg9 hloc
    obtain ⟨L9, hM9⟩ := HPu.out _ drew_below _ _ _ hown hg9 hloc
    have HMF := Lib.hid hM9
    obtain ⟨c9'', z9, R9⟩ := HFg.out _ drew_below _ hg9
    clear hown hg9 hloc hM9
    refine hK.out _ _ ?_ (fun hHeld => ?_)
    ·exact R9
    clear hK K
    refine tkA 10 (some 122) hHeld ?_; try simp only [put_norm]
    refine tkA 11 (some 123) hHeld ?_; try simp only [put_norm]
    refine rdy1 12 (fun K hK => ?_)
    go_simp
    refine hK.out _ _ ?_ (fun hHeld => ?_)
    ·first | exact (drew_below.cell hfg5).trans f5 | exact ((drew_below.alloc (Nat.le_refl _) _).cell hfg5).trans f5 | exact R9 | exact HF0.out _ HMF.out.base
    clear hK K
    refine wpAnyH_done (by kernel_rfl) ?_ _
    go_wp2_with fail
    go_roundg g
    case measure => omega
    case rel => exact ⟨{ S3 with heads := S3.heads ++ [fieldAt row 0] }, L9, HRw.out, Lib.hid ⟨HBd5.out.pushHead (fieldAt row 0) HHs.out, _, a5, HPa5.out, HMF.out⟩, Lib.hid HRt.out.symm⟩
   exact AllReadyH.nil
 have HX : Hid (affR s.data.toList = .error (l, 111)) := Lib.hid (by rw [HAff.out, HRs.out, stepR, if_neg hk13'.out, HK.out, HW.out, if_pos hlw]; rfl)
 have hlw1 : ((row.length : Int) == (wd : Int)) = false := by rw [beq_eq_false_iff_ne]; omega
 have hlw2 : ((row.length : Int) != (wd : Int)) = true := by simp; omega
 have hwd0 : ((wd : Int) == 0) = false := by rw [beq_eq_false_iff_ne]; omega
 clear hlw hw24
 go_wp2_with (go_at_call 43; refine HWd.out.mono ?_; rintro e9 w9 ⟨rfl, rfl⟩)
 go_quiet (fail)
 go_wp2_with fail
 go_ret3
 exact .bad HX.out (HBe.out _ (below_drewN (Below.refl _ _) _)).1
end Go.Proofs.YtkdajhmlhjkcdaaGreatDoor
namespace Go.Proofs.YtkdajhmlhjkcdaaGreatDoor
open Go.RowKit Go.Maps
def RfOk (F : Fl) : Prop := ∀ r ∈ F.rls, 0 ≤ r.flag ∧ r.flag ≤ 65535
theorem group_inv {P : Fl → Prop} {end_ : Int} {ok : List ByteArray → Bool} {inn : Fl → Int → List ByteArray → Except Int Fl} (hi : ∀ F l r F', P F → inn F l r = .ok F' → P F') : ∀ (n : Nat) (S S' : Sx), P S.fl → groupR end_ ok inn n S = .ok S' → P S'.fl
 | 0, S, S', h0, h => by rw [groupR] at h; cases h; exact h0
 | n + 1, S, S', h0, h => by
   rw [groupR] at h
   split at h
   ·cases h
   ·split at h
    ·split at h
     ·cases h
     ·rename_i hF
      exact group_inv hi n _ S' (hi _ _ _ _ h0 hF) h
    ·cases h
theorem ruleIn_rf {c : Cl} (hc : 0 ≤ c.flag ∧ c.flag ≤ 65535) (F : Fl) (l : Int) (r : List ByteArray) (F' : Fl) (h0 : RfOk F) (h : ruleIn c F l r = .ok F') : RfOk F' := by
 unfold ruleIn at h
 split at h
 ·cases h
 rename_i x hx
 cases h
 obtain ⟨s, a, k, n, rfl⟩ := ruleR_same hx
 intro y hy
 rcases List.mem_append.1 hy with hy | hy
 ·exact h0 y hy
 simp at hy; subst hy; exact hc
theorem rep_rf (F : Fl) (l : Int) (r : List ByteArray) (F' : Fl) (h0 : RfOk F) (h : repR_ F l r = .ok F') : RfOk F' := by
 unfold repR_ at h
 split at h
 ·cases h
 split at h
 ·cases h
 split at h
 ·cases h
 cases h; exact h0
theorem alias_rf (F : Fl) (l : Int) (r : List ByteArray) (F' : Fl) (h0 : RfOk F) (h : aliasR F l r = .ok F') : RfOk F' := by
 unfold aliasR at h
 split at h
 ·cases h
 split at h
 ·cases h
 cases h; exact h0
theorem head_rf {end_ : Int} {S S' : Sx} {row : List ByteArray} {k : Nat} (h0 : RfOk S.fl) (h : headR end_ S row k = .ok S') : RfOk S'.fl := by
 unfold headR at h
 split at h
 ·obtain ⟨F, hF, rfl⟩ := onFl_ok h
  unfold kindR at hF
  split at hF
  ·cases hF
  split at hF
  ·cases hF
  cases hF; exact h0
 split at h
 ·obtain ⟨F, hF, rfl⟩ := onFl_ok h
  unfold setR at hF
  split at hF
  ·cases hF
  cases hF; exact h0
 split at h
 ·obtain ⟨F, hF, rfl⟩ := onFl_ok h
  unfold tryR at hF
  split at hF
  ·cases hF
  cases hF; exact h0
 split at h
 ·obtain ⟨F, hF, rfl⟩ := onFl_ok h
  unfold specialR at hF
  split at hF
  ·cases hF
  cases hF
  show RfOk (setSp _ _ _)
  unfold RfOk
  rw [(setSp_rest _ _ _).2.2.2.1]
  exact h0
 split at h
 ·obtain ⟨F, hF, rfl⟩ := onFl_ok h
  unfold leastR at hF
  split at hF
  ·cases hF
  cases hF; exact h0
 split at h
 ·unfold repsG at h
  split at h
  ·cases h
  exact group_inv rep_rf _ _ _ h0 h
 split at h
 ·unfold aliasG at h
  split at h
  ·cases h
  split at h
  ·cases h
  exact group_inv alias_rf _ _ _ h0 h
 unfold classR at h
 split at h
 ·cases h
 rename_i f hf
 obtain ⟨f1, f2, f3, -⟩ := freshR_ok hf
 split at h
 ·cases h
 split at h
 ·cases h
 split at h
 ·cases h
 refine group_inv (P := RfOk) ?_ _ _ _ ?_ h
 ·exact fun F l r F' h1 h2 => ruleIn_rf ⟨f2, f3⟩ F l r F' h1 h2
 exact h0
theorem read_rf {end_ : Int} : ∀ (n : Nat) (S S' : Sx), RfOk S.fl → readGo end_ n S = .ok S' → RfOk S'.fl
 | 0, S, S', h0, h => by rw [readGo] at h; cases h; exact h0
 | n + 1, S, S', h0, h => by
   rw [readGo] at h
   split at h
   ·cases h; exact h0
   ·split at h
    ·cases h
    ·rename_i hs
     refine read_rf n _ S' ?_ h
     unfold stepR at hs
     split at hs
     ·cases hs
     split at hs
     ·cases hs
     split at hs
     ·cases hs
     split at hs
     ·cases hs
     ·rename_i S3 hh
      cases hs
      have h2 : RfOk S3.fl := by
       refine head_rf ?_ hh
       exact h0
      exact h2
theorem affR_rf {l : List UInt8} {F : Fl} (h : affR l = .ok F) : RfOk F := by
 unfold affR at h
 split at h
 ·cases h
 split at h
 ·cases h
 rename_i hr
 split at h
 ·cases h
 cases h
 exact read_rf _ _ _ (by intro r hr; cases hr) hr
def AffR (w : World) (F : Fl) (a : AV) : Prop := Rd w 2 a.reps F.reps.length (repCells F.reps) ∧ (∃ us : List Value, Rd w 1 a.als F.als.length us ∧ us.length = F.als.length ∧ ∀ (k : Nat) u b, us[k]? = some u → F.als[k]? = some b → FS w u b) ∧
 Rd w 5 a.cls F.cls.length (clsCells F.cls) ∧ ∃ rs : List (Rl × Value), rs.map (·.1) = F.rls ∧ Rd w 7 a.rls rs.length (rlsCells rs) ∧ ∀ r ∈ rs, FS w r.2 r.1.next
theorem AffN.rd {B : Nat} {w : World} {F : Fl} {a : AV} (h : AffN B w F a) : AffR w F a := by
 obtain ⟨us, h1, h2, h3⟩ := h.als
 obtain ⟨rs, h4, h5, h6⟩ := h.rls
 exact ⟨Rd.of_own h.reps, ⟨us, Rd.of_own h1, h2, fun k u b hu hb => (h3 k u b hu hb).fs⟩, Rd.of_own h.cls, rs, h4, Rd.of_own h5, fun r hr => (h6 r hr).fs⟩
end Go.Proofs.YtkdajhmlhjkcdaaGreatDoor
namespace Go.Proofs.YtkdajhmlhjkcdaaGreatDoor
open Go.RowKit Go.Maps
theorem Rd.at_ {w : World} {size n : Nat} {v : Value} {xs : List Value} (h : Rd w size v n xs) (hn : 0 < n) : ∃ g o cap, v = .slice (some ⟨g, o, none⟩) n cap ∧ ∀ j u, xs[j]? = some u → w.cell? ⟨g, o + j, none⟩ = some u := by
 obtain ⟨-, A, cap, rfl, -, h2⟩ := h
 obtain ⟨g, o, rfl, h3⟩ := h2.resolve_left (by omega)
 exact ⟨g, o, cap, rfl, h3⟩
end Go.Proofs.YtkdajhmlhjkcdaaGreatDoor
namespace Go.Proofs.YtkdajhmlhjkcdaaGreatDoor
open Go.RowKit Go.Maps
theorem piece_err {b : Bool} {s : ByteArray} {c : Int} (h : pieceR b s = .error c) : c ≠ 0 := by
 unfold pieceR at h
 split at h
 ·cases h
 split at h
 split at h
 ·cases h; assumption
 split at h
 ·cases h; decide
 split at h
 ·cases h; assumption
 cases h
theorem fresh_err {F : Fl} {s : ByteArray} {c : Int} (h : freshR F s = .error c) : c ≠ 0 := by
 unfold freshR at h
 split at h
 ·cases h; assumption
 split at h
 ·cases h; decide
 cases h
theorem rep_err {F : Fl} {l : Int} {row : List ByteArray} {c : Int} (h : repR_ F l row = .error c) : c ≠ 0 := by
 unfold repR_ at h
 split at h
 ·cases h; decide
 split at h
 ·rename_i hp; cases h; exact piece_err hp
 split at h
 ·rename_i hp; cases h; exact piece_err hp
 cases h
theorem alias_err {F : Fl} {l : Int} {row : List ByteArray} {c : Int} (h : aliasR F l row = .error c) : c ≠ 0 := by
 unfold aliasR at h
 split at h
 ·cases h; decide
 split at h
 ·cases h; assumption
 cases h
theorem addR_err {w : List UInt8} {c : Int} (h : addR w = .error c) : c ≠ 0 := by
 unfold addR at h
 split at h
 ·cases h
 split at h
 ·cases h; assumption
 cases h
theorem nextR_err {F : Fl} {k : Int} {r : List UInt8} {b : Bool} {c : Int} (h : nextR F k r b = .error c) : c ≠ 0 := by
 unfold nextR at h
 split at h
 ·split at h
  ·cases h; decide
  split at h
  ·cases h; assumption
  cases h
 cases h
theorem condOf_err {row : List ByteArray} {c : Int} (h : condOf row = .error c) : c ≠ 0 := by
 unfold condOf at h
 split at h
 ·split at h
  ·cases h; decide
  split at h
  ·rename_i hc
   cases h
   have := condR_err hc
   simpa using this
  cases h
 cases h
theorem rule_err {cl : Cl} {F : Fl} {l : Int} {row : List ByteArray} {c : Int} (h : ruleIn cl F l row = .error c) : c ≠ 0 := by
 unfold ruleIn at h
 split at h
 ·rename_i hr
  cases h
  unfold ruleR at hr
  split at hr
  ·cases hr; decide
  split at hr
  ·rename_i hp; cases hr; exact piece_err hp
  split at hr
  split at hr
  ·cases hr; assumption
  split at hr
  ·rename_i ha; cases hr; exact addR_err ha
  split at hr
  ·rename_i hn; cases hr; exact nextR_err hn
  split at hr
  ·rename_i hc; cases hr; exact condOf_err hc
  cases hr
 cases h
theorem group_err {end_ : Int} {ok : List ByteArray → Bool} {inn : Fl → Int → List ByteArray → Except Int Fl} (hi : ∀ F l r c, inn F l r = .error c → c ≠ 0) : ∀ (n : Nat) (S : Sx) (l c : Int), groupR end_ ok inn n S = .error (l, c) → c ≠ 0
 | 0, S, l, c, h => by rw [groupR] at h; cases h
 | n + 1, S, l, c, h => by
   rw [groupR] at h
   split at h
   ·cases h; decide
   ·split at h
    ·split at h
     ·rename_i hF; cases h; exact hi _ _ _ _ hF
     ·exact group_err hi n _ l c h
    ·cases h; decide
theorem onFl_err {l l' c : Int} {S : Sx} {x : Except Int Fl} (h : onFl l S x = .error (l', c)) : x = .error c := by
 cases x with
 | error e => cases h; rfl
 | ok F => cases h
theorem head_err {end_ l c : Int} {S : Sx} {row : List ByteArray} {k : Nat} (h : headR end_ S row k = .error (l, c)) : c ≠ 0 := by
 unfold headR at h
 split at h
 ·have hF := onFl_err h
  unfold kindR at hF
  split at hF
  ·cases hF; decide
  split at hF
  ·cases hF; decide
  cases hF
 split at h
 ·have hF := onFl_err h
  unfold setR at hF
  split at hF
  ·cases hF; decide
  cases hF
 split at h
 ·have hF := onFl_err h
  unfold tryR at hF
  split at hF
  ·cases hF; assumption
  cases hF
 split at h
 ·have hF := onFl_err h
  unfold specialR at hF
  split at hF
  ·rename_i hf; cases hF; exact fresh_err hf
  cases hF
 split at h
 ·have hF := onFl_err h
  unfold leastR at hF
  split at hF
  ·cases hF; decide
  cases hF
 split at h
 ·unfold repsG at h
  split at h
  ·cases h; decide
  exact group_err (fun F l r c h => rep_err h) _ _ _ _ h
 split at h
 ·unfold aliasG at h
  split at h
  ·cases h; decide
  split at h
  ·cases h; decide
  exact group_err (fun F l r c h => alias_err h) _ _ _ _ h
 unfold classR at h
 split at h
 ·rename_i hf; cases h; exact fresh_err hf
 split at h
 ·cases h; decide
 split at h
 ·cases h; decide
 split at h
 ·cases h; decide
 exact group_err (fun F l r c h => rule_err h) _ _ _ _ h
theorem read_err {end_ : Int} : ∀ (n : Nat) (S : Sx) (l c : Int), readGo end_ n S = .error (l, c) → c ≠ 0
 | 0, S, l, c, h => by rw [readGo] at h; cases h
 | n + 1, S, l, c, h => by
   rw [readGo] at h
   split at h
   ·cases h
   ·split at h
    ·rename_i e hs
     cases h
     unfold stepR at hs
     split at hs
     ·cases hs; decide
     split at hs
     ·cases hs; decide
     split at hs
     ·cases hs; decide
     split at hs
     ·rename_i hh
      cases hs
      exact head_err hh
     ·cases hs
    ·exact read_err n _ l c h
theorem affR_err {t : List UInt8} {l c : Int} (h : affR t = .error (l, c)) : c ≠ 0 := by
 unfold affR at h
 split at h
 ·cases h; decide
 split at h
 ·rename_i hr; cases h; exact read_err _ _ _ _ hr
 split at h
 ·cases h; decide
 cases h
abbrev wakeT : ByteArray := ⟨#[83, 70, 88, 32, 65, 32, 89, 32, 49, 10, 83, 70, 88, 32, 65, 32, 121, 32, 105, 101, 115, 32, 91, 94, 97, 101, 105, 111, 117, 93, 121, 10]⟩
abbrev tIES : ByteArray := ⟨#[105, 101, 115]⟩
abbrev tCND : ByteArray := ⟨#[91, 94, 97, 101, 105, 111, 117, 93, 121]⟩
theorem wake_rows : rowsOf (eachOf wakeT.data.toList) = [(1, [kSFX, ⟨#[65]⟩, ⟨#[89]⟩, ⟨#[49]⟩]), (2, [kSFX, ⟨#[65]⟩, ⟨#[121]⟩, tIES, tCND])] := by kernel_rfl
theorem wake_lines : (linesOf wakeT.data.toList).length = 2 := by kernel_rfl
def wakeC : Cl := ⟨65, 2, true, 0, 1⟩
theorem wake_piece : pieceR true ⟨#[121]⟩ = .ok ⟨#[121]⟩ := by
 unfold pieceR
 rw [if_neg (by rintro ⟨-, h⟩; revert h; decide)]
 have hw : wordR (⟨#[121]⟩ : ByteArray).data.toList = ([121], [], false, 0) := by
  unfold wordR
  rw [wgo_more _ _ _ (by decide) (by decide), wgo_nil]
  rfl
 rw [hw]
 rfl
theorem wake_rule (F : Fl) : ∃ cond, ruleR F wakeC 2 [kSFX, ⟨#[65]⟩, ⟨#[121]⟩, tIES, tCND] = .ok ⟨2, 65, true, ⟨#[121]⟩, tIES, cond, [], 2⟩ := by
 unfold ruleR
 rw [if_neg (by simp)]
 have h2 : fieldAt [kSFX, ⟨#[65]⟩, ⟨#[121]⟩, tIES, tCND] 2 = ⟨#[121]⟩ := rfl
 have h3 : fieldAt [kSFX, ⟨#[65]⟩, ⟨#[121]⟩, tIES, tCND] 3 = tIES := rfl
 rw [h2, h3, wake_piece]
 have hw : wordR tIES.data.toList = ([105, 101, 115], [], false, 0) := by
  unfold wordR
  rw [wgo_more _ _ _ (by decide) (by decide), wgo_more _ _ _ (by decide) (by decide), wgo_more _ _ _ (by decide) (by decide), wgo_nil]
  rfl
 have ha : addR [105, 101, 115] = .ok tIES := by kernel_rfl
 obtain ⟨x, hx⟩ : ∃ x, condOf [kSFX, ⟨#[65]⟩, ⟨#[121]⟩, tIES, tCND] = .ok x := by
  have h : (match condOf [kSFX, ⟨#[65]⟩, ⟨#[121]⟩, tIES, tCND] with | .ok _ => true | .error _ => false) = true := by kernel_rfl
  cases hc : condOf [kSFX, ⟨#[65]⟩, ⟨#[121]⟩, tIES, tCND] with
  | error e => rw [hc] at h; cases h
  | ok x => exact ⟨x, rfl⟩
 refine ⟨x, ?_⟩
 dsimp only
 rw [hw]
 dsimp only
 rw [if_neg (by decide), ha]
 have hn : nextR F wakeC.kind [] false = .ok [] := rfl
 dsimp only
 rw [hn, hx]
 rfl
theorem wake_aff : ∃ r, affR wakeT.data.toList = .ok ⟨1, ⟨#[]⟩, ⟨#[]⟩, 0, 0, 0, 0, 0, 3, [], [], [wakeC], [r]⟩ ∧ r.add = tIES := by
 obtain ⟨cond, hc⟩ := wake_rule { fl0 with cls := [wakeC] }
 refine ⟨_, ?_, show (⟨2, 65, true, ⟨#[121]⟩, tIES, cond, [], 2⟩ : Rl).add = tIES from rfl⟩
 rw [affR_small _ (by decide), wake_rows, wake_lines]
 have hk : keyN (fieldAt [kSFX, ⟨#[65]⟩, ⟨#[89]⟩, ⟨#[49]⟩] 0) = 12 := by kernel_rfl
 have hfr : freshR fl0 ⟨#[65]⟩ = .ok 65 := by kernel_rfl
 have hne : numErr (⟨#[49]⟩ : ByteArray).data.toList 1024 = 0 := by kernel_rfl
 have hnv : numVal (⟨#[49]⟩ : ByteArray).data.toList 1024 = 1 := by kernel_rfl
 have hcl : classR 3 ⟨fl0, [(2, [kSFX, ⟨#[65]⟩, ⟨#[121]⟩, tIES, tCND])], [], 1⟩ [kSFX, ⟨#[65]⟩, ⟨#[89]⟩, ⟨#[49]⟩] = .ok ⟨{ { fl0 with cls := [wakeC] } with rls := [⟨2, 65, true, ⟨#[121]⟩, tIES, cond, [], 2⟩] }, [], [], 2⟩ := by
  unfold classR
  have h1 : fieldAt [kSFX, ⟨#[65]⟩, ⟨#[89]⟩, ⟨#[49]⟩] 1 = ⟨#[65]⟩ := rfl
  have h2 : fieldAt [kSFX, ⟨#[65]⟩, ⟨#[89]⟩, ⟨#[49]⟩] 2 = ⟨#[89]⟩ := rfl
  have h3 : fieldAt [kSFX, ⟨#[65]⟩, ⟨#[89]⟩, ⟨#[49]⟩] 3 = ⟨#[49]⟩ := rfl
  have h0 : fieldAt [kSFX, ⟨#[65]⟩, ⟨#[89]⟩, ⟨#[49]⟩] 0 = kSFX := rfl
  rw [h1, h2, h3, h0, hfr]
  dsimp only
  rw [if_neg (by simp), hne, hnv, if_neg (by decide), if_neg (by decide)]
  show groupR 3 _ (ruleIn wakeC) 1 ⟨{ fl0 with cls := [wakeC] }, [(2, [kSFX, ⟨#[65]⟩, ⟨#[121]⟩, tIES, tCND])], [], 1⟩ = _
  rw [groupR]
  dsimp only
  rw [if_pos (by decide)]
  unfold ruleIn
  rw [hc]
  rfl
 have hst : stepR 3 ⟨fl0, [(1, [kSFX, ⟨#[65]⟩, ⟨#[89]⟩, ⟨#[49]⟩]), (2, [kSFX, ⟨#[65]⟩, ⟨#[121]⟩, tIES, tCND])], [], 0⟩ 1 [kSFX, ⟨#[65]⟩, ⟨#[89]⟩, ⟨#[49]⟩] [(2, [kSFX, ⟨#[65]⟩, ⟨#[121]⟩, tIES, tCND])] = .ok ⟨{ { fl0 with cls := [wakeC] } with rls := [⟨2, 65, true, ⟨#[121]⟩, tIES, cond, [], 2⟩] }, [], [kSFX], 2⟩ := by
  unfold stepR
  rw [hk, if_neg (by decide), if_neg (by decide), if_neg (by decide)]
  have hh : headR 3 ⟨fl0, [(2, [kSFX, ⟨#[65]⟩, ⟨#[121]⟩, tIES, tCND])], [], 1⟩ [kSFX, ⟨#[65]⟩, ⟨#[89]⟩, ⟨#[49]⟩] 12 = _ := hcl
  rw [hh]
  rfl
 show affEnd (readGo 3 2 ⟨fl0, [(1, [kSFX, ⟨#[65]⟩, ⟨#[89]⟩, ⟨#[49]⟩]), (2, [kSFX, ⟨#[65]⟩, ⟨#[121]⟩, tIES, tCND])], [], 0⟩) = _
 rw [readGo]
 dsimp only
 rw [hst]
 rfl
end Go.Proofs.YtkdajhmlhjkcdaaGreatDoor
namespace Go.Proofs.YtkdajhmlhjkcdaaGreatDoor
open Go.RowKit Go.Maps
theorem one_of_map {rs : List (Rl × Value)} {r : Rl} (h : rs.map (·.1) = [r]) : ∃ u, rs = [(r, u)] := by
 match rs, h with
 | [x], h => exact ⟨x.2, by simp at h; rw [← h]⟩
set_option maxHeartbeats 4000000 in
set_option maxRecDepth 100000 in
theorem so_wakes (m0 : Int) (w : World) (h0 : 0 < w.heap.size) (hm : w.cell? ⟨0, 0, none⟩ = some (.int .i64 m0)) :
  Calls Tryz.prog 14 #[] w fun e w' => e = .returned (.bool true) ∧ Below w.heap.size w w' := by
 obtain ⟨r, hr, hra⟩ := wake_aff
 have HR := so_affRead wakeT m0 w h0 hm
 unfold ReadP at HR
 rw [hr] at HR
 dsimp only at HR
 have HRd := Lib.hid HR
 have HRa := Lib.hid hra
 clear HR hr hra hm h0
 go_enter Tryz.func14, Tryz.ntmps14
 go_upto_region 4 with (go_at_call 12; refine HRd.out.mono ?_; rintro e w1 ⟨hb1, fb, rfl, hf, hok, hfb⟩; have HB1 := Lib.hid hb1; have HF1 := Lib.hid hf; have HOk := Lib.hid hok; clear hb1 hf hok hfb)
 go_upto_region 5 with (go_at_call 16; refine (so_Affixes fb _ _ (HF1.out.keep ((Below.refl _ _).alloc (Nat.le_refl _) _)) HOk.out).mono ?_; rintro e w2 ⟨a, rfl, hn, hb2⟩; have HB2 : Hid (Below w.heap.size w w2) := Lib.hid (HB1.out.trans ((((Below.refl _ _).alloc (Nat.le_refl _) _).trans (hb2.mono (by simp))).mono HB1.out.size)); obtain ⟨vr, va, vc, vl⟩ := a; obtain ⟨⟨-, Ar, kr, rfl, -⟩, ⟨us, ⟨-, Aa, ka, rfl, -⟩, -⟩, hcl, rs, hm, hrl, -⟩ := hn.rd; obtain ⟨u, rfl⟩ := one_of_map hm; obtain ⟨gl, ol, kl, rfl, hc⟩ := hrl.at_ (by simp); have d4 : w2.cell? ⟨gl, ol + 4, none⟩ = some (.string r.add) := hc 4 _ rfl; rw [HRa.out] at d4; have hgl := World.block_lt_of_cell? _ _ d4; obtain ⟨-, Ac, kc, rfl, -⟩ := hcl; clear hn hm hrl hc hb2; unfold affV affA)
 go_wp2_with fail
 go_ret
 exact ⟨rfl, HB2.out.alloc HB2.out.size _⟩
end Go.Proofs.YtkdajhmlhjkcdaaGreatDoor
namespace Go.Proofs.YtkdajhmlhjkcdaaGreatDoor
open Go.RowKit Go.Maps
def LreadP (l : List UInt8) (w : World) (e : Ending) (w' : World) : Prop := Below w.heap.size w w' ∧ match affR l with
 | .error _ => e = .returned (.tuple #[.pointer none, .pointer none, .bool true])
 | .ok F => ∃ fb rf, e = .returned (.tuple #[.pointer (some ⟨fb, 0, none⟩), .pointer (some ⟨rf, 0, none⟩), .bool true]) ∧ FileAt w' fb F ∧ QFileAt w' rf F ∧ FlOk F ∧ RfOk F ∧ w.heap.size ≤ fb ∧ w.heap.size ≤ rf
set_option maxHeartbeats 4000000 in
set_option maxRecDepth 100000 in
theorem so_lread (s : ByteArray) (m0 : Int) (w : World) (h0 : 0 < w.heap.size) (hm : w.cell? ⟨0, 0, none⟩ = some (.int .i64 m0)) :
  Calls Tryz.prog 17 #[.string s] w (LreadP s.data.toList w) := by
 have HR := Lib.hid (so_affRead s m0 w h0 hm)
 have HQ : Hid (∀ W, Calls Tryz.prog 13 #[.string s] W (RefP s.data.toList W)) := Lib.hid (fun W => so_refAff s W)
 unfold ReadP at HR
 unfold RefP at HQ
 clear h0 hm
 unfold LreadP
 cases hr : affR s.data.toList with
 | error p =>
  obtain ⟨l, c⟩ := p
  have hc := affR_err hr
  have hc0 : (c == 0) = false := by rw [beq_eq_false_iff_ne]; exact hc
  rw [hr] at HR HQ
  dsimp only at HR HQ
  unfold fltV at HR
  clear hr hc
  go_enter Tryz.func17, Tryz.ntmps17
  go_wp2_with fail
  refine HR.out.mono ?_
  rintro e w1 ⟨hb1, rfl⟩
  have HB1 := Lib.hid (hb1.alloc hb1.size (.cells #[.int .i64 1, .int .i64 l, .int .i64 c] 25))
  clear hb1
  go_wp2_with fail
  refine (HQ.out _).mono ?_
  rintro e w2 ⟨hb2, rfl⟩
  have HB2 := Lib.hid (HB1.out.trans (hb2.mono HB1.out.size))
  clear hb2
  go_wp2_with fail
  go_ret3
  exact ⟨HB2.out, by simp⟩
 | ok F =>
  have HRf := Lib.hid (affR_rf hr)
  rw [hr] at HR HQ
  dsimp only at HR HQ
  clear hr
  go_enter Tryz.func17, Tryz.ntmps17
  go_wp2_with fail
  refine HR.out.mono ?_
  rintro e w1 ⟨hb1, fb, rfl, hf, hok, hfb⟩
  have HOk := Lib.hid hok
  have HFb := Lib.hid hfb
  have HB1 := Lib.hid (hb1.alloc hb1.size (.cells #[.int .i64 0, .int .i64 0, .int .i64 0] 25))
  have HF1 := Lib.hid (hf.keep ((Below.refl _ _).alloc (Nat.le_refl _) (.cells #[.int .i64 0, .int .i64 0, .int .i64 0] 25)))
  clear hb1 hf hok hfb
  go_wp2_with fail
  refine (HQ.out _).mono ?_
  rintro e w2 ⟨hb2, rf, rfl, hq, -, hrf⟩
  have HRf2 : Hid (w.heap.size ≤ rf) := Lib.hid (Nat.le_trans HB1.out.size hrf)
  have HB2 := Lib.hid (HB1.out.trans (hb2.mono HB1.out.size))
  have HF2 := Lib.hid (HF1.out.keep hb2)
  have HQ2 := Lib.hid hq
  clear hb2 hq hrf
  go_wp2_with fail
  go_ret3
  exact ⟨HB2.out, fb, rf, by simp, HF2.out, HQ2.out, HOk.out, HRf.out, HFb.out, HRf2.out⟩
end Go.Proofs.YtkdajhmlhjkcdaaGreatDoor
namespace Go.Proofs.YtkdajhmlhjkcdaaGreatDoor
open Go.RowKit Go.Maps
set_option maxHeartbeats 2000000 in
set_option maxRecDepth 100000 in
theorem so_WriteNil (p : Option Addr) (n c : Nat) (w : World) : Calls Tryz.prog 30 #[.pointer none, .slice p n c] w fun e w' => e = .returned (.tuple #[.string ⟨#[]⟩, .int .i64 1]) ∧ Below w.heap.size w w' := by
 go_enter Tryz.func30, Tryz.ntmps30
 go_wp2_with fail
 refine bodyPost_ret (v := .tuple #[.string ⟨#[]⟩, .int .i64 1]) (by simp [results, Tryz.results30, go_sem]; try rfl) rfl ?_
 first
  | exact ⟨rfl, Below.refl _ _⟩
  | exact ⟨rfl, (Below.refl _ _).alloc (Nat.le_refl _) _⟩
  | exact ⟨rfl, ((Below.refl _ _).alloc (Nat.le_refl _) _).alloc (by simp) _⟩
end Go.Proofs.YtkdajhmlhjkcdaaGreatDoor
namespace Go.Proofs.YtkdajhmlhjkcdaaGreatDoor
open Go.RowKit Go.Maps
theorem FileAt.fileF {w : World} {fb : Nat} {F : Fl} (h : FileAt w fb F) (hok : FlOk F) : ∃ av us, FileF w fb F.kind av us F.als := by
 obtain ⟨i, v, n, h0, h1, -, -, ⟨us, h2, h3, h4⟩, -⟩ := h.mem
 exact ⟨v.als, us, by rw [Lib.cell_of_heap h1]; rfl, by rw [Lib.cell_of_heap h1]; rfl, h2, h4, fun a ha => ⟨(hok.sets a ha).1, canon_len (hok.sets a ha).1 (hok.sets a ha).2⟩⟩
end Go.Proofs.YtkdajhmlhjkcdaaGreatDoor
namespace Go.Proofs.YtkdajhmlhjkcdaaGreatDoor
open Go.RowKit
set_option maxHeartbeats 1000000 in
theorem Decimal01_any (n : Int) (w : World) (h0 : -9223372036854775808 ≤ n) (h1 : n ≤ 9223372036854775807) :
  Calls Tryz.prog 63 #[.int .i64 n] w fun e w' => e = .returned (.string (decS n)) ∧ Below w.heap.size w w' := by
 rcases (show n = 0 ∨ 0 < n ∨ n < 0 by omega) with h | h | h
 ·subst h
  have e : decS 0 = ⟨#[48]⟩ := by
   unfold decS Lib.itoa
   rw [if_neg (by omega), show (0 : Int).toNat = 0 from rfl, Lib.decDigits_one (by omega)]; rfl
  rw [e]
  go_enter Tryz.func63, Tryz.ntmps63
  go_wp2_with fail
  go_ret
  exact ⟨rfl, Below.refl _ _⟩
 ·obtain ⟨a, rfl⟩ := Int.eq_ofNat_of_zero_le (show 0 ≤ n by omega)
  have e : decS (a : Int) = mkS ([] ++ Lib.decDigits a) := by unfold decS Lib.itoa; rw [if_neg (by omega)]; simp
  rw [e]
  exact Decimal01_pos a (by omega) (by omega) w
 obtain ⟨a, ha⟩ := Int.eq_ofNat_of_zero_le (show 0 ≤ -n by omega)
 obtain rfl : n = -(a : Int) := by omega
 have e : decS (-(a : Int)) = mkS ([45] ++ Lib.decDigits a) := by unfold decS Lib.itoa; rw [if_pos (by omega)]; simp
 rw [e]
 exact Decimal01_neg a (by omega) (by omega) w
theorem dig_byte (m : Nat) (h : m < 10) : digB (UInt8.ofNat (48 + m)) = true ∧ (UInt8.ofNat (48 + m)).toNat - 48 = m := by
 have h1 : (UInt8.ofNat (48 + m)).toNat = 48 + m := by rw [UInt8.toNat_ofNat']; omega
 exact ⟨by simp only [digB, h1, decide_eq_true_eq]; omega, by omega⟩
theorem dec_val (u : Nat) : valOf (Lib.decDigits u) = u ∧ (Lib.decDigits u).all digB = true ∧ Lib.decDigits u ≠ [] ∧ (0 < u → (Lib.decDigits u).head? ≠ some 48) := by
 induction u using Nat.strongRecOn with
 | _ u ih =>
  rw [Lib.decDigits]
  by_cases h : u < 10
  ·rw [dif_pos h]
   obtain ⟨h1, h2⟩ := dig_byte u h
   refine ⟨by simp only [valOf, List.foldl_cons, List.foldl_nil]; omega, by rw [List.all_cons, h1]; rfl, by simp, fun hu => ?_⟩
   simp only [List.head?_cons, ne_eq, Option.some.injEq]
   intro e
   have := congrArg UInt8.toNat e
   rw [UInt8.toNat_ofNat'] at this
   have h48 : (48 : UInt8).toNat = 48 := rfl
   omega
  rw [dif_neg h]
  obtain ⟨i1, i2, i3, i4⟩ := ih (u / 10) (by omega)
  obtain ⟨h1, h2⟩ := dig_byte (u % 10) (Nat.mod_lt _ (by omega))
  refine ⟨by rw [valOf_snoc, i1, h2]; omega, by rw [List.all_append, i2, List.all_cons, h1]; rfl, by simp, fun hu => ?_⟩
  rw [show ∀ (l m : List UInt8), l ≠ [] → (l ++ m).head? = l.head? from fun l m h => by cases l <;> simp_all] <;> try exact i3
  exact i4 (by omega)
theorem num_dec (u : Nat) : numOk (Lib.decDigits u) = true ∧ valOf (Lib.decDigits u) = u := by
 obtain ⟨h1, h2, h3, h4⟩ := dec_val u
 refine ⟨?_, h1⟩
 have e1 : (Lib.decDigits u).isEmpty = false := by cases h : Lib.decDigits u <;> simp_all
 have e2 : (decide (1 < (Lib.decDigits u).length) && (Lib.decDigits u).head? == some 48) = false := by
  rcases Nat.eq_zero_or_pos u with rfl | hu
  ·rw [Lib.decDigits_one (by omega)]; rfl
  have := h4 hu
  simp [this]
 rw [numOk, e1, e2, h2]; rfl
end Go.Proofs.YtkdajhmlhjkcdaaGreatDoor
namespace Go.Proofs.YtkdajhmlhjkcdaaGreatDoor
open Go.RowKit
def textF (kind x : Int) : List UInt8 :=
 if kind = 1 then [UInt8.ofNat (x.toNat % 256)] else if kind = 2 then [UInt8.ofNat (x.toNat / 256), UInt8.ofNat (x.toNat % 256)] else Lib.decDigits x.toNat
def goodF (kind x : Int) : Bool := decide (numF kind (textF kind x) = x ∧ x ≠ 0)
def sepF (kind : Int) : List UInt8 := if kind = 3 then [44] else []
def joinF (kind : Int) (cs : List Int) : List UInt8 := Lib.join (cs.map (textF kind)) (sepF kind)
def showF (kind : Int) (cs : List Int) : List UInt8 × Int :=
 if kindOk kind = false then ([], 30)
 else if cs.all (goodF kind) = false then ([], 31)
 else if 64 < cs.length then ([], 32)
 else (joinF kind cs, 0)
theorem textF_1 (x : Int) : textF 1 x = [UInt8.ofNat (x.toNat % 256)] := rfl
theorem textF_2 (x : Int) : textF 2 x = [UInt8.ofNat (x.toNat / 256), UInt8.ofNat (x.toNat % 256)] := rfl
theorem textF_3 (x : Int) : textF 3 x = Lib.decDigits x.toNat := rfl
theorem of_nat (n : Nat) (h : n < 256) : (UInt8.ofNat n).toNat = n := by rw [UInt8.toNat_ofNat']; omega
theorem num_1 (x : Int) (h0 : 0 ≤ x) (h1 : x ≤ 255) : numF 1 (textF 1 x) = 0 ∨ numF 1 (textF 1 x) = x := by
 rw [textF_1, numF_1]
 split
 ·rw [of_nat _ (by omega)]; right; omega
 exact .inl rfl
theorem num_1_big (x : Int) (h1 : 255 < x) : goodF 1 x = false := by
 unfold goodF
 rw [textF_1, numF_1, decide_eq_false_iff_not]
 rintro ⟨h, -⟩
 have hl := UInt8.toNat_lt (UInt8.ofNat (x.toNat % 256))
 split at h <;> omega
theorem num_2 (x : Int) (h0 : 0 ≤ x) (h1 : x ≤ 65535) : numF 2 (textF 2 x) = 0 ∨ numF 2 (textF 2 x) = x := by
 rw [textF_2, numF_2]
 split
 ·rw [of_nat _ (by omega), of_nat _ (by omega)]; right; omega
 exact .inl rfl
theorem num_3 (x : Int) (h0 : 0 ≤ x) (h1 : x ≤ 65535) : numF 3 (textF 3 x) = x := by
 obtain ⟨h2, h3⟩ := num_dec x.toNat
 rw [textF_3, numF_3, numVal, if_pos ⟨h2, by rw [h3]; omega⟩, h3]
 omega
theorem good_bad (kind x : Int) (h : numF kind (textF kind x) = 0) : goodF kind x = false := by
 unfold goodF
 rw [h, decide_eq_false_iff_not]
 rintro ⟨h1, h2⟩
 exact h2 h1.symm
theorem good_is (kind x : Int) (h : numF kind (textF kind x) = x) (h0 : x ≠ 0) : goodF kind x = true := by
 unfold goodF
 rw [decide_eq_true_eq]
 exact ⟨h, h0⟩
theorem text_ne (kind x : Int) : textF kind x ≠ [] := by
 unfold textF
 split
 ·simp
 split
 ·simp
 exact (dec_val x.toNat).2.2.1
end Go.Proofs.YtkdajhmlhjkcdaaGreatDoor
namespace Go.Proofs.YtkdajhmlhjkcdaaGreatDoor
open Go.RowKit
theorem PowTab.below {W W' : World} (h : PowTab W) (hb : Below W.heap.size W W') : PowTab W' := by
 have hg : Tryz.prog.globalNamed "internal/strconv.uint64pow10" = some 1 := by kernel_rfl
 have hc := h.cell hg 0 (by decide)
 exact var?_below hb hg (World.block_lt_of_cell? W _ hc) h
def spellS (kind x : Int) : ByteArray := if numF kind (textF kind x) = x then mkS (textF kind x) else ⟨#[]⟩
theorem spell_yes {kind x : Int} (h : numF kind (textF kind x) = x) : mkS (textF kind x) = spellS kind x := by unfold spellS; rw [if_pos h]
theorem spell_no {kind x : Int} (h : ¬ numF kind (textF kind x) = x) : (⟨#[]⟩ : ByteArray) = spellS kind x := by unfold spellS; rw [if_neg h]
theorem cells_1 (x : Int) (h0 : 0 ≤ x) : [Value.int .u8 (x % 256)] = Lib.byteCells (textF 1 x) := by
 simp only [textF_1, Lib.byteCells, List.map_cons, List.map_nil]
 rw [of_nat _ (by omega), show ((x.toNat % 256 : Nat) : Int) = x % 256 by omega]
theorem cells_2 (x : Int) (h0 : 0 ≤ x) (h1 : x ≤ 65535) : [Value.int .u8 (x / 256), Value.int .u8 (x % 256)] = Lib.byteCells (textF 2 x) := by
 simp only [textF_2, Lib.byteCells, List.map_cons, List.map_nil]
 rw [of_nat _ (by omega), of_nat _ (by omega), show ((x.toNat % 256 : Nat) : Int) = x % 256 by omega, show ((x.toNat / 256 : Nat) : Int) = x / 256 by omega]
theorem laid_text (w : World) (cs : Array Value) (n : Nat) (l : List UInt8) (hn : n ≤ 2) (hs : cs.size = n) (hc : cs.toList = Lib.byteCells l) :
  (convert 154 9 (.slice (some ⟨w.heap.size, 0, none⟩) n n)).run Tryz.prog (w.alloc (.cells cs 5)) = .ok (.string (mkS l)) (w.alloc (.cells cs 5)) := by
 have h := own_laid w 5 1 n cs (by omega) (by unfold maxLen; omega)
 rw [hc] at h
 exact run_string_of_own h 154 9 Tryz.underlying154 Tryz.underlying5 Tryz.underlying9
set_option maxHeartbeats 1000000 in
set_option maxRecDepth 100000 in
theorem so_spell (kind x : Int) (w : World) (hk : kind = 1 ∨ kind = 2 ∨ kind = 3) (h0 : 0 ≤ x) (h1 : x ≤ 65535) (ht : PowTab w) :
  Calls Tryz.prog 93 #[.int .i64 kind, .int .u16 x] w fun e w' => e = .returned (.string (spellS kind x)) ∧ Below w.heap.size w w' := by
 obtain ⟨n, hn⟩ : ∃ n, numF kind (textF kind x) = n := ⟨_, rfl⟩
 have HN := Lib.hid hn
 have hT := Lib.hid ht
 have ha : Below w.heap.size w w := Below.refl _ _
 have HR := Lib.hid (show (n = x ∧ mkS (textF kind x) = spellS kind x) ∨ (¬ n = x ∧ (⟨#[]⟩ : ByteArray) = spellS kind x) by
  by_cases h : n = x
  ·exact .inl ⟨h, spell_yes (hn.trans h)⟩
  exact .inr ⟨h, spell_no (fun e => h (hn.symm.trans e))⟩)
 obtain ⟨r, hr⟩ : ∃ r, spellS kind x = r := ⟨_, rfl⟩
 rw [hr] at HR ⊢
 clear hn ht hr
 rcases hk with rfl | rfl | rfl
 ·have hcv := laid_text w #[.int .u8 (x % 256)] 1 (textF 1 x) (by omega) rfl (cells_1 x h0)
  have HA := Lib.hid (ha.alloc (Nat.le_refl _) (.cells #[.int .u8 (x % 256)] 5))
  have HZ := Lib.hid (show (mkS (textF 1 x)).size ≤ maxLen by rw [mkS_size]; show 1 ≤ maxLen; decide)
  obtain ⟨s, hs⟩ : ∃ s, mkS (textF 1 x) = s := ⟨_, rfl⟩
  have HD := Lib.hid (show numF 1 s.data.toList = n by rw [← hs]; exact HN.out)
  rw [hs] at hcv HR HZ
  clear hs ha
  rcases HR.out with ⟨hx, rfl⟩ | ⟨hx, rfl⟩
  ·have hne : (n != x) = false := by simpa using hx
   clear hx HR
   go_enter Tryz.func93, Tryz.ntmps93
   go_wp2_with (go_at_call 87; refine (so_number 1 s _ (.inl rfl) HZ.out).mono ?_; rw [HD.out]; rintro e w1 ⟨rfl, m, rfl⟩)
   go_ret
   exact ⟨rfl, below_drewN HA.out _⟩
  have hne : (n != x) = true := by simpa using hx
  clear hx HR
  go_enter Tryz.func93, Tryz.ntmps93
  go_wp2_with (go_at_call 87; refine (so_number 1 s _ (.inl rfl) HZ.out).mono ?_; rw [HD.out]; rintro e w1 ⟨rfl, m, rfl⟩)
  go_ret
  exact ⟨rfl, below_drewN HA.out _⟩
 ·have hcv := laid_text w #[.int .u8 (x / 256), .int .u8 (x % 256)] 2 (textF 2 x) (by omega) rfl (cells_2 x h0 h1)
  have HA := Lib.hid (ha.alloc (Nat.le_refl _) (.cells #[.int .u8 (x / 256), .int .u8 (x % 256)] 5))
  have HZ := Lib.hid (show (mkS (textF 2 x)).size ≤ maxLen by rw [mkS_size]; show 2 ≤ maxLen; decide)
  obtain ⟨s, hs⟩ : ∃ s, mkS (textF 2 x) = s := ⟨_, rfl⟩
  have HD := Lib.hid (show numF 2 s.data.toList = n by rw [← hs]; exact HN.out)
  rw [hs] at hcv HR HZ
  clear hs ha
  rcases HR.out with ⟨hx, rfl⟩ | ⟨hx, rfl⟩
  ·have hne : (n != x) = false := by simpa using hx
   clear hx HR
   go_enter Tryz.func93, Tryz.ntmps93
   go_wp2_with (go_at_call 87; refine (so_number 2 s _ (.inr (.inl rfl)) HZ.out).mono ?_; rw [HD.out]; rintro e w1 ⟨rfl, m, rfl⟩)
   go_ret
   exact ⟨rfl, below_drewN HA.out _⟩
  have hne : (n != x) = true := by simpa using hx
  clear hx HR
  go_enter Tryz.func93, Tryz.ntmps93
  go_wp2_with (go_at_call 87; refine (so_number 2 s _ (.inr (.inl rfl)) HZ.out).mono ?_; rw [HD.out]; rintro e w1 ⟨rfl, m, rfl⟩)
  go_ret
  exact ⟨rfl, below_drewN HA.out _⟩
 have HS := Lib.hid (show decS x = mkS (textF 3 x) by unfold decS Lib.itoa; rw [if_neg (by omega), textF_3])
 have HZ := Lib.hid (show (mkS (textF 3 x)).size ≤ maxLen by
  rw [mkS_size, textF_3, Lib.decDigits_length]
  have := Lib.nDigits_le20 x.toNat (by omega)
  unfold maxLen; omega)
 obtain ⟨s, hs⟩ : ∃ s, mkS (textF 3 x) = s := ⟨_, rfl⟩
 have HD := Lib.hid (show numF 3 s.data.toList = n by rw [← hs]; exact HN.out)
 rw [hs] at HR HZ HS
 clear hs ha
 have D := Lib.hid (Decimal_any x w (by omega) (by omega) hT.out)
 rcases HR.out with ⟨hx, rfl⟩ | ⟨hx, rfl⟩
 ·have hne : (n != x) = false := by simpa using hx
  clear hx HR
  go_enter Tryz.func93, Tryz.ntmps93
  go_wp2_with (first
   | (go_at_call 60; refine D.out.mono ?_; rw [HS.out]; rintro e w1 ⟨rfl, b1⟩; have B1 := Lib.hid b1; clear b1)
   | (go_at_call 87; refine (so_number 3 s _ (.inr (.inr rfl)) HZ.out).mono ?_; rw [HD.out]; rintro e w1 ⟨rfl, m, rfl⟩))
  go_ret
  exact ⟨rfl, below_drewN B1.out _⟩
 have hne : (n != x) = true := by simpa using hx
 clear hx HR
 go_enter Tryz.func93, Tryz.ntmps93
 go_wp2_with (first
  | (go_at_call 60; refine D.out.mono ?_; rw [HS.out]; rintro e w1 ⟨rfl, b1⟩; have B1 := Lib.hid b1; clear b1)
  | (go_at_call 87; refine (so_number 3 s _ (.inr (.inr rfl)) HZ.out).mono ?_; rw [HD.out]; rintro e w1 ⟨rfl, m, rfl⟩))
 go_ret
 exact ⟨rfl, below_drewN B1.out _⟩
end Go.Proofs.YtkdajhmlhjkcdaaGreatDoor
namespace Go.Proofs.YtkdajhmlhjkcdaaGreatDoor
open Go.RowKit
theorem take_snoc_eq {xs ys : List Int} {k : Nat} (h1 : k < xs.length) (h2 : k < ys.length) (h : xs.take k = ys.take k) (e : xs.getD k 0 = ys.getD k 0) : xs.take (k + 1) = ys.take (k + 1) := by
 rw [List.take_add_one, List.take_add_one, h, List.getElem?_eq_getElem h1, List.getElem?_eq_getElem h2]
 simp only [List.getD, List.getElem?_eq_getElem h1, List.getElem?_eq_getElem h2, Option.getD_some] at e
 rw [e]
set_option maxHeartbeats 2000000 in
set_option maxRecDepth 100000 in
theorem so_Equal (v u : Value) (xs ys : List Int) (w : World) (h : FS w v xs) (hu : FS w u ys) (hbig : xs.length ≤ 9223372036854775807) (hbig2 : ys.length ≤ 9223372036854775807) :
  Calls Tryz.prog 64 #[v, u] w fun e w' => e = .returned (.bool (decide (xs = ys))) ∧ ∃ n, w' = w.drewN n := by
 obtain ⟨p, c, rfl, hcap, hs⟩ := h
 obtain ⟨p2, c2, rfl, hcap2, hs2⟩ := hu
 have hA := Lib.hid hs
 have hB := Lib.hid hs2
 clear hs hs2
 by_cases hn : xs.length = ys.length
 ·have HN := Lib.hid hn
  rw [← hn]
  clear hn
  go_enter Tryz.func64, Tryz.ntmps64
  go_wp2_with fail
  go_loopw [5, 13] (fun _ i wr => ∃ k m : Nat, k ≤ xs.length ∧ i = .int .i64 k ∧ wr = w.drewN m ∧ Hid (xs.take k = ys.take k)) (fun _ i _ => xs.length - (intOf i).toNat)
  case atStart => exact ⟨0, 0, Nat.zero_le _, rfl, rfl, rfl⟩
  case round =>
  obtain ⟨k, m, hk, rfl, rfl, HR⟩ := hrel
  by_cases hlt : k < xs.length
  ·have hlt2 : k < ys.length := by have := HN.out; omega
   obtain ⟨b, off, rfl, hc⟩ := hA.out.resolve_left (by omega)
   obtain ⟨b2, off2, rfl, hc2⟩ := hB.out.resolve_left (by omega)
   have c1 := hc k hlt
   have c2' := hc2 k hlt2
   clear hc hc2
   generalize hx : xs.getD k 0 = x at c1
   generalize hy : ys.getD k 0 = y at c2'
   have HX := Lib.hid hx
   have HY := Lib.hid hy
   clear hx hy
   cases hq : (x == y)
   ·have hfin := Lib.hid (show decide (xs = ys) = false by
     rw [decide_eq_false_iff_not]; rintro rfl
     rw [HX.out] at HY
     rw [HY.out] at hq; simp at hq)
    go_wp2_with fail
    go_quiet (fail)
    go_wp2_with fail
    go_ret
    exact ⟨by rw [hfin.out]; rfl, _, by rw [World.drewN_drewN]⟩
   have he := Lib.hid (take_snoc_eq hlt hlt2 HR.out (by rw [HX.out, HY.out]; simpa using hq))
   go_wp2_with fail
   go_quiet (fail)
   go_wp2_with fail
   go_roundw
   case rel => exact ⟨k + 1, _, by omega, by go_num, rfl, he.out⟩
   case measure => simp [intOf]; omega
  have hke : k = xs.length := by omega
  subst hke
  have hfin := Lib.hid (show decide (xs = ys) = true by
   have h1 := HR.out
   have h2 := HN.out
   rw [List.take_length, h2, List.take_length] at h1
   rw [h1]; simp)
  go_wp2_with fail
  go_ret
  exact ⟨by rw [hfin.out]; rfl, _, rfl⟩
 have hfin := Lib.hid (show decide (xs = ys) = false by
  rw [decide_eq_false_iff_not]; rintro rfl; exact hn rfl)
 have hne : ((xs.length : Int) == (ys.length : Int)) = false := by
  rw [beq_eq_false_iff_ne]; omega
 go_enter Tryz.func64, Tryz.ntmps64
 go_wp2_with fail
 go_ret
 exact ⟨by rw [hfin.out]; rfl, 0, rfl⟩
theorem below_draws {B : Nat} {a w : World} (h : Below B a w) (n : Nat) : Below B a (w.drewN n) := ⟨h.os, h.tape, h.output, h.size, h.block⟩
set_option maxHeartbeats 1000000 in
theorem so_SetEqual (v u : Value) (xs ys : List Int) (w : World) (h : FS w v xs) (hu : FS w u ys) (hbig : xs.length * 2 ≤ 281474976710656) (hbig2 : ys.length * 2 ≤ 281474976710656) :
  Calls Tryz.prog 32 #[v, u] w fun e w' => e = .returned (.bool (decide (canon xs = canon ys))) ∧ Below w.heap.size w w' := by
 have hF := Lib.hid h
 have hU := Lib.hid hu
 clear h hu
 generalize hr : decide (canon xs = canon ys) = r
 have HR := Lib.hid hr
 clear hr
 have l1 := Lib.hid (Nat.le_trans (canon_le xs) (show xs.length ≤ 9223372036854775807 by omega))
 have l2 := Lib.hid (Nat.le_trans (canon_le ys) (show ys.length ≤ 9223372036854775807 by omega))
 go_enter Tryz.func32, Tryz.ntmps32
 go_wp2_with (go_at_call_of 54 v; refine (so_Of _ xs _ hF.out hbig).mono ?_; rintro e w1 ⟨v1, rfl, h1, b1⟩)
 have H1 := Lib.hid h1.fs
 have B1 := Lib.hid b1
 have hs1 := b1.size
 clear h1 b1
 go_wp2_with (go_at_call_of 54 u; refine (so_Of _ ys _ (hU.out.keep B1.out) hbig2).mono ?_; rintro e w2 ⟨v2, rfl, h2, b2⟩)
 have H2 := Lib.hid h2.fs
 have K1 := Lib.hid (H1.out.keep b2)
 have B2 := Lib.hid (B1.out.trans (b2.mono hs1))
 clear h2 b2
 go_wp2_with (go_at_call 64; refine (so_Equal _ _ _ _ _ K1.out H2.out l1.out l2.out).mono ?_; rw [HR.out]; rintro e w3 ⟨rfl, hw⟩; have B3 := Lib.hid (show Below w.heap.size w w3 by obtain ⟨n, rfl⟩ := hw; exact below_draws B2.out n); clear hw)
 go_wp2
 go_ret
 exact ⟨rfl, B3.out⟩
end Go.Proofs.YtkdajhmlhjkcdaaGreatDoor
namespace Go.Proofs.YtkdajhmlhjkcdaaGreatDoor
open Go.RowKit
theorem up_bd {zs : List Int} (h : ∀ x ∈ zs, 0 ≤ x ∧ x ≤ 65535) : ∀ x ∈ zs, 0 ≤ x ∧ x ≤ 4611686018427387904 := fun x hx => ⟨(h x hx).1, by have := (h x hx).2; omega⟩
theorem canon_bd {zs : List Int} (h : ∀ x ∈ zs, 0 ≤ x ∧ x ≤ 65535) : ∀ x ∈ canon zs, 0 ≤ x ∧ x ≤ 65535 := fun x hx => h x ((mem_canon _ _).1 hx)
end Go.Proofs.YtkdajhmlhjkcdaaGreatDoor
namespace Go.Proofs.YtkdajhmlhjkcdaaGreatDoor
open Go.RowKit
theorem text_len (kind x : Int) (h0 : 0 ≤ x) (h1 : x ≤ 65535) : (textF kind x).length ≤ 20 := by
 unfold textF
 split
 ·simp
 split
 ·simp
 rw [Lib.decDigits_length]
 exact Lib.nDigits_le20 x.toNat (by omega)
theorem lens_text (kind : Int) : ∀ cs : List Int, (∀ x ∈ cs, 0 ≤ x ∧ x ≤ 65535) → Lib.lens (cs.map (textF kind)) ≤ 20 * cs.length
 | [], _ => by simp [Lib.lens]
 | c :: cs, h => by
   have ih := lens_text kind cs (fun x hx => h x (List.mem_cons_of_mem _ hx))
   have h1 := text_len kind c (h c (by simp)).1 (h c (by simp)).2
   simp only [Lib.lens, List.map_cons, List.sum_cons, List.length_cons] at ih ⊢
   omega
theorem joinF_len (kind : Int) (cs : List Int) (h : ∀ x ∈ cs, 0 ≤ x ∧ x ≤ 65535) : (joinF kind cs).length ≤ 21 * cs.length := by
 unfold joinF
 cases cs with
 | nil => simp [Lib.join_nil]
 | cons c cs =>
  have h1 := lens_text kind (c :: cs) h
  rw [List.map_cons] at h1 ⊢
  rw [Lib.join_length, List.length_map]
  have h2 : (sepF kind).length ≤ 1 := by unfold sepF; split <;> simp
  have h3 := Nat.mul_le_mul_right cs.length h2
  simp only [List.length_cons] at h1 ⊢
  omega
theorem so_Join (v : Value) (xs : List ByteArray) (sep : ByteArray) (w : World) (h : Rd w 1 v xs.length (strV xs)) (hn : xs.length ≤ 140737488355328) (hl : (Lib.join (xs.map (·.data.toList)) sep.data.toList).length ≤ 140737488355328) :
  Calls Tryz.prog 94 #[v, .string sep] w fun e w' => e = .returned (.string (mkS (Lib.join (xs.map (·.data.toList)) sep.data.toList))) ∧ Below w.heap.size w w' := by
 obtain ⟨_, A, cap, rfl, hc, h2⟩ := h
 rcases h2 with h2 | ⟨g, o, rfl, h3⟩
 ·have hx : xs = [] := List.eq_nil_of_length_eq_zero h2
  subst hx
  exact (Tryz.strings_Join_none A cap sep w).mono (fun e w' ⟨he, hw⟩ => ⟨he, by rw [hw]; exact Below.refl _ _⟩)
 rcases Nat.eq_zero_or_pos xs.length with h0 | h0
 ·have hx : xs = [] := List.eq_nil_of_length_eq_zero h0
  subst hx
  exact (Tryz.strings_Join_none (some ⟨g, o, none⟩) cap sep w).mono (fun e w' ⟨he, hw⟩ => ⟨he, by rw [hw]; exact Below.refl _ _⟩)
 exact Tryz.strings_Join g o cap xs sep w (fun j x hj => h3 j (.string x) (by simp [strV, hj]))
  (World.block_lt_of_cell? w _ (h3 0 (.string xs[0]) (strV_get xs 0 h0))) hn hc hl
def textsF (kind : Int) (cs : List Int) : List ByteArray := cs.map fun x => mkS (textF kind x)
theorem textsF_len (kind : Int) (cs : List Int) : (textsF kind cs).length = cs.length := by simp [textsF]
theorem join_texts (kind : Int) (cs : List Int) (sep : ByteArray) (h : sep.data.toList = sepF kind) : Lib.join ((textsF kind cs).map (·.data.toList)) sep.data.toList = joinF kind cs := by
 unfold textsF joinF
 rw [h, List.map_map]
 rfl
theorem texts_snoc (kind : Int) (cs : List Int) (k : Nat) (h : k < cs.length) : strV (textsF kind (cs.take (k + 1))) = strV (textsF kind (cs.take k)) ++ [Value.string (mkS (textF kind cs[k]))] := by
 rw [List.take_add_one, List.getElem?_eq_getElem h]
 simp only [textsF, strV, List.map_append]
 rfl
theorem show_31 (kind : Int) (cs : List Int) (hk : kindOk kind = true) (k : Nat) (hk2 : k < cs.length) (h : goodF kind cs[k] = false) : showF kind cs = ([], 31) := by
 unfold showF
 rw [if_neg (by rw [hk]; decide), if_pos]
 cases hq : cs.all (goodF kind)
 ·rfl
 rw [List.all_eq_true.1 hq _ (List.getElem_mem hk2)] at h
 simp at h
theorem show_ok (kind : Int) (cs : List Int) (hk : kindOk kind = true) (h : ∀ j (hj : j < cs.length), goodF kind cs[j] = true) : showF kind cs = if 64 < cs.length then ([], 32) else (joinF kind cs, 0) := by
 unfold showF
 rw [if_neg (by rw [hk]; decide), if_neg]
 rw [Bool.not_eq_false, List.all_eq_true]
 intro x hx
 obtain ⟨k, hk, rfl⟩ := List.getElem_of_mem hx
 exact h k hk
theorem show_30 (kind : Int) (cs : List Int) (hk : kindOk kind = false) : showF kind cs = ([], 30) := by
 unfold showF; rw [if_pos hk]
theorem good_cases (kind x : Int) : (spellS kind x = ⟨#[]⟩ ∧ goodF kind x = false) ∨ (spellS kind x = mkS (textF kind x) ∧ x = 0 ∧ goodF kind x = false) ∨ (spellS kind x = mkS (textF kind x) ∧ x ≠ 0 ∧ goodF kind x = true) := by
 unfold spellS goodF
 by_cases h : numF kind (textF kind x) = x
 ·rw [if_pos h]
  by_cases h0 : x = 0
  ·exact .inr (.inl ⟨rfl, h0, by rw [decide_eq_false_iff_not]; exact fun e => e.2 h0⟩)
  exact .inr (.inr ⟨rfl, h0, by rw [decide_eq_true_eq]; exact ⟨h, h0⟩⟩)
 rw [if_neg h]
 exact .inl ⟨rfl, by rw [decide_eq_false_iff_not]; exact fun e => h e.1⟩
theorem string_info : (Tryz.prog.info? 9).map (fun i => (i.zero, i.size, i.bytes)) = some (some (.string ByteArray.empty), 1, 16) := by kernel_rfl
set_option maxHeartbeats 4000000 in
set_option maxRecDepth 100000 in
theorem so_Show (kind : Int) (v : Value) (zs : List Int) (w : World) (h : FS w v zs) (hbd : ∀ x ∈ zs, 0 ≤ x ∧ x ≤ 65535) (hbig : zs.length ≤ 4194304) (ht : PowTab w) :
  Calls Tryz.prog 57 #[.int .i64 kind, v] w fun e w' => e = .returned (.tuple #[.string (mkS (showF kind (canon zs)).1), .int .i64 (showF kind (canon zs)).2]) ∧ Below w.heap.size w w' := by
 obtain ⟨i0, hi, hz0, hz1, hz2⟩ := info_parts string_info
 have hF := Lib.hid h
 have hT := Lib.hid ht
 have hbd' := canon_bd hbd
 have hcl := canon_le zs
 clear h ht hbd
 rcases kind_cases kind with ⟨hko, hk⟩ | ⟨hko, hk⟩
 ·have HK := Lib.hid hko
  have HKK := Lib.hid hk
  clear hko hk
  obtain ⟨cs, hcs⟩ : ∃ cs, canon zs = cs := ⟨_, rfl⟩
  have HCS := Lib.hid hcs
  rw [hcs] at hbd' hcl ⊢
  have HB := Lib.hid hbd'
  clear hcs hbd'
  obtain ⟨r, hr⟩ : ∃ r, showF kind cs = r := ⟨_, rfl⟩
  have HR := Lib.hid hr
  rw [hr]
  clear hr
  go_enter Tryz.func57, Tryz.ntmps57
  go_wp2_with (first
   | (go_at_call 85; refine (so_known _ _).mono ?_; rw [HK.out]; rintro e w1 ⟨rfl, rfl⟩)
   | (go_at_call 54; refine (so_Of _ zs _ hF.out (by omega)).mono ?_; rw [HCS.out]; rintro e w1 ⟨v1, rfl, h1, b1⟩; obtain ⟨p1, c1, rfl, _, hs1⟩ := h1.fs; have H1 := Lib.hid hs1; have B1 := Lib.hid b1; clear h1 b1 hs1))
  have hsz1 := B1.out.size
  go_loopw [6, 8, 9, 16] (fun o _ _ i wr => ∃ k : Nat, k ≤ cs.length ∧ i = .int .i64 k ∧ Hid (∀ j (hj : j < cs.length), j < k → goodF kind cs[j] = true) ∧ Hid (Own w1 wr 9 1 o k (strV (textsF kind (cs.take k))))) (fun _ _ _ i _ => cs.length - (intOf i).toNat)
  case atStart => exact ⟨0, Nat.zero_le _, rfl, (fun j _ hj => absurd hj (Nat.not_lt_zero _)), Own.nil_ _ _ _⟩
  case round =>
  obtain ⟨k, hkk, rfl, HN, HO⟩ := hrel
  have hsz := HO.out.size
  by_cases hlt : k < cs.length
  ·obtain ⟨b, o, rfl, hc⟩ := H1.out.resolve_left (by omega)
   have c0 := hc k hlt
   have hcell := (HO.out.below.cell (World.block_lt_of_cell? w1 _ c0)).trans c0
   have ecs : cs.getD k 0 = cs[k] := by simp [List.getD, hlt]
   rw [ecs] at hcell
   obtain ⟨b0, b1⟩ := HB.out cs[k] (List.getElem_mem hlt)
   have HP := Lib.hid (show PowTab wr from PowTab.below hT.out (B1.out.trans (HO.out.below.mono hsz1)))
   have HS := Lib.hid (texts_snoc kind cs k hlt)
   have H31 := Lib.hid (show_31 kind cs HK.out k hlt)
   have HG := Lib.hid (good_cases kind cs[k])
   have HNX := Lib.hid (show goodF kind cs[k] = true → ∀ j (hj : j < cs.length), j < k + 1 → goodF kind cs[j] = true from fun hg j hj hjk => by
    by_cases e : j = k
    ·subst e; exact hg
    exact HN.out j hj (by omega))
   have HTN := Lib.hid (text_ne kind cs[k])
   clear hc c0 ecs HN
   generalize cs[k] = x at *
   have HSP := Lib.hid (so_spell kind x wr HKK.out b0 b1 HP.out)
   rcases HG.out with ⟨hq, hg⟩ | ⟨hq, hx0, hg⟩ | ⟨hq, hx0, hg⟩
   ·have HQ := Lib.hid hq
    have hfin := Lib.hid (HR.out.symm.trans (H31.out hg))
    clear hq hg HG
    go_wp2_with (go_at_call 93; refine HSP.out.mono ?_; rw [HQ.out]; rintro e w2 ⟨rfl, b2⟩; have B2 := Lib.hid b2; clear b2)
    go_ret2
    exact ⟨by rw [hfin.out]; rfl, (B1.out.trans (HO.out.below.mono hsz1)).trans (B2.out.mono (Nat.le_trans hsz1 hsz))⟩
   ·have HQ := Lib.hid hq
    have hfin := Lib.hid (HR.out.symm.trans (H31.out hg))
    subst hx0
    have hne := notEmpty (mkS (textF kind 0)) (by rw [mkS_size]; exact List.length_pos_iff.2 HTN.out)
    clear hq hg HG
    generalize mkS (textF kind 0) = s at *
    go_wp2_with (go_at_call 93; refine HSP.out.mono ?_; rw [HQ.out]; rintro e w2 ⟨rfl, b2⟩; have B2 := Lib.hid b2; clear b2)
    go_ret2
    exact ⟨by rw [hfin.out]; rfl, (B1.out.trans (HO.out.below.mono hsz1)).trans (B2.out.mono (Nat.le_trans hsz1 hsz))⟩
   have HQ := Lib.hid hq
   have HNX2 := Lib.hid (HNX.out hg)
   have hx1 : (x == 0) = false := by simpa using hx0
   have hne := notEmpty (mkS (textF kind x)) (by rw [mkS_size]; exact List.length_pos_iff.2 HTN.out)
   clear hq hg HG hx0 HNX
   generalize mkS (textF kind x) = s at *
   go_wp2_with (first
    | (go_at_call 93; refine HSP.out.mono ?_; rw [HQ.out]; rintro e w2 ⟨rfl, b2⟩; have HO2 := Lib.hid (HO.out.call b2); clear b2)
    | (at_builtin; refine wpList_push1 rfl _ _ 65 rfl w1.heap.size 9 i0 (.string ByteArray.empty) 16 Tryz.underlying65 hi hz0 hz1 hz2 rfl _ k _ rfl HO2.out.own _ rfl rfl (by unfold maxLen; omega) (by omega) HO2.out.size ?_; intro gg cap2 w5 hown hg5; have HO' := Lib.hid (HO2.out.push hown hg5); clear hown hg5))
   go_roundw
   case rel => exact ⟨k + 1, by omega, by go_num, HNX2, Lib.hid (by rw [HS.out]; exact HO'.out)⟩
   case measure => simp [intOf]; omega
  have hke : k = cs.length := by omega
  subst hke
  rw [List.take_length] at HO
  have HRD := Lib.hid (Rd.of_own HO.out.own)
  obtain ⟨_, A, cap, rfl, _, _⟩ := HRD.out
  have HSH := Lib.hid (HR.out.symm.trans (show_ok kind cs HK.out (fun j hj => HN.out j hj hj)))
  by_cases h64 : 64 < cs.length
  ·have h64' : (64 : Int) < (cs.length : Int) := by omega
   have hfin := Lib.hid (show r = ([], 32) by rw [HSH.out, if_pos h64])
   go_wp2
   go_ret2
   exact ⟨by rw [hfin.out]; rfl, B1.out.trans (HO.out.below.mono hsz1)⟩
  have h64' : ¬ (64 : Int) < (cs.length : Int) := by omega
  have hfin := Lib.hid (show r = (joinF kind cs, 0) by rw [HSH.out, if_neg h64])
  have hjl := joinF_len kind cs HB.out
  have HL := Lib.hid (textsF_len kind cs)
  by_cases hk3 : kind = 3
  ·subst hk3
   have HJ := Lib.hid (join_texts 3 cs ⟨#[44]⟩ rfl)
   go_wp2_with (go_at_call 94; refine (so_Join _ (textsF 3 cs) ⟨#[44]⟩ _ (by rw [HL.out]; exact HRD.out) (by rw [HL.out]; omega) (by rw [HJ.out]; omega)).mono ?_; rw [HJ.out]; rintro e w3 ⟨rfl, b3⟩; have B3 := Lib.hid b3; clear b3)
   go_ret2
   exact ⟨by rw [hfin.out]; rfl, (B1.out.trans (HO.out.below.mono hsz1)).trans (B3.out.mono (Nat.le_trans hsz1 hsz))⟩
  have hkb : (kind == 3) = false := by simpa using hk3
  have HJ := Lib.hid (join_texts kind cs ⟨#[]⟩ (by unfold sepF; rw [if_neg hk3]))
  go_wp2_with (go_at_call 94; refine (so_Join _ (textsF kind cs) ⟨#[]⟩ _ (by rw [HL.out]; exact HRD.out) (by rw [HL.out]; omega) (by rw [HJ.out]; omega)).mono ?_; rw [HJ.out]; rintro e w3 ⟨rfl, b3⟩; have B3 := Lib.hid b3; clear b3)
  go_ret2
  exact ⟨by rw [hfin.out]; rfl, (B1.out.trans (HO.out.below.mono hsz1)).trans (B3.out.mono (Nat.le_trans hsz1 hsz))⟩
 have HK := Lib.hid hko
 have hR := Lib.hid (show_30 kind (canon zs) hko)
 clear hko hk
 go_enter Tryz.func57, Tryz.ntmps57
 go_wp2_with (go_at_call 85; refine (so_known _ _).mono ?_; rw [HK.out]; rintro e w1 ⟨rfl, rfl⟩)
 go_ret2
 exact ⟨by rw [hR.out]; rfl, Below.refl _ _⟩
end Go.Proofs.YtkdajhmlhjkcdaaGreatDoor
namespace Go.Proofs.YtkdajhmlhjkcdaaGreatDoor
open Go.RowKit
def writeA (kind : Int) (al : List (List Int)) (zs : List Int) : ByteArray × Int :=
 if al.length = 0 then (mkS (showF kind (canon zs)).1, (showF kind (canon zs)).2) else match al.findIdx? (fun a => decide (canon a = canon zs)) with
  | none => (⟨#[]⟩, 31)
  | some k => (decS ((k : Int) + 1), 0)
theorem writeA_nil (kind : Int) (al : List (List Int)) (zs : List Int) (h : al.length = 0) : writeA kind al zs = (mkS (showF kind (canon zs)).1, (showF kind (canon zs)).2) := by rw [writeA, if_pos h]
theorem writeA_hit (kind : Int) (al : List (List Int)) (zs : List Int) (k : Nat) (hk : k < al.length) (he : canon al[k] = canon zs) (hne : ∀ j (hj : j < al.length), j < k → canon al[j] ≠ canon zs) : writeA kind al zs = (decS ((k : Int) + 1), 0) := by
 have : al.findIdx? (fun a => decide (canon a = canon zs)) = some k := by
  rw [List.findIdx?_eq_some_iff_getElem]
  exact ⟨hk, by rw [decide_eq_true_eq]; exact he, fun j hj => by rw [decide_eq_true_eq]; exact hne j (by omega) hj⟩
 rw [writeA, if_neg (by omega), this]
theorem writeA_miss (kind : Int) (al : List (List Int)) (zs : List Int) (h : al.length ≠ 0) (hne : ∀ j (hj : j < al.length), canon al[j] ≠ canon zs) : writeA kind al zs = (⟨#[]⟩, 31) := by
 have : al.findIdx? (fun a => decide (canon a = canon zs)) = none := by
  rw [List.findIdx?_eq_none_iff]
  intro x hx
  obtain ⟨j, hj, rfl⟩ := List.getElem_of_mem hx
  rw [decide_eq_false_iff_not]
  exact hne j hj
 rw [writeA, if_neg h, this]
end Go.Proofs.YtkdajhmlhjkcdaaGreatDoor
namespace Go.Proofs.YtkdajhmlhjkcdaaGreatDoor
open Go.RowKit
theorem mkS_app (a b : List UInt8) : mkS a ++ mkS b = mkS (a ++ b) := by simp [mkS, ByteArray.ext_iff]
theorem join_snoc (ls : List (List UInt8)) (y sep : List UInt8) (h : ls ≠ []) : Lib.join (ls ++ [y]) sep = Lib.join ls sep ++ (sep ++ y) := by
 cases ls with
 | nil => exact absurd rfl h
 | cons l ls =>
  rw [List.cons_append, Lib.join_cons, Lib.join_cons]
  simp [Lib.joinTail]
theorem joinF_snoc (kind : Int) (cs : List Int) (k : Nat) (h : k < cs.length) : joinF kind (cs.take (k + 1)) = joinF kind (cs.take k) ++ ((if k = 0 then [] else sepF kind) ++ textF kind cs[k]) := by
 unfold joinF
 rw [List.take_add_one, List.getElem?_eq_getElem h, List.map_append]
 show Lib.join (List.map (textF kind) (List.take k cs) ++ [textF kind cs[k]]) (sepF kind) = _
 by_cases h0 : k = 0
 ·subst h0
  rw [if_pos rfl]
  simp [Lib.join_one, Lib.join_nil]
 rw [if_neg h0]
 exact join_snoc _ _ _ (by
  intro e
  rcases List.take_eq_nil_iff.1 (List.map_eq_nil_iff.1 e) with e2 | e2
  ·exact h0 e2
  rw [e2] at h; simp at h)
def partF (kind : Int) (cs : List Int) (k : Nat) : ByteArray := mkS (joinF kind (cs.take (if k ≤ 64 then k else 64)))
theorem partF_big (kind : Int) (cs : List Int) (k : Nat) (h : ¬ k < 64) : partF kind cs (k + 1) = partF kind cs k := by
 unfold partF
 rw [if_neg (by omega)]
 by_cases e : k = 64
 ·subst e; rw [if_pos (by omega)]
 rw [if_neg (by omega)]
theorem partF_small (kind : Int) (cs : List Int) (k : Nat) (h : k < 64) (hk : k < cs.length) (s : ByteArray) (hs : s = mkS ((if k = 0 then [] else sepF kind) ++ textF kind cs[k])) : partF kind cs k ++ s = partF kind cs (k + 1) := by
 unfold partF
 rw [if_pos (by omega), if_pos (by omega), hs, mkS_app, joinF_snoc kind cs k hk]
theorem partF_all (kind : Int) (cs : List Int) (h : ¬ 64 < cs.length) : partF kind cs cs.length = mkS (joinF kind cs) := by
 unfold partF
 rw [if_pos (by omega), List.take_length]
theorem partF_size (kind : Int) (cs : List Int) (h : ∀ x ∈ cs, 0 ≤ x ∧ x ≤ 65535) (k : Nat) : (partF kind cs k).size ≤ 1344 := by
 unfold partF
 rw [mkS_size]
 have h1 := joinF_len kind (cs.take (if k ≤ 64 then k else 64)) (fun x hx => h x (List.mem_of_mem_take hx))
 have h2 : (cs.take (if k ≤ 64 then k else 64)).length ≤ 64 := by rw [List.length_take]; split <;> omega
 omega
theorem text_size (kind x : Int) (h0 : 0 ≤ x) (h1 : x ≤ 65535) : (mkS (textF kind x)).size ≤ 20 := by rw [mkS_size]; exact text_len kind x h0 h1
theorem cells_1' (x : Int) (h0 : 0 ≤ x) (h1 : x ≤ 255) : [Value.int .u8 x] = Lib.byteCells (textF 1 x) := by
 rw [← cells_1 x h0, show x % 256 = x by omega]
theorem num_cases (kind x : Int) (h : numF kind (textF kind x) = 0 ∨ numF kind (textF kind x) = x) : (numF kind (textF kind x) = 0 ∧ goodF kind x = false) ∨ (numF kind (textF kind x) = x ∧ x ≠ 0 ∧ goodF kind x = true) := by
 by_cases h0 : numF kind (textF kind x) = 0
 ·exact .inl ⟨h0, good_bad kind x h0⟩
 have h1 := h.resolve_left h0
 have h2 : x ≠ 0 := fun e => h0 (h1.trans e)
 exact .inr ⟨h1, h2, good_is kind x h1 h2⟩
def GoodTo (kind : Int) (cs : List Int) (k : Nat) : Prop := ∀ j (hj : j < cs.length), j < k → goodF kind cs[j] = true
theorem GoodTo.next {kind : Int} {cs : List Int} {k : Nat} (h : GoodTo kind cs k) (hk : k < cs.length) (hg : goodF kind cs[k] = true) : GoodTo kind cs (k + 1) := fun j hj hjk => by
 by_cases e : j = k
 ·subst e; exact hg
 ·exact h j hj (by omega)
def ShowR (kind : Int) (cs : List Int) (w : World) (e : Ending) (w' : World) : Prop := e = .returned (.tuple #[.string (mkS (showF kind cs).1), .int .i64 (showF kind cs).2]) ∧ Below w.heap.size w w'
theorem ShowR.r31 {kind : Int} {cs : List Int} {w w' : World} (hk : kindOk kind = true) (k : Nat) (hk2 : k < cs.length) (h : goodF kind cs[k] = false) (hb : Below w.heap.size w w') : ShowR kind cs w (.returned (.tuple #[.string ⟨#[]⟩, .int .i64 31])) w' :=
 ⟨by rw [show_31 kind cs hk k hk2 h]; rfl, hb⟩
theorem ShowR.r32 {kind : Int} {cs : List Int} {w w' : World} (hk : kindOk kind = true) (h : GoodTo kind cs cs.length) (h64 : 64 < cs.length) (hb : Below w.heap.size w w') : ShowR kind cs w (.returned (.tuple #[.string ⟨#[]⟩, .int .i64 32])) w' :=
 ⟨by rw [show_ok kind cs hk (fun j hj => h j hj hj), if_pos h64]; rfl, hb⟩
theorem ShowR.r0 {kind : Int} {cs : List Int} {w w' : World} (hk : kindOk kind = true) (h : GoodTo kind cs cs.length) (h64 : ¬ 64 < cs.length) (hb : Below w.heap.size w w') : ShowR kind cs w (.returned (.tuple #[.string (partF kind cs cs.length), .int .i64 0])) w' :=
 ⟨by rw [show_ok kind cs hk (fun j hj => h j hj hj), if_neg h64, partF_all kind cs h64], hb⟩
set_option maxHeartbeats 4000000 in
set_option maxRecDepth 100000 in
theorem so_rShow1 (v : Value) (zs : List Int) (w : World) (h : IS w v zs) (hbd : ∀ x ∈ zs, 0 ≤ x ∧ x ≤ 65535) (hbig : zs.length ≤ 4194304) :
  Calls Tryz.prog 61 #[.int .i64 1, v] w (ShowR 1 (canon zs) w) := by
 have hF := Lib.hid h
 have HU := Lib.hid (up_bd hbd)
 have hbd' := canon_bd hbd
 have hcl := canon_le zs
 obtain ⟨cs, hcs⟩ : ∃ cs, canon zs = cs := ⟨_, rfl⟩
 have HCS := Lib.hid hcs
 rw [hcs] at hbd' hcl ⊢
 have HB := Lib.hid hbd'
 clear h hbd hcs hbd'
 obtain ⟨R, hRR⟩ : ∃ R, ShowR 1 cs w = R := ⟨_, rfl⟩
 have HRR := Lib.hid hRR
 rw [hRR]
 clear hRR
 go_enter Tryz.func61, Tryz.ntmps61
 go_wp2_with (go_at_call 92; refine (so_rOf _ zs _ hF.out HU.out (by omega)).mono ?_; rw [HCS.out]; rintro e w1 ⟨v1, rfl, ⟨p1, c1, rfl, _, hs1⟩, b1⟩; have H1 := Lib.hid hs1; have B1 := Lib.hid b1; clear b1 hs1)
 have hsz1 := B1.out.size
 go_loopw [6, 8, 9, 10] (fun o i _ _ wr => ∃ k : Nat, k ≤ cs.length ∧ i = .int .i64 k ∧ o = .string (partF 1 cs k) ∧ Hid (GoodTo 1 cs k) ∧ Hid (Below w.heap.size w wr ∧ Below w1.heap.size w1 wr)) (fun _ i _ _ _ => cs.length - (intOf i).toNat)
 case atStart => exact ⟨0, Nat.zero_le _, rfl, rfl, (fun j _ hj => absurd hj (Nat.not_lt_zero _)), B1.out, Below.refl _ _⟩
 case round =>
 obtain ⟨k, hkk, rfl, rfl, HN, HB2⟩ := hrel
 have hsz2 := HB2.out.1.size
 by_cases hlt : k < cs.length
 ·obtain ⟨b, off, rfl, hc⟩ := H1.out.resolve_left (by omega)
  have c0 := hc k hlt
  have hcell := (HB2.out.2.cell (World.block_lt_of_cell? w1 _ c0)).trans c0
  have ecs : cs.getD k 0 = cs[k] := by simp [List.getD, hlt]
  rw [ecs] at hcell
  obtain ⟨b0, b1⟩ := HB.out cs[k] (List.getElem_mem hlt)
  have H31 := Lib.hid (show ∀ w', Below w.heap.size w w' → goodF 1 (cs[k]'hlt) = false → R (.returned (.tuple #[.string ⟨#[]⟩, .int .i64 31])) w' from fun w' hb hg => by rw [← HRR.out]; exact ShowR.r31 rfl k hlt hg hb)
  have HNX := Lib.hid (HN.out.next hlt)
  have HPS := Lib.hid (show k < 64 → ∀ s, s = mkS ((if k = 0 then [] else sepF 1) ++ textF 1 (cs[k]'hlt)) → partF 1 cs k ++ s = partF 1 cs (k + 1) from fun h64 s hs => partF_small 1 cs k h64 hlt s hs)
  have HBG := Lib.hid (num_1_big cs[k])
  clear hc c0 ecs HN
  generalize cs[k] = x at *
  have hos := partF_size 1 cs HB.out k
  have hss := text_size 1 x b0 b1
  obtain ⟨o1, ho1⟩ : ∃ o1, partF 1 cs k = o1 := ⟨_, rfl⟩
  rw [ho1] at HPS hos ⊢
  have HO1 := Lib.hid ho1
  clear ho1
  by_cases h255 : 255 < x
  ·have hfin := Lib.hid (H31.out _ HB2.out.1 (HBG.out h255))
   go_wp2
   try go_ret2
   exact hfin.out
  have hcv := laid_text wr #[.int .u8 x] 1 (textF 1 x) (by omega) rfl (cells_1' x b0 (by omega))
  have HA := Lib.hid (HB2.out.1.alloc hsz2 (.cells #[.int .u8 x] 5))
  have HA1 := Lib.hid (HB2.out.2.alloc (HB2.out.2.size) (.cells #[.int .u8 x] 5))
  have HZ := Lib.hid (show (mkS (textF 1 x)).size ≤ maxLen by rw [mkS_size]; show 1 ≤ maxLen; decide)
  have HG := Lib.hid (num_cases 1 x (num_1 x b0 (by omega)))
  obtain ⟨s, hs⟩ : ∃ s, mkS (textF 1 x) = s := ⟨_, rfl⟩
  have HS := Lib.hid hs
  rw [hs] at hcv HZ hss
  have HD := Lib.hid (show s.data.toList = textF 1 x by rw [← hs]; rfl)
  clear hs HBG
  rcases HG.out with ⟨hq, hg⟩ | ⟨hq, hx0, hg⟩
  ·have HQ := Lib.hid (show numF 1 s.data.toList = 0 by rw [HD.out]; exact hq)
   have hfin := Lib.hid (fun n => H31.out _ (below_drewN HA.out n) hg)
   clear hq hg HG
   go_wp2_with (go_at_call 91; refine (so_Value 1 s _ (.inl rfl) HZ.out).mono ?_; rw [HQ.out]; rintro e w3 ⟨rfl, n3, rfl⟩)
   try go_ret2
   exact hfin.out _
  have HQ := Lib.hid (show numF 1 s.data.toList = x by rw [HD.out]; exact hq)
  have hx1 : (x == 0) = false := by simpa using hx0
  have HNX2 := Lib.hid (HNX.out hg)
  clear hq hg HG hx0 HNX H31
  by_cases h64 : k < 64
  ·have h64' : (k : Int) < 64 := by omega
   have HP := Lib.hid (HPS.out h64 s (by rw [← HS.out]; by_cases hk0 : k = 0 <;> simp [hk0, sepF]))
   by_cases hk0 : 0 < (k : Int)
   ·go_wp2_with (go_at_call 91; refine (so_Value 1 s _ (.inl rfl) HZ.out).mono ?_; rw [HQ.out]; rintro e w3 ⟨rfl, n3, rfl⟩)
    go_roundw
    case rel => exact ⟨k + 1, by omega, by go_num, by rw [HP.out], HNX2, Lib.hid ⟨below_drewN HA.out _, below_drewN HA1.out _⟩⟩
    case measure => simp [intOf]; omega
   go_wp2_with (go_at_call 91; refine (so_Value 1 s _ (.inl rfl) HZ.out).mono ?_; rw [HQ.out]; rintro e w3 ⟨rfl, n3, rfl⟩)
   go_roundw
   case rel => exact ⟨k + 1, by omega, by go_num, by rw [HP.out], HNX2, Lib.hid ⟨below_drewN HA.out _, below_drewN HA1.out _⟩⟩
   case measure => simp [intOf]; omega
  have h64' : ¬ (k : Int) < 64 := by omega
  have hk0 : 0 < (k : Int) := by omega
  have HP := Lib.hid (partF_big 1 cs k h64)
  go_wp2_with (go_at_call 91; refine (so_Value 1 s _ (.inl rfl) HZ.out).mono ?_; rw [HQ.out]; rintro e w3 ⟨rfl, n3, rfl⟩)
  go_roundw
  case rel => exact ⟨k + 1, by omega, by go_num, by rw [HP.out, HO1.out], HNX2, Lib.hid ⟨below_drewN HA.out _, below_drewN HA1.out _⟩⟩
  case measure => simp [intOf]; omega
 have hke : k = cs.length := by omega
 subst hke
 by_cases h64 : 64 < cs.length
 ·have h64' : (64 : Int) < (cs.length : Int) := by omega
  have hfin := Lib.hid (show R _ wr by rw [← HRR.out]; exact ShowR.r32 rfl HN.out h64 HB2.out.1)
  go_wp2
  try go_ret2
  exact hfin.out
 have h64' : ¬ (64 : Int) < (cs.length : Int) := by omega
 have hfin := Lib.hid (show R _ wr by rw [← HRR.out]; exact ShowR.r0 rfl HN.out h64 HB2.out.1)
 go_wp2
 try go_ret2
 exact hfin.out
end Go.Proofs.YtkdajhmlhjkcdaaGreatDoor
namespace Go.Proofs.YtkdajhmlhjkcdaaGreatDoor
open Go.RowKit
set_option maxHeartbeats 4000000 in
set_option maxRecDepth 100000 in
theorem so_rShow2 (v : Value) (zs : List Int) (w : World) (h : IS w v zs) (hbd : ∀ x ∈ zs, 0 ≤ x ∧ x ≤ 65535) (hbig : zs.length ≤ 4194304) :
  Calls Tryz.prog 61 #[.int .i64 2, v] w (ShowR 2 (canon zs) w) := by
 have hF := Lib.hid h
 have HU := Lib.hid (up_bd hbd)
 have hbd' := canon_bd hbd
 have hcl := canon_le zs
 obtain ⟨cs, hcs⟩ : ∃ cs, canon zs = cs := ⟨_, rfl⟩
 have HCS := Lib.hid hcs
 rw [hcs] at hbd' hcl ⊢
 have HB := Lib.hid hbd'
 clear h hbd hcs hbd'
 obtain ⟨R, hRR⟩ : ∃ R, ShowR 2 cs w = R := ⟨_, rfl⟩
 have HRR := Lib.hid hRR
 rw [hRR]
 clear hRR
 go_enter Tryz.func61, Tryz.ntmps61
 go_wp2_with (go_at_call 92; refine (so_rOf _ zs _ hF.out HU.out (by omega)).mono ?_; rw [HCS.out]; rintro e w1 ⟨v1, rfl, ⟨p1, c1, rfl, _, hs1⟩, b1⟩; have H1 := Lib.hid hs1; have B1 := Lib.hid b1; clear b1 hs1)
 have hsz1 := B1.out.size
 go_loopw [6, 8, 9, 10] (fun o i _ _ wr => ∃ k : Nat, k ≤ cs.length ∧ i = .int .i64 k ∧ o = .string (partF 2 cs k) ∧ Hid (GoodTo 2 cs k) ∧ Hid (Below w.heap.size w wr ∧ Below w1.heap.size w1 wr)) (fun _ i _ _ _ => cs.length - (intOf i).toNat)
 case atStart => exact ⟨0, Nat.zero_le _, rfl, rfl, (fun j _ hj => absurd hj (Nat.not_lt_zero _)), B1.out, Below.refl _ _⟩
 case round =>
 obtain ⟨k, hkk, rfl, rfl, HN, HB2⟩ := hrel
 have hsz2 := HB2.out.1.size
 by_cases hlt : k < cs.length
 ·obtain ⟨b, off, rfl, hc⟩ := H1.out.resolve_left (by omega)
  have c0 := hc k hlt
  have hcell := (HB2.out.2.cell (World.block_lt_of_cell? w1 _ c0)).trans c0
  have ecs : cs.getD k 0 = cs[k] := by simp [List.getD, hlt]
  rw [ecs] at hcell
  obtain ⟨b0, b1⟩ := HB.out cs[k] (List.getElem_mem hlt)
  have H31 := Lib.hid (show ∀ w', Below w.heap.size w w' → goodF 2 (cs[k]'hlt) = false → R (.returned (.tuple #[.string ⟨#[]⟩, .int .i64 31])) w' from fun w' hb hg => by rw [← HRR.out]; exact ShowR.r31 rfl k hlt hg hb)
  have HNX := Lib.hid (HN.out.next hlt)
  have HPS := Lib.hid (show k < 64 → ∀ s, s = mkS ((if k = 0 then [] else sepF 2) ++ textF 2 (cs[k]'hlt)) → partF 2 cs k ++ s = partF 2 cs (k + 1) from fun h64 s hs => partF_small 2 cs k h64 hlt s hs)
  clear hc c0 ecs HN
  generalize cs[k] = x at *
  have hos := partF_size 2 cs HB.out k
  have hss := text_size 2 x b0 b1
  obtain ⟨o1, ho1⟩ : ∃ o1, partF 2 cs k = o1 := ⟨_, rfl⟩
  rw [ho1] at HPS hos ⊢
  have HO1 := Lib.hid ho1
  clear ho1
  have hcv : (convert 154 9 (.slice (some ⟨wr.heap.size, 0, none⟩) 2 2)).run Tryz.prog (wr.alloc (.cells #[.int .u8 (x / 256), .int .u8 (x % 256)] 5)).drew = .ok (.string (mkS (textF 2 x))) (wr.alloc (.cells #[.int .u8 (x / 256), .int .u8 (x % 256)] 5)).drew := laid_text wr.drew #[.int .u8 (x / 256), .int .u8 (x % 256)] 2 (textF 2 x) (by omega) rfl (cells_2 x b0 b1)
  have HA := Lib.hid (HB2.out.1.alloc hsz2 (.cells #[.int .u8 (x / 256), .int .u8 (x % 256)] 5))
  have HA1 := Lib.hid (HB2.out.2.alloc (HB2.out.2.size) (.cells #[.int .u8 (x / 256), .int .u8 (x % 256)] 5))
  have HZ := Lib.hid (show (mkS (textF 2 x)).size ≤ maxLen by rw [mkS_size]; show 2 ≤ maxLen; decide)
  have HG := Lib.hid (num_cases 2 x (num_2 x b0 b1))
  obtain ⟨s, hs⟩ : ∃ s, mkS (textF 2 x) = s := ⟨_, rfl⟩
  have HS := Lib.hid hs
  rw [hs] at hcv HZ hss
  have HD := Lib.hid (show s.data.toList = textF 2 x by rw [← hs]; rfl)
  clear hs
  go_wp2_with fail
  go_region
  rcases HG.out with ⟨hq, hg⟩ | ⟨hq, hx0, hg⟩
  ·have HQ := Lib.hid (show numF 2 s.data.toList = 0 by rw [HD.out]; exact hq)
   have hfin := Lib.hid (fun n => H31.out _ (below_drewN HA.out n) hg)
   clear hq hg HG
   go_wp2_with (go_at_call 91; refine (so_Value 2 s _ (.inr (.inl rfl)) HZ.out).mono ?_; rw [HQ.out]; rintro e w3 ⟨rfl, n3, rfl⟩)
   try go_ret2
   exact hfin.out _
  have HQ := Lib.hid (show numF 2 s.data.toList = x by rw [HD.out]; exact hq)
  have hx1 : (x == 0) = false := by simpa using hx0
  have HNX2 := Lib.hid (HNX.out hg)
  clear hq hg HG hx0 HNX H31
  by_cases h64 : k < 64
  ·have h64' : (k : Int) < 64 := by omega
   have HP := Lib.hid (HPS.out h64 s (by rw [← HS.out]; by_cases hk0 : k = 0 <;> simp [hk0, sepF]))
   by_cases hk0 : 0 < (k : Int)
   ·go_wp2_with (go_at_call 91; refine (so_Value 2 s _ (.inr (.inl rfl)) HZ.out).mono ?_; rw [HQ.out]; rintro e w3 ⟨rfl, n3, rfl⟩)
    go_roundw
    case rel => exact ⟨k + 1, by omega, by go_num, by rw [HP.out], HNX2, Lib.hid ⟨below_drewN HA.out _, below_drewN HA1.out _⟩⟩
    case measure => simp [intOf]; omega
   go_wp2_with (go_at_call 91; refine (so_Value 2 s _ (.inr (.inl rfl)) HZ.out).mono ?_; rw [HQ.out]; rintro e w3 ⟨rfl, n3, rfl⟩)
   go_roundw
   case rel => exact ⟨k + 1, by omega, by go_num, by rw [HP.out], HNX2, Lib.hid ⟨below_drewN HA.out _, below_drewN HA1.out _⟩⟩
   case measure => simp [intOf]; omega
  have h64' : ¬ (k : Int) < 64 := by omega
  have hk0 : 0 < (k : Int) := by omega
  have HP := Lib.hid (partF_big 2 cs k h64)
  go_wp2_with (go_at_call 91; refine (so_Value 2 s _ (.inr (.inl rfl)) HZ.out).mono ?_; rw [HQ.out]; rintro e w3 ⟨rfl, n3, rfl⟩)
  go_roundw
  case rel => exact ⟨k + 1, by omega, by go_num, by rw [HP.out, HO1.out], HNX2, Lib.hid ⟨below_drewN HA.out _, below_drewN HA1.out _⟩⟩
  case measure => simp [intOf]; omega
 have hke : k = cs.length := by omega
 subst hke
 by_cases h64 : 64 < cs.length
 ·have h64' : (64 : Int) < (cs.length : Int) := by omega
  have hfin := Lib.hid (show R _ wr by rw [← HRR.out]; exact ShowR.r32 rfl HN.out h64 HB2.out.1)
  go_wp2
  try go_ret2
  exact hfin.out
 have h64' : ¬ (64 : Int) < (cs.length : Int) := by omega
 have hfin := Lib.hid (show R _ wr by rw [← HRR.out]; exact ShowR.r0 rfl HN.out h64 HB2.out.1)
 go_wp2
 try go_ret2
 exact hfin.out
end Go.Proofs.YtkdajhmlhjkcdaaGreatDoor
