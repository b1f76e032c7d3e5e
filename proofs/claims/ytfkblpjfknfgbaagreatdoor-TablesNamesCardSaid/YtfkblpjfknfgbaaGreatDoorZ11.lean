/-
  Parts of the proof: DC3, DC4, DC5, DC6, DC7.
-/
import Derived.BigQuiet
import Derived.Test.YtfkblpjfknfgbaaGreatDoorRows
import Derived.Test.YtfkblpjfknfgbaaGreatDoorZ6
import Derived.Test.YtfkblpjfknfgbaaGreatDoorZ4
import Derived.Test.YtfkblpjfknfgbaaGreatDoorZ10
import Derived.Test.YtfkblpjfknfgbaaGreatDoorZ8
import Derived.Test.YtfkblpjfknfgbaaGreatDoorZ5
set_option linter.unusedVariables false
set_option linter.unusedSimpArgs false
namespace Go.Proofs.YtfkblpjfknfgbaaGreatDoor
open Go.RowKit Go.Maps
def EntP (r : Except Int En) (w : World) (e : Ending) (w' : World) : Prop := Below w.heap.size w w' ∧ match r with
  | .error c => e = .returned (.tuple #[.agg #[.string ⟨#[]⟩, .slice none 0 0], .int .i64 c])
  | .ok x => ∃ v, e = .returned (.tuple #[.agg #[.string x.1, v], .int .i64 0]) ∧ FN w.heap.size w' v x.2
structure EW (w W : World) (F : Fl) (l : Int) (fv : Value) : Prop where
  base : Below w.heap.size w W
  spec : W.heap[w.heap.size]? = some (.cells #[.int .u16 F.s0, .int .u16 F.s1, .int .u16 F.s2, .int .u16 F.s3, .int .u16 F.s4] 77 (0, 0))
  row : W.heap[w.heap.size + 1]? = some (.cells #[.int .i64 l, fv] 133 (0, 0))
  res : W.heap[w.heap.size + 2]? = some (.cells #[.string ⟨#[]⟩, .slice none 0 0] 35 (0, 0))
section
variable {w W W' : World} {F : Fl} {l : Int} {fv : Value}
theorem EW.start (w : World) (F : Fl) (l : Int) (fv : Value) : EW w (((w.alloc (.cells #[.int .u16 F.s0, .int .u16 F.s1, .int .u16 F.s2, .int .u16 F.s3, .int .u16 F.s4] 77)).alloc (.cells #[.int .i64 l, fv] 133)).alloc (.cells #[.string ⟨#[]⟩, .slice none 0 0] 35)) F l fv := by
  obtain ⟨w1, hw1⟩ : ∃ W, w.alloc (.cells #[.int .u16 F.s0, .int .u16 F.s1, .int .u16 F.s2, .int .u16 F.s3, .int .u16 F.s4] 77) = W := ⟨_, rfl⟩
  have s1 : w1.heap.size = w.heap.size + 1 := by rw [← hw1]; simp
  have b1 : Below w.heap.size w w1 := by rw [← hw1]; exact (Below.refl _ _).alloc (Nat.le_refl _) _
  have f1 : w1.heap[w.heap.size]? = some (.cells #[.int .u16 F.s0, .int .u16 F.s1, .int .u16 F.s2, .int .u16 F.s3, .int .u16 F.s4] 77 (0, 0)) := by rw [← hw1]; exact heap_alloc_new w _
  rw [hw1]
  obtain ⟨w2, hw2⟩ : ∃ W, w1.alloc (.cells #[.int .i64 l, fv] 133) = W := ⟨_, rfl⟩
  have s2 : w2.heap.size = w.heap.size + 2 := by rw [← hw2]; simp [s1]
  have b2 : Below w1.heap.size w1 w2 := by rw [← hw2]; exact (Below.refl _ _).alloc (Nat.le_refl _) _
  have f2 : w2.heap[w.heap.size + 1]? = some (.cells #[.int .i64 l, fv] 133 (0, 0)) := by rw [← hw2, ← s1]; exact heap_alloc_new w1 _
  rw [hw2]
  have b3 : Below w2.heap.size w2 (w2.alloc (.cells #[.string ⟨#[]⟩, .slice none 0 0] 35)) := (Below.refl _ _).alloc (Nat.le_refl _) _
  exact ⟨(b1.trans (b2.mono (by omega))).trans (b3.mono (by omega)), (b3.block _ (by omega)).trans ((b2.block _ (by omega)).trans f1), (b3.block _ (by omega)).trans f2, by rw [← s2]; exact heap_alloc_new w2 _⟩
theorem EW.size (h : EW w W F l fv) : w.heap.size + 3 ≤ W.heap.size := block_lt h.res
theorem EW.below (h : EW w W F l fv) (hb : Below W.heap.size W W') : EW w W' F l fv :=
  ⟨h.base.trans (hb.mono h.base.size), (hb.block _ (block_lt h.spec)).trans h.spec, (hb.block _ (block_lt h.row)).trans h.row, (hb.block _ (block_lt h.res)).trans h.res⟩
theorem EW.r0 (h : EW w W F l fv) : W.cell? ⟨w.heap.size + 2, 0, none⟩ = some (.string ⟨#[]⟩) := Lib.cell_of_heap h.res 0
theorem EW.r1 (h : EW w W F l fv) : W.cell? ⟨w.heap.size + 2, 1, none⟩ = some (.slice none 0 0) := Lib.cell_of_heap h.res 1
theorem EW.z (h : EW w W F l fv) (j : Nat) : W.frozen? ⟨w.heap.size + 2, j, none⟩ = false := Lib.frozen_of_heap h.res j
theorem EW.f1 (h : EW w W F l fv) : W.cell? ⟨w.heap.size + 1, 1, none⟩ = some fv := Lib.cell_of_heap h.row 1
theorem EW.fs (h : EW w W F l fv) : FS W (.slice (some ⟨w.heap.size, 0, none⟩) 5 5) [F.s0, F.s1, F.s2, F.s3, F.s4] :=
  ⟨_, 5, rfl, by simp, .inr ⟨w.heap.size, 0, rfl, fun j hj => by
    rw [Nat.zero_add, Lib.cell_of_heap h.spec]
    rcases j with _ | _ | _ | _ | _ | j
    all_goals first | rfl | (simp only [List.length_cons, List.length_nil] at hj; omega)⟩⟩
theorem EW.done (h : EW w W F l fv) (u v : Value) : Below w.heap.size w ((W.setCell ⟨w.heap.size + 2, 0, none⟩ u).setCell ⟨w.heap.size + 2, 1, none⟩ v) := (h.base.setCell (by simp) _).setCell (by simp) _
end
theorem FileAt.dfile {w : World} {fb : Nat} {F : Fl} (h : FileAt w fb F) (hok : FlOk F) : ∃ av us, FileF w fb F.kind av us F.als := by
  obtain ⟨i, v, n, h0, h1, -, -, ⟨us, h2, h3, h4⟩, -⟩ := h.mem
  exact ⟨v.als, us, by rw [Lib.cell_of_heap h1]; rfl, by rw [Lib.cell_of_heap h1]; rfl, h2, h4, fun a ha => ⟨(hok.sets a ha).1, canon_len (hok.sets a ha).1 (hok.sets a ha).2⟩⟩
theorem FileAt.dcls {w : World} {fb : Nat} {F : Fl} (h : FileAt w fb F) : ClsF w fb F.cls := by
  obtain ⟨i, v, n, h0, h1, h2, -, -, h3, -⟩ := h.mem
  exact ⟨⟨i.mb, n, by rw [Lib.cell_of_heap h1]; rfl, h2⟩, ⟨v.cls, by rw [Lib.cell_of_heap h1]; rfl, h3⟩⟩
theorem so_dFlags (fb : Nat) (F : Fl) (s : ByteArray) (m0 : Int) (w : World) (h : FileAt w fb F) (hok : FlOk F) (hs : s.size ≤ 1048576) (hm : w.cell? ⟨0, 0, none⟩ = some (.int .i64 m0)) :
    Calls Tryz.prog 34 #[.pointer (some ⟨fb, 0, none⟩), .string s] w fun e w' => ∃ v, e = .returned (.tuple #[v, .int .i64 (flagsR F s).2]) ∧ FN w.heap.size w' v (flagsR F s).1 ∧ Below w.heap.size w w' := by
  obtain ⟨av, us, hf⟩ := h.dfile hok
  have := so_fileFlags fb F.kind m0 av us F.als s w hf hok.als (by omega) hm
  rw [← flagsR_eq] at this
  exact this
theorem definedB_is (F : Fl) (x : Int) : definedB F x = ((F.cls.find? (fun c => c.flag == x)).isSome || [F.s0, F.s1, F.s2, F.s3, F.s4].contains x) := by
  unfold definedB findC
  simp only [List.contains_cons, List.contains_nil, Bool.or_false, Bool.beq_comm]
  have hc : ∀ a : Int, (x == a) = (a == x) := fun a => Bool.beq_comm ..
  simp only [hc]
  cases (F.cls.find? (fun c => c.flag == x)).isSome <;> simp [Bool.or_assoc]
set_option maxHeartbeats 8000000 in
set_option maxRecDepth 100000 in
theorem so_dentry (fb : Nat) (F : Fl) (l : Int) (fv : Value) (row : List ByteArray) (m0 : Int) (w : World) (hf : FileAt w fb F) (hok : FlOk F) (hr : Rd w 1 fv row.length (strV row)) (hs : ∀ j, (fieldAt row j).size ≤ 65536) (hn : row.length ≤ 9223372036854775807)
    (hm : w.cell? ⟨0, 0, none⟩ = some (.int .i64 m0)) :
    Calls Tryz.prog 50 #[.pointer (some ⟨fb, 0, none⟩), .agg #[.int .u16 F.s0, .int .u16 F.s1, .int .u16 F.s2, .int .u16 F.s3, .int .u16 F.s4], .agg #[.int .i64 l, fv]] w (EntP (entR F row) w) := by
  obtain ⟨-, A, cp, rfl, hcap, hcells⟩ := hr
  have HE := Lib.hid (EW.start w F l (.slice A row.length cp))
  obtain ⟨wA, hwA⟩ : ∃ W, (((w.alloc (.cells #[.int .u16 F.s0, .int .u16 F.s1, .int .u16 F.s2, .int .u16 F.s3, .int .u16 F.s4] 77)).alloc (.cells #[.int .i64 l, .slice A row.length cp] 133)).alloc (.cells #[.string ⟨#[]⟩, .slice none 0 0] 35)) = W := ⟨_, rfl⟩
  rw [hwA] at HE
  have HFl : Hid (∀ W s, Below w.heap.size w W → s.size ≤ 1048576 → Calls Tryz.prog 34 #[.pointer (some ⟨fb, 0, none⟩), .string s] W fun e w' => ∃ v, e = .returned (.tuple #[v, .int .i64 (flagsR F s).2]) ∧ FN W.heap.size w' v (flagsR F s).1 ∧ Below W.heap.size W w') := Lib.hid (fun W s hW h => so_dFlags fb F s m0 W (hf.keep hW) hok h ((hW.cell (World.block_lt_of_cell? _ _ hm)).trans hm))
  have HCl : Hid (∀ W x, Below w.heap.size w W → 0 ≤ x ∧ x ≤ 65535 → Calls Tryz.prog 38 #[.pointer (some ⟨fb, 0, none⟩), .int .u16 x] W fun e w' => e = .returned (clsP (F.cls.find? (fun c => c.flag == x))) ∧ Below W.heap.size W w') := Lib.hid (fun W x hW hx => so_Class fb F.cls x W (hf.dcls.later hW) hx hok.cls)
  have HOk := Lib.hid hok
  have e1 := HE.out.f1
  have q0 := HE.out.r0
  have q1 := HE.out.r1
  have y0 := HE.out.z 0
  have y1 := HE.out.z 1
  by_cases h1 : row.length = 1
  · obtain ⟨g, o, rfl, hc⟩ := hcells.resolve_left (by omega)
    have hx : (strV row)[0]? = some (.string (fieldAt row 0)) := by
      match row, h1 with
      | [f], _ => rfl
    have c1 := hc 0 _ hx
    rw [Nat.add_zero] at c1
    have d1 := (HE.out.base.cell (World.block_lt_of_cell? _ _ c1)).trans c1
    have hfs := hs 0
    have hx2 : entR F row = match wordR (fieldAt row 0).data.toList with | (w, rest, cut, e) => if e ≠ 0 then .error e else enWord F w rest cut := by rw [entR, if_neg (by omega)]
    have HWd : Hid (∀ W, Calls Tryz.prog 84 #[.string (fieldAt row 0)] W fun e w' => e = .returned (wordV (wordR (fieldAt row 0).data.toList)) ∧ Below W.heap.size W w') := Lib.hid (fun W => so_wread (fieldAt row 0) W (by omega))
    have hwl := wordR_len (fieldAt row 0).data.toList
    obtain ⟨⟨wd, rest, cut, ec⟩, hwr⟩ : ∃ r, wordR (fieldAt row 0).data.toList = r := ⟨_, rfl⟩
    rw [hwr] at HWd hx2 hwl
    unfold wordV at HWd
    dsimp only at HWd hx2 hwl
    have hl1 : wd.length ≤ 65536 ∧ rest.length ≤ 65536 := by have e : (fieldAt row 0).data.toList.length = (fieldAt row 0).size := (by simp); omega
    obtain ⟨hl1, hl2⟩ := hl1
    obtain ⟨R, hR⟩ : ∃ R, entR F row = R := ⟨_, rfl⟩
    rw [hR] at hx2 ⊢
    rw [h1] at e1 hcap
    generalize fieldAt row 0 = f at *
    clear hcells hc hx c1 hs hn h1 hwl hwr hR hfs hm hf hok
    by_cases hec : ec = 0
    · subst hec
      rw [if_neg (by simp)] at hx2
      have hsz : (mkS wd).size = wd.length := mkS_size wd
      have hrs : (mkS rest).size ≤ 1048576 := by rw [mkS_size]; omega
      have HE0 : Hid (wd = [] → R = .error 21) := Lib.hid (fun h => by rw [hx2, enWord, if_pos (.inl h)])
      have HEf : Hid (fitAll (mkS wd) = false → R = .error 21) := Lib.hid (fun h => by rw [hx2, enWord, if_pos (.inr h)])
      have HE6 : Hid (wd ≠ [] → fitAll (mkS wd) = true → 64 < wd.length → R = .error 22) := Lib.hid (fun h h2 h3 => by rw [hx2, enWord, if_neg (by rw [h2]; simp [h]), if_pos h3])
      have HEc : Hid (wd ≠ [] → fitAll (mkS wd) = true → ¬ 64 < wd.length → cut = false → R = .ok (mkS wd, [])) := Lib.hid (fun h h2 h3 h4 => by rw [hx2, enWord, if_neg (by rw [h2]; simp [h]), if_neg h3, if_pos h4])
      have HEg : Hid (wd ≠ [] → fitAll (mkS wd) = true → ¬ 64 < wd.length → cut = true → R = if (flagsR F (mkS rest)).2 ≠ 0 then .error (flagsR F (mkS rest)).2 else if (flagsR F (mkS rest)).1.all (definedB F) = true then .ok (mkS wd, (flagsR F (mkS rest)).1) else .error 120) := Lib.hid (fun h h2 h3 h4 => by rw [hx2, enWord, if_neg (by rw [h2]; simp [h]), if_neg h3, if_neg (by rw [h4]; simp), enFlags])
      have HWn : Hid (wd = [] → mkS wd = ⟨#[]⟩) := Lib.hid (fun h => by rw [h]; rfl)
      have hbd1 := flagsR_bd F (mkS rest) (fun a ha => (HOk.out.sets a ha).2)
      have hbd2 := canon_len (flagsR_canon F (mkS rest) (fun a ha => (HOk.out.sets a ha).1)) hbd1
      have HFg : Hid (∀ W, Below w.heap.size w W → Calls Tryz.prog 34 #[.pointer (some ⟨fb, 0, none⟩), .string (mkS rest)] W fun e w' => ∃ v, e = .returned (.tuple #[v, .int .i64 (flagsR F (mkS rest)).2]) ∧ FN W.heap.size w' v (flagsR F (mkS rest)).1 ∧ Below W.heap.size W w') := Lib.hid (fun W hW => HFl.out W _ hW hrs)
      obtain ⟨⟨zs, fc⟩, hz⟩ : ∃ r, flagsR F (mkS rest) = r := ⟨_, rfl⟩
      rw [hz] at HEg HFg hbd1 hbd2
      dsimp only at HEg HFg hbd1 hbd2
      generalize mkS rest = rs at *
      generalize mkS wd = s at *
      have HBd := Lib.hid hbd1
      clear hx2 hrs hz HFl hl2 hbd1 HOk
      go_enter Tryz.func50, Tryz.ntmps50
      go_wp2_with (go_at_call 84; refine (HWd.out _).mono ?_; rintro e w2 ⟨rfl, hb⟩; have HE2 := Lib.hid (HE.out.below hb); clear hb q0 q1 y0 y1)
      have q0 := HE2.out.r0
      have q1 := HE2.out.r1
      have y0 := HE2.out.z 0
      have y1 := HE2.out.z 1
      go_loop [12, 39] (fun _ i => ∃ k : Nat, k ≤ s.size ∧ i = .int .i64 k ∧ Hid ((s.data.toList.take k).all fitB = true)) (fun _ i => s.size - (intOf i).toNat)
      case atStart => exact ⟨0, Nat.zero_le _, rfl, Lib.hid rfl⟩
      case round =>
      obtain ⟨k, hk, rfl, HT⟩ := hrel
      by_cases hlt : k < s.size
      · cases hfb : fitB s[k]
        · have HN := Lib.hid (HEf.out (all_no s k hlt hfb))
          have HF := Lib.hid hfb
          clear hfb
          go_wp2_with (go_at_call 85; refine (Valid_one s k hlt _).mono ?_; rw [HF.out]; rintro e w' ⟨rfl, rfl⟩)
          refine bodyPost_ret (v := .tuple #[.agg #[.string ⟨#[]⟩, .slice none 0 0], .int .i64 21]) (by simp [results, Tryz.results50, go_sem, q0, q1]; try rfl) rfl ?_
          rw [HN.out]
          exact ⟨HE2.out.done _ _, rfl⟩
        have HN := Lib.hid (all_take s k hlt hfb HT.out)
        have HF := Lib.hid hfb
        clear hfb
        go_wp2_with (go_at_call 85; refine (Valid_one s k hlt _).mono ?_; rw [HF.out]; rintro e w' ⟨rfl, rfl⟩)
        go_roundw
        case rel => exact ⟨k + 1, by omega, by go_num, HN⟩
        case measure => simp [intOf]; omega
      obtain rfl : k = s.size := by omega
      have HFa := Lib.hid (all_full s HT.out)
      by_cases h0 : wd = []
      · have HN := Lib.hid (HE0.out h0)
        have hse := HWn.out h0
        subst hse
        clear h0
        go_wp2_with fail
        refine bodyPost_ret (v := .tuple #[.agg #[.string ⟨#[]⟩, .slice none 0 0], .int .i64 21]) (by simp [results, Tryz.results50, go_sem, q0, q1]; try rfl) rfl ?_
        rw [HN.out]
        exact ⟨HE2.out.done _ _, rfl⟩
      have hne := notEmpty s (by have := List.length_pos_iff.2 h0; omega)
      have H0 := Lib.hid h0
      by_cases h64 : 64 < s.size
      · have h64i : (64 : Int) < (s.size : Int) := by omega
        have HN := Lib.hid (HE6.out h0 HFa.out (by omega))
        clear h0
        go_wp2_with fail
        refine bodyPost_ret (v := .tuple #[.agg #[.string ⟨#[]⟩, .slice none 0 0], .int .i64 22]) (by simp [results, Tryz.results50, go_sem, q0, q1]; try rfl) rfl ?_
        rw [HN.out]
        exact ⟨HE2.out.done _ _, rfl⟩
      have h64i : ¬ (64 : Int) < (s.size : Int) := by omega
      cases cut
      · have HN := Lib.hid (HEc.out h0 HFa.out (by omega) rfl)
        clear h0
        go_wp2_with fail
        refine bodyPost_ret (v := .tuple #[.agg #[.string s, .slice none 0 0], .int .i64 0]) (by simp [results, Tryz.results50, go_sem, q0, q1]; try rfl) rfl ?_
        rw [HN.out]
        exact ⟨HE2.out.done _ _, _, rfl, FN.nil _ _ _ _⟩
      have HG := Lib.hid (HEg.out h0 HFa.out (by omega) rfl)
      clear h0 q0 q1 y0 y1
      go_wp2_with fail
      refine (HFg.out w2 HE2.out.base).mono ?_
      rintro e w3 ⟨v3, rfl, hfn, hb3⟩
      have HE3 := Lib.hid (HE2.out.below hb3)
      have HFN := Lib.hid hfn
      obtain ⟨p3, c3, rfl⟩ : ∃ p c, v3 = .slice p zs.length c := by obtain ⟨p, c, hv, -⟩ := hfn; exact ⟨p, c, hv⟩
      clear hfn hb3
      have q0 := HE3.out.r0
      have q1 := HE3.out.r1
      have y0 := HE3.out.z 0
      have y1 := HE3.out.z 1
      by_cases hfc : fc = 0
      · subst hfc
        rw [if_neg (by simp)] at HG
        clear q0 q1 y0 y1
        go_wp2_with fail
        go_loopw [15, 17, 77] (fun _ _ i wr => ∃ k : Nat, k ≤ zs.length ∧ i = .int .i64 k ∧ Hid (Below w3.heap.size w3 wr) ∧ Hid (∀ j (hj : j < zs.length), j < k → definedB F zs[j] = true)) (fun _ _ i _ => zs.length - (intOf i).toNat)
        case atStart => exact ⟨0, Nat.zero_le _, rfl, Lib.hid (Below.refl _ _), Lib.hid (fun j _ hj => absurd hj (Nat.not_lt_zero _))⟩
        case round =>
        obtain ⟨k2, hk2, rfl, HBk, HD⟩ := hrel
        have HEk := Lib.hid (HE3.out.below HBk.out)
        by_cases hlz : k2 < zs.length
        · obtain ⟨p', c', hv, hcp, hrow⟩ := HFN.out.fs
          cases hv
          obtain ⟨g2, o2, rfl, hc2⟩ := hrow.resolve_left (by omega)
          have c2 := hc2 k2 hlz
          have e2 : zs.getD k2 0 = zs[k2] := by simp [List.getD, hlz]
          rw [e2] at c2
          have d2 := (HBk.out.cell (World.block_lt_of_cell? _ _ c2)).trans c2
          obtain ⟨b0, b1⟩ := HBd.out zs[k2] (List.getElem_mem hlz)
          have HDe := Lib.hid (definedB_is F zs[k2])
          have HCk := Lib.hid (HCl.out wr zs[k2] HEk.out.base ⟨b0, b1⟩)
          have HNx : Hid (definedB F zs[k2] = true → ∀ j (hj : j < zs.length), j < k2 + 1 → definedB F zs[j] = true) := Lib.hid (fun he j hj hjk => by
            by_cases e : j = k2
            · subst e; exact he
            exact HD.out j hj (by omega))
          have HBad : Hid (definedB F zs[k2] = false → R = .error 120) := Lib.hid (fun he => by
            rw [HG.out, if_neg]
            intro ha
            rw [List.all_eq_true.1 ha _ (List.getElem_mem hlz)] at he
            cases he)
          generalize zs[k2] = x at *
          unfold clsP clsV at HCk
          generalize F.cls.find? (fun c => c.flag == x) = oc at *
          clear c2 e2 hc2 hrow hcp
          cases oc with
          | some c =>
            dsimp only [Option.getD_some, Option.isSome_some, Bool.true_or] at HCk HDe
            have HNy := Lib.hid (HNx.out HDe.out)
            go_wp2_with (go_at_call 38; refine HCk.out.mono ?_; rintro e w5 ⟨rfl, hb5⟩; have HB5 := Lib.hid (HBk.out.trans (hb5.mono HBk.out.size)); clear hb5)
            go_roundw
            case rel => exact ⟨k2 + 1, by omega, by go_num, Lib.hid (HB5.out.alloc HB5.out.size _), HNy⟩
            case measure => simp [intOf]; omega
          | none =>
            dsimp only [Option.getD_none, Option.isSome_none, Bool.false_or, noCl] at HCk HDe
            have HCt : Hid (∀ W, Below wr.heap.size wr W → Calls Tryz.prog 86 #[.slice (some ⟨w.heap.size, 0, none⟩) 5 5, .int .u16 x] W fun e w' => e = .returned (.bool ([F.s0, F.s1, F.s2, F.s3, F.s4].contains x)) ∧ w' = W) := Lib.hid (fun W hW => so_ContainsL _ _ x W (HEk.out.below hW).fs (by simp))
            generalize [F.s0, F.s1, F.s2, F.s3, F.s4].contains x = ct at *
            go_wp2_with fail
            refine HCk.out.mono ?_
            rintro e w5 ⟨rfl, hb5⟩
            have HL5 := Lib.hid (hb5.alloc hb5.size (.cells #[.int .u16 0, .int .i64 0, .bool false, .int .i64 0, .int .i64 0] 99))
            have HC5 := Lib.hid (HCt.out _ HL5.out)
            have HE5 := Lib.hid (HEk.out.below HL5.out)
            clear hb5
            cases ct
            · have HN := Lib.hid (HBad.out HDe.out)
              have q0 := HE5.out.r0
              have q1 := HE5.out.r1
              have y0 := HE5.out.z 0
              have y1 := HE5.out.z 1
              go_wp2_with (go_at_call 86; refine HC5.out.mono ?_; rintro e w6 ⟨rfl, rfl⟩)
              refine bodyPost_ret (v := .tuple #[.agg #[.string ⟨#[]⟩, .slice none 0 0], .int .i64 120]) (by simp [results, Tryz.results50, go_sem, q0, q1]; try rfl) rfl ?_
              rw [HN.out]
              exact ⟨HE5.out.done _ _, rfl⟩
            have HNy := Lib.hid (HNx.out HDe.out)
            go_wp2_with (go_at_call 86; refine HC5.out.mono ?_; rintro e w6 ⟨rfl, rfl⟩)
            go_roundw
            case rel => exact ⟨k2 + 1, by omega, by go_num, Lib.hid (HBk.out.trans (HL5.out.mono HBk.out.size)), HNy⟩
            case measure => simp [intOf]; omega
        obtain rfl : k2 = zs.length := by omega
        have HN : Hid (R = .ok (s, zs)) := Lib.hid (by
          rw [HG.out, if_pos]
          rw [List.all_eq_true]
          intro x hx
          obtain ⟨j, hj, rfl⟩ := List.mem_iff_getElem.1 hx
          exact HD.out j hj hj)
        have q0 := HEk.out.r0
        have q1 := HEk.out.r1
        have y0 := HEk.out.z 0
        have y1 := HEk.out.z 1
        have HFk : Hid (∀ u v, FN w.heap.size ((wr.setCell ⟨w.heap.size + 2, 0, none⟩ u).setCell ⟨w.heap.size + 2, 1, none⟩ v) (.slice p3 zs.length c3) zs) := Lib.hid (fun u v => (HFN.out.kept (X := [w.heap.size + 2]) (((Kept.of_below HBk.out).set _ _ _ (.inl (by simp))).set _ _ _ (.inl (by simp))) (by intro x hx; have := HE2.out.size; simp at hx; omega)).mono (by have := HE2.out.size; omega))
        go_wp2_with fail
        refine bodyPost_ret (v := .tuple #[.agg #[.string s, .slice p3 zs.length c3], .int .i64 0]) (by simp [results, Tryz.results50, go_sem, q0, q1]; try rfl) rfl ?_
        rw [HN.out]
        exact ⟨HEk.out.done _ _, _, rfl, HFk.out _ _⟩
      have hf1 : (fc != 0) = true := by rw [bne_iff_ne]; exact hfc
      rw [if_pos hfc] at HG
      go_wp2_with fail
      refine bodyPost_ret (v := .tuple #[.agg #[.string ⟨#[]⟩, .slice none 0 0], .int .i64 fc]) (by simp [results, Tryz.results50, go_sem, q0, q1]; try rfl) rfl ?_
      rw [HG.out]
      exact ⟨HE3.out.done _ _, rfl⟩
    have hec1 : (ec != 0) = true := by rw [bne_iff_ne]; exact hec
    rw [if_pos hec] at hx2
    subst hx2
    go_enter Tryz.func50, Tryz.ntmps50
    go_wp2_with (go_at_call 84; refine (HWd.out _).mono ?_; rintro e w2 ⟨rfl, hb⟩; have HE2 := Lib.hid (HE.out.below hb); clear hb q0 q1 y0 y1; have q0 := HE2.out.r0; have q1 := HE2.out.r1; have y0 := HE2.out.z 0; have y1 := HE2.out.z 1)
    refine bodyPost_ret (v := .tuple #[.agg #[.string ⟨#[]⟩, .slice none 0 0], .int .i64 ec]) (by simp [results, Tryz.results50, go_sem, q0, q1]; try rfl) rfl ?_
    exact ⟨HE2.out.done _ _, rfl⟩
  have h1' : ((row.length : Int) != 1) = true := by rw [bne_iff_ne]; omega
  have HX : Hid (entR F row = .error 111) := Lib.hid (by rw [entR, if_pos h1])
  rw [HX.out]
  clear hcells hs h1 HX hm hf hok
  go_enter Tryz.func50, Tryz.ntmps50
  go_wp2_with fail
  refine bodyPost_ret (v := .tuple #[.agg #[.string ⟨#[]⟩, .slice none 0 0], .int .i64 111]) (by simp [results, Tryz.results50, go_sem, q0, q1]; try rfl) rfl ?_
  exact ⟨HE.out.done _ _, rfl⟩
end Go.Proofs.YtfkblpjfknfgbaaGreatDoor
namespace Go.Proofs.YtfkblpjfknfgbaaGreatDoor
open Go.RowKit Go.Maps Go.WideMaps
def slE : Value → Option (DataW Unit × List MemPlace)
  | .slice none 0 0 => some (.agg [], [])
  | .slice (some ⟨g, 0, none⟩) n c => some (.agg [.lit (.int .i64 (g : Nat)), .lit (.int .i64 (n : Nat)), .lit (.int .i64 (c : Nat))], [])
  | _ => none
def slD : Value → DataW Unit
  | .slice (some ⟨g, _, _⟩) n c => .agg [.lit (.int .i64 (g : Nat)), .lit (.int .i64 (n : Nat)), .lit (.int .i64 (c : Nat))]
  | _ => .agg []
def SlV (v : Value) : Prop := v = .slice none 0 0 ∨ ∃ g n c, v = .slice (some ⟨g, 0, none⟩) n c
theorem slE_mk {v : Value} (h : SlV v) : slE v = some (slD v, []) := by
  rcases h with rfl | ⟨g, n, c, rfl⟩ <;> rfl
theorem slE_inv {u v : Value} {ps : List MemPlace} (h : SlV v) (hE : slE u = some (slD v, ps)) : u = v := by
  unfold slE at hE
  split at hE
  · rcases h with rfl | ⟨g, n, c, rfl⟩
    · rfl
    simp [slD] at hE
  · rename_i g' n' c'
    rcases h with rfl | ⟨g, n, c, rfl⟩
    · simp [slD] at hE
    simp [slD] at hE
    obtain ⟨⟨h1, h2, h3⟩, -⟩ := hE
    have e1 : g' = g := by omega
    have e2 : n' = n := by omega
    have e3 : c' = c := by omega
    subst e1 e2 e3
    rfl
  cases hE
theorem SlV.own {w : World} {B e n : Nat} {v : Value} {xs : List Value} (h : w.ownsRow B e 1 v n xs) : SlV v := by
  rcases h.2 with ⟨rfl, -⟩ | ⟨g, cap, cur, rfl, _⟩
  · exact .inl rfl
  exact .inr ⟨g, n, cap, rfl⟩
def updS {α : Type} (f : ByteArray → α) (s : ByteArray) (v : α) : ByteArray → α := fun u => if u = s then v else f u
theorem updS_same {α : Type} (f : ByteArray → α) (s : ByteArray) (v : α) : updS f s v s = v := if_pos rfl
theorem updS_other {α : Type} (f : ByteArray → α) {s u : ByteArray} (v : α) (h : u ≠ s) : updS f s v u = f u := if_neg h
structure FndM (B : Nat) (w : World) (mb n : Nat) (hd : ByteArray → Value) (ix : ByteArray → List Int) : Prop where
  map : ∃ D : DataW Unit, w.ownsMap Tryz.prog 9 slE mb n D ∧ ∀ s : ByteArray, D.atKey (litS s) (.agg []) = slD (hd s)
  rows : ∀ s, w.ownsRow B 3 1 (hd s) (ix s).length ((ix s).map (Value.int .i64))
  apart : ∀ s s' g, s ≠ s' → (hd s).ownBlock = some g → (hd s').ownBlock ≠ some g
  le : ∀ s, (ix s).length ≤ n
theorem FndM.made (w : World) : FndM (w.heap.size + 1) (w.alloc (.map #[] 0)) w.heap.size 0 (fun _ => .slice none 0 0) (fun _ => []) :=
  ⟨⟨_, World.ownsMap_made _ _ _ _, fun _ => rfl⟩, fun _ => World.ownsRow_nil _ _ _ _, fun _ _ _ _ h => by simp [Value.ownBlock] at h, fun _ => Nat.zero_le _⟩
theorem FndM.kept {B : Nat} {X : List Nat} {w w' : World} {mb n : Nat} {hd : ByteArray → Value} {ix : ByteArray → List Int} (h : FndM B w mb n hd ix) (hk : Kept X w w') (hm : mb ∉ X) (hr : ∀ s g, (hd s).ownBlock = some g → g ∉ X) : FndM B w' mb n hd ix := by
  obtain ⟨D, ⟨es, clock, hb, F, hs, hD⟩, h2⟩ := h.map
  exact ⟨⟨D, ⟨es, clock, hk.at hb hm, F, hs, hD⟩, h2⟩, fun s => hk.own (h.rows s) (fun g hg => hr s g hg), h.apart, h.le⟩
theorem FndM.look {B : Nat} {w : World} {mb n : Nat} {hd : ByteArray → Value} {ix : ByteArray → List Int} (h : FndM B w mb n hd ix) (s : ByteArray) (hs : s.size ≤ maxLen) (hz : (zeroValue 39).run Tryz.prog w = .ok (.slice none 0 0) w) :
    (Instr.lookup 134 (.map (some mb)) (.string s) false).run Tryz.prog w = .ok (hd s) w := by
  obtain ⟨D, hD, h2⟩ := h.map
  obtain ⟨v, ps, hrun, hv⟩ := hD.lookup law_string Tryz.underlying134 hz (zd := .agg []) (zp := []) rfl (keyOf_string_mk Tryz.underlying9 hs)
  rw [h2 s] at hv
  rw [hrun, slE_inv (SlV.own (h.rows s)) hv]
theorem litS_inj {s u : ByteArray} (h : litS s = litS u) : s = u := by
  injection h with e
  obtain ⟨⟨a⟩⟩ := s
  obtain ⟨⟨b⟩⟩ := u
  simp at e; rw [e]
theorem litS_ne {s u : ByteArray} (h : s ≠ u) : litS s ≠ litS u := fun e => h (litS_inj e)
theorem FndM.store {B : Nat} {w w1 : World} {mb n : Nat} {hd : ByteArray → Value} {ix : ByteArray → List Int} (h : FndM B w mb n hd ix) (s : ByteArray) (x : Int) (v' : Value) (hs : s.size ≤ maxLen) (hn : n < maxLen) (hmB : mb < w.heap.size)
    (hv : w1.ownsRow B 3 1 v' ((ix s).length + 1) ((ix s).map (Value.int .i64) ++ [Value.int .i64 x])) (hg : w.grownBy w1 (hd s).ownBlock) (hl : v'.ownBlock = (hd s).ownBlock ∨ ∃ g, v'.ownBlock = some g ∧ w.heap.size ≤ g) :
    ∃ w2, (Instr.mapUpdate 134 (.map (some mb)) (.string s) v').run Tryz.prog w1 = .ok () w2 ∧ FndM B w2 mb (n + 1) (updS hd s v') (updS ix s (ix s ++ [x])) ∧ w1.grownBy w2 (some mb) := by
  obtain ⟨D, hD, h2⟩ := h.map
  have hmap : ∀ u, (hd u).ownBlock ≠ some mb := fun u e => by
    obtain ⟨es, clock, hb, -⟩ := hD
    rcases (h.rows u).2 with ⟨e2, -⟩ | ⟨g, cap, cur, e2, -, hc, -⟩
    · rw [e2] at e; simp [Value.ownBlock] at e
    rw [e2] at e
    have : g = mb := by simpa [Value.ownBlock] using e
    subst this
    rw [hb] at hc; cases hc
  have hk1 : Kept (match (hd s).ownBlock with | some g => [g] | none => []) w w1 := Kept.grown hg (fun k hk => by rw [hk]; simp)
  have hm1 : mb ∉ (match (hd s).ownBlock with | some g => [g] | none => []) := by
    cases hb : (hd s).ownBlock with
    | none => simp
    | some g => simp only [List.mem_singleton]; rintro rfl; exact hmap s hb
  have hD1 : w1.ownsMap Tryz.prog 9 slE mb n D := by
    obtain ⟨es, clock, hb, F, hs', hD'⟩ := hD
    exact ⟨es, clock, hk1.at hb hm1, F, hs', hD'⟩
  obtain ⟨w2, hrun, hD2, hg2⟩ := hD1.update law_string Tryz.underlying134 hn (keyOf_string_mk Tryz.underlying9 hs) (slE_mk (SlV.own hv))
  have hvm : v'.ownBlock ≠ some mb := by
    rcases hl with e | ⟨g, e, hgs⟩
    · rw [e]; exact hmap s
    rw [e]; intro e2; cases e2; omega
  have hk2 : Kept [mb] w1 w2 := Kept.grown hg2 (fun k hk => by cases hk; simp)
  refine ⟨w2, hrun, ⟨⟨_, hD2, fun u => ?_⟩, fun u => ?_, fun u u' g hne hu => ?_, fun u => ?_⟩, hg2⟩
  · by_cases hu : u = s
    · subst hu
      rw [Maps.atKey_put_same hD1.isMap (by trivial), updS_same]
    rw [Maps.atKey_put_other (litS_ne hu), updS_other _ _ hu, h2 u]
  · by_cases hu : u = s
    · subst hu
      rw [updS_same, updS_same, List.length_append, List.map_append]
      exact hk2.own hv (fun g hg' hm => by simp only [List.mem_singleton] at hm; subst hm; exact hvm hg')
    rw [updS_other _ _ hu, updS_other _ _ hu]
    refine hk2.own (hk1.own (h.rows u) (fun g hg' hm => ?_)) (fun g hg' hm => ?_)
    · cases hb : (hd s).ownBlock with
      | none => rw [hb] at hm; simp at hm
      | some g' =>
        rw [hb] at hm
        simp only [List.mem_singleton] at hm
        subst hm
        exact h.apart u s g hu hg' hb
    simp only [List.mem_singleton] at hm
    subst hm
    exact hmap u hg'
  · have hlt : ∀ u g, (hd u).ownBlock = some g → g < w.heap.size := fun u g e => by
      rcases (h.rows u).2 with ⟨e2, -⟩ | ⟨g', cap, cur, e2, -, hc, -⟩
      · rw [e2] at e; simp [Value.ownBlock] at e
      rw [e2] at e
      have : g' = g := by simpa [Value.ownBlock] using e
      subst this
      exact block_lt hc
    by_cases e1 : u = s
    · subst e1
      rw [updS_same] at hu
      rw [updS_other _ _ (Ne.symm hne)]
      rcases hl with e | ⟨g', e, hgs⟩
      · rw [e] at hu; exact h.apart u u' g hne hu
      rw [e] at hu
      intro e3
      cases hu
      have := hlt u' _ e3
      omega
    rw [updS_other _ _ e1] at hu
    by_cases e2 : u' = s
    · subst e2
      rw [updS_same]
      rcases hl with e | ⟨g', e, hgs⟩
      · rw [e]; exact h.apart u u' g hne hu
      rw [e]
      intro e3
      cases e3
      have := hlt u _ hu
      omega
    rw [updS_other _ _ e2]
    exact h.apart u u' g hne hu
  by_cases hu : u = s
  · subst hu
    rw [updS_same, List.length_append]
    have := h.le u
    simp; omega
  rw [updS_other _ _ hu]
  have := h.le u
  omega
end Go.Proofs.YtfkblpjfknfgbaaGreatDoor
namespace Go.Proofs.YtfkblpjfknfgbaaGreatDoor
open Go.RowKit Go.Maps
abbrev EnM := ByteArray × Value × List Int
def entCells (es : List EnM) : List Value := es.flatMap fun x => [.string x.1, x.2.1]
def entAbs (es : List EnM) : List En := es.map fun x => (x.1, x.2.2)
theorem entAbs_snoc (es : List EnM) (x : EnM) : entAbs (es ++ [x]) = entAbs es ++ [(x.1, x.2.2)] := by simp [entAbs]
theorem entCells_snoc (es : List EnM) (x : EnM) : entCells es ++ [.string x.1, x.2.1] = entCells (es ++ [x]) := by simp [entCells]
def posF (s : ByteArray) : Nat → List En → List Int
  | _, [] => []
  | k, x :: r => if x.1 = s then (k : Int) :: posF s (k + 1) r else posF s (k + 1) r
def posS (es : List En) (s : ByteArray) : List Int := posF s 0 es
theorem posF_snoc (s : ByteArray) (x : En) : ∀ (es : List En) (k : Nat), posF s k (es ++ [x]) = posF s k es ++ (if x.1 = s then [((k + es.length : Nat) : Int)] else [])
  | [], k => by
    rw [List.nil_append, posF]
    split
    · rename_i h; simp [posF, h]
    · rename_i h; simp [posF, h]
  | y :: r, k => by
    have ih := posF_snoc s x r (k + 1)
    have e : k + 1 + r.length = k + (y :: r).length := by simp; omega
    rw [e] at ih
    rw [List.cons_append, posF, posF, ih]
    split <;> simp
theorem posS_snoc (es : List En) (x : En) : posS (es ++ [x]) = updS (posS es) x.1 (posS es x.1 ++ [(es.length : Int)]) := by
  funext s
  unfold posS
  rw [posF_snoc, Nat.zero_add]
  by_cases h : x.1 = s
  · subst h
    rw [if_pos rfl, updS_same]
  rw [if_neg h, updS_other _ _ (Ne.symm h), List.append_nil]
def WordsAt (w : World) (wb : Nat) (es : List En) : Prop := ∃ (mb : Nat) (lv : Value) (xs : List EnM), w.heap[wb]? = some (.cells #[lv, .map (some mb)] 136 (0, 0)) ∧ entAbs xs = es ∧ Rd w 2 lv xs.length (entCells xs) ∧ (∀ x ∈ xs, FS w x.2.1 x.2.2) ∧ ∃ B n hd, FndM B w mb n hd (posS es)
theorem WordsAt.keep {w w' : World} {wb : Nat} {es : List En} (h : WordsAt w wb es) (hb : Below w.heap.size w w') : WordsAt w' wb es := by
  obtain ⟨mb, lv, xs, h1, h2, h3, h4, B, n, hd, h5⟩ := h
  exact ⟨mb, lv, xs, (hb.block _ (block_lt h1)).trans h1, h2, h3.keep hb, fun x hx => (h4 x hx).keep hb, B, n, hd, h5.kept (Kept.of_below (E := []) hb) (by simp) (by simp)⟩
def DicP (r : Except (Int × Int) (List En)) (w : World) (e : Ending) (w' : World) : Prop := Below w.heap.size w w' ∧ match r with
  | .error p => e = .returned (.tuple #[.pointer none, .agg #[.int .i64 2, .int .i64 p.1, .int .i64 p.2]])
  | .ok es => ∃ wb, e = .returned (.tuple #[.pointer (some ⟨wb, 0, none⟩), .agg #[.int .i64 0, .int .i64 0, .int .i64 0]]) ∧ WordsAt w' wb es ∧ w.heap.size ≤ wb
structure DW (W wr : World) (mb wb n : Nat) (lv : Value) (xs : List EnM) (hd : ByteArray → Value) (ix : ByteArray → List Int) : Prop where
  kept : Kept [mb, wb] W wr
  mlt : mb < W.heap.size
  wlt : wb < W.heap.size
  words : wr.heap[wb]? = some (.cells #[lv, .map (some mb)] 136 (0, 0))
  list : wr.ownsRow W.heap.size 35 2 lv xs.length (entCells xs)
  found : FndM W.heap.size wr mb n hd ix
  fl : ∀ x ∈ xs, FS wr x.2.1 x.2.2 ∧ ∀ g o n c, x.2.1 = .slice (some ⟨g, o, none⟩) n c → n ≠ 0 → g < wr.heap.size ∧ lv.ownBlock ≠ some g ∧ (∀ s, (hd s).ownBlock ≠ some g) ∧ g ≠ mb ∧ g ≠ wb
section
variable {W wr w' : World} {mb wb n : Nat} {lv : Value} {xs : List EnM} {hd : ByteArray → Value} {ix : ByteArray → List Int}
theorem own_ge {B e size n g : Nat} {w : World} {v : Value} {us : List Value} (h : w.ownsRow B e size v n us) (hg : v.ownBlock = some g) : B ≤ g ∧ g < w.heap.size ∧ ∃ cur, w.heap[g]? = some (.cells cur e (0, 0)) := by
  rcases h.2 with ⟨rfl, _⟩ | ⟨g', cap, cur, rfl, h1, h2, _⟩
  · simp [Value.ownBlock] at hg
  have : g' = g := by simpa [Value.ownBlock] using hg
  subst this
  exact ⟨h1, block_lt h2, cur, h2⟩
theorem DW.below (h : DW W wr mb wb n lv xs hd ix) (hb : Below wr.heap.size wr w') : DW W w' mb wb n lv xs hd ix := by
  have hk : Kept [] wr w' := Kept.of_below hb
  refine ⟨h.kept.trans' hk (by simp), h.mlt, h.wlt, hk.at h.words (by simp), hk.own h.list (by simp), h.found.kept hk (by simp) (by simp), fun x hx => ?_⟩
  obtain ⟨h1, h2⟩ := h.fl x hx
  refine ⟨h1.keep hb, fun g o n c e hn => ?_⟩
  obtain ⟨q1, q2, q3, q4, q5⟩ := h2 g o n c e hn
  exact ⟨Nat.lt_of_lt_of_le q1 hb.size, q2, q3, q4, q5⟩
theorem DW.c0 (h : DW W wr mb wb n lv xs hd ix) : wr.cell? ⟨wb, 0, none⟩ = some lv := Lib.cell_of_heap h.words 0
theorem DW.z0 (h : DW W wr mb wb n lv xs hd ix) : wr.frozen? ⟨wb, 0, none⟩ = false := Lib.frozen_of_heap h.words 0
theorem DW.apart (h : DW W wr mb wb n lv xs hd ix) : (∀ g, lv.ownBlock = some g → g ≠ mb ∧ g ≠ wb ∧ ∀ s, (hd s).ownBlock ≠ some g) ∧ ∀ s g, (hd s).ownBlock = some g → g ≠ mb ∧ g ≠ wb ∧ lv.ownBlock ≠ some g := by
  have hm := h.mlt
  have hw := h.wlt
  refine ⟨fun g hg => ?_, fun s g hg => ?_⟩
  · obtain ⟨g1, g2, cur, g3⟩ := own_ge h.list hg
    refine ⟨by omega, by omega, fun s hs => ?_⟩
    obtain ⟨-, -, cur2, g4⟩ := own_ge (h.found.rows s) hs
    rw [g3] at g4
    injection g4 with g4
    injection g4 with _ g5 _
    exact absurd g5 (by decide)
  obtain ⟨g1, g2, cur, g3⟩ := own_ge (h.found.rows s) hg
  refine ⟨by omega, by omega, fun hs => ?_⟩
  obtain ⟨-, -, cur2, g4⟩ := own_ge h.list hs
  rw [g3] at g4
  injection g4 with g4
  injection g4 with _ g5 _
  exact absurd g5 (by decide)
theorem FS.blocks {w w' : World} {v : Value} {zs : List Int} (h : FS w v zs) (hb : ∀ g o n c, v = .slice (some ⟨g, o, none⟩) n c → n ≠ 0 → w'.heap[g]? = w.heap[g]?) : FS w' v zs := by
  obtain ⟨p, c, hv, hc, h⟩ := h
  refine ⟨p, c, hv, hc, ?_⟩
  by_cases h0 : zs.length = 0
  · exact .inl h0
  obtain ⟨b, off, hp, h2⟩ := h.resolve_left h0
  exact .inr ⟨b, off, hp, fun j hj => (World.cell?_of_block (hb b off _ c (by rw [hv, hp]) h0)).trans (h2 j hj)⟩
theorem DW.push (h : DW W wr mb wb n lv xs hd ix) (x : EnM) (lv' : Value) {w1 : World} (hx : FS wr x.2.1 x.2.2) (hx2 : ∀ g o n c, x.2.1 = .slice (some ⟨g, o, none⟩) n c → n ≠ 0 → g < wr.heap.size ∧ lv.ownBlock ≠ some g ∧ (∀ s, (hd s).ownBlock ≠ some g) ∧ g ≠ mb ∧ g ≠ wb)
    (hown : w1.ownsRow W.heap.size 35 2 lv' (xs.length + 1) (entCells xs ++ [.string x.1, x.2.1])) (hg : wr.grownBy w1 lv.ownBlock) (hl : lv'.ownBlock = lv.ownBlock ∨ ∃ g, lv'.ownBlock = some g ∧ wr.heap.size ≤ g) :
    DW W (w1.setCell ⟨wb, 0, none⟩ lv') mb wb n lv' (xs ++ [x]) hd ix := by
  obtain ⟨a1, a2⟩ := h.apart
  obtain ⟨L, hL⟩ : ∃ L : List Nat, L = (match lv.ownBlock with | some g => [g] | none => []) := ⟨_, rfl⟩
  have hLm : ∀ g, g ∈ L → lv.ownBlock = some g := fun g hm => by
    rw [hL] at hm
    cases hb : lv.ownBlock with
    | none => rw [hb] at hm; simp at hm
    | some g' => rw [hb] at hm; simp at hm; rw [hm]
  have hk1 : Kept L wr w1 := Kept.grown hg (fun k hk => by rw [hL, hk]; simp)
  have hk2 : Kept [wb] w1 (w1.setCell ⟨wb, 0, none⟩ lv') := (Kept.refl _ _).set _ _ _ (.inl (by simp))
  have hw1 : w1.heap[wb]? = some (.cells #[lv, .map (some mb)] 136 (0, 0)) := hk1.at h.words (fun hm => (a1 _ (hLm _ hm)).2.1 rfl)
  have hlv' : ∀ g, lv'.ownBlock = some g → g ≠ wb := fun g hg' => by
    rcases hl with e | ⟨g2, e, h2⟩
    · rw [e] at hg'; exact (a1 g hg').2.1
    rw [e] at hg'; cases hg'
    have := h.wlt; have := h.kept.size; omega
  refine ⟨?_, h.mlt, h.wlt, heap_setCell_same w1 wb 0 _ _ _ hw1, ?_, (h.found.kept hk1 (fun hm => (a1 _ (hLm _ hm)).1 rfl) (fun s g hs hm => (a2 s g hs).2.2 (hLm _ hm))).kept hk2 (by simp only [List.mem_singleton]; intro e; have h1 := h.words; have h2 := h.found.map; obtain ⟨D, ⟨es, clock, hb, -⟩, -⟩ := h2; rw [e, h1] at hb; cases hb) (fun s g hs hm => by simp only [List.mem_singleton] at hm; exact (a2 s g hs).2.1 hm), fun y hy => ?_⟩
  · refine (h.kept.trans' hk1 (fun g hm => .inr ?_)).trans' hk2 (by simp)
    exact (own_ge h.list (hLm g hm)).1
  · rw [List.length_append, ← entCells_snoc]
    exact hk2.own hown (fun g hg' hm => by simp only [List.mem_singleton] at hm; exact hlv' g hg' hm)
  have key : ∀ g, g < wr.heap.size → lv.ownBlock ≠ some g → g ≠ wb → (w1.setCell ⟨wb, 0, none⟩ lv').heap[g]? = wr.heap[g]? := fun g q1 q2 q5 => by
    rw [Below.heap_setCell _ _ _ _ (by simpa using q5)]
    exact hk1.block g q1 (fun hm => q2 (hLm g hm))
  have hy2 : FS wr y.2.1 y.2.2 ∧ ∀ g o n c, y.2.1 = .slice (some ⟨g, o, none⟩) n c → n ≠ 0 → g < wr.heap.size ∧ lv.ownBlock ≠ some g ∧ (∀ s, (hd s).ownBlock ≠ some g) ∧ g ≠ mb ∧ g ≠ wb := by
    rcases List.mem_append.1 hy with hy | hy
    · exact h.fl y hy
    simp only [List.mem_singleton] at hy; subst hy; exact ⟨hx, hx2⟩
  refine ⟨hy2.1.blocks (fun g o n c e hn => by obtain ⟨q1, q2, -, -, q5⟩ := hy2.2 g o n c e hn; exact key g q1 q2 q5), fun g o n c e hn => ?_⟩
  obtain ⟨q1, q2, q3, q4, q5⟩ := hy2.2 g o n c e hn
  refine ⟨Nat.lt_of_lt_of_le q1 (by simpa using hk1.size), ?_, q3, q4, q5⟩
  rcases hl with e2 | ⟨g2, e2, h2⟩
  · rw [e2]; exact q2
  rw [e2]; intro e3; cases e3; omega
theorem DW.ne (h : DW W wr mb wb n lv xs hd ix) : wb ≠ mb := fun e => by
  have h1 := h.words
  obtain ⟨D, ⟨es, clock, hb, -⟩, -⟩ := h.found.map
  rw [e, hb] at h1; cases h1
theorem DW.store (h : DW W wr mb wb n lv xs hd ix) (s : ByteArray) (x : Int) (v' : Value) {w1 : World} (hs : s.size ≤ maxLen) (hn : n < maxLen)
    (hv : w1.ownsRow W.heap.size 3 1 v' ((ix s).length + 1) ((ix s).map (Value.int .i64) ++ [Value.int .i64 x])) (hg : wr.grownBy w1 (hd s).ownBlock) (hl : v'.ownBlock = (hd s).ownBlock ∨ ∃ g, v'.ownBlock = some g ∧ wr.heap.size ≤ g) :
    ∃ w2, (Instr.mapUpdate 134 (.map (some mb)) (.string s) v').run Tryz.prog w1 = .ok () w2 ∧ DW W w2 mb wb (n + 1) lv xs (updS hd s v') (updS ix s (ix s ++ [x])) ∧ ∀ y, y < wr.heap.size → (hd s).ownBlock ≠ some y → y ≠ mb → w2.heap[y]? = wr.heap[y]? := by
  obtain ⟨a1, a2⟩ := h.apart
  have hne := h.ne
  have hks := h.kept.size
  have hm := h.mlt
  have hw := h.wlt
  obtain ⟨w2, hrun, hF, hg2⟩ := h.found.store s x v' hs hn (by omega) hv hg hl
  obtain ⟨L, hL⟩ : ∃ L : List Nat, L = (match (hd s).ownBlock with | some g => [g] | none => []) := ⟨_, rfl⟩
  have hLm : ∀ g, g ∈ L → (hd s).ownBlock = some g := fun g hm => by
    rw [hL] at hm
    cases hb : (hd s).ownBlock with
    | none => rw [hb] at hm; simp at hm
    | some g' => rw [hb] at hm; simp at hm; rw [hm]
  have hk1 : Kept L wr w1 := Kept.grown hg (fun k hk => by rw [hL, hk]; simp)
  have hk2 : Kept [mb] w1 w2 := Kept.grown hg2 (fun k hk => by cases hk; simp)
  have key : ∀ g, g < wr.heap.size → (∀ u, (hd u).ownBlock ≠ some g) → g ≠ mb → w2.heap[g]? = wr.heap[g]? := fun g q1 q3 q4 =>
    (hk2.block g (Nat.lt_of_lt_of_le q1 hk1.size) (by simpa using q4)).trans (hk1.block g q1 (fun hm => q3 s (hLm g hm)))
  have key2 : ∀ y, y < wr.heap.size → (hd s).ownBlock ≠ some y → y ≠ mb → w2.heap[y]? = wr.heap[y]? := fun g q1 q3 q4 =>
    (hk2.block g (Nat.lt_of_lt_of_le q1 hk1.size) (by simpa using q4)).trans (hk1.block g q1 (fun hm => q3 (hLm g hm)))
  refine ⟨w2, hrun, ⟨(h.kept.trans' hk1 (fun g hg' => .inr (own_ge (h.found.rows s) (hLm g hg')).1)).trans' hk2 (by simp), hm, hw, ?_, ?_, hF, fun y hy => ?_⟩, key2⟩
  · exact hk2.at (hk1.at h.words (fun hm => (a2 s _ (hLm _ hm)).2.1 rfl)) (by simpa using hne)
  · exact hk2.own (hk1.own h.list (fun g hg' hm => (a2 s g (hLm g hm)).2.2 hg')) (fun g hg' hm => by simp only [List.mem_singleton] at hm; exact (a1 g hg').1 hm)
  obtain ⟨h1, h2⟩ := h.fl y hy
  refine ⟨h1.blocks (fun g o n c e hn => by obtain ⟨q1, q2, q3, q4, q5⟩ := h2 g o n c e hn; exact key g q1 q3 q4), fun g o n c e hn => ?_⟩
  obtain ⟨q1, q2, q3, q4, q5⟩ := h2 g o n c e hn
  refine ⟨Nat.lt_of_lt_of_le q1 (Nat.le_trans hk1.size hk2.size), q2, fun u => ?_, q4, q5⟩
  by_cases hu : u = s
  · subst hu
    rw [updS_same]
    rcases hl with e2 | ⟨g2, e2, hg3⟩
    · rw [e2]; exact q3 u
    rw [e2]; intro e3; cases e3; omega
  rw [updS_other _ _ hu]; exact q3 u
end
end Go.Proofs.YtfkblpjfknfgbaaGreatDoor
namespace Go.Proofs.YtfkblpjfknfgbaaGreatDoor
open Go.RowKit Go.Maps
theorem drowCells_at : ∀ (rs : List RowIn) (k : Nat) (h : k < rs.length), (rowCells rs)[k * 2]? = some (.int .i64 rs[k].1) ∧ (rowCells rs)[k * 2 + 1]? = some rs[k].2.1
  | [], _, hk => absurd hk (Nat.not_lt_zero _)
  | c :: r, 0, _ => ⟨rfl, rfl⟩
  | c :: r, k + 1, hk => by
    have := drowCells_at r k (by simpa using hk)
    have e : rowCells (c :: r) = [.int .i64 c.1, c.2.1] ++ rowCells r := by simp [rowCells]
    have key : ∀ j, (rowCells (c :: r))[(k + 1) * 2 + j]? = (rowCells r)[k * 2 + j]? := fun j => by
      rw [e, List.getElem?_append_right (by simp; omega)]
      congr 1
      simp; omega
    exact ⟨(key 0).trans this.1, (key 1).trans this.2⟩
theorem drows_at {w0 : World} {A : Option Addr} {n cap a : Nat} {all : List Row} (h : RowsM w0 (.slice A n cap) all) (ha : a < all.length) :
    ∃ g o fv, A = some ⟨g, o, none⟩ ∧ w0.cell? ⟨g, o + a * 2, none⟩ = some (.int .i64 all[a].1) ∧ w0.cell? ⟨g, o + a * 2 + 1, none⟩ = some fv ∧ Rd w0 1 fv all[a].2.length (strV all[a].2) := by
  obtain ⟨rs, hab, hr, hd2⟩ := h
  have hl : rs.length = all.length := by rw [← hab]; simp [rowAbs]
  have hlr : a < rs.length := by omega
  have hx : all[a] = ((rs[a]).1, (rs[a]).2.2) := by subst hab; simp [rowAbs]
  obtain ⟨-, A', cap', hv, hcap, hc⟩ := hr
  cases hv
  obtain ⟨g, o, rfl, hc2⟩ := hc.resolve_left (by omega)
  obtain ⟨q0, q1⟩ := drowCells_at rs a hlr
  have e0 := hc2 _ _ q0
  have e1 := hc2 _ _ q1
  rw [← Nat.add_assoc] at e1
  rw [hx]
  exact ⟨g, o, _, rfl, e0, e1, (hd2 rs[a] (List.getElem_mem hlr)).rd⟩
def RowP (w : World) (P : Option Addr) (rest : List Row) : Prop := ∀ k (_ : k < rest.length), ∃ g o fv, P = some ⟨g, o, none⟩ ∧ w.cell? ⟨g, o + k * 2, none⟩ = some (.int .i64 rest[k].1) ∧ w.cell? ⟨g, o + k * 2 + 1, none⟩ = some fv ∧ Rd w 1 fv rest[k].2.length (strV rest[k].2)
theorem RowP.of {w : World} {g o n cap : Nat} {x : Row} {rest : List Row} (h : RowsM w (.slice (some ⟨g, o, none⟩) n cap) (x :: rest)) : RowP w (some ⟨g, o + 2, none⟩) rest := fun k hk => by
  obtain ⟨g', o', fv, hA, e0, e1, hr⟩ := drows_at h (a := k + 1) (by simp; omega)
  cases hA
  simp only [List.getElem_cons_succ] at e0 e1 hr
  rw [show o + (k + 1) * 2 = o + 2 + k * 2 by omega] at e0 e1
  exact ⟨g, o + 2, fv, rfl, e0, e1, hr⟩
theorem dicRows_bad {F : Fl} {E l0 : Int} {row0 : List ByteArray} {rest : List Row} (h : (headN row0).2 ≠ 0) : dicRows F E ((l0, row0) :: rest) = .error (l0, (headN row0).2) := by
  unfold headN at h ⊢
  rw [dicRows]
  by_cases h1 : row0.length ≠ 1
  · rw [if_pos h1, if_pos h1]
  rw [if_neg h1] at h ⊢
  dsimp only at h ⊢
  rw [if_neg h1, if_pos h]
  rcases numErr_13 (fieldAt row0 0).data.toList 8192 with e | e
  · exact absurd e h
  rw [e]
theorem dicRows_ok {F : Fl} {E l0 : Int} {row0 : List ByteArray} {rest : List Row} (h : (headN row0).2 = 0) : dicRows F E ((l0, row0) :: rest) = match dgo F (headN row0).1 0 rest with | .error p => .error p | .ok xs => if (xs.length : Int) < (headN row0).1 then .error (E, 116) else .ok xs := by
  unfold headN at h ⊢
  rw [dicRows]
  by_cases h1 : row0.length ≠ 1
  · rw [if_pos h1] at h; simp at h
  rw [if_neg h1] at h ⊢
  dsimp only at h ⊢
  rw [if_neg h1, if_neg (by rw [h]; simp)]
  rfl
structure RB (w W : World) : Prop where
  base : Below w.heap.size w W
  res : W.heap[w.heap.size]? = some (.cells #[.int .i64 0, .int .i64 0, .int .i64 0] 60 (0, 0))
section
variable {w W W' : World}
theorem RB.start (w : World) : RB w (w.alloc (.cells #[.int .i64 0, .int .i64 0, .int .i64 0] 60)) := ⟨(Below.refl _ _).alloc (Nat.le_refl _) _, heap_alloc_new w _⟩
theorem RB.size (h : RB w W) : w.heap.size + 1 ≤ W.heap.size := block_lt h.res
theorem RB.kept {X : List Nat} (h : RB w W) (hk : Kept X W W') (hX : ∀ x ∈ X, w.heap.size + 1 ≤ x) : RB w W' :=
  ⟨h.base.trans (hk.below (B := w.heap.size) (by have := h.size; omega) (fun x hx => by have := hX x hx; omega)), hk.at h.res (fun hm => by have := hX _ hm; omega)⟩
theorem RB.below (h : RB w W) (hb : Below W.heap.size W W') : RB w W' := h.kept (X := []) (Kept.of_below hb) (by simp)
theorem RB.q (h : RB w W) (j : Nat) : W.cell? ⟨w.heap.size, j, none⟩ = (#[.int .i64 0, .int .i64 0, .int .i64 0] : Array Value)[j]? := Lib.cell_of_heap h.res j
theorem RB.z (h : RB w W) (j : Nat) : W.frozen? ⟨w.heap.size, j, none⟩ = false := Lib.frozen_of_heap h.res j
theorem RB.done (h : RB w W) (a b c : Value) : Below w.heap.size w (((W.setCell ⟨w.heap.size, 0, none⟩ a).setCell ⟨w.heap.size, 1, none⟩ b).setCell ⟨w.heap.size, 2, none⟩ c) := ((h.base.setCell (Nat.le_refl _) _).setCell (Nat.le_refl _) _).setCell (Nat.le_refl _) _
end
theorem entR_ne {F : Fl} {row : List ByteArray} {c : Int} (h : entR F row = .error c) : c ≠ 0 := by
  unfold entR at h
  split at h
  · cases h; decide
  split at h
  rename_i wd rest cut e _
  split at h
  · cases h; assumption
  unfold enWord at h
  split at h
  · cases h; decide
  split at h
  · cases h; decide
  split at h
  · cases h
  unfold enFlags at h
  split at h
  · cases h; assumption
  split at h
  · cases h
  cases h; decide
theorem DW.grown {W wr w1 : World} {mb wb n : Nat} {lv : Value} {xs : List EnM} {hd : ByteArray → Value} {ix : ByteArray → List Int} (h : DW W wr mb wb n lv xs hd ix) (hg : wr.grownBy w1 lv.ownBlock) :
    w1.heap[wb]? = some (.cells #[lv, .map (some mb)] 136 (0, 0)) ∧ ∀ y, y < wr.heap.size → lv.ownBlock ≠ some y → w1.heap[y]? = wr.heap[y]? := by
  obtain ⟨a1, -⟩ := h.apart
  obtain ⟨L, hL⟩ : ∃ L : List Nat, L = (match lv.ownBlock with | some g => [g] | none => []) := ⟨_, rfl⟩
  have hLm : ∀ g, g ∈ L → lv.ownBlock = some g := fun g hm => by
    rw [hL] at hm
    cases hb : lv.ownBlock with
    | none => rw [hb] at hm; simp at hm
    | some g' => rw [hb] at hm; simp at hm; rw [hm]
  have hk1 : Kept L wr w1 := Kept.grown hg (fun k hk => by rw [hL, hk]; simp)
  exact ⟨hk1.at h.words (fun hm => (a1 _ (hLm _ hm)).2.1 rfl), fun y hy hne => hk1.block y hy (fun hm => hne (hLm y hm))⟩
theorem entR_size {F : Fl} {row : List ByteArray} {x : En} (h : entR F row = .ok x) : x.1.size ≤ 64 := by
  unfold entR at h
  split at h
  · cases h
  split at h
  rename_i wd rest cut e _
  split at h
  · cases h
  unfold enWord at h
  split at h
  · cases h
  split at h
  · cases h
  rename_i h64
  have hm : (mkS wd).size = wd.length := mkS_size wd
  split at h
  · cases h; show (mkS wd).size ≤ 64; omega
  unfold enFlags at h
  split at h
  · cases h
  split at h
  · cases h; show (mkS wd).size ≤ 64; omega
  cases h
theorem grown_at {w w1 : World} {r : Option Nat} (hg : w.grownBy w1 r) (y : Nat) (hy : y < w.heap.size) (hne : r ≠ some y) : w1.heap[y]? = w.heap[y]? := by
  cases r with
  | none => exact (Kept.grown (E := []) hg (fun k hk => by cases hk)).block y hy (by simp)
  | some g => exact (Kept.grown (E := [g]) hg (fun k hk => by cases hk; simp)).block y hy (by simp only [List.mem_singleton]; intro e; exact hne (by rw [e]))
theorem dint_info : (Tryz.prog.info? 3).map (fun i => (i.zero, i.size, i.bytes)) = some (some (.int .i64 0), 1, 8) := by kernel_rfl
theorem ent_info : (Tryz.prog.info? 35).map (fun i => (i.zero, i.size, i.bytes)) = some (some (.agg #[.string ByteArray.empty, .slice none 0 0]), 2, 40) := by kernel_rfl
theorem RB.ne {w W : World} (h : RB w W) {v : Value} {zs : List Int} (hf : FS W v zs) : ∀ g o n c, v = .slice (some ⟨g, o, none⟩) n c → n ≠ 0 → g ≠ w.heap.size := fun g o n c e hn e2 => by
  obtain ⟨p, c', hv, -, hrow⟩ := hf
  rw [e] at hv
  injection hv with e3 e4 e5
  obtain ⟨b, off, hp, hc⟩ := hrow.resolve_left (by omega)
  rw [← e3] at hp
  cases hp
  have h1 := hc 0 (by omega)
  rw [e2, Nat.add_zero, Lib.cell_of_heap h.res] at h1
  rcases o with _ | _ | _ | o
  · simp at h1
  · simp at h1
  · simp at h1
  · simp at h1
theorem WordsAt.fin {w W wr : World} {mb wb n : Nat} {lv : Value} {xs : List EnM} {hd : ByteArray → Value} {ix : ByteArray → List Int} (h : DW W wr mb wb n lv xs hd ix) (hr : RB w wr) (hw : w.heap.size < W.heap.size) (hwb : wb ≠ w.heap.size) (hix : ix = posS (entAbs xs)) (a b c : Value) :
    WordsAt (((wr.setCell ⟨w.heap.size, 0, none⟩ a).setCell ⟨w.heap.size, 1, none⟩ b).setCell ⟨w.heap.size, 2, none⟩ c) wb (entAbs xs) := by
  have hk : Kept [w.heap.size] wr (((wr.setCell ⟨w.heap.size, 0, none⟩ a).setCell ⟨w.heap.size, 1, none⟩ b).setCell ⟨w.heap.size, 2, none⟩ c) := (((Kept.refl _ wr).set _ _ _ (.inl (by simp))).set _ _ _ (.inl (by simp))).set _ _ _ (.inl (by simp))
  refine ⟨mb, lv, xs, hk.at h.words (by simpa using hwb), rfl, Rd.of_own (hk.own h.list (fun g hg hm => by have := (own_ge h.list hg).1; simp at hm; omega)), fun x hx => ?_, W.heap.size, n, hd, ?_⟩
  rotate_left
  · rw [← hix]
    refine h.found.kept hk ?_ (fun s g hg hm => by have := (own_ge (h.found.rows s) hg).1; simp at hm; omega)
    simp only [List.mem_singleton]
    intro e
    obtain ⟨D, ⟨es, clock, hb, -⟩, -⟩ := h.found.map
    rw [e, hr.res] at hb
    cases hb
  obtain ⟨h1, h2⟩ := h.fl x hx
  exact h1.blocks (fun g o n c e hn => hk.block g (h2 g o n c e hn).1 (by simpa using hr.ne h1 g o n c e hn))
theorem entAbs_len (xs : List EnM) : (entAbs xs).length = xs.length := by simp [entAbs]
theorem field_spec (F : Fl) (vr va vc vl : Value) (W : World) : (Instr.field 83 (.agg #[.int .i64 F.kind, .string F.charset, .string F.tryT, .int .u16 F.s0, .int .u16 F.s1, .int .u16 F.s2, .int .u16 F.s3, .int .u16 F.s4, .int .i64 F.least, vr, va, vc, vl]) 3).run Tryz.prog W = .ok (.agg #[.int .u16 F.s0, .int .u16 F.s1, .int .u16 F.s2, .int .u16 F.s3, .int .u16 F.s4]) W := by
  first | kernel_rfl | rfl | simp [go_sem]
theorem FndM.start {w : World} {mb : Nat} (B : Nat) (hb : w.heap[mb]? = some (.map #[] 0)) : FndM B w mb 0 (fun _ => .slice none 0 0) (fun _ => []) := by
  obtain ⟨D, ⟨es, clock, h1, F, hs, hD⟩, h2⟩ := (FndM.made w).map
  have h3 := heap_alloc_new w (.map #[] 0)
  rw [h1] at h3
  have h4 := Option.some.inj h3
  rw [h4] at h1
  injection h4 with e1 e2
  subst e1 e2
  exact ⟨⟨D, ⟨#[], 0, hb, F, hs, hD⟩, h2⟩, fun _ => World.ownsRow_nil _ _ _ _, fun _ _ _ _ h => by simp [Value.ownBlock] at h, fun _ => Nat.zero_le _⟩
theorem DW.start {W : World} {mb wb : Nat} (hm : W.heap[mb]? = some (.map #[] 0)) (hw : W.heap[wb]? = some (.cells #[.slice none 0 0, .map (some mb)] 136 (0, 0))) : DW W W mb wb 0 (.slice none 0 0) [] (fun _ => .slice none 0 0) (fun _ => []) :=
  ⟨Kept.refl _ _, block_lt hm, block_lt hw, hw, World.ownsRow_nil _ _ _ _, FndM.start _ hm, fun x hx => by cases hx⟩
set_option maxHeartbeats 16000000 in
set_option maxRecDepth 100000 in
theorem so_dicRead (fb : Nat) (F : Fl) (s : ByteArray) (m0 : Int) (w : World) (hf : FileAt w fb F) (hok : FlOk F) (h0 : 0 < w.heap.size) (hm : w.cell? ⟨0, 0, none⟩ = some (.int .i64 m0)) :
    Calls Tryz.prog 18 #[.pointer (some ⟨fb, 0, none⟩), .string s] w (DicP (dicR F s.data.toList) w) := by
  have HR0 := Lib.hid (RB.start w)
  obtain ⟨wA, hwA⟩ : ∃ W, w.alloc (.cells #[.int .i64 0, .int .i64 0, .int .i64 0] 60) = W := ⟨_, rfl⟩
  rw [hwA] at HR0
  have HM : Hid (∀ W, Below w.heap.size w W → 0 < W.heap.size ∧ W.cell? ⟨0, 0, none⟩ = some (.int .i64 m0)) := Lib.hid (fun W hW => ⟨Nat.lt_of_lt_of_le h0 hW.size, (hW.cell (World.block_lt_of_cell? _ _ hm)).trans hm⟩)
  have HSp := Lib.hid (Split_any s m0 wA (HM.out wA HR0.out.base).1 (HM.out wA HR0.out.base).2)
  have HRo : Hid (∀ W, Below w.heap.size w W → Calls Tryz.prog 41 #[.string s] W fun e W' => ∃ v rs, e = .returned (.tuple #[v, .int .i64 (codeS s)]) ∧ W'.ownsRow W.heap.size 133 2 v rs.length (rowCells rs) ∧ rowsRead W' rs ∧ rowAbs rs = rowsOf (eachOf s.data.toList) ∧ Below W.heap.size W W') := Lib.hid (fun W hW => Rows_any s m0 W (HM.out W hW).1 (HM.out W hW).2)
  have HF := Lib.hid hf
  have HOk := Lib.hid hok
  clear h0 hm hf hok
  by_cases hbig : 65536 < s.size
  · have HX : Hid (dicR F s.data.toList = .error (0, 10)) := Lib.hid (by rw [dicR, if_pos (by rw [len_toList]; exact hbig)])
    rw [if_pos hbig] at HSp
    rw [HX.out]
    clear hbig HX
    go_enter Tryz.func18, Tryz.ntmps18
    go_wp2_with (first
      | (go_at_call 42; refine HSp.out.mono ?_; rintro e w1 ⟨v1, rfl, -, hb⟩; have HR1 := Lib.hid (HR0.out.below hb); clear hb)
      | (go_at_call 48; refine (so_dfault _ _ _).mono ?_; rintro e w2 ⟨rfl, hb⟩; have HR2 := Lib.hid (HR1.out.below hb); clear hb; have q0 := HR2.out.q 0; have q1 := HR2.out.q 1; have q2 := HR2.out.q 2; simp only [List.getElem?_toArray, List.getElem?_cons_zero, List.getElem?_cons_succ] at q0 q1 q2; have z0 := HR2.out.z 0; have z1 := HR2.out.z 1; have z2 := HR2.out.z 2))
    refine bodyPost_ret (v := .tuple #[.pointer none, .agg #[.int .i64 2, .int .i64 0, .int .i64 10]]) (by simp [results, Tryz.results18, go_sem, q0, q1, q2]; try rfl) rfl ?_
    exact ⟨HR2.out.done _ _ _, rfl⟩
  rw [if_neg hbig] at HSp
  have hE : eachOf s.data.toList = numbered 1 (linesOf s.data.toList) := by rw [eachOf, if_neg (by rw [len_toList]; exact hbig)]
  have hnl : (eachOf s.data.toList).length = (linesOf s.data.toList).length := by rw [hE, numbered_len]
  have HX : Hid (dicR F s.data.toList = dicRows F ((eachOf s.data.toList).length + 1) (rowsOf (eachOf s.data.toList))) := Lib.hid (by rw [dicR, if_neg (by rw [len_toList]; exact hbig), hnl])
  have hcode : codeS s = 0 := by unfold codeS; rw [if_neg hbig]
  rw [hcode] at HRo
  have HBd := Lib.hid (rows_bd s.data.toList)
  have hne2 := eachOf_len s.data.toList
  have hrn : (rowsOf (eachOf s.data.toList)).length ≤ 65536 := Nat.le_trans (rowsOf_len _) hne2
  rw [HX.out]
  clear hbig hE hnl HX hcode
  obtain ⟨nE, hnE⟩ : ∃ n, (eachOf s.data.toList).length = n := ⟨_, rfl⟩
  rw [hnE] at HSp hne2 ⊢
  generalize rowsOf (eachOf s.data.toList) = all at *
  clear hnE
  have hwr : IntKind.i64.wrap ((nE : Int) + 1) = (nE : Int) + 1 := by rw [IntKind.wrap_i64]; omega
  go_enter Tryz.func18, Tryz.ntmps18
  go_upto_region 6 with (go_at_call 42; refine HSp.out.mono ?_; rintro e w1 ⟨v1, rfl, ho1, hb⟩; obtain ⟨A1, c1, rfl⟩ := own_slice ho1; have HR1 := Lib.hid (HR0.out.below hb); clear hb ho1)
  go_upto_region 7 with (go_at_call 41; refine (HRo.out _ HR1.out.base).mono ?_; rintro e w2 ⟨v2, rs, rfl, ho2, hrr, habs, hb⟩; have HR2 := Lib.hid (HR1.out.below hb); have HRw : Hid (RowsM w2 v2 all) := Lib.hid ⟨rs, habs, Rd.of_own ho2, hrr⟩; have hrl : rs.length = all.length := (by rw [← habs]; simp [rowAbs]); obtain ⟨A2, c2, rfl⟩ := own_slice ho2; clear hb hrr habs ho2)
  have HRw2 : Hid (RowsM w2 (.slice A2 all.length c2) all) := Lib.hid (by rw [← hrl]; exact HRw.out)
  clear hrl HRw rs
  have HRw := HRw2
  clear HRw2
  match all, hrn, HRw, HBd with
  | [], _, _, _ =>
    go_wp2_with (go_at_call 48; refine (so_dfault _ _ _).mono ?_; rintro e w3 ⟨rfl, hb⟩; have HR3 := Lib.hid (HR2.out.below hb); clear hb; have q0 := HR3.out.q 0; have q1 := HR3.out.q 1; have q2 := HR3.out.q 2; simp only [List.getElem?_toArray, List.getElem?_cons_zero, List.getElem?_cons_succ] at q0 q1 q2; have z0 := HR3.out.z 0; have z1 := HR3.out.z 1; have z2 := HR3.out.z 2)
    refine bodyPost_ret (v := .tuple #[.pointer none, .agg #[.int .i64 2, .int .i64 ((nE : Int) + 1), .int .i64 116]]) (by simp [results, Tryz.results18, go_sem, q0, q1, q2]; try rfl) rfl ?_
    exact ⟨HR3.out.done _ _ _, rfl⟩
  | (l0, row0) :: rest, hrn, HRw, HBd =>
    have HCp : Hid (rest.length + 1 ≤ c2) := Lib.hid (by obtain ⟨rs, hab, ⟨-, A', cap', hv, hcap, -⟩, -⟩ := HRw.out; injection hv with _ e1 e2; have e3 : ((l0, row0) :: rest).length = rest.length + 1 := rfl; omega)
    obtain ⟨g, o, fv, rfl, e0, e1, hrd⟩ := drows_at HRw.out (a := 0) (by simp)
    simp only [List.getElem_cons_zero, Nat.zero_mul, Nat.add_zero] at e0 e1 hrd
    have HRp := Lib.hid (RowP.of HRw.out)
    obtain ⟨-, b1, b2, -, -⟩ := HBd.out (l0, row0) (by simp)
    dsimp only at b1 b2
    have HHd : Hid (∀ W, Below w2.heap.size w2 W → Calls Tryz.prog 49 #[.agg #[.int .i64 l0, fv]] W fun e w' => e = .returned (.tuple #[.int .i64 (headN row0).1, .int .i64 (headN row0).2]) ∧ Below W.heap.size W w') := Lib.hid (fun W hW => so_dhead l0 fv row0 W (hrd.keep hW) (fieldAt_le b2) (by omega))
    have HCw : Hid (∀ W, Below w2.heap.size w2 W → W.cell? ⟨g, o, none⟩ = some (.int .i64 l0)) := Lib.hid (fun W hW => (hW.cell (World.block_lt_of_cell? _ _ e0)).trans e0)
    obtain ⟨-, Af, cf, rfl, -, -⟩ := hrd
    have HDb := Lib.hid (@dicRows_bad F ((nE : Int) + 1) l0 row0 rest)
    have HDo := Lib.hid (@dicRows_ok F ((nE : Int) + 1) l0 row0 rest)
    have hlen : ((l0, row0) :: rest).length = rest.length + 1 := rfl
    obtain ⟨⟨cnt, hc⟩, hhd⟩ : ∃ r, headN row0 = r := ⟨_, rfl⟩
    rw [hhd] at HHd HDb HDo
    dsimp only at HHd HDb HDo
    rw [hlen] at HRw hrn ⊢
    have hl0 : ((((rest.length + 1 : Nat) : Int)) == 0) = false := by rw [beq_eq_false_iff_ne]; omega
    clear hhd b1 b2 hlen
    go_upto_region 10 with (go_at_call 49; refine (HHd.out _ (Below.refl _ _)).mono ?_; rintro e w3 ⟨rfl, hb⟩; have HR3 := Lib.hid (HR2.out.below hb); have HL3 := Lib.hid hb; clear hb)
    clear e0 e1
    have e0 := HCw.out w3 HL3.out
    by_cases hhc : hc = 0
    · subst hhc
      have HRd := Lib.hid (HDo.out rfl)
      clear e0
      have hmk : (Instr.makeMap 134 none).run Tryz.prog w3 = .ok (.map (some w3.heap.size)) (w3.alloc (.map #[] 0)) := run_makeMap _ _
      obtain ⟨wS, hwS⟩ : ∃ W, (w3.alloc (.map #[] 0)).alloc (.cells #[.slice none 0 0, .map (some w3.heap.size)] 136) = W := ⟨_, rfl⟩
      have hbS : Below w3.heap.size w3 wS := by rw [← hwS]; exact ((Below.refl _ _).alloc (Nat.le_refl _) _).alloc (by simp) _
      have hmS : wS.heap[w3.heap.size]? = some (.map #[] 0) := by rw [← hwS, Below.heap_alloc _ _ _ (by simp)]; exact heap_alloc_new w3 _
      have hdS : wS.heap[w3.heap.size + 1]? = some (.cells #[.slice none 0 0, .map (some w3.heap.size)] 136 (0, 0)) := by
        have := heap_alloc_new (w3.alloc (.map #[] 0)) (.cells #[.slice none 0 0, .map (some w3.heap.size)] 136)
        rw [World.size_alloc] at this
        rw [← hwS]; exact this
      have HRS := Lib.hid (HR3.out.below hbS)
      have HLS := Lib.hid (HL3.out.trans (hbS.mono HL3.out.size))
      have HMS := Lib.hid (⟨hmS, hdS⟩ : _ ∧ _)
      clear hbS hmS hdS
      have HFd : Hid (∀ W vr va vc vl, (Instr.field 83 (.agg #[.int .i64 F.kind, .string F.charset, .string F.tryT, .int .u16 F.s0, .int .u16 F.s1, .int .u16 F.s2, .int .u16 F.s3, .int .u16 F.s4, .int .i64 F.least, vr, va, vc, vl]) 3).run Tryz.prog W = .ok (.agg #[.int .u16 F.s0, .int .u16 F.s1, .int .u16 F.s2, .int .u16 F.s3, .int .u16 F.s4]) W) := Lib.hid (fun W vr va vc vl => field_spec F vr va vc vl W)
      go_upto_region 13 with fail
      go_upto_region 14 with (go_at_call 30; refine (so_Affixes fb F _ (HF.out.keep HRS.out.base) HOk.out).mono ?_; rintro e w5 ⟨⟨vr, va, vc, vl⟩, rfl, -, hb⟩; have HB5 := Lib.hid hb; clear hb; have hfd := HFd.out w5 vr va vc vl; unfold affV affA; dsimp only)
      obtain ⟨w6, hw6⟩ : ∃ W, w5.alloc (.cells #[.int .u16 F.s0, .int .u16 F.s1, .int .u16 F.s2, .int .u16 F.s3, .int .u16 F.s4] 77) = W := ⟨_, rfl⟩
      have hb6 : Below w5.heap.size w5 w6 := by rw [← hw6]; exact (Below.refl _ _).alloc (Nat.le_refl _) _
      have HSp6 : Hid (w6.heap[w5.heap.size]? = some (.cells #[.int .u16 F.s0, .int .u16 F.s1, .int .u16 F.s2, .int .u16 F.s3, .int .u16 F.s4] 77 (0, 0))) := Lib.hid (by rw [← hw6]; exact heap_alloc_new w5 _)
      have hbS6 : Below wS.heap.size wS w6 := HB5.out.trans (hb6.mono HB5.out.size)
      have HR6 := Lib.hid (HRS.out.below hbS6)
      have HL6 := Lib.hid (HLS.out.trans (hbS6.mono HLS.out.size))
      have HD0 : Hid (DW w6 w6 w3.heap.size (w3.heap.size + 1) 0 (.slice none 0 0) [] (fun _ => .slice none 0 0) (fun _ => [])) := Lib.hid (DW.start ((hbS6.block _ (block_lt HMS.out.1)).trans HMS.out.1) ((hbS6.block _ (block_lt HMS.out.2)).trans HMS.out.2))
      have hszS : wS.heap.size = w3.heap.size + 2 := by rw [← hwS]; simp
      have hsb0 : w3.heap.size + 2 ≤ w5.heap.size := by have := HB5.out.size; omega
      rw [hw6]
      clear hszS hw6 hwS hfd hb6 hbS6 HB5 HRS HLS HMS hmk
      have hcap := HCp.out
      by_cases hr0 : rest.length = 0
      · obtain rfl := List.eq_nil_of_length_eq_zero hr0
        have HD0w : Hid (w6.cell? ⟨w3.heap.size + 1, 0, none⟩ = some (.slice none 0 0)) := Lib.hid HD0.out.c0
        have hwS6 : w.heap.size < w6.heap.size := by have := HR6.out.size; omega
        have HWf := Lib.hid (WordsAt.fin HD0.out HR6.out hwS6 (by have := HR3.out.size; omega) rfl)
        have hsz3 := HR3.out.size
        clear HRp HRw HCw hcap HCp hr0
        go_wp2_with fail
        all_goals
          go_loopw [13, 16, 65] (fun _ _ y wr => y = .int .i64 0 ∧ wr = w6) (fun _ _ _ _ => 0)
          case atStart => exact ⟨rfl, rfl⟩
          case round =>
          obtain ⟨rfl, hwr6⟩ := hrel
          subst hwr6
          have c0 := HD0w.out
          by_cases hlc : (0 : Int) < cnt
          · have HX : Hid (dicRows F ((nE : Int) + 1) [(l0, row0)] = .error ((nE : Int) + 1, 116)) := Lib.hid (by rw [HRd.out, dgo_nil]; dsimp only; rw [if_pos (by simpa using hlc)])
            go_wp2_with (go_at_call 48; refine (so_dfault _ _ _).mono ?_; rintro e w8 ⟨rfl, hb⟩; have HR8 := Lib.hid (HR6.out.below hb); clear hb; have q0 := HR8.out.q 0; have q1 := HR8.out.q 1; have q2 := HR8.out.q 2; simp only [List.getElem?_toArray, List.getElem?_cons_zero, List.getElem?_cons_succ] at q0 q1 q2; have z0 := HR8.out.z 0; have z1 := HR8.out.z 1; have z2 := HR8.out.z 2)
            refine bodyPost_ret (v := .tuple #[.pointer none, .agg #[.int .i64 2, .int .i64 ((nE : Int) + 1), .int .i64 116]]) (by simp [results, Tryz.results18, go_sem, q0, q1, q2]; try rfl) rfl ?_
            rw [HX.out]
            exact ⟨HR8.out.done _ _ _, rfl⟩
          have HX : Hid (dicRows F ((nE : Int) + 1) [(l0, row0)] = .ok []) := Lib.hid (by rw [HRd.out, dgo_nil]; dsimp only; rw [if_neg (by simpa using hlc)])
          have q0 := HR6.out.q 0
          have q1 := HR6.out.q 1
          have q2 := HR6.out.q 2
          simp only [List.getElem?_toArray, List.getElem?_cons_zero, List.getElem?_cons_succ] at q0 q1 q2
          have z0 := HR6.out.z 0
          have z1 := HR6.out.z 1
          have z2 := HR6.out.z 2
          go_wp2_with fail
          refine bodyPost_ret (v := .tuple #[.pointer (some ⟨w3.heap.size + 1, 0, none⟩), .agg #[.int .i64 0, .int .i64 0, .int .i64 0]]) (by simp [results, Tryz.results18, go_sem, q0, q1, q2]; try rfl) rfl ?_
          rw [HX.out]
          exact ⟨HR6.out.done _ _ _, w3.heap.size + 1, rfl, HWf.out _ _ _, by omega⟩
      have hc1 : ¬ c2 = 1 := by omega
      obtain ⟨w7, hw7⟩ : ∃ W : World, W = w6 := ⟨_, rfl⟩
      go_cut [63, 64, 65] from 62 to 65 (fun p q r W => ∃ P C, p = .slice P rest.length C ∧ q = .int .i64 (rest.length : Int) ∧ r = .int .i64 0 ∧ W = w7 ∧ rest.length ≤ C ∧ Hid (RowP w2 P rest))
      case first =>
        go_wp2_with fail
        all_goals go_meet
        all_goals exact ⟨_, _, rfl, rfl, rfl, hw7.symm, by omega, HRp⟩
      case rest =>
      obtain ⟨P, C, rfl, rfl, rfl, hwc, hC, HRp2⟩ := hcut
      rw [hwc, hw7]
      clear hwc hw7 wc w7 HRp HRw hcap HCp hl0 HCw hc1 hr0
      obtain ⟨sb, hsb⟩ : ∃ n, w5.heap.size = n := ⟨_, rfl⟩
      obtain ⟨mb, hmb⟩ : ∃ n, w3.heap.size = n := ⟨_, rfl⟩
      have h36 : w2.heap.size ≤ mb := by rw [← hmb]; exact HL3.out.size
      rw [hsb] at HSp6 hsb0 ⊢
      rw [hmb] at HD0 hsb0 ⊢
      clear hsb hmb
      go_wp2_with fail
      go_loopw [13, 16, 65] (fun _ _ y wr => ∃ (k : Nat) (lv : Value) (xs : List EnM) (hd : ByteArray → Value) (ix : ByteArray → List Int), k ≤ rest.length ∧ y = .int .i64 k ∧ Hid (DW w6 wr mb (mb + 1) k lv xs hd ix) ∧ Hid (DLeft F cnt rest k (entAbs xs)) ∧ Hid (ix = posS (entAbs xs))) (fun _ _ y _ => rest.length - (intOf y).toNat)
      case atStart => exact ⟨0, _, [], _, _, Nat.zero_le _, rfl, HD0, Lib.hid (DLeft.start _ _ _), Lib.hid rfl⟩
      case round =>
      obtain ⟨k, lv, xs, hd, ix, hk, rfl, HD, HDl, HIX⟩ := hrel
      have HIL : Hid (∀ x : En, updS ix x.1 (ix x.1 ++ [(k : Int)]) = posS (entAbs xs ++ [x])) := Lib.hid (fun x => by rw [HIX.out, posS_snoc, HDl.out.1])
      have HRr : Hid (RB w wr) := Lib.hid (HR6.out.kept HD.out.kept (by intro x hx; have h1 := HR2.out.size; simp at hx; omega))
      have HLr : Hid (Kept [mb, mb + 1] w6 wr) := Lib.hid HD.out.kept
      clear HD0
      by_cases hlt : k < rest.length
      · obtain ⟨g3, o3, fv3, rfl, r0, r1, hrd⟩ := HRp2.out k hlt
        have HB2r : Hid (Below w2.heap.size w2 wr) := Lib.hid (HL6.out.trans (HLr.out.below HL6.out.size (by intro x hx; simp at hx; omega)))
        have r0' := (HB2r.out.cell (World.block_lt_of_cell? _ _ r0)).trans r0
        have r1' := (HB2r.out.cell (World.block_lt_of_cell? _ _ r1)).trans r1
        have hrd' := hrd.keep HB2r.out
        obtain ⟨-, b1, b2, -, -⟩ := HBd.out rest[k] (List.mem_cons_of_mem _ (List.getElem_mem hlt))
        have HMn := Lib.hid (HDl.out.many hlt)
        have HBdd := Lib.hid (fun c => HDl.out.bad (c := c) hlt)
        have HMo := Lib.hid (fun x => HDl.out.more (x := x) hlt)
        obtain ⟨⟨l3, row3⟩, hr3⟩ : ∃ r, rest[k] = r := ⟨_, rfl⟩
        rw [hr3] at r0' hrd' b1 b2 HMn HBdd HMo
        dsimp only at r0' hrd' b1 b2 HMn HBdd HMo
        obtain ⟨-, Af3, cf3, rfl, -, -⟩ := id hrd'
        obtain ⟨w8, hw8⟩ : ∃ W, wr.alloc (.cells #[.int .i64 l3, .slice Af3 row3.length cf3] 133) = W := ⟨_, rfl⟩
        have hb8 : Below wr.heap.size wr w8 := by rw [← hw8]; exact (Below.refl _ _).alloc (Nat.le_refl _) _
        have hx8 : w8.heap[wr.heap.size]? = some (.cells #[.int .i64 l3, .slice Af3 row3.length cf3] 133 (0, 0)) := by rw [← hw8]; exact heap_alloc_new wr _
        have HX8 := Lib.hid hx8
        have HL8 := Lib.hid hb8
        have HR8 := Lib.hid (HRr.out.below hb8)
        clear r0 r1 hrd hr3 hx8 hb8
        go_upto_region 17 with fail
        try rw [hw8]
        clear hw8 r0' r1'
        have x0 : w8.cell? ⟨wr.heap.size, 0, none⟩ = some (.int .i64 l3) := Lib.cell_of_heap HX8.out 0
        have x1 : w8.cell? ⟨wr.heap.size, 1, none⟩ = some (.slice Af3 row3.length cf3) := Lib.cell_of_heap HX8.out 1
        by_cases hkc : (k : Int) = cnt
        · have HX : Hid (dicRows F ((nE : Int) + 1) ((l0, row0) :: rest) = .error (l3, 116)) := Lib.hid (by rw [HRd.out, HMn.out hkc])
          have hkc1 : ((k : Int) == cnt) = true := by rw [beq_iff_eq]; exact hkc
          clear hkc
          go_wp2_with (go_at_call 48; refine (so_dfault _ _ _).mono ?_; rintro e w9 ⟨rfl, hb⟩; have HR9 := Lib.hid (HR8.out.below hb); clear hb; have q0 := HR9.out.q 0; have q1 := HR9.out.q 1; have q2 := HR9.out.q 2; simp only [List.getElem?_toArray, List.getElem?_cons_zero, List.getElem?_cons_succ] at q0 q1 q2; have z0 := HR9.out.z 0; have z1 := HR9.out.z 1; have z2 := HR9.out.z 2)
          refine bodyPost_ret (v := .tuple #[.pointer none, .agg #[.int .i64 2, .int .i64 l3, .int .i64 116]]) (by simp [results, Tryz.results18, go_sem, q0, q1, q2]; try rfl) rfl ?_
          rw [HX.out]
          exact ⟨HR9.out.done _ _ _, rfl⟩
        have hkc1 : ((k : Int) == cnt) = false := by rw [beq_eq_false_iff_ne]; exact hkc
        have hsp := (HL8.out.block _ (block_lt (HLr.out.at HSp6.out (by simp; omega)))).trans (HLr.out.at HSp6.out (by simp; omega))
        have p0 := Lib.cell_of_heap hsp 0
        have p1 := Lib.cell_of_heap hsp 1
        have p2 := Lib.cell_of_heap hsp 2
        have p3 := Lib.cell_of_heap hsp 3
        have p4 := Lib.cell_of_heap hsp 4
        simp only [List.getElem?_toArray, List.getElem?_cons_zero, List.getElem?_cons_succ] at p0 p1 p2 p3 p4
        have HEn := Lib.hid (so_dentry fb F l3 (.slice Af3 row3.length cf3) row3 m0 w8 (HF.out.keep HR8.out.base) HOk.out (hrd'.keep HL8.out) (fieldAt_le b2) (by omega) (HM.out _ HR8.out.base).2)
        unfold EntP at HEn
        clear hsp hrd' b1 b2
        go_wp2_with fail
        cases hen : entR F row3 with
        | error c =>
          rw [hen] at HEn
          dsimp only at HEn
          have hc1 : (c != 0) = true := by rw [bne_iff_ne]; exact entR_ne hen
          have HX : Hid (dicRows F ((nE : Int) + 1) ((l0, row0) :: rest) = .error (l3, c)) := Lib.hid (by rw [HRd.out, HBdd.out c hkc hen])
          clear hen p0 p1 p2 p3 p4 x1
          refine HEn.out.mono ?_
          rintro e w9 ⟨hb, rfl⟩
          have x9 := (hb.cell (World.block_lt_of_cell? _ _ x0)).trans x0
          have hx9 : wr.heap.size < w9.heap.size := World.block_lt_of_cell? _ _ x9
          have HR9 := Lib.hid (HR8.out.below (hb.alloc hb.size (.cells #[.string ⟨#[]⟩, .slice none 0 0] 35)))
          clear hb x0
          go_wp2_with (go_at_call 48; refine (so_dfault _ _ _).mono ?_; rintro e w10 ⟨rfl, hb⟩; have HR10 := Lib.hid (HR9.out.below hb); clear hb; have q0 := HR10.out.q 0; have q1 := HR10.out.q 1; have q2 := HR10.out.q 2; simp only [List.getElem?_toArray, List.getElem?_cons_zero, List.getElem?_cons_succ] at q0 q1 q2; have z0 := HR10.out.z 0; have z1 := HR10.out.z 1; have z2 := HR10.out.z 2)
          refine bodyPost_ret (v := .tuple #[.pointer none, .agg #[.int .i64 2, .int .i64 l3, .int .i64 c]]) (by simp [results, Tryz.results18, go_sem, q0, q1, q2]; try rfl) rfl ?_
          rw [HX.out]
          exact ⟨HR10.out.done _ _ _, rfl⟩
        | ok x =>
          obtain ⟨xw, xz⟩ := x
          rw [hen] at HEn
          dsimp only at HEn
          have HMx := Lib.hid (HMo.out (xw, xz) hkc hen)
          have HXs : Hid (xw.size ≤ 64) := Lib.hid (entR_size hen)
          clear hen p0 p1 p2 p3 p4 x0 x1
          refine HEn.out.mono ?_
          rintro e w9 ⟨hb, v, rfl, hfn⟩
          have hfn2 := hfn
          obtain ⟨pv, cv, rfl, hcv, hrw⟩ := hfn2
          have hL9 : Below wr.heap.size wr w9 := HL8.out.trans (hb.mono HL8.out.size)
          obtain ⟨w10, hw10⟩ : ∃ W, w9.alloc (.cells #[.string xw, .slice pv xz.length cv] 35) = W := ⟨_, rfl⟩
          have hb10 : Below w9.heap.size w9 w10 := by rw [← hw10]; exact (Below.refl _ _).alloc (Nat.le_refl _) _
          have HY10 : Hid (w10.heap[w9.heap.size]? = some (.cells #[.string xw, .slice pv xz.length cv] 35 (0, 0))) := Lib.hid (by rw [← hw10]; exact heap_alloc_new w9 _)
          have HD10 := Lib.hid (HD.out.below (hL9.trans (hb10.mono hL9.size)))
          have HFS10 := Lib.hid (hfn.fs.keep hb10)
          have hs8 := HL8.out.size
          have hs9 := hL9.size
          have hkz := HD.out.kept.size
          have hml := HD.out.mlt
          have hwl := HD.out.wlt
          have hmb9 : mb + 1 < w9.heap.size := by omega
          have HX2 : Hid (∀ g o n c, (Value.slice pv xz.length cv) = .slice (some ⟨g, o, none⟩) n c → n ≠ 0 → g < w10.heap.size ∧ lv.ownBlock ≠ some g ∧ (∀ s, (hd s).ownBlock ≠ some g) ∧ g ≠ mb ∧ g ≠ mb + 1) := Lib.hid (fun g' o' n' c' e hn => by
            cases e
            obtain ⟨b', off', hp, hge, hH⟩ := hrw.resolve_left hn
            cases hp
            have h9 := World.block_lt_of_cell? _ _ (hH 0 (by simp; omega)).1
            have h9' : g' < w9.heap.size := h9
            have h10 := hb10.size
            exact ⟨by omega, fun e => by have := (own_ge HD.out.list e).2.1; omega, fun s e => by have := (own_ge (HD.out.found.rows s) e).2.1; omega, by omega, by omega⟩)
          have hlvlt : ∀ g, lv.ownBlock = some g → g < w9.heap.size := fun g e => by have := (own_ge HD.out.list e).2.1; omega
          have HLv := Lib.hid hlvlt
          clear hfn hrw hb hlvlt
          go_upto_region 22 with fail
          try rw [hw10]
          clear hw10
          obtain ⟨Al, cl, rfl⟩ := own_slice HD10.out.list
          obtain ⟨i0, hi, hz0, hz1, hz2⟩ := info_parts ent_info
          have c0 := HD10.out.c0
          have z0 := HD10.out.z0
          have hxk : xs.length = k := by have := HDl.out.1; rw [entAbs_len] at this; exact this
          have hxb : xs.length ≤ 65536 := by omega
          have HXk := Lib.hid hxk
          clear hxk
          have hmw : mb + 1 < w10.heap.size := block_lt HD10.out.words
          have h610 : w6.heap.size ≤ w10.heap.size := HD10.out.kept.size
          have hy10 := block_lt HY10.out
          have HSy : Hid (∀ W, Below w10.heap.size w10 W → W.cell? ⟨w9.heap.size, 0, none⟩ = some (.string xw) ∧ W.cell? ⟨w9.heap.size, 1, none⟩ = some (.slice pv xz.length cv)) := Lib.hid (fun W hW => by
            have h := (hW.block _ (block_lt HY10.out)).trans HY10.out
            exact ⟨by rw [Lib.cell_of_heap h]; rfl, by rw [Lib.cell_of_heap h]; rfl⟩)
          go_cut [] from 89 to 98 (fun W => ∃ (A' : Option Addr) (c' : Nat), Hid (DW w6 W mb (mb + 1) k (.slice A' (xs.length + 1) c') (xs ++ [(xw, .slice pv xz.length cv, xz)]) hd ix) ∧ Hid (W.heap[w9.heap.size]? = some (.cells #[.string xw, .slice pv xz.length cv] 35 (0, 0))))
          case first =>
            refine wp_region_held_drew (S := fun W => W.cell? ⟨w9.heap.size, 0, none⟩ = some (.string xw) ∧ W.cell? ⟨w9.heap.size, 1, none⟩ = some (.slice pv xz.length cv)) (by kernel_rfl) ?_ (fun hHeld => ?_)
            · exact HSy.out _ drew_below
            refine tkH 0 (some 89) ?_ ?_ hHeld ?_; rotate_left; focus (intro w hSw; (try dsimp only at hSw); go_simp; try with_reducible rfl); try simp only [put_norm]
            refine tkH 1 (some 90) ?_ ?_ hHeld ?_; rotate_left; focus (intro w hSw; (try dsimp only at hSw); go_simp; try with_reducible rfl); try simp only [put_norm]
            refine tkH 2 (some 91) ?_ ?_ hHeld ?_; rotate_left; focus (intro w hSw; (try dsimp only at hSw); go_simp; try with_reducible rfl); try simp only [put_norm]
            refine tkH 3 (some 92) ?_ ?_ hHeld ?_; rotate_left; focus (intro w hSw; (try dsimp only at hSw); go_simp; try with_reducible rfl); try simp only [put_norm]
            refine tkH 5 (some 94) ?_ ?_ hHeld ?_; rotate_left; focus (intro w hSw; (try dsimp only at hSw); go_simp; try with_reducible rfl); try simp only [put_norm]
            refine wpAnyH_ready (rs := [4, 6]) (by kernel_rfl) (by simp) ?_
            refine AllReadyH.cons rfl (fun K hK => ?_) ?_
            · go_simp
              refine hK.out _ _ ?_ (fun hHeld => ?_)
              · first | exact HSy.out _ drew_below | exact HSy.out _ (drew_below.alloc (Nat.le_refl _) _) | exact HS12.out
              clear hK K
              refine rdy1 6 (fun K hK => ?_)
              go_simp
              refine hK.out _ _ ?_ (fun hHeld => ?_)
              · first | exact HSy.out _ drew_below | exact HSy.out _ (drew_below.alloc (Nat.le_refl _) _) | exact HS12.out
              clear hK K
              refine rdy1 7 (fun K hK => ?_)
              refine step_pushL (w := w10.drew) (by rfl) _ _ 85 (by rfl) w6.heap.size 35 i0 _ 2 40 Tryz.underlying85 hi hz0 hz1 hz2 rfl (by decide) (.slice Al xs.length cl) xs.length (entCells xs) (by rfl) (HD10.out.below drew_below).list #[.string xw, .slice pv xz.length cv] (by rfl) (by intro x hx; simp at hx; rcases hx with rfl | rfl <;> rfl) (by rfl) (by unfold maxLen; omega) (by omega) h610 ?_
              intro gg cc w11 hown hg11 hloc
              have hD := HD10.out.below (drew_below (w := w10))
              obtain ⟨hw11, ho11⟩ := hD.grown hg11
              have HDp := Lib.hid (hD.push (xw, .slice pv xz.length cv, xz) _ (HFS10.out.keep drew_below) HX2.out hown hg11 (hloc.imp id (fun ⟨g, h1, h2, _⟩ => ⟨g, h1, h2⟩)))
              have hy11 : w11.heap[w9.heap.size]? = some (.cells #[.string xw, .slice pv xz.length cv] 35 (0, 0)) := (ho11 _ hy10 (fun e => by have := HLv.out _ e; omega)).trans HY10.out
              have c11 := Lib.cell_of_heap hw11 0
              have z11 := Lib.frozen_of_heap hw11 0
              simp only [List.getElem?_toArray, List.getElem?_cons_zero] at c11
              have HY12 : Hid ((w11.setCell ⟨mb + 1, 0, none⟩ (.slice (some ⟨gg, 0, none⟩) (xs.length + 1) cc)).heap[w9.heap.size]? = some (.cells #[.string xw, .slice pv xz.length cv] 35 (0, 0))) := Lib.hid (by rw [Below.heap_setCell _ _ _ _ (by simp; omega)]; exact hy11)
              have HS12 : Hid ((w11.setCell ⟨mb + 1, 0, none⟩ (.slice (some ⟨gg, 0, none⟩) (xs.length + 1) cc)).cell? ⟨w9.heap.size, 0, none⟩ = some (.string xw) ∧ (w11.setCell ⟨mb + 1, 0, none⟩ (.slice (some ⟨gg, 0, none⟩) (xs.length + 1) cc)).cell? ⟨w9.heap.size, 1, none⟩ = some (.slice pv xz.length cv)) := Lib.hid ⟨by rw [Lib.cell_of_heap HY12.out]; rfl, by rw [Lib.cell_of_heap HY12.out]; rfl⟩
              have HS11 : Hid (w11.cell? ⟨w9.heap.size, 0, none⟩ = some (.string xw) ∧ w11.cell? ⟨w9.heap.size, 1, none⟩ = some (.slice pv xz.length cv)) := Lib.hid ⟨by rw [Lib.cell_of_heap hy11]; rfl, by rw [Lib.cell_of_heap hy11]; rfl⟩
              clear hown hg11 hloc hD hw11 ho11 hy11
              refine hK.out _ _ ?_ (fun hHeld => ?_)
              · exact HS11.out
              clear hK K
              refine tkH 8 (some 97) ?_ ?_ hHeld ?_; rotate_left; focus (intro w hSw; (try dsimp only at hSw); go_simp; try with_reducible rfl); try simp only [put_norm]
              refine tkH 9 (some 98) ?_ ?_ hHeld ?_; rotate_left; focus (intro w hSw; (try dsimp only at hSw); go_simp; try with_reducible rfl); try simp only [put_norm]
              refine rdy1 10 (fun K hK => ?_)
              go_simp
              refine hK.out _ _ ?_ (fun hHeld => ?_)
              · first | exact HSy.out _ drew_below | exact HSy.out _ (drew_below.alloc (Nat.le_refl _) _) | exact HS12.out
              clear hK K
              refine wpAnyH_done (by kernel_rfl) ?_ _
              go_wp2_with fail
              go_meet
              exact ⟨_, _, HDp, HY12⟩
            refine AllReadyH.cons rfl (fun K hK => ?_) ?_
            · go_simp
              refine hK.out _ _ ?_ (fun hHeld => ?_)
              · first | exact HSy.out _ drew_below | exact HSy.out _ (drew_below.alloc (Nat.le_refl _) _) | exact HS12.out
              clear hK K
              refine rdy1 4 (fun K hK => ?_)
              go_simp
              refine hK.out _ _ ?_ (fun hHeld => ?_)
              · first | exact HSy.out _ drew_below | exact HSy.out _ (drew_below.alloc (Nat.le_refl _) _) | exact HS12.out
              clear hK K
              refine rdy1 7 (fun K hK => ?_)
              refine step_pushL (w := w10.drew) (by rfl) _ _ 85 (by rfl) w6.heap.size 35 i0 _ 2 40 Tryz.underlying85 hi hz0 hz1 hz2 rfl (by decide) (.slice Al xs.length cl) xs.length (entCells xs) (by rfl) (HD10.out.below drew_below).list #[.string xw, .slice pv xz.length cv] (by rfl) (by intro x hx; simp at hx; rcases hx with rfl | rfl <;> rfl) (by rfl) (by unfold maxLen; omega) (by omega) h610 ?_
              intro gg cc w11 hown hg11 hloc
              have hD := HD10.out.below (drew_below (w := w10))
              obtain ⟨hw11, ho11⟩ := hD.grown hg11
              have HDp := Lib.hid (hD.push (xw, .slice pv xz.length cv, xz) _ (HFS10.out.keep drew_below) HX2.out hown hg11 (hloc.imp id (fun ⟨g, h1, h2, _⟩ => ⟨g, h1, h2⟩)))
              have hy11 : w11.heap[w9.heap.size]? = some (.cells #[.string xw, .slice pv xz.length cv] 35 (0, 0)) := (ho11 _ hy10 (fun e => by have := HLv.out _ e; omega)).trans HY10.out
              have c11 := Lib.cell_of_heap hw11 0
              have z11 := Lib.frozen_of_heap hw11 0
              simp only [List.getElem?_toArray, List.getElem?_cons_zero] at c11
              have HY12 : Hid ((w11.setCell ⟨mb + 1, 0, none⟩ (.slice (some ⟨gg, 0, none⟩) (xs.length + 1) cc)).heap[w9.heap.size]? = some (.cells #[.string xw, .slice pv xz.length cv] 35 (0, 0))) := Lib.hid (by rw [Below.heap_setCell _ _ _ _ (by simp; omega)]; exact hy11)
              have HS12 : Hid ((w11.setCell ⟨mb + 1, 0, none⟩ (.slice (some ⟨gg, 0, none⟩) (xs.length + 1) cc)).cell? ⟨w9.heap.size, 0, none⟩ = some (.string xw) ∧ (w11.setCell ⟨mb + 1, 0, none⟩ (.slice (some ⟨gg, 0, none⟩) (xs.length + 1) cc)).cell? ⟨w9.heap.size, 1, none⟩ = some (.slice pv xz.length cv)) := Lib.hid ⟨by rw [Lib.cell_of_heap HY12.out]; rfl, by rw [Lib.cell_of_heap HY12.out]; rfl⟩
              have HS11 : Hid (w11.cell? ⟨w9.heap.size, 0, none⟩ = some (.string xw) ∧ w11.cell? ⟨w9.heap.size, 1, none⟩ = some (.slice pv xz.length cv)) := Lib.hid ⟨by rw [Lib.cell_of_heap hy11]; rfl, by rw [Lib.cell_of_heap hy11]; rfl⟩
              clear hown hg11 hloc hD hw11 ho11 hy11
              refine hK.out _ _ ?_ (fun hHeld => ?_)
              · exact HS11.out
              clear hK K
              refine tkH 8 (some 97) ?_ ?_ hHeld ?_; rotate_left; focus (intro w hSw; (try dsimp only at hSw); go_simp; try with_reducible rfl); try simp only [put_norm]
              refine tkH 9 (some 98) ?_ ?_ hHeld ?_; rotate_left; focus (intro w hSw; (try dsimp only at hSw); go_simp; try with_reducible rfl); try simp only [put_norm]
              refine rdy1 10 (fun K hK => ?_)
              go_simp
              refine hK.out _ _ ?_ (fun hHeld => ?_)
              · first | exact HSy.out _ drew_below | exact HSy.out _ (drew_below.alloc (Nat.le_refl _) _) | exact HS12.out
              clear hK K
              refine wpAnyH_done (by kernel_rfl) ?_ _
              go_wp2_with fail
              go_meet
              exact ⟨_, _, HDp, HY12⟩
            exact AllReadyH.nil
          case rest =>
          obtain ⟨A', c', HDp, HYp⟩ := hcut
          obtain ⟨w12, hw12⟩ : ∃ W : World, W = wc := ⟨_, rfl⟩
          rw [← hw12] at HDp HYp ⊢
          clear hw12 wc c0 z0 HD10 HY10 HSy HFS10 HX2 HLv hmw h610 hy10 hi hz0 hz1 hz2 i0 hcv hL9 hb10 hs8 hs9 hxb
          obtain ⟨i0, hi, hz0, hz1, hz2⟩ := info_parts dint_info
          have hmw : mb + 1 < w12.heap.size := block_lt HDp.out.words
          have hy12 := block_lt HYp.out
          have h612 : w6.heap.size ≤ w12.heap.size := HDp.out.kept.size
          have hle := HDp.out.found.le xw
          have hyn : (hd xw).ownBlock ≠ some w9.heap.size := fun e => by
            obtain ⟨-, -, cur, g3⟩ := own_ge (HDp.out.found.rows xw) e
            rw [HYp.out] at g3
            injection g3 with g3
            injection g3 with _ g5 _
            exact absurd g5 (by decide)
          have hwn : (hd xw).ownBlock ≠ some (mb + 1) := fun e => (HDp.out.apart.2 xw _ e).2.1 rfl
          have HNe := Lib.hid (⟨hyn, hwn⟩ : _ ∧ _)
          have HLk : Hid (∀ W, Below w12.heap.size w12 W → (Instr.lookup 134 (.map (some mb)) (.string xw) false).run Tryz.prog W = .ok (hd xw) W) := Lib.hid (fun W hW => (HDp.out.below hW).found.look xw (by have := HXs.out; unfold maxLen; omega) (by kernel_rfl))
          have hlk1 := HLk.out w12.drew drew_below
          have hlk2 := HLk.out (w12.drew.alloc (.cells #[.int .i64 (k : Int)] 3)) (drew_below.alloc (Nat.le_refl _) _)
          have hlk3 : (Instr.lookup 134 (.map (some mb)) (.string xw) false).run Tryz.prog (w12.alloc (.cells #[.int .i64 (k : Int)] 3)).drew = .ok (hd xw) (w12.alloc (.cells #[.int .i64 (k : Int)] 3)).drew := hlk2
          have HSs : Hid (∀ W : World, (W.heap[mb + 1]? = w12.heap[mb + 1]? ∧ W.heap[w9.heap.size]? = w12.heap[w9.heap.size]?) → W.cell? ⟨mb + 1, 1, none⟩ = some (.map (some mb)) ∧ W.cell? ⟨w9.heap.size, 0, none⟩ = some (.string xw)) := Lib.hid (fun W hW => ⟨by rw [Lib.cell_of_heap (hW.1.trans HDp.out.words)]; rfl, by rw [Lib.cell_of_heap (hW.2.trans HYp.out)]; rfl⟩)
          have HSb : Hid (∀ W, Below w12.heap.size w12 W → W.cell? ⟨mb + 1, 1, none⟩ = some (.map (some mb)) ∧ W.cell? ⟨w9.heap.size, 0, none⟩ = some (.string xw)) := Lib.hid (fun W hW => HSs.out W ⟨hW.block _ hmw, hW.block _ hy12⟩)
          clear hyn hwn
          go_upto_region 23 with fail
          refine wp_region_held_drew (S := fun W => W.cell? ⟨mb + 1, 1, none⟩ = some (.map (some mb)) ∧ W.cell? ⟨w9.heap.size, 0, none⟩ = some (.string xw)) (by kernel_rfl) ?_ (fun hHeld => ?_)
          · exact HSb.out _ drew_below
          refine tkH 0 (some 99) ?_ ?_ hHeld ?_; rotate_left; focus (intro w hSw; (try dsimp only at hSw); go_simp; try with_reducible rfl); try simp only [put_norm]
          refine tkH 1 (some 100) ?_ ?_ hHeld ?_; rotate_left; focus (intro w hSw; (try dsimp only at hSw); go_simp; try with_reducible rfl); try simp only [put_norm]
          refine tkH 2 (some 101) ?_ ?_ hHeld ?_; rotate_left; focus (intro w hSw; (try dsimp only at hSw); go_simp; try with_reducible rfl); try simp only [put_norm]
          refine tkH 3 (some 102) ?_ ?_ hHeld ?_; rotate_left; focus (intro w hSw; (try dsimp only at hSw); go_simp; try with_reducible rfl); try simp only [put_norm]
          refine tkH 4 (some 103) ?_ ?_ hHeld ?_; rotate_left; focus (intro w hSw; (try dsimp only at hSw); go_simp; try with_reducible rfl); try simp only [put_norm]
          refine tkH 5 (some 104) ?_ ?_ hHeld ?_; rotate_left; focus (intro w hSw; (try dsimp only at hSw); go_simp; try with_reducible rfl); try simp only [put_norm]
          refine tkH 6 (some 105) ?_ ?_ hHeld ?_; rotate_left; focus (intro w hSw; (try dsimp only at hSw); go_simp; try with_reducible rfl); try simp only [put_norm]
          refine tkH 7 (some 106) ?_ ?_ hHeld ?_; rotate_left; focus (intro w hSw; (try dsimp only at hSw); go_simp; try with_reducible rfl); try simp only [put_norm]
          refine tkH 8 (some 107) ?_ ?_ hHeld ?_; rotate_left; focus (intro w hSw; (try dsimp only at hSw); go_simp; try with_reducible rfl); try simp only [put_norm]
          refine tkH 9 (some 108) ?_ ?_ hHeld ?_; rotate_left; focus (intro w hSw; (try dsimp only at hSw); go_simp; try with_reducible rfl); try simp only [put_norm]
          refine tkH 10 (some 109) ?_ ?_ hHeld ?_; rotate_left; focus (intro w hSw; (try dsimp only at hSw); go_simp; try with_reducible rfl); try simp only [put_norm]
          refine tkH 11 (some 110) ?_ ?_ hHeld ?_; rotate_left; focus (intro w hSw; (try dsimp only at hSw); go_simp; try with_reducible rfl); try simp only [put_norm]
          refine tkH 13 (some 112) ?_ ?_ hHeld ?_; rotate_left; focus (intro w hSw; (try dsimp only at hSw); go_simp; try with_reducible rfl); try simp only [put_norm]
          refine wpAnyH_ready (rs := [12, 14]) (by kernel_rfl) (by simp) ?_
          refine AllReadyH.cons rfl (fun K hK => ?_) ?_
          · go_simp
            refine hK.out _ _ ?_ (fun hHeld => ?_)
            · first | exact HSb.out _ drew_below | exact HSb.out _ (drew_below.alloc (Nat.le_refl _) _) | exact HS14.out
            clear hK K
            refine rdy1 14 (fun K hK => ?_)
            go_simp
            refine hK.out _ _ ?_ (fun hHeld => ?_)
            · first | exact HSb.out _ drew_below | exact HSb.out _ (drew_below.alloc (Nat.le_refl _) _) | exact HS14.out
            clear hK K
            refine rdy1 15 (fun K hK => ?_)
            refine step_pushL (w := w12.drew) (by rfl) _ _ 39 (by rfl) w6.heap.size 3 i0 _ 1 8 Tryz.underlying39 hi hz0 hz1 hz2 rfl (by decide) (hd xw) (ix xw).length ((ix xw).map (Value.int .i64)) (by rfl) ((HDp.out.below drew_below).found.rows xw) #[.int .i64 (k : Int)] (by rfl) (by intro x hx; simp at hx; subst hx; rfl) (by rfl) (by unfold maxLen; omega) (by omega) h612 ?_
            intro gg cc w13 hown hg13 hloc
            obtain ⟨w14, hrun, hDn, hkp⟩ := (HDp.out.below (drew_below (w := w12))).store xw (k : Int) _ (by have := HXs.out; unfold maxLen; omega) (by unfold maxLen; omega) hown hg13 (hloc.imp id (fun ⟨g, h1, h2, _⟩ => ⟨g, h1, h2⟩))
            have HDn := Lib.hid hDn
            have HS13 := Lib.hid (HSs.out w13 ⟨grown_at hg13 _ hmw HNe.out.2, grown_at hg13 _ hy12 HNe.out.1⟩)
            have HS14 := Lib.hid (HSs.out w14 ⟨hkp _ hmw HNe.out.2 (by omega), hkp _ hy12 HNe.out.1 (by omega)⟩)
            clear hown hg13 hloc hDn hkp
            refine hK.out _ _ ?_ (fun hHeld => ?_)
            · exact HS13.out
            clear hK K
            refine rdy1 16 (fun K hK => ?_)
            go_simp
            refine hK.out _ _ ?_ (fun hHeld => ?_)
            · first | exact HSb.out _ drew_below | exact HSb.out _ (drew_below.alloc (Nat.le_refl _) _) | exact HS14.out
            clear hK K
            refine wpAnyH_done (by kernel_rfl) ?_ _
            go_wp2_with fail
            go_roundw
            case rel => exact ⟨k + 1, _, xs ++ [(xw, .slice pv xz.length cv, xz)], _, _, by omega, by go_num, HDn, Lib.hid (by rw [entAbs_snoc]; exact HMx.out), Lib.hid (by rw [entAbs_snoc]; exact HIL.out (xw, xz))⟩
            case measure => simp [intOf]; omega
          refine AllReadyH.cons rfl (fun K hK => ?_) ?_
          · go_simp
            refine hK.out _ _ ?_ (fun hHeld => ?_)
            · first | exact HSb.out _ drew_below | exact HSb.out _ (drew_below.alloc (Nat.le_refl _) _) | exact HS14.out
            clear hK K
            refine rdy1 12 (fun K hK => ?_)
            go_simp
            refine hK.out _ _ ?_ (fun hHeld => ?_)
            · first | exact HSb.out _ drew_below | exact HSb.out _ (drew_below.alloc (Nat.le_refl _) _) | exact HS14.out
            clear hK K
            refine rdy1 15 (fun K hK => ?_)
            refine step_pushL (w := w12.drew) (by rfl) _ _ 39 (by rfl) w6.heap.size 3 i0 _ 1 8 Tryz.underlying39 hi hz0 hz1 hz2 rfl (by decide) (hd xw) (ix xw).length ((ix xw).map (Value.int .i64)) (by rfl) ((HDp.out.below drew_below).found.rows xw) #[.int .i64 (k : Int)] (by rfl) (by intro x hx; simp at hx; subst hx; rfl) (by rfl) (by unfold maxLen; omega) (by omega) h612 ?_
            intro gg cc w13 hown hg13 hloc
            obtain ⟨w14, hrun, hDn, hkp⟩ := (HDp.out.below (drew_below (w := w12))).store xw (k : Int) _ (by have := HXs.out; unfold maxLen; omega) (by unfold maxLen; omega) hown hg13 (hloc.imp id (fun ⟨g, h1, h2, _⟩ => ⟨g, h1, h2⟩))
            have HDn := Lib.hid hDn
            have HS13 := Lib.hid (HSs.out w13 ⟨grown_at hg13 _ hmw HNe.out.2, grown_at hg13 _ hy12 HNe.out.1⟩)
            have HS14 := Lib.hid (HSs.out w14 ⟨hkp _ hmw HNe.out.2 (by omega), hkp _ hy12 HNe.out.1 (by omega)⟩)
            clear hown hg13 hloc hDn hkp
            refine hK.out _ _ ?_ (fun hHeld => ?_)
            · exact HS13.out
            clear hK K
            refine rdy1 16 (fun K hK => ?_)
            go_simp
            refine hK.out _ _ ?_ (fun hHeld => ?_)
            · first | exact HSb.out _ drew_below | exact HSb.out _ (drew_below.alloc (Nat.le_refl _) _) | exact HS14.out
            clear hK K
            refine wpAnyH_done (by kernel_rfl) ?_ _
            go_wp2_with fail
            go_roundw
            case rel => exact ⟨k + 1, _, xs ++ [(xw, .slice pv xz.length cv, xz)], _, _, by omega, by go_num, HDn, Lib.hid (by rw [entAbs_snoc]; exact HMx.out), Lib.hid (by rw [entAbs_snoc]; exact HIL.out (xw, xz))⟩
            case measure => simp [intOf]; omega
          exact AllReadyH.nil
      obtain rfl : k = rest.length := by omega
      have hdone := HDl.out.done
      obtain ⟨Al, cl, rfl⟩ := own_slice HD.out.list
      have c0 := HD.out.c0
      have hxl : xs.length = rest.length := by have := HDl.out.1; rw [entAbs_len] at this; exact this
      have hwS6 : w.heap.size < w6.heap.size := by have := HR6.out.size; omega
      by_cases hlc : (rest.length : Int) < cnt
      · have HX : Hid (dicRows F ((nE : Int) + 1) ((l0, row0) :: rest) = .error ((nE : Int) + 1, 116)) := Lib.hid (by rw [HRd.out, hdone]; dsimp only; rw [if_pos (by rw [entAbs_len, hxl]; exact hlc)])
        rw [hxl] at c0
        clear hdone
        go_wp2_with (go_at_call 48; refine (so_dfault _ _ _).mono ?_; rintro e w8 ⟨rfl, hb⟩; have HR8 := Lib.hid (HRr.out.below hb); clear hb; have q0 := HR8.out.q 0; have q1 := HR8.out.q 1; have q2 := HR8.out.q 2; simp only [List.getElem?_toArray, List.getElem?_cons_zero, List.getElem?_cons_succ] at q0 q1 q2; have z0 := HR8.out.z 0; have z1 := HR8.out.z 1; have z2 := HR8.out.z 2)
        refine bodyPost_ret (v := .tuple #[.pointer none, .agg #[.int .i64 2, .int .i64 ((nE : Int) + 1), .int .i64 116]]) (by simp [results, Tryz.results18, go_sem, q0, q1, q2]; try rfl) rfl ?_
        rw [HX.out]
        exact ⟨HR8.out.done _ _ _, rfl⟩
      have HX : Hid (dicRows F ((nE : Int) + 1) ((l0, row0) :: rest) = .ok (entAbs xs)) := Lib.hid (by rw [HRd.out, hdone]; dsimp only; rw [if_neg (by rw [entAbs_len, hxl]; exact hlc)])
      have HWf := Lib.hid (WordsAt.fin HD.out HRr.out hwS6 (by have := HR2.out.size; omega) HIX.out)
      rw [hxl] at c0
      have q0 := HRr.out.q 0
      have q1 := HRr.out.q 1
      have q2 := HRr.out.q 2
      simp only [List.getElem?_toArray, List.getElem?_cons_zero, List.getElem?_cons_succ] at q0 q1 q2
      have z0 := HRr.out.z 0
      have z1 := HRr.out.z 1
      have z2 := HRr.out.z 2
      clear hdone
      go_wp2_with fail
      refine bodyPost_ret (v := .tuple #[.pointer (some ⟨mb + 1, 0, none⟩), .agg #[.int .i64 0, .int .i64 0, .int .i64 0]]) (by simp [results, Tryz.results18, go_sem, q0, q1, q2]; try rfl) rfl ?_
      rw [HX.out]
      exact ⟨HRr.out.done _ _ _, mb + 1, rfl, HWf.out _ _ _, by have := HR2.out.size; omega⟩
    have hhc1 : (hc != 0) = true := by rw [bne_iff_ne]; exact hhc
    have HRd := Lib.hid (HDb.out hhc)
    go_wp2_with (go_at_call 48; refine (so_dfault _ _ _).mono ?_; rintro e w4 ⟨rfl, hb⟩; have HR4 := Lib.hid (HR3.out.below hb); clear hb; have q0 := HR4.out.q 0; have q1 := HR4.out.q 1; have q2 := HR4.out.q 2; simp only [List.getElem?_toArray, List.getElem?_cons_zero, List.getElem?_cons_succ] at q0 q1 q2; have z0 := HR4.out.z 0; have z1 := HR4.out.z 1; have z2 := HR4.out.z 2)
    refine bodyPost_ret (v := .tuple #[.pointer none, .agg #[.int .i64 2, .int .i64 l0, .int .i64 hc]]) (by simp [results, Tryz.results18, go_sem, q0, q1, q2]; try rfl) rfl ?_
    rw [HRd.out]
    exact ⟨HR4.out.done _ _ _, rfl⟩
end Go.Proofs.YtfkblpjfknfgbaaGreatDoor
namespace Go.Proofs.YtfkblpjfknfgbaaGreatDoor
open Go.RowKit
set_option maxHeartbeats 2000000 in
set_option maxRecDepth 100000 in
theorem so_CloneEnt (v : Value) (n : Nat) (xs : List Value) (w : World) (h : Rd w 2 v n xs) (h1 : ∀ u ∈ xs, u.oneCell' = true) (hn : n ≤ 65536) :
    Calls Tryz.prog 66 #[v] w fun e w' => ∃ v', e = .returned v' ∧ Own w w' 35 2 v' n xs := by
  obtain ⟨hl, p, c, rfl, hcap, hs⟩ := h
  obtain ⟨i0, hi, hz0, hz1, hz2⟩ := info_parts ent_info
  have qn : ∀ (w : World) (a : Option Addr) (n c n' c' : Nat), (binOp .eql 85 (.slice a n c) (.slice none n' c')).run Tryz.prog w = .ok (.bool a.isNone) w := fun w a n c n' c' => Lib.run_eql_slice_nil w _ _ a n c n' c' Tryz.underlying85
  have hS := Lib.hid hs
  have HL := Lib.hid hl
  clear hs hl
  cases p with
  | none =>
    have h0 : n = 0 := hS.out.resolve_right (by rintro ⟨b, off, hp, _⟩; cases hp)
    clear hS
    subst h0
    have hx : Hid (xs = []) := Lib.hid (List.eq_nil_of_length_eq_zero (by rw [HL.out, Nat.zero_mul]))
    go_enter Tryz.func66, Tryz.ntmps66
    go_wp2
    go_ret
    exact ⟨_, rfl, by rw [hx.out]; exact Own.nil_ _ _ _⟩
  | some ad =>
    have hr := run_append_src (P := Tryz.prog) (w.alloc (.cells #[] 35)) w.heap.size 85 85 35 i0 (.agg #[.string ByteArray.empty, .slice none 0 0]) 2 40 Tryz.underlying85 hi hz0 hz1 hz2 rfl (by decide) _ 0 [] (World.ownsRow_made w #[] 0 (Nat.le_refl _) (Nat.zero_le _) rfl)
      (some ad) n c xs HL.out (news_of hS.out HL.out ((Below.refl _ w).alloc (Nat.le_refl _) _)) h1 (by unfold maxLen; omega) (by omega) (by simp)
    obtain ⟨v', w1, hrun, hown, hg, -⟩ := hr
    rw [Nat.zero_add, List.nil_append] at hown
    have HR := Lib.hid hrun
    have HO := Lib.hid hown
    have HG := Lib.hid hg
    clear hrun hown hg hS
    go_enter Tryz.func66, Tryz.ntmps66
    go_wp2_with (at_builtin; refine Lib.wpList_append_run _ rfl _ _ _ _ rfl _ _ rfl rfl _ _ HR.out ?_)
    go_ret
    refine ⟨v', rfl, ⟨?_, HO.out⟩⟩
    exact ((Below.refl _ w).alloc (Nat.le_refl _) _).grown HG.out (by simp) (by intro g hg; simp [Value.ownBlock] at hg; omega)
end Go.Proofs.YtfkblpjfknfgbaaGreatDoor
