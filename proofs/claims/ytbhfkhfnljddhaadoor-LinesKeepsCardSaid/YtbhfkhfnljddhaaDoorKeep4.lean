/-
  LinesKeeps walked.
-/
import Derived.Test.YtbhfkhfnljddhaaDoorRows
import Derived.Test.YtbhfkhfnljddhaaDoorKeep3
namespace Go.Proofs.YtbhfkhfnljddhaaDoor
open Go.RowKit

theorem rowAbs_eq {rs1 rs2 : List RowIn} (he : rowAbs rs1 = rowAbs rs2) : rs1.length = rs2.length ∧ ∀ k (h : k < rs1.length) (h' : k < rs2.length), rs2[k].1 = rs1[k].1 ∧ rs2[k].2.2 = rs1[k].2.2 := by
  refine ⟨by have := congrArg List.length he; simpa [rowAbs] using this, fun k h h' => ?_⟩
  have e1 : (rowAbs rs1)[k]'(by simpa [rowAbs] using h) = (rowAbs rs2)[k]'(by simpa [rowAbs] using h') := by simp only [he]
  simp only [rowAbs, List.getElem_map, Prod.mk.injEq] at e1
  exact ⟨e1.1.symm, e1.2.symm⟩

set_option maxRecDepth 100000 in
set_option maxHeartbeats 8000000 in
theorem linesKeeps_walk (s t : ByteArray) (m : Int) (w : World) (h0 : 0 < w.heap.size) (hm : w.cell? ⟨0, 0, none⟩ = some (.int .i64 m)) :
    Calls Tryd.prog 12 #[.string s, .string t] w fun e w' => e = .returned (.bool true) ∧ Below w.heap.size w w' := by
  have HM := Lib.hid hm
  have H0 := Lib.hid h0
  clear hm h0
  go_enter Tryd.func12, Tryd.ntmps12
  go_wp2_with fail
  refine (wakes01_any _).mono ?_
  rintro e wA ⟨rfl, hbA⟩
  have HBA := Lib.hid hbA
  clear hbA
  go_wp2_with fail
  refine (Rows01_any s _).mono ?_
  rintro e w1 ⟨vw, rsw, rfl, ow, rdw, aw⟩
  have HB1 : Hid (Below w.heap.size w w1) := Lib.hid (HBA.out.trans (ow.below.mono HBA.out.size))
  have OW := Lib.hid ow.own
  have RW := Lib.hid rdw
  have AW := Lib.hid aw
  clear ow rdw aw
  go_wp2_with fail
  refine (RowsS_any s m _ (by have := HB1.out.size; have := H0.out; omega) ((HB1.out.cell (p := ⟨0, 0, none⟩) H0.out).trans HM.out)).mono ?_
  rintro e w2 ⟨va, rs, rfl, oa, ra, aa, hb2⟩
  have OA := Lib.hid oa
  have RA := Lib.hid ra
  have AA := Lib.hid aa
  have HB12 := Lib.hid hb2
  have HB2 : Hid (Below w.heap.size w w2) := Lib.hid (HB1.out.trans (hb2.mono HB1.out.size))
  clear oa ra aa hb2
  go_wp2_with fail
  refine (RowsS_any s m _ (by have := HB2.out.size; have := H0.out; omega) ((HB2.out.cell (p := ⟨0, 0, none⟩) H0.out).trans HM.out)).mono ?_
  rintro e w3 ⟨vb, rsb, rfl, ob, rb, ab, hb3⟩
  have OB := Lib.hid ob
  have RB := Lib.hid rb
  have AB := Lib.hid ab
  have HB23 := Lib.hid hb3
  have HB3 : Hid (Below w.heap.size w w3) := Lib.hid (HB2.out.trans (hb3.mono HB2.out.size))
  clear ob rb ab hb3
  go_wp2_with fail
  refine (RowsS_any t m _ (by have := HB3.out.size; have := H0.out; omega) ((HB3.out.cell (p := ⟨0, 0, none⟩) H0.out).trans HM.out)).mono ?_
  rintro e w4 ⟨vo, rso, rfl, _, _, _, hb4⟩
  have HB34 := Lib.hid hb4
  have HB24 : Hid (Below w2.heap.size w2 w4) := Lib.hid (HB23.out.trans (hb4.mono HB23.out.size))
  have HB14 : Hid (Below w1.heap.size w1 w4) := Lib.hid (HB12.out.trans (HB24.out.mono HB12.out.size))
  clear hb4
  have hrl : rs.length ≤ 65536 := by
    have h1 : rs.length = (rowsOf (eachOf s.data.toList)).length := by rw [← AA.out]; simp [rowAbs]
    have h2 := rowsOf_len (eachOf s.data.toList)
    have h3 := eachOf_len s.data.toList
    omega
  have HEaw : Hid (rowAbs rs = rowAbs rsw) := Lib.hid (by rw [AA.out, AW.out])
  have HEbw : Hid (rowAbs rsb = rowAbs rsw) := Lib.hid (by rw [AB.out, AW.out])
  have HRsm := Lib.hid (rows_small _ _ AA.out)
  have HRsb := Lib.hid (rows_small _ _ AB.out)
  have hrlb : rsb.length ≤ 65536 := by
    have h1 : rsb.length = (rowsOf (eachOf s.data.toList)).length := by rw [← AB.out]; simp [rowAbs]
    have h2 := rowsOf_len (eachOf s.data.toList)
    have h3 := eachOf_len s.data.toList
    omega
  go_wp2_with fail
  refine (sameRows_same va vw _ _ rs rsw _ (own_below OA.out HB24.out) (own_below OW.out HB14.out) ((RA.out.keep HB24.out).read) (fun r hr => (RW.out r hr).keep HB14.out) HEaw.out hrl HRsm.out).mono ?_
  rintro e w5 ⟨rfl, hb5⟩
  have HB35 : Hid (Below w3.heap.size w3 w5) := Lib.hid (HB34.out.trans (hb5.mono HB34.out.size))
  have HB15 : Hid (Below w1.heap.size w1 w5) := Lib.hid (HB14.out.trans (hb5.mono HB14.out.size))
  clear hb5
  go_wp2_with fail
  refine (sameRows_same vb vw _ _ rsb rsw _ (own_below OB.out HB35.out) (own_below OW.out HB15.out) ((RB.out.keep HB35.out).read) (fun r hr => (RW.out r hr).keep HB15.out) HEbw.out hrlb HRsb.out).mono ?_
  rintro e w6 ⟨rfl, hb6⟩
  have HB36 : Hid (Below w3.heap.size w3 w6) := Lib.hid (HB35.out.trans (hb6.mono HB35.out.size))
  have HB26 : Hid (Below w2.heap.size w2 w6) := Lib.hid (HB23.out.trans (HB36.out.mono HB23.out.size))
  clear hb6
  have KP0 := Lib.hid (Kp.start OA.out RA.out HB12.out HB26.out)
  obtain ⟨Aa, ca, rfl⟩ := own_slice OA.out
  obtain ⟨Aw, cw, rfl⟩ := own_slice OW.out
  go_wp2_with fail
  go_loopw [48] (fun i wr => ∃ (k : Nat) (rs' : List RowIn), k ≤ rs.length ∧ i = .int .i64 k ∧ Kp w1 w6 wr w2.heap.size (.slice Aa rs.length ca) rs rs' ∧ Marked rs' k) (fun i _ => rs.length - (intOf i).toNat)
  case atStart => exact ⟨0, rs, Nat.zero_le _, rfl, KP0.out, fun q _ h => by omega⟩
  case round =>
    obtain ⟨k, rs', hk, rfl, hkp, hmk⟩ := hrel
    have KP := Lib.hid hkp
    have MK := Lib.hid hmk
    clear hkp hmk
    by_cases hlt : k < rs.length
    · have HL : Hid (k < rs'.length) := Lib.hid (by rw [KP.out.len]; exact hlt)
      obtain ⟨ga, rfl, hca, _, _, hc⟩ := KP.out.spineAt HL.out hlt
      obtain ⟨g, n, cap, hv, hn, hcap, hcm⟩ := KP.out.rowAt HL.out
      rw [hv] at hc
      have HN : Hid (∃ h : k < rs.length, rs[k].2.2.length = n ∧ rs[k].2.1 = .slice (some ⟨g, 0, none⟩) n cap) := Lib.hid ⟨hlt, by rw [hn]; exact (KP.out.same k HL.out hlt).2.symm, by rw [← hv]; exact (KP.out.same k HL.out hlt).1.symm⟩
      clear hn hv
      unfold maxLen at hcm
      go_wp2_with fail
      clear hc
      obtain ⟨wo, rfl⟩ : ∃ wo : World, wo = wr := ⟨_, rfl⟩
      go_loopw [57] (fun j wq => ∃ (q : Nat) (rq : List RowIn), q ≤ n ∧ j = .int .i64 q ∧ Kp w1 w6 wq w2.heap.size (.slice (some ⟨ga, 0, none⟩) rs.length ca) rs rq ∧ Marked rq k ∧ MarkedTo rq k q) (fun j _ => n - (intOf j).toNat)
      case atStart => exact ⟨0, rs', Nat.zero_le _, rfl, KP.out, MK.out, fun _ _ _ h => by omega⟩
      case round =>
        obtain ⟨q, rq, hq, rfl, hkp, hmk, hmt⟩ := hrel
        have KQ := Lib.hid hkp
        have MQ := Lib.hid hmk
        have MT := Lib.hid hmt
        clear hkp hmk hmt
        have HLq : Hid (k < rq.length) := Lib.hid (by rw [KQ.out.len]; exact hlt)
        have HRow := Lib.hid (KQ.out.rowIs HLq.out HN.out)
        by_cases hqn : q < n
        · obtain ⟨ga', he, _, _, _, hc⟩ := KQ.out.spineAt HLq.out hlt
          cases he
          rw [HRow.out.1] at hc
          have hcq := HRow.out.2.2.1 q (Nat.lt_of_lt_of_eq hqn HRow.out.2.1)
          have hfq := HRow.out.2.2.2 q
          generalize rq[k].2.2[q]'(Nat.lt_of_lt_of_eq hqn HRow.out.2.1) = old at hcq
          have KQ' := Lib.hid (KQ.out.mark HLq.out HRow.out.1 q markS)
          go_wp2_with fail
          go_roundw
          case rel => exact ⟨q + 1, _, by omega, by go_num, KQ'.out, MQ.out.put _, MT.out.put HLq.out⟩
          case measure => simp [intOf] <;> omega
        · have HMk : Hid (Marked rq (k + 1)) := Lib.hid (MQ.out.next MT.out (fun hk => by have := HRow.out.2.1; omega))
          go_wp2_with fail
          go_roundw
          case rel => exact ⟨k + 1, rq, by omega, by go_num, KQ.out, HMk.out⟩
          case measure => simp [intOf] <;> omega
    · obtain rfl : k = rs.length := by omega
      go_wp2_with fail
      obtain ⟨j0, hj, hy0, hy1, hy2⟩ := info_parts str_info
      go_loopw [71] (fun i wr => ∃ (k : Nat) (rs' : List RowIn), k ≤ rs.length ∧ i = .int .i64 k ∧ Kp w1 w6 wr w2.heap.size (.slice Aa rs.length ca) rs rs' ∧ Marked rs' rs.length) (fun i _ => rs.length - (intOf i).toNat)
      case atStart => exact ⟨0, rs', Nat.zero_le _, rfl, KP.out, MK.out⟩
      case round =>
        clear KP MK
        obtain ⟨k, rs', hk, rfl, hkp, hmk⟩ := hrel
        have KP := Lib.hid hkp
        have MK := Lib.hid hmk
        clear hkp hmk
        by_cases hlt : k < rs.length
        · have HL : Hid (k < rs'.length) := Lib.hid (by rw [KP.out.len]; exact hlt)
          obtain ⟨ga, rfl, hca, _, _, hc⟩ := KP.out.spineAt HL.out hlt
          obtain ⟨g, n, cap, hv, hn, hcap, hcm⟩ := KP.out.rowAt HL.out
          rw [hv] at hc
          have HV := Lib.hid hv
          have HNs := Lib.hid hn
          have HN : Hid (rs[k].2.2.length = n) := Lib.hid (by rw [hn]; exact (KP.out.same k HL.out hlt).2.symm)
          have hn7 : n ≤ 65537 := by have := HRsm.out rs[k] (List.getElem_mem _); have := HN.out; omega
          have GR0 : Hid (Growing w1.heap.size w6.heap.size wr g n cap (.slice (some ⟨g, 0, none⟩) n cap) rs'[k].2.2 0) := Lib.hid (Growing.start (by have := KP.out.rows.1 _ (List.getElem_mem HL.out); rw [hv] at this; exact this))
          clear hn hv
          unfold maxLen at hcm
          go_wp2_with fail
          clear hc
          obtain ⟨wo, rfl⟩ : ∃ wo : World, wo = wr := ⟨_, rfl⟩
          go_loopw [14, 79] (fun lv j wq => ∃ (q : Nat), q ≤ 20 ∧ j = .int .i64 q ∧ Kp w1 w6 wq w2.heap.size (.slice (some ⟨ga, 0, none⟩) rs.length ca) rs rs' ∧ Growing w1.heap.size w6.heap.size wq g n cap lv rs'[k].2.2 q) (fun _ j _ => 20 - (intOf j).toNat)
          case atStart => exact ⟨0, Nat.zero_le _, rfl, KP.out, GR0.out⟩
          case round =>
            clear KP GR0
            obtain ⟨q, hq, rfl, hkp, hgr⟩ := hrel
            have KP := Lib.hid hkp
            clear hkp
            obtain ⟨gl, cl, rfl, hgl0, hgl, hcase⟩ := hgr
            have HGL := Lib.hid hgl
            have HLG := Lib.hid (len_grown rs'[k].2.2 q n HNs.out)
            clear hgl
            by_cases hq20 : q < 20
            · rcases hcase with ⟨hfull, hcells⟩ | ⟨hfit, hown0⟩
              · have HCells : Hid (∀ b, some (⟨gl, 0, none⟩ : Addr) = some b → ∀ p u, (strV (rs'[k].2.2 ++ grownN q))[p]? = some u → (wr.alloc (.cells #[.string ⟨#[103, 114, 111, 119, 110]⟩] 9)).cell? (b.add p) = some u) := Lib.hid (by
                  intro b e p u hp
                  cases e
                  rw [row_addr]
                  have := hcells p u hp
                  exact (((Below.refl _ wr).alloc (Nat.le_refl _) _).cell (World.block_lt_of_cell? _ _ this)).trans this)
                clear hcells
                go_wp2_with (at_builtin; refine wpList_append_grows _ rfl _ _ 24 rfl 9 j0 (.string ByteArray.empty) 1 16 Tryd.underlying24 hj hy0 hy1 hy2 rfl (by decide) (some ⟨gl, 0, none⟩) (n + q) cl (strV (rs'[k].2.2 ++ grownN q)) rfl (fun h => (by cases h)) HLG.out HCells.out ⟨wr.heap.size, 0, none⟩ 1 1 [.string ⟨#[103, 114, 111, 119, 110]⟩] rfl rfl (cell_news _ #[.string ⟨#[103, 114, 111, 119, 110]⟩] _) (by simp [Value.oneCell']) (by omega) (by unfold maxLen; omega) (by omega) ?_; intro v' w' hown hgrow; have HG := Lib.hid (KP.out.grew (g := g) (cap := cap) hown hgrow); obtain ⟨g', cap', rfl⟩ := ownsRow_succ hown; clear hown hgrow)
                go_roundw
                case rel => exact ⟨q + 1, by omega, by go_num, HG.out.1, HG.out.2⟩
                case measure => simp [intOf] <;> omega
              · have HOwn := Lib.hid hown0
                clear hown0
                go_wp2_with (at_builtin; refine wpList_append_fits _ rfl _ _ 24 rfl w1.heap.size 9 j0 1 Tryd.underlying24 hj hy1 gl (n + q) cl (strV (rs'[k].2.2 ++ grownN q)) rfl (HOwn.out.alloc _) ⟨wr.heap.size, 0, none⟩ 1 1 [.string ⟨#[103, 114, 111, 119, 110]⟩] rfl rfl (cell_news _ #[.string ⟨#[103, 114, 111, 119, 110]⟩] _) (by simp [Value.oneCell']) (by omega) ?_; intro w' hown hgrow; have HG := Lib.hid (KP.out.fitted HL.out HV.out HGL.out hgl0 HOwn.out hown hgrow); clear hown hgrow)
                go_roundw
                case rel => exact ⟨q + 1, by omega, by go_num, HG.out.1, HG.out.2⟩
                case measure => simp [intOf] <;> omega
            · obtain rfl : q = 20 := by omega
              obtain ⟨gw, Ax, cx, rfl, hcw, hkw, hw1, hw2⟩ := want_at OW.out RW.out KP.out.low HEaw.out hlt
              rw [HN.out] at hw2
              clear hcase
              go_wp2_with fail
              go_roundw
              case rel => exact ⟨k + 1, rs', by omega, by go_num, KP.out, MK.out⟩
              case measure => simp [intOf] <;> omega
        · obtain rfl : k = rs.length := by omega
          go_wp2_with fail
          obtain ⟨W2, rfl⟩ : ∃ W2 : World, W2 = wr := ⟨_, rfl⟩
          go_loopw [98] (fun i wr => ∃ (k mm : Nat), k ≤ rs.length ∧ i = .int .i64 k ∧ wr = W2.drewN mm) (fun i _ => rs.length - (intOf i).toNat)
          case atStart => exact ⟨0, 0, Nat.zero_le _, rfl, rfl⟩
          case round =>
            obtain ⟨k, mm, hk, rfl, rfl⟩ := hrel
            by_cases hlt : k < rs.length
            · have HL : Hid (k < rs'.length) := Lib.hid (by rw [KP.out.len]; exact hlt)
              obtain ⟨ga, rfl, hca, _, hc0, hc⟩ := KP.out.spineAt HL.out hlt
              obtain ⟨g, n, cap, hv, hn, hcap, hcm⟩ := KP.out.rowAt HL.out
              rw [hv] at hc
              have HR : Hid (∀ q, q < n → W2.cell? ⟨g, q, none⟩ = some (.string ⟨#[109, 97, 114, 107]⟩)) := Lib.hid (by
                intro q hq
                have hr := KP.out.rows.1 _ (List.getElem_mem HL.out)
                rw [hv] at hr
                have hq' : q < rs'[k].2.2.length := by omega
                exact (hr.cells.2.2.2.2.1 q hq').trans (congrArg (fun x => some (Value.string x)) (MK.out k HL.out hlt _ (List.getElem_mem hq'))))
              obtain ⟨gw, Ax, cx, rfl, hcw, hkw, hw1, hw2⟩ := want_at OW.out RW.out KP.out.low HEaw.out hlt
              have HN : rs[k].2.2.length = n := by rw [hn]; exact (KP.out.same k HL.out hlt).2.symm
              rw [HN] at hw2
              obtain ⟨nl, hnl⟩ : ∃ nl, nl = rs[k].1 := ⟨_, rfl⟩
              rw [← hnl] at hc0 hw1
              have HVV := Lib.hid hv
              clear hn hv HN hnl
              unfold maxLen at hcm
              go_wp2_with fail
              go_quiet (fail)
              go_wp2_with fail
              clear hc hc0 hw1 hw2
              go_loopw [133] (fun j wq => ∃ (q m2 : Nat), q ≤ n ∧ j = .int .i64 q ∧ wq = W2.drewN m2) (fun j _ => n - (intOf j).toNat)
              case atStart => exact ⟨0, _, Nat.zero_le _, rfl, rfl⟩
              case round =>
                obtain ⟨q, m2, hq, rfl, rfl⟩ := hrel
                obtain ⟨ga', he, _, _, hc0, hc⟩ := KP.out.spineAt HL.out hlt
                cases he
                rw [HVV.out] at hc
                by_cases hqn : q < n
                · have hcq := HR.out q hqn
                  go_wp2_with fail
                  go_roundw
                  case rel => exact ⟨q + 1, m2, by omega, by go_num, rfl⟩
                  case measure => simp [intOf] <;> omega
                · go_wp2_with fail
                  go_roundw
                  case rel => exact ⟨k + 1, m2, by omega, by go_num, rfl⟩
                  case measure => simp [intOf] <;> omega
            · obtain rfl : k = rs.length := by omega
              go_wp2_with fail
              have HLow := Lib.hid KP.out.low
              have hbO := own_at (own_below OB.out HB36.out) KP.out.high
              have hbR := rowsS_at (RB.out.keep HB36.out) KP.out.high
              have hwO := own_below OW.out KP.out.low
              have hwR : rowsRead W2 rsw := fun r hr => (RW.out r hr).keep KP.out.low
              refine (sameRows_same vb _ _ _ rsb rsw (W2.drewN mm) hbO hwO hbR.read hwR HEbw.out hrlb HRsb.out).mono ?_
              rintro e w7 ⟨rfl, hb7⟩
              clear hbO hbR hwO hwR
              have HB7 : Hid (Below w.heap.size w w7) := Lib.hid ((below_drewN (HB1.out.trans (HLow.out.mono HB1.out.size)) mm).trans (hb7.mono (Nat.le_trans HB1.out.size HLow.out.size)))
              clear hb7
              go_wp2_with fail
              go_ret
              exact ⟨rfl, HB7.out⟩
theorem linesKeeps_sh (s t : ByteArray) (W : World) (h : W.ShapedOpen Tryd.prog) :
    Calls Tryd.prog 12 #[.string s, .string t] W fun e w' => e = .returned (.bool true) ∧ Below W.heap.size W w' := by
  obtain ⟨m, hm⟩ := maxLen_of W h
  exact linesKeeps_walk s t m W (World.block_lt_of_cell? W _ hm) hm
end Go.Proofs.YtbhfkhfnljddhaaDoor
