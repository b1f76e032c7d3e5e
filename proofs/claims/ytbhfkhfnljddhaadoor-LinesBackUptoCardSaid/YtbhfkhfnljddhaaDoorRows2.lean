/-
  lines.Rows over the iterator.
-/
import Derived.Test.YtbhfkhfnljddhaaDoorRows
import Derived.Test.YtbhfkhfnljddhaaDoorRows1
import Derived.Maps.AppendAt
namespace Go.Proofs.YtbhfkhfnljddhaaDoor
open Go.RowKit Go.Shelf
attribute [local go_sem] Oper.semAt_some

theorem row_info : (Tryd.prog.info? 57).map (fun i => (i.zero, i.size, i.bytes)) = some (some (.agg #[.int .i64 0, .slice none 0 0]), 2, 32) := by kernel_rfl

theorem own_slice {w : World} {B e size n : Nat} {v : Value} {xs : List Value} (h : w.ownsRow B e size v n xs) : ∃ A cap, v = .slice A n cap := by
  rcases h.2 with ⟨rfl, rfl⟩ | ⟨g, cap, cur, rfl, _⟩
  · exact ⟨_, _, rfl⟩
  · exact ⟨_, _, rfl⟩
theorem own_some {w : World} {B e size n : Nat} {v : Value} {xs : List Value} (h : w.ownsRow B e size v n xs) (hn : n ≠ 0) : ∃ g cap, v = .slice (some ⟨g, 0, none⟩) n cap ∧ n ≤ cap := by
  rcases h.2 with ⟨_, h0⟩ | ⟨g, cap, cur, rfl, _, _, hc, _⟩
  · exact absurd h0 hn
  · exact ⟨_, _, rfl, hc⟩

set_option maxRecDepth 100000 in
set_option maxHeartbeats 4000000 in
theorem Rows_any (s : ByteArray) (m : Int) (w : World) (h0 : 0 < w.heap.size) (hm : w.cell? ⟨0, 0, none⟩ = some (.int .i64 m)) :
    Calls Tryd.prog 29 #[.string s] w fun e W' => ∃ v rs, e = .returned (.tuple #[v, .int .i64 (codeS s)]) ∧
      W'.ownsRow w.heap.size 57 2 v rs.length (rowCells rs) ∧ rowsRead W' rs ∧ rowAbs rs = rowsOf (eachOf s.data.toList) ∧ Below w.heap.size w W' := by
  by_cases hbig : 65536 < s.size
  · have HE : Hid (eachOf s.data.toList = []) := Lib.hid (by rw [eachOf, if_pos (by rw [len_toList]; omega)])
    have HC : Hid (codeS s = 10) := Lib.hid (if_pos hbig)
    go_enter Tryd.func29, Tryd.ntmps29
    go_wp2_with fail
    refine bodyPost_ret (results_tmp2 rfl _ _ _) rfl ?_
    exact ⟨.slice none 0 0, [], by rw [HC.out]; rfl, World.ownsRow_nil _ _ _ _, (by intro r hr; cases hr), by rw [HE.out]; rfl, Below.refl _ _⟩
  · have hlen := eachOf_len s.data.toList
    have HC : Hid (codeS s = 0) := Lib.hid (if_neg hbig)
    refine (callsIn_wide (n := 5)).1 ?_
    obtain ⟨i0, hi, hz0, hz1, hz2⟩ := info_parts row_info
    refine callsIn_of_wp_marks Tryd.func29 rfl trivial ?_ rfl
    simp only [Tryd.ntmps29, List.size_toArray, List.length_cons, List.length_nil, Nat.reduceAdd, Nat.reduceSub, Array.replicate_succ, Array.replicate_zero, List.push_toArray, List.append_toArray, List.nil_append, List.cons_append]
    gi_wp2_with (refine ⟨trivial, ?_⟩; gi_at_call 25; refine (Each_in _ _ _).mono ?_; rintro e w' ⟨rfl, rfl⟩)
    have bO := Boxed.new w 49 (.slice none 0 0)
    have bN := Boxed.new (w.alloc (.cells #[.slice none 0 0] 49)) 9 (.string s)
    rw [World.size_alloc] at bN
    have hB0 : Below w.heap.size w ((w.alloc (.cells #[.slice none 0 0] 49)).alloc (.cells #[.string s] 9)) := ((Below.refl _ w).alloc (Nat.le_refl _) _).alloc (by simp) _
    refine wpIn_rangeFunc_ownG rfl (by omega) (gf := 38) (lb := #[.pointer (some ⟨w.heap.size + 1, 0, none⟩)]) rfl trivial (enters_of Tryd.func38 (by kernel_rfl) rfl)
      (eachc_stops (5 - 1) (by omega) (w.heap.size + 1) w.heap.size s h0 m _ (by simp) bN.cell ((hB0.cell (p := ⟨0, 0, none⟩) h0).trans hm)) belowK_t (belowK_b (by simp; omega)) (Below.refl _ _) (fun _ => rfl)
      (fun pre W => RowsBox w.heap.size w.heap.size 49 57 W (rowsOf pre) ∧ Below w.heap.size w W)
      (fun _ _ _ => False)
      (OwnFrom.and (_root_.Go.Own.from (rowsBox_own w.heap.size w.heap.size 49 57 rowsOf) _) (ownFrom_below (Nat.le_refl _) (by simp; omega)))
      (fun _ _ _ _ _ hs _ _ => hs)
      ⟨⟨[], _, bO.alloc _, World.ownsRow_nil _ _ _ _, (by intro r hr; cases hr), rfl⟩, hB0⟩
      (fun x => { tmps := #[.string s, undef, .slice none 0 0, .int .i64 0, .pointer (some ⟨w.heap.size, 0, none⟩), .int .i64 x.1, .string (clamp x.2), undef, undef, undef, .string s, .int .i64 s.size, .bool (decide (65536 < (s.size : Int))), .string s, .func (.func 38) #[] #[.pointer (some ⟨w.heap.size + 1, 0, none⟩)], .int .i64 x.1, .string (clamp x.2), undef, undef, undef, undef, undef, undef, undef, undef, undef, undef, undef, undef, undef, undef, undef, undef, undef, undef, undef, undef, undef, undef, undef, undef, undef, undef, undef], defers := [] }) ?assign ?body ?done ?stop
    case assign =>
      intro l x W K hK
      gi_wp2
      exact hK
    case body =>
      rintro l pre x W ⟨hbox, hB⟩ hlt
      have HBox := Lib.hid hbox
      obtain ⟨rs, v, hv, hrow, hrd, habs⟩ := hbox
      have hrl : rs.length ≤ 65536 := by
        have h1 : rs.length = (rowsOf pre).length := by rw [← habs]; simp [rowAbs]
        have h2 := rowsOf_len pre
        omega
      have HV := Lib.hid hv
      have hc := hv.cell
      have hcl := clamp_le x.2
      have hn1 : 1 ≤ 5 - 1 - 1 := by omega
      obtain ⟨sl, hsl⟩ : ∃ sl, clamp x.2 = sl := ⟨_, rfl⟩
      rw [hsl] at hcl ⊢
      have HRow := Lib.hid hrow
      have HRd := Lib.hid hrd
      have HAbs := Lib.hid habs
      have HRO : Hid (rowsOf (pre ++ [x]) = rowsOf pre ++ rowOf x.1 sl) := Lib.hid (by rw [rowsOf_snoc, hsl])
      have hlp := rowsOf_len pre
      clear hrow hrd habs hsl hv
      have hfl := fields_len sl
      by_cases hn0 : (fieldsS sl).length = 0
      · have HRO2 : Hid (rowsOf (pre ++ [x]) = rowsOf pre) := Lib.hid (by rw [HRO.out, rowOf, List.eq_nil_of_length_eq_zero hn0]; simp [keptS])
        gi_wp2_with (refine ⟨trivial, ?_⟩; gi_at_call 17; refine (CallsIn.inRound l (callsIn_wide.2 (Fields_any sl _ (by omega)))).mono ?_; rintro e w1 ⟨vf, rfl, of⟩; have OF := Lib.hid of; obtain ⟨Ag, cg, rfl⟩ := own_slice of.own; rw [hn0] at *; have HB1 := Lib.hid of.below; clear of)
        gi_loopw [7, 21] (fun fv i wr => wr = w1 ∧ fv = .slice Ag 0 cg ∧ i = .int .i64 0) (fun _ _ _ => 1)
        case atStart => exact ⟨rfl, rfl, rfl⟩
        case round =>
          obtain ⟨rfl, rfl, rfl⟩ := hrel
          gi_wp2
          exact ⟨keepsFrom_below HB1.out, HB1.out.mono hB.size, by rw [HRO2.out]; exact HBox.out.keep HB1.out, hB.trans (HB1.out.mono hB.size)⟩
      · gi_wp2_with (refine ⟨trivial, ?_⟩; gi_at_call 17; refine (CallsIn.inRound l (callsIn_wide.2 (Fields_any sl _ (by omega)))).mono ?_; rintro e w1 ⟨vf, rfl, of⟩; have OF := Lib.hid of; obtain ⟨g, cg, rfl, hcg⟩ := own_some of.own hn0; have HB1 := Lib.hid of.below; clear of)
        gi_loopw [7, 21] (fun fv i wr => wr = w1 ∧ fv = .slice (some ⟨g, 0, none⟩) (fieldsS sl).length cg ∧ ∃ k : Nat, k ≤ (fieldsS sl).length ∧ i = .int .i64 k ∧ ∀ f ∈ (fieldsS sl).take k, sharp f = false) (fun _ i _ => (fieldsS sl).length - (intOf i).toNat)
        case atStart => exact ⟨rfl, rfl, 0, Nat.zero_le _, rfl, by simp⟩
        case round =>
          obtain ⟨rfl, rfl, k, hk, rfl, hsh⟩ := hrel
          have HSh := Lib.hid hsh
          have hv1 : Boxed wr w.heap.size 49 v := (HB1.out.block _ HV.out.lt).trans HV.out
          have HV1 := Lib.hid hv1
          have hcw := hv1.cell
          have HRow1 := Lib.hid (own_below HRow.out HB1.out)
          have HRd1 : Hid (rowsRead wr rs) := Lib.hid fun r hr => (HRd.out r hr).keep HB1.out
          have hB1s : w.heap.size ≤ wr.heap.size := Nat.le_trans hB.size HB1.out.size
          clear hsh hv1
          by_cases hkn : k < (fieldsS sl).length
          · have hfp := fields_pos sl (fieldsS sl)[k] (List.getElem_mem _)
            have hcf : wr.cell? ⟨g, k, none⟩ = some (.string (fieldsS sl)[k]) := by
              have := OF.out.own.cells (g := g) rfl k (.string (fieldsS sl)[k]) (strV_get _ _ hkn)
              rw [row_addr] at this; exact this
            have hq0 := sharp_at (fieldsS sl)[k] hfp
            cases hq : sharp (fieldsS sl)[k]
            · have q : ((((fieldsS sl)[k])[0].toNat : Int) == 35) = false := by rw [← hq0]; exact hq
              have HN : Hid (∀ f ∈ (fieldsS sl).take (k + 1), sharp f = false) := Lib.hid fun f hf => by
                rw [List.take_succ_eq_append_getElem hkn] at hf
                rcases List.mem_append.1 hf with h | h
                · exact HSh.out f h
                · rw [List.mem_singleton.1 h]; exact hq
              clear hq hq0
              gi_wp2
              go_roundw
              case rel => exact ⟨trivial, rfl, k + 1, by omega, by go_num, HN.out⟩
              case measure => simp [intOf] <;> omega
            · have q : ((((fieldsS sl)[k])[0].toNat : Int) == 35) = true := by rw [← hq0]; exact hq
              have HK : Hid (keptS (fieldsS sl) = (fieldsS sl).take k) := Lib.hid (kept_stop _ k hkn HSh.out hq)
              have hkc : k ≤ cg := by omega
              clear hq hq0
              by_cases hk0 : 0 < k
              · have hlk : ((fieldsS sl).take k).length = k := by rw [List.length_take]; omega
                have HRO2 : Hid (rowsOf (pre ++ [x]) = rowsOf pre ++ [(x.1, (fieldsS sl).take k)]) := Lib.hid (by
                  rw [HRO.out, rowOf, HK.out, if_neg (by intro h; rw [h] at hlk; simp at hlk; omega)])
                have HR : Hid (RdT wr 9 (.slice (some ⟨g, 0, none⟩) k k) ((fieldsS sl).take k).length (strV ((fieldsS sl).take k))) := Lib.hid (by
                  rw [hlk]
                  have := (RdT.of_own OF.out.own).front hk
                  simpa [strV, List.map_take] using this)
                clear hlk
                gi_wp2_with (gi_at_builtin; refine wpListIn_append_own _ rfl _ _ 49 rfl w.heap.size 57 i0 (.agg #[.int .i64 0, .slice none 0 0]) 2 32 Tryd.underlying49 hi hz0 hz1 hz2 rfl (by decide) _ _ _ rfl (HRow1.out.alloc _) ⟨wr.heap.size, 0, none⟩ 1 1 [.int .i64 x.1, .slice (some ⟨g, 0, none⟩) k k] rfl rfl (cell_news _ #[.int .i64 x.1, .slice (some ⟨g, 0, none⟩) k k] _) (by simp [Value.oneCell']) (by unfold maxLen; omega) (by omega) (by have := hB1s; simp; omega) ?_; intro v' w2 hown' hgrow _; obtain ⟨g', cap', rfl⟩ := ownsRow_succ hown'; have HP := Lib.hid (rows_push (r := (x.1, .slice (some ⟨g, 0, none⟩) k k, (fieldsS sl).take k)) (by decide) (by decide) (by decide) HV1.out HRow1.out HRd1.out HAbs.out HR.out hB1s (Nat.le_refl _) hown' hgrow); obtain ⟨hv1, _, _, _, _⟩ := HV1.out.appended (by decide) HRow1.out hB1s (Nat.le_refl _) hown' hgrow; have hc1 := hv1.cell; have hf1 := hv1.frozen; clear hown' hgrow hv1)
                exact ⟨(keepsFrom_below HB1.out).trans (HP.out.1.from _), (HB1.out.mono hB.size).trans HP.out.2.1, by rw [HRO2.out]; exact HP.out.2.2, (hB.trans (HB1.out.mono hB.size)).trans HP.out.2.1⟩
              · have HRO2 : Hid (rowsOf (pre ++ [x]) = rowsOf pre) := Lib.hid (by rw [HRO.out, rowOf, HK.out, show k = 0 by omega]; simp)
                gi_wp2
                exact ⟨keepsFrom_below HB1.out, HB1.out.mono hB.size, by rw [HRO2.out]; exact HBox.out.keep HB1.out, hB.trans (HB1.out.mono hB.size)⟩
          · obtain rfl : k = (fieldsS sl).length := by omega
            have HK : Hid (keptS (fieldsS sl) = fieldsS sl) := Lib.hid (kept_all _ (by intro f hf; exact HSh.out f (by rw [List.take_length]; exact hf)))
            have HRO2 : Hid (rowsOf (pre ++ [x]) = rowsOf pre ++ [(x.1, fieldsS sl)]) := Lib.hid (by
              rw [HRO.out, rowOf, HK.out, if_neg (by intro h; rw [h] at hn0; exact hn0 rfl)])
            have HR : Hid (RdT wr 9 (.slice (some ⟨g, 0, none⟩) (fieldsS sl).length cg) (fieldsS sl).length (strV (fieldsS sl))) := Lib.hid (RdT.of_own OF.out.own)
            gi_wp2_with (gi_at_builtin; refine wpListIn_append_own _ rfl _ _ 49 rfl w.heap.size 57 i0 (.agg #[.int .i64 0, .slice none 0 0]) 2 32 Tryd.underlying49 hi hz0 hz1 hz2 rfl (by decide) _ _ _ rfl (HRow1.out.alloc _) ⟨wr.heap.size, 0, none⟩ 1 1 [.int .i64 x.1, .slice (some ⟨g, 0, none⟩) (fieldsS sl).length cg] rfl rfl (cell_news _ #[.int .i64 x.1, .slice (some ⟨g, 0, none⟩) (fieldsS sl).length cg] _) (by simp [Value.oneCell']) (by unfold maxLen; omega) (by omega) (by have := hB1s; simp; omega) ?_; intro v' w2 hown' hgrow _; obtain ⟨g', cap', rfl⟩ := ownsRow_succ hown'; have HP := Lib.hid (rows_push (r := (x.1, .slice (some ⟨g, 0, none⟩) (fieldsS sl).length cg, fieldsS sl)) (by decide) (by decide) (by decide) HV1.out HRow1.out HRd1.out HAbs.out HR.out hB1s (Nat.le_refl _) hown' hgrow); obtain ⟨hv1, _, _, _, _⟩ := HV1.out.appended (by decide) HRow1.out hB1s (Nat.le_refl _) hown' hgrow; have hc1 := hv1.cell; have hf1 := hv1.frozen; clear hown' hgrow hv1)
            exact ⟨(keepsFrom_below HB1.out).trans (HP.out.1.from _), (HB1.out.mono hB.size).trans HP.out.2.1, by rw [HRO2.out]; exact HP.out.2.2, (hB.trans (HB1.out.mono hB.size)).trans HP.out.2.1⟩
    case done =>
      rintro D ys W hD rfl ⟨⟨rs, v, hv, hrow, hrd, habs⟩, hB⟩ hK
      have hc := hv.cell
      have HRd := Lib.hid hrd
      have HAbs := Lib.hid habs
      clear hrd habs
      gi_wp2
      refine ⟨by simp, .inl ⟨_, _, rfl, run_takeDeferred hK, ?_⟩⟩
      exact ⟨_, results_tmp2 rfl _ _ _, v, rs, by rw [HC.out]; rfl, ownsRow_putObj hrow _ hK rfl, fun r hr => (HRd.out r hr).kept (grownBy_putObj' W D _) (fun q e => by cases e; exact ⟨_, hK, not_cells rfl _⟩), HAbs.out, hB.trans (belowK_b (w := w) (Nat.le_refl _) W D _ _ (by simp at hD; omega) hK rfl rfl)⟩
    case stop =>
      rintro D c pre W _ _ h _
      exact h.elim
end Go.Proofs.YtbhfkhfnljddhaaDoor
