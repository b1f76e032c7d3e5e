/-
  The reference's rows.
-/
import Derived.Test.YtbhfkhfnljddhaaDoorRows
import Derived.Test.YtbhfkhfnljddhaaDoorRows2
namespace Go.Proofs.YtbhfkhfnljddhaaDoor
open Go.RowKit

theorem row01_info : (Tryd.prog.info? 58).map (fun i => (i.zero, i.size, i.bytes)) = some (some (.agg #[.int .i64 0, .slice none 0 0]), 2, 32) := by kernel_rfl
theorem linesFrom_each : ∀ (n : Nat) (t : List UInt8), ∀ l ∈ linesFrom n t, l.length ≤ t.length
  | 0, t, l, hl => by simp [linesFrom] at hl
  | n + 1, t, l, hl => by
    simp only [linesFrom] at hl
    split at hl
    · cases hl
    · rename_i ht
      rcases List.mem_cons.1 hl with rfl | h
      · exact Nat.le_trans (ended_le _) (cut_fst_le t)
      · have h1 := linesFrom_each n _ l h
        have h2 := cut_lt t ht
        omega
theorem linesOf_each (t : List UInt8) : ∀ l ∈ linesOf t, l.length ≤ t.length := fun l hl => Nat.le_trans (linesFrom_each _ _ l hl) (unmarked_le t)
theorem numbered_snoc : ∀ (n : Nat) (L : List (List UInt8)) (l : List UInt8), numbered n (L ++ [l]) = numbered n L ++ [(((n + L.length : Nat) : Int), mkS l)]
  | n, [], l => by simp [numbered]
  | n, a :: L, l => by
    rw [List.cons_append, numbered, numbered_snoc (n + 1) L l, numbered, List.cons_append, List.length_cons]
    congr 3
    congr 1
    congr 1
    omega
def rows01 (L : List (List UInt8)) : List (Int × List ByteArray) := rowsOf (numbered 1 L)
theorem rows01_snoc (L : List (List UInt8)) (l : List UInt8) (h : l.length ≤ 65536) : rows01 (L ++ [l]) = rows01 L ++ rowOf ((L.length : Int) + 1) (mkS l) := by
  unfold rows01
  rw [numbered_snoc, rowsOf_snoc]
  have e : clamp (mkS l) = mkS l := by unfold clamp; rw [if_pos (by rw [mkS_size]; exact h)]
  have e2 : ((1 + L.length : Nat) : Int) = (L.length : Int) + 1 := by omega
  show rowsOf (numbered 1 L) ++ rowOf ((1 + L.length : Nat) : Int) (clamp (mkS l)) = _
  rw [e, e2]
theorem rowsRead_push {W W' : World} {n₀ e n : Nat} {v : Value} {rs : List RowIn} {xs : List Value} (h : rowsRead W rs) (hrow : W.ownsRow n₀ e 2 v n xs) (hes : 9 ≠ e) (hg : W.grownBy W' v.ownBlock) : rowsRead W' rs := fun r hr =>
  (h r hr).kept hg (fun k ek => by
    rcases hrow.2 with ⟨rfl, _⟩ | ⟨g, cap, cur, rfl, _, hgb, _⟩
    · simp [Value.ownBlock] at ek
    · obtain rfl : g = k := by simpa [Value.ownBlock] using ek
      exact ⟨_, hgb, by rintro c f e'; injection e' with _ h; exact hes h.symm⟩)
theorem RdT.push {W W' : World} {n₀ e e' n m : Nat} {v u : Value} {xs ys : List Value} (h : RdT W e' u m ys) (hrow : W.ownsRow n₀ e 2 v n xs) (hes : e' ≠ e) (hg : W.grownBy W' v.ownBlock) : RdT W' e' u m ys :=
  h.kept hg (fun k ek => by
    rcases hrow.2 with ⟨rfl, _⟩ | ⟨g, cap, cur, rfl, _, hgb, _⟩
    · simp [Value.ownBlock] at ek
    · obtain rfl : g = k := by simpa [Value.ownBlock] using ek
      exact ⟨_, hgb, by rintro c f e'; injection e' with _ h; exact hes h.symm⟩)
theorem RdT.cell {W : World} {e n : Nat} {v : Value} {xs : List Value} (h : RdT W e v n xs) (hn : n ≠ 0) : ∃ g cap, v = .slice (some ⟨g, 0, none⟩) n cap ∧ n ≤ cap ∧ ∀ (j : Nat) (u : Value), xs[j]? = some u → W.cell? ⟨g, j, none⟩ = some u := by
  obtain ⟨h1, A, cap, rfl, hc, h2⟩ := h
  obtain ⟨g, cur, fr, rfl, hb, h3⟩ := h2.resolve_left hn
  exact ⟨g, cap, rfl, hc, fun j u hj => by rw [cell_of_row W g j cur e fr hb]; exact h3 j u hj⟩

set_option maxRecDepth 100000 in
set_option maxHeartbeats 4000000 in
theorem Rows01_any (s : ByteArray) (w : World) :
    Calls Tryd.prog 30 #[.string s] w fun e W' => ∃ v rs, e = .returned (.tuple #[v, .int .i64 (codeS s)]) ∧
      Own w W' 58 2 v rs.length (rowCells rs) ∧ rowsRead W' rs ∧ rowAbs rs = rowsOf (eachOf s.data.toList) := by
  by_cases hbig : 65536 < s.size
  · have HE : Hid (eachOf s.data.toList = []) := Lib.hid (by rw [eachOf, if_pos (by rw [len_toList]; omega)])
    have HC : Hid (codeS s = 10) := Lib.hid (if_pos hbig)
    go_enter Tryd.func30, Tryd.ntmps30
    go_wp2_with fail
    go_ret2
    exact ⟨.slice none 0 0, [], by rw [HC.out]; rfl, Own.nil_ _ _ _, (by intro r hr; cases hr), by rw [HE.out]; rfl⟩
  · have HC : Hid (codeS s = 0) := Lib.hid (if_neg hbig)
    have HE : Hid (rowsOf (eachOf s.data.toList) = rows01 (linesOf s.data.toList)) := Lib.hid (by rw [eachOf, if_neg (by rw [len_toList]; omega)]; rfl)
    obtain ⟨i0, hi, hz0, hz1, hz2⟩ := info_parts row01_info
    obtain ⟨j0, hj, hy0, hy1, hy2⟩ := info_parts str_info
    have hll : (linesOf s.data.toList).length ≤ 65536 := by
      have := linesFrom_len s.data.toList.length (unmarked s.data.toList)
      rw [len_toList] at this
      unfold linesOf; rw [len_toList]; omega
    have hle : ∀ l ∈ linesOf s.data.toList, l.length ≤ 65536 := fun l hl => by
      have := linesOf_each _ l hl
      rw [len_toList] at this; omega
    obtain ⟨L, hL⟩ : ∃ L, L = linesOf s.data.toList := ⟨_, rfl⟩
    rw [← hL] at hll hle
    have HLe := Lib.hid hle
    have HL := Lib.hid hL
    clear hle hL
    go_enter Tryd.func30, Tryd.ntmps30
    go_wp2_with fail
    refine (Lines01_any s _ (by omega)).mono ?_
    rw [← HL.out]
    rintro e w2 ⟨v2, rfl, o2⟩
    obtain ⟨AL, cL, rfl⟩ := own_slice o2.own
    have O2 := Lib.hid o2
    have RL := Lib.hid (RdT.of_own o2.own)
    clear o2
    go_wp2_with fail
    go_loopw [4, 6] (fun v i wr => ∃ (k : Nat) (rs : List RowIn), k ≤ L.length ∧ i = .int .i64 k ∧ rs.length ≤ k ∧ Own w wr 58 2 v rs.length (rowCells rs) ∧ rowsRead wr rs ∧ rowAbs rs = rows01 (L.take k) ∧
      RdT wr 9 (.slice AL L.length cL) L.length (strV (L.map mkS))) (fun _ i _ => L.length - (intOf i).toNat)
    case atStart => exact ⟨0, [], Nat.zero_le _, rfl, Nat.le_refl _, ⟨O2.out.below, World.ownsRow_nil _ _ _ _⟩, (by intro r hr; cases hr), rfl, RL.out⟩
    case round =>
      obtain ⟨k, rs, hk, rfl, hrk, ho, hrd, hab, hrl⟩ := hrel
      have HO := Lib.hid ho
      have HRd := Lib.hid hrd
      have HAb := Lib.hid hab
      have HRL := Lib.hid hrl
      clear ho hrd hab hrl
      by_cases hlt : k < L.length
      · have hl2 := HLe.out L[k] (List.getElem_mem _)
        obtain ⟨g, cap, he, hcg, hcell⟩ := HRL.out.cell (by omega)
        injection he with he1 he2 he3
        subst he1 he3
        have hc := hcell k (.string (mkS L[k])) (by simp [strV, hlt])
        have HTk : Hid (rows01 (L.take (k + 1)) = rows01 (L.take k) ++ rowOf ((k : Int) + 1) (mkS L[k])) := Lib.hid (by
          rw [List.take_succ_eq_append_getElem hlt, rows01_snoc _ _ hl2, List.length_take, show min k L.length = k by omega])
        clear hcell
        go_wp2_with fail
        refine (Fields01_any (mkS L[k]) _ (by rw [mkS_size]; omega)).mono ?_
        have hfl := fields_len (mkS L[k])
        have hfp := fields_pos (mkS L[k])
        rw [mkS_size] at hfl
        generalize hfs : fieldsS (mkS L[k]) = fs at hfl hfp
        rintro e w3 ⟨vf, rfl, of⟩
        obtain ⟨Af, cf, rfl⟩ := own_slice of.own
        have HRO : Hid (rowOf ((k : Int) + 1) (mkS L[k]) = if keptS fs = [] then [] else [((k : Int) + 1, keptS fs)]) := Lib.hid (by rw [rowOf, hfs])
        have HFc : Hid (∀ q (h : q < fs.length), ∃ gf, Af = some ⟨gf, 0, none⟩ ∧ w3.cell? ⟨gf, q, none⟩ = some (.string fs[q])) := Lib.hid (fun q h => by
          obtain ⟨gf, cf', he, _, hcc⟩ := (RdT.of_own of.own).cell (by omega)
          injection he with he1
          exact ⟨gf, he1, hcc q _ (strV_get _ _ h)⟩)
        have HB3 := Lib.hid of.below
        have HFp := Lib.hid hfp
        clear of hfp hfs
        go_wp2_with fail
        obtain ⟨wo, hwo⟩ : ∃ wo : World, wo = wr := ⟨_, rfl⟩
        rw [← hwo] at HO HRd HRL HB3
        clear hwo hc
        go_loopw [7, 9] (fun kv j wq => ∃ q : Nat, q ≤ fs.length ∧ j = .int .i64 q ∧ Own w3 wq 9 1 kv q (strV (fs.take q)) ∧ ∀ f ∈ fs.take q, sharp f = false) (fun _ j _ => fs.length - (intOf j).toNat)
        case atStart => exact ⟨0, Nat.zero_le _, rfl, Own.nil_ _ _ _, (by simp)⟩
        case round =>
          obtain ⟨q, hq, rfl, hko, hsh⟩ := hrel
          have HKo := Lib.hid hko
          have HSh := Lib.hid hsh
          clear hko hsh
          have hgo : (q < fs.length ∧ ∃ h : q < fs.length, sharp fs[q] = false) ∨ (∃ h : q < fs.length, sharp fs[q] = true) ∨ q = fs.length := by
            by_cases h : q < fs.length
            · cases hs : sharp fs[q]
              · exact .inl ⟨h, h, hs⟩
              · exact .inr (.inl ⟨h, hs⟩)
            · exact .inr (.inr (by omega))
          rcases hgo with ⟨_, hqn, hs⟩ | hstop
          · obtain ⟨gf, rfl, hc0⟩ := HFc.out q hqn
            have hcf := (HKo.out.below.cell (World.block_lt_of_cell? _ _ hc0)).trans hc0
            have hpos := HFp.out fs[q] (List.getElem_mem _)
            have t35 : ((fs[q][0].toNat : Int) != 35) = true := by
              have := sharp_at fs[q] hpos
              rw [hs] at this
              simp at this; simp; omega
            have HN : Hid (∀ f ∈ fs.take (q + 1), sharp f = false) := Lib.hid fun f hf => by
              rw [List.take_succ_eq_append_getElem hqn] at hf
              rcases List.mem_append.1 hf with h | h
              · exact HSh.out f h
              · rw [List.mem_singleton.1 h]; exact hs
            have HT : Hid (fs.take (q + 1) = fs.take q ++ [fs[q]]) := Lib.hid (List.take_succ_eq_append_getElem hqn)
            clear hs hc0
            go_wp2_with (at_builtin; refine wpList_push1 rfl _ _ 24 rfl w3.heap.size 9 j0 (.string ByteArray.empty) 16 Tryd.underlying24 hj hy0 hy1 hy2 rfl _ q _ rfl HKo.out.own _ rfl rfl (by unfold maxLen; omega) (by omega) HKo.out.size ?_; intro gg cap2 w5 hown hg5; have HKo' := Lib.hid (HKo.out.push hown hg5); clear hown hg5)
            go_roundw
            case rel =>
              refine ⟨q + 1, by omega, by go_num, ?_, HN.out⟩
              have h5 := HKo'.out
              rw [strV_snoc, ← HT.out] at h5
              exact h5
            case measure => simp [intOf] <;> omega
          · have HK : Hid (keptS fs = fs.take q) := Lib.hid (by
              rcases hstop with ⟨h, hs⟩ | h
              · exact kept_stop _ q h HSh.out hs
              · rw [h, List.take_length]; exact kept_all _ (by intro f hf; exact HSh.out f (by rw [h, List.take_length]; exact hf)))
            have hstop2 : (q < fs.length ∧ ∃ gf, Af = some ⟨gf, 0, none⟩ ∧ ∃ f, 0 < f.size ∧ wr.cell? ⟨gf, q, none⟩ = some (.string f) ∧ ∃ h : 0 < f.size, ((f[0].toNat : Int) != 35) = false) ∨ ¬ q < fs.length := by
              rcases hstop with ⟨h, hs⟩ | h
              · obtain ⟨gf, e, hc0⟩ := HFc.out q h
                have hpos := HFp.out fs[q] (List.getElem_mem _)
                refine .inl ⟨h, gf, e, fs[q], hpos, (HKo.out.below.cell (World.block_lt_of_cell? _ _ hc0)).trans hc0, hpos, ?_⟩
                have := sharp_at fs[q] hpos
                rw [hs] at this
                simp at this; simp; omega
              · exact .inr (by omega)
            have HBall : Hid (Below wo.heap.size wo wr) := Lib.hid (HB3.out.trans (HKo.out.below.mono HB3.out.size))
            have HO2 := Lib.hid (HO.out.call HBall.out)
            have HRd2 : Hid (rowsRead wr rs) := Lib.hid fun r hr => (HRd.out r hr).keep HBall.out
            have HRL2 := Lib.hid (HRL.out.keep HBall.out)
            clear hstop
            rcases hstop2 with ⟨hqn, gf, rfl, f, _, hcf, hpos, t35⟩ | hqn
            all_goals
              by_cases hq0 : 0 < q
              · have HRO2 : Hid (rowOf ((k : Int) + 1) (mkS L[k]) = [((k : Int) + 1, fs.take q)]) := Lib.hid (by
                  rw [HRO.out, HK.out, if_neg]
                  intro h
                  have := congrArg List.length h
                  rw [List.length_take, List.length_nil] at this
                  omega)
                obtain ⟨gk, ck, hkv, _⟩ := own_some HKo.out.own (by omega)
                subst hkv
                go_wp2_with (at_builtin; refine wpList_push rfl _ _ 52 rfl w.heap.size 58 i0 (.agg #[.int .i64 0, .slice none 0 0]) 2 32 Tryd.underlying52 hi hz0 hz1 hz2 rfl (by decide) _ rs.length _ rfl HO2.out.own #[.int .i64 ((k : Int) + 1), .slice (some ⟨gk, 0, none⟩) q ck] rfl (by simp [Value.oneCell']) rfl (by unfold maxLen; omega) (by omega) HO2.out.size ?_; intro gg cap2 w5 hown hg5; have HO5 := Lib.hid (HO2.out.push hown hg5); have HRd5 := Lib.hid (rowsRead_push HRd2.out HO2.out.own (by decide) hg5); have HRL5 := Lib.hid (HRL2.out.push HO2.out.own (by decide) hg5); have HN5 := Lib.hid ((RdT.of_own HKo.out.own).push HO2.out.own (by decide) hg5); clear hown hg5)
                go_roundw
                case rel =>
                  refine ⟨k + 1, rs ++ [((k : Int) + 1, .slice (some ⟨gk, 0, none⟩) q ck, fs.take q)], by omega, by go_num, by simp; omega, ?_, ?_, ?_, HRL5.out⟩
                  · have := HO5.out
                    simpa [rowCells] using this
                  · intro r hr
                    rcases List.mem_append.1 hr with h | h
                    · exact HRd5.out r h
                    · rw [List.mem_singleton.1 h]
                      have hlt2 : (fs.take q).length = q := by rw [List.length_take]; omega
                      show RdT w5 9 _ (fs.take q).length _
                      rw [hlt2]; exact HN5.out
                  · rw [HTk.out, HRO2.out, ← HAb.out]; simp [rowAbs]
                case measure => simp [intOf] <;> omega
              · have HRO2 : Hid (rowOf ((k : Int) + 1) (mkS L[k]) = []) := Lib.hid (by
                  rw [HRO.out, HK.out, show q = 0 by omega]; simp)
                obtain ⟨A7, c7, hkv⟩ := own_slice HKo.out.own
                subst hkv
                go_wp2_with fail
                go_roundw
                case rel => exact ⟨k + 1, rs, by omega, by go_num, by omega, HO2.out, HRd2.out, by rw [HTk.out, HRO2.out, HAb.out]; simp, HRL2.out⟩
                case measure => simp [intOf] <;> omega
      · obtain rfl : k = L.length := by omega
        go_wp2_with fail
        go_ret2
        exact ⟨_, rs, by rw [HC.out]; rfl, HO.out, HRd.out, by rw [HAb.out, HE.out, List.take_length, HL.out]⟩
end Go.Proofs.YtbhfkhfnljddhaaDoor
