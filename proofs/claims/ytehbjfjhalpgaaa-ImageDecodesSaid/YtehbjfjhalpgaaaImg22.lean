/-
  The reader: section.
-/
import Derived.Test.YtehbjfjhalpgaaaRows
import Derived.Test.YtehbjfjhalpgaaaImg21
namespace Go.Proofs.Ytehbjfjhalpgaaa
open Go.RowKit

theorem rdGo_lt (L : List UInt8) (a : Nat) : ∀ (f i acc : Nat), i + f = 10 → acc < 2 ^ (7 * i) → (rdGo L a f i acc).1 < 18446744073709551616
  | 0, i, acc, _, _ => by rw [rdGo]; decide
  | f + 1, i, acc, hi, hacc => by
    rw [rdGo]
    split
    · decide
    · split
      · exact rdGo_lt L a f _ _ (by omega) (step_lt _ _ _ (Nat.mod_lt _ (by decide)) hacc)
      · rename_i h2
        split
        · decide
        · rename_i h3
          dsimp only
          by_cases h9 : i = 9
          · subst h9
            have hx : (byteAt L (a + 9)).toNat % 128 ≤ 1 := by omega
            have := Nat.mul_le_mul_right (2 ^ (7 * 9)) hx
            have e : (2 : Nat) ^ (7 * 9) = 9223372036854775808 := by decide
            rw [e] at *
            omega
          · have h1 := step_lt acc ((byteAt L (a + i)).toNat % 128) i (Nat.mod_lt _ (by decide)) hacc
            have h2 := pow7_le (i + 1) (by omega)
            omega
theorem numR_lt {s : ByteArray} {a n p : Nat} (h : numR s a = .ok (n, p)) : n < 18446744073709551616 := by
  unfold numR at h
  split at h
  · injection h with h
    injection h with h1 h2
    subst h1
    unfold rdU
    split
    · decide
    · exact rdGo_lt _ _ _ _ _ rfl (by decide)
  · cases h

def PostS (b : Nat) (s : ByteArray) (w : World) (r : Except Nat (List St × Nat)) (e : Ending) (w' : World) : Prop :=
  match r with
  | .ok (A, p) => ∃ v, e = .returned v ∧ Kept [b] w w' ∧ RdrAt w' b s p ∧ AutAt w' (fun g => w.heap.size ≤ g) v A
  | .error c => e = .panicked [flt c] ∧ Kept [b] w w'

set_option maxHeartbeats 4000000 in
set_option maxRecDepth 100000 in
theorem section_any (b : Nat) (s : ByteArray) (a : Nat) (w : World) (hr : RdrAt w b s a) (hs : s.size ≤ 140737488355328) (ha : a ≤ s.size) :
    Calls Try.prog 40 #[.pointer (some ⟨b, 0, none⟩)] w (PostS b s w (secR s a)) := by
  have HBW := Lib.hid (block_lt hr)
  obtain ⟨i0, hi, hz0, hz1, hz2⟩ := info_parts edge_info
  obtain ⟨i1, hj, hy0, hy1, hy2⟩ := info_parts state_info
  have hN := num_any b s a w hr hs ha
  have HNum : Hid (∀ W p, RdrAt W b s p → p ≤ s.size → Calls Try.prog 37 #[.pointer (some ⟨b, 0, none⟩)] W (PostR b s W (fun n : Nat => .int .u64 (n : Int)) (numR s p))) := Lib.hid (fun W p h hp => num_any b s p W h hs hp)
  have HTake : Hid (∀ W p, RdrAt W b s p → p ≤ s.size → Calls Try.prog 54 #[.pointer (some ⟨b, 0, none⟩), .int .i64 1] W (PostR b s W Value.string (if s.size < p + 1 then .error 60 else .ok (s.extract p (p + 1), p + 1)))) := Lib.hid (fun W p h hp => take_any b s p 1 W h hs hp (by omega))
  obtain ⟨R, hR⟩ : ∃ R, secR s a = R := ⟨_, rfl⟩
  rw [hR]
  have HR := Lib.hid hR
  clear hR hr
  cases hn : numR s a with
  | error c =>
    rw [hn] at hN
    have HR' : Hid (R = .error c) := Lib.hid (by rw [← HR.out, secR, hn])
    have HN := Lib.hid hN
    clear hN hn
    go_enter Try.func40, Try.ntmps40
    go_wp2_with fail
    refine HN.out.mono ?_
    rintro e w' ⟨rfl, hk⟩
    exact ⟨rfl, by rw [HR'.out]; exact ⟨rfl, hk⟩⟩
  | ok r =>
    obtain ⟨n, q⟩ := r
    rw [hn] at hN
    have HQ := Lib.hid (numR_le hn).2
    have HN := Lib.hid hN
    clear hN
    by_cases hbad : n = 0 ∨ 1048576 < n
    · have HR' : Hid (R = .error 190) := Lib.hid (by rw [← HR.out, secR, hn]; exact if_pos hbad)
      clear hn HNum HTake
      rcases hbad with rfl | hbad
      all_goals
        go_enter Try.func40, Try.ntmps40
        go_wp2_with fail
        refine HN.out.mono ?_
        rintro e w1 ⟨rfl, hk, hr⟩
        have HK1 := Lib.hid hk
        clear hk hr
        go_wp2_with fail
        refine (must_any _ _ _ _).mono ?_
        rintro e w' ⟨⟨hc, rfl⟩ | ⟨hc, rfl⟩, rfl⟩
        · exact absurd hc (by simp <;> omega)
        · exact ⟨rfl, by rw [HR'.out]; exact ⟨rfl, HK1.out⟩⟩
    · have hn0 : (0 : Int) < (n : Int) := by omega
      have hn1 : n ≤ 1048576 := by omega
      have HR' : Hid (R = match statesR s n n q with | .error c => .error c | .ok (A, p) => if shapeB A then .ok (A, p) else .error 190) := Lib.hid (by rw [← HR.out, secR, hn]; exact if_neg hbad)
      clear hn hbad HR
      obtain ⟨RS, hRS⟩ : ∃ RS, statesR s n n q = RS := ⟨_, rfl⟩
      rw [hRS] at HR'
      have HRS := Lib.hid hRS
      clear hRS
      go_enter Try.func40, Try.ntmps40
      go_wp2_with fail
      refine HN.out.mono ?_
      rintro e w1 ⟨rfl, hk, hr⟩
      have HK1 := Lib.hid hk
      have HR1 := Lib.hid hr
      clear hk hr HN
      go_wp2_with fail
      refine (must_any _ _ _ _).mono ?_
      rintro e w2 ⟨⟨hc, rfl⟩ | ⟨hc, rfl⟩, rfl⟩
      rotate_left
      · exact absurd hc (by simp <;> omega)
      clear hc
      go_wp2_with fail
      go_loopw [4, 5, 6, 7, 8, 20, 35] (fun v4 _ _ _ _ i _ W => ∃ (k p : Nat) (L : List (St × Value)), k ≤ n ∧ i = .int .u64 k ∧ Hid (L.length = k ∧ p ≤ s.size) ∧ Hid (Kept [b] w W) ∧ Hid (RdrAt W b s p) ∧ Hid (OutAt W w.heap.size 53 55 v4 L) ∧ Hid (RS = prep (L.map (·.1)) (statesR s n (n - k) p))) (fun _ _ _ _ _ i _ _ => n - (intOf i).toNat)
      case atStart => exact ⟨0, q, [], Nat.zero_le _, rfl, Lib.hid ⟨rfl, HQ.out⟩, HK1, HR1, Lib.hid (OutAt.nil_ _ _ _ _), Lib.hid (by rw [← HRS.out]; exact (prep_nil _).symm)⟩
      case round =>
        obtain ⟨k, p, L, hk, rfl, HL, HK, HRd, HO, HS⟩ := hrel
        by_cases hlt : k < n
        · obtain ⟨t, ht⟩ : ∃ t, n - k = t + 1 := ⟨n - k - 1, by omega⟩
          have HS1 : Hid (RS = prep (L.map (·.1)) (statesR s n (t + 1) p)) := Lib.hid (by rw [HS.out, ht])
          have HT : Hid (n - (k + 1) = t) := Lib.hid (by omega)
          clear ht HS
          have hN := HNum.out wr p HRd.out HL.out.2
          cases hv : numR s p with
          | error c =>
            rw [hv] at hN
            have HR2 : Hid (R = .error c) := Lib.hid (by rw [HR'.out, HS1.out, statesR_err s n t p _ c (by rw [staR, hv])])
            have HN := Lib.hid hN
            clear hN hv
            go_wp2_with fail
            refine HN.out.mono ?_
            rintro e w' ⟨rfl, hk⟩
            exact ⟨rfl, by rw [HR2.out]; exact ⟨rfl, HK.out.trans hk⟩⟩
          | ok r =>
            obtain ⟨v, q1⟩ := r
            rw [hv] at hN
            have HQ1 := Lib.hid (numR_le hv).2
            have HN := Lib.hid hN
            clear hN
            by_cases h256 : 256 < v / 2
            · have HR2 : Hid (R = .error 190) := Lib.hid (by rw [HR'.out, HS1.out, statesR_err s n t p _ 190 (by rw [staR, hv]; exact if_pos h256)])
              have hvl := numR_lt hv
              have hvw : IntKind.u64.wrap ((v : Int) / 2) = (v : Int) / 2 := by rw [IntKind.wrap_u64]; omega
              clear hv
              go_wp2_with fail
              refine HN.out.mono ?_
              rintro e w3 ⟨rfl, hk, hr⟩
              have HK3 := Lib.hid (HK.out.trans hk)
              clear hk hr
              go_wp2_with fail
              refine (must_any _ _ _ _).mono ?_
              rintro e w' ⟨⟨hc, rfl⟩ | ⟨hc, rfl⟩, rfl⟩
              · exact absurd hc (by simp <;> omega)
              · exact ⟨rfl, by rw [HR2.out]; exact ⟨rfl, HK3.out⟩⟩
            · have HSt : Hid (staR s n p = match edgesR s n (v / 2) q1 with | .error c => .error c | .ok (es, p) => .ok ((decide (v % 2 = 1), es), p)) := Lib.hid (by rw [staR, hv]; exact if_neg h256)
              have HV2 : Hid (v / 2 ≤ 256) := Lib.hid (by omega)
              clear hv
              go_wp2_with fail
              refine HN.out.mono ?_
              rintro e w3 ⟨rfl, hk, hr⟩
              have HK3 := Lib.hid (HK.out.trans hk)
              have HR3 := Lib.hid hr
              have HO3 := Lib.hid (HO.out.kept hk (by have := HBW.out; simp; omega))
              clear hk hr HN
              go_wp2_with fail
              refine (must_any _ _ _ _).mono ?_
              rintro e w4 ⟨⟨hc, rfl⟩ | ⟨hc, rfl⟩, rfl⟩
              rotate_left
              · exact absurd hc (by have := HV2.out; simp <;> omega)
              clear hc
              go_wp2_with fail
              obtain ⟨fv, hfv⟩ : ∃ fv, ((v : Int) % 2 == 1) = fv := ⟨_, rfl⟩
              have HFv : Hid (fv = decide (v % 2 = 1)) := Lib.hid (by rw [← hfv, Bool.eq_iff_iff]; simp; omega)
              rw [hfv]
              clear hfv
              generalize hW0 : w3.alloc (Obj.cells #[Value.bool fv, Value.slice none 0 0] 53) = W0
              have HX0 : Hid (W0.heap[w3.heap.size]? = some (.cells #[Value.bool fv, Value.slice none 0 0] 53 (0, 0))) := Lib.hid (by rw [← hW0]; exact heap_alloc_new w3 _)
              have HSz : Hid (w.heap.size ≤ w3.heap.size) := Lib.hid HK3.out.size
              have HZ0 : Hid (W0.heap.size = w3.heap.size + 1) := Lib.hid (by rw [← hW0]; exact World.size_alloc _ _)
              have HK0 : Hid (Kept [b] w W0) := Lib.hid (by rw [← hW0]; exact HK3.out.alloc _)
              have HR0 : Hid (RdrAt W0 b s q1) := Lib.hid (by rw [← hW0]; exact ((Kept.refl [] w3).alloc _).at HR3.out (by simp))
              have HO0 : Hid (∀ W, Kept [b, w3.heap.size] W0 W → OutAt W w.heap.size 53 55 u4 L) := Lib.hid (fun W hW => by
                have hk : Kept [b, w3.heap.size] w3 W := by
                  rw [← hW0] at hW
                  exact ((Kept.refl [b, w3.heap.size] w3).alloc _).trans hW
                have hbw := HBW.out
                refine ⟨hk.own HO3.out.own (fun g hg hm => ?_), fun x hx => (HO3.out.eds x hx).keptTy hk (fun g hg => ?_)⟩
                · obtain ⟨⟨cs, h1⟩, h2⟩ := own_ty HO3.out.own hg
                  have := block_lt h1
                  simp at hm; omega
                · simp only [List.mem_cons, List.not_mem_nil, or_false] at hg
                  rcases hg with rfl | rfl
                  · exact .inl hbw
                  · exact .inr (fun ⟨cs, h1⟩ => by have := block_lt h1; omega))
              have HKX : Hid (∀ W, Kept [b, w3.heap.size] W0 W → Kept [b] w W) := Lib.hid (fun W h => HK0.out.trans' h (fun x hx => by
                have := HK3.out.size
                simp only [List.mem_cons, List.not_mem_nil, or_false] at hx ⊢
                omega))
              clear hW0 HO3 HR3 HO HRd HK HK3
              obtain ⟨RE, hRE⟩ : ∃ RE, edgesR s n (v / 2) q1 = RE := ⟨_, rfl⟩
              rw [hRE] at HSt
              have HRE := Lib.hid hRE
              clear hRE
              go_loopw [7, 8, 35] (fun _ _ j W => ∃ (u p : Nat) (es : List Ed), u ≤ v / 2 ∧ j = .int .u64 u ∧ Hid (es.length = u ∧ p ≤ s.size) ∧ Hid (Kept [b, w3.heap.size] W0 W) ∧ Hid (RdrAt W b s p) ∧ Hid (∃ sv, W.heap[w3.heap.size]? = some (.cells #[Value.bool fv, sv] 53 (0, 0)) ∧ W.ownsRow W0.heap.size 55 2 sv es.length (edCells es)) ∧ Hid (RE = prep es (edgesR s n (v / 2 - u) p))) (fun _ _ j _ => v / 2 - (intOf j).toNat)
              case atStart => exact ⟨0, q1, [], Nat.zero_le _, rfl, Lib.hid ⟨rfl, HQ1.out⟩, Lib.hid (Kept.refl _ _), HR0, Lib.hid ⟨_, HX0.out, World.ownsRow_nil _ _ _ _⟩, Lib.hid (by rw [← HRE.out]; exact (prep_nil _).symm)⟩
              case round =>
                obtain ⟨u, p', es, hu, rfl, HE, HKw, HRw, HXw, HEs⟩ := hrel
                by_cases hlu : u < v / 2
                · obtain ⟨t', ht'⟩ : ∃ t, v / 2 - u = t + 1 := ⟨v / 2 - u - 1, by omega⟩
                  have HE1 : Hid (RE = prep es (edgesR s n (t' + 1) p')) := Lib.hid (by rw [HEs.out, ht'])
                  have HT' : Hid (v / 2 - (u + 1) = t') := Lib.hid (by omega)
                  have hju : (u : Int) < (v : Int) / 2 := by omega
                  have HErr : Hid (∀ c, edgR s n p' = .error c → R = .error c) := Lib.hid (fun c hc => by
                    have h1 : RE = .error c := HE1.out.trans (edgesR_err s n t' p' es c hc)
                    rw [HR'.out, HS1.out, statesR_err s n t p _ c (by rw [HSt.out, h1])])
                  clear ht' HEs
                  have hTk := HTake.out wr p' HRw.out HE.out.2
                  by_cases hsh : s.size < p' + 1
                  · rw [if_pos hsh] at hTk
                    have HR2 := Lib.hid (HErr.out 60 (if_pos hsh))
                    have HTk := Lib.hid hTk
                    clear hTk
                    go_wp2_with fail
                    refine HTk.out.mono ?_
                    rintro e w' ⟨rfl, hk⟩
                    exact ⟨rfl, by rw [HR2.out]; exact ⟨rfl, HKX.out _ (HKw.out.trans (hk.mono (by simp)))⟩⟩
                  rw [if_neg hsh] at hTk
                  obtain ⟨T, hT⟩ : ∃ T, s.extract p' (p' + 1) = T := ⟨_, rfl⟩
                  have hTs : T.size = 1 := by rw [← hT, ByteArray.size_extract]; omega
                  have HTb : Hid (∀ h : 0 < T.size, T[0]'h = byteAt s.data.toList p') := Lib.hid (by
                    subst hT
                    intro h
                    rw [byteAt_lt s p' (by omega)]
                    simp [ByteArray.getElem_extract])
                  rw [hT] at hTk
                  have HTk := Lib.hid hTk
                  have HSh := Lib.hid hsh
                  clear hTk hT hsh
                  have hBW := HBW.out
                  obtain ⟨sv, hX, hOw⟩ := HXw.out
                  have HXr := Lib.hid hX
                  have HOw := Lib.hid hOw
                  clear hX hOw hBW HXw
                  go_wp2_with fail
                  refine HTk.out.mono ?_
                  rintro e w5 ⟨rfl, hk5, hr5⟩
                  have HK5 := Lib.hid hk5
                  have HR5 := Lib.hid hr5
                  clear hk5 hr5
                  have hN2 := HNum.out w5 (p' + 1) HR5.out (by have := HSh.out; omega)
                  cases hv2 : numR s (p' + 1) with
                  | error c =>
                    rw [hv2] at hN2
                    have HR2 := Lib.hid (HErr.out c (by rw [edgR, if_neg HSh.out, hv2]))
                    have HN2 := Lib.hid hN2
                    clear hN2 hv2
                    go_wp2_with fail
                    refine HN2.out.mono ?_
                    rintro e w' ⟨rfl, hk⟩
                    exact ⟨rfl, by rw [HR2.out]; exact ⟨rfl, HKX.out _ (HKw.out.trans ((HK5.out.trans hk).mono (by simp)))⟩⟩
                  | ok r2 =>
                    obtain ⟨to, p2⟩ := r2
                    rw [hv2] at hN2
                    have HP2 := Lib.hid (numR_le hv2).2
                    have HN2 := Lib.hid hN2
                    clear hN2
                    by_cases hto : n ≤ to
                    · have HR2 := Lib.hid (HErr.out 190 (by rw [edgR, if_neg HSh.out, hv2]; exact if_pos hto))
                      clear hv2
                      go_wp2_with fail
                      refine HN2.out.mono ?_
                      rintro e w6 ⟨rfl, hk, hr⟩
                      have HK6 := Lib.hid (HK5.out.trans hk)
                      clear hk hr
                      go_wp2_with fail
                      refine (must_any _ _ _ _).mono ?_
                      rintro e w' ⟨⟨hc, rfl⟩ | ⟨hc, rfl⟩, rfl⟩
                      · exact absurd hc (by simp <;> omega)
                      · exact ⟨rfl, by rw [HR2.out]; exact ⟨rfl, HKX.out _ (HKw.out.trans (HK6.out.mono (by simp)))⟩⟩
                    · have HEd : Hid (edgR s n p' = .ok ((byteAt s.data.toList p', (to : Int)), p2)) := Lib.hid (by rw [edgR, if_neg HSh.out, hv2]; exact if_neg hto)
                      have HTo : Hid (to < n) := Lib.hid (by omega)
                      have HS2 : Hid (RE = prep (es ++ [(byteAt s.data.toList p', (to : Int))]) (edgesR s n t' p2)) := Lib.hid (by rw [HE1.out, edgesR_step s n t' p' es _ p2 HEd.out])
                      clear hv2
                      go_wp2_with fail
                      refine HN2.out.mono ?_
                      rintro e w6 ⟨rfl, hk6, hr6⟩
                      have HK6 := Lib.hid (HK5.out.trans hk6)
                      have HR6 := Lib.hid hr6
                      clear hk6 hr6
                      go_wp2_with fail
                      refine (must_any _ _ _ _).mono ?_
                      rintro e w7 ⟨⟨hc, rfl⟩ | ⟨hc, rfl⟩, rfl⟩
                      rotate_left
                      · exact absurd hc (by have := HTo.out; simp <;> omega)
                      clear hc
                      have HO6 : Hid (w6.ownsRow W0.heap.size 55 2 sv es.length (edCells es)) := Lib.hid (HK6.out.own HOw.out (fun g hg hm => by
                        have h1 := (own_ty HOw.out hg).2
                        have h2 := HBW.out
                        have h3 := HK0.out.size
                        simp at hm; omega))
                      have HX6 : Hid (w6.heap[w3.heap.size]? = some (.cells #[Value.bool fv, sv] 53 (0, 0))) := Lib.hid (HK6.out.at HXr.out (by
                        have h2 := HBW.out
                        have h3 := HK1.out.size
                        have h4 := HZ0.out
                        have h5 := HSz.out
                        simp; omega))
                      have x6 : w6.cell? ⟨w3.heap.size, 1, none⟩ = some sv := by rw [Lib.cell_of_heap HX6.out]; rfl
                      have HX8 : Hid (∀ w8, w6.grownBy w8 sv.ownBlock → w8.heap[w3.heap.size]? = some (.cells #[Value.bool fv, sv] 53 (0, 0))) := Lib.hid (fun w8 hg => by
                        rw [hg.block _ (block_lt HX6.out) (fun e => by
                          have h1 := (own_ty HO6.out e.symm).2
                          have h2 := HZ0.out
                          omega)]
                        exact HX6.out)
                      have hwt : IntKind.i64.wrap (to : Int) = (to : Int) := by have := HTo.out; rw [IntKind.wrap_i64]; omega
                      have HEl : Hid (es.length ≤ 256 ∧ W0.heap.size ≤ w6.heap.size) := Lib.hid ⟨by have := HE.out.1; have := HV2.out; omega, Nat.le_trans HKw.out.size HK6.out.size⟩
                      go_wp2_with (at_builtin; refine wpList_push rfl _ _ 51 rfl W0.heap.size 55 i0 _ 2 16 Try.underlying51 hi hz0 hz1 hz2 rfl (by decide) _ es.length (edCells es) rfl HO6.out _ rfl (by intro x hx; simp at hx; rcases hx with rfl | rfl <;> rfl) rfl (by have := HEl.out.1; unfold maxLen; omega) (by have := HEl.out.1; omega) HEl.out.2 ?_; intro gg cc w8 hown hg8; have hx8 := HX8.out _ hg8; have c8 : w8.cell? ⟨w3.heap.size, 1, none⟩ = some sv := (by rw [Lib.cell_of_heap hx8]; rfl); have f8 : w8.frozen? ⟨w3.heap.size, 1, none⟩ = false := Lib.frozen_of_heap hx8 1; have HX9 := Lib.hid hx8; have HO8 := Lib.hid hown; have HG8 : Hid (w6.grownBy w8 sv.ownBlock) := Lib.hid hg8; clear hx8 hown hg8)
                      have hbx : b ≠ w3.heap.size := by have h2 := HBW.out; have h5 := HSz.out; omega
                      have HK8 : Hid (Kept [b, w3.heap.size] W0 w8) := Lib.hid ((HKw.out.trans (HK6.out.mono (by simp))).push HO6.out (Nat.le_refl _) HG8.out)
                      refine ⟨⟨u + 1, p2, es ++ [(byteAt s.data.toList p', (to : Int))], by omega, rfl, Lib.hid ⟨by rw [List.length_append, HE.out.1]; rfl, HP2.out⟩, Lib.hid (HK8.out.set _ _ _ (.inl (by simp))), Lib.hid ?_, Lib.hid ⟨_, Go.heap_setCell_same w8 _ 1 _ _ _ HX9.out, ?_⟩, Lib.hid (by rw [HT'.out]; exact HS2.out)⟩, ?_⟩
                      · show RdrAt _ b s p2
                        unfold RdrAt
                        rw [heap_setCell_other w8 _ b _ hbx, HG8.out.block b (block_lt HR6.out) (fun e => by
                          have h1 := (own_ty HO6.out e.symm).2
                          have h2 := HBW.out
                          have h3 := HK0.out.size
                          omega)]
                        exact HR6.out
                      · rw [← edCells_snoc, List.length_append, List.length_singleton]
                        refine ((Kept.refl [w3.heap.size] w8).set _ _ _ (.inl (by simp))).own ?_ (fun g hg hm => ?_)
                        · have h1 := HO8.out
                          have h2 := HTb.out (by omega)
                          rw [← h2]
                          exact h1
                        · have h1 := (own_ty HO8.out hg).2
                          have h2 := HZ0.out
                          simp at hm; omega
                      · simp [intOf]; omega
                · obtain rfl : u = v / 2 := by omega
                  have HE2 : Hid (RE = .ok (es, p')) := Lib.hid (by rw [HEs.out, Nat.sub_self, edgesR]; simp [prep])
                  have HS3 : Hid (RS = prep ((L ++ [((fv, es), Value.bool false)]).map (·.1)) (statesR s n t p')) := Lib.hid (by
                    rw [HS1.out, statesR_step s n t p _ (fv, es) p' (by rw [HSt.out, HE2.out, HFv.out])]; simp)
                  obtain ⟨sv, hX, hOw⟩ := HXw.out
                  have x0 : wr.cell? ⟨w3.heap.size, 0, none⟩ = some (.bool fv) := by rw [Lib.cell_of_heap hX]; rfl
                  have x1 : wr.cell? ⟨w3.heap.size, 1, none⟩ = some sv := by rw [Lib.cell_of_heap hX]; rfl
                  have HEd := Lib.hid ((eds_of_own hOw).base (B' := w.heap.size) (by have := HZ0.out; have := HSz.out; omega))
                  have HOo := Lib.hid (HO0.out wr HKw.out)
                  have HKr := Lib.hid (HKX.out wr HKw.out)
                  have HOne : Hid (sv.oneCell' = true) := Lib.hid (by rcases hOw.2 with ⟨h, _⟩ | ⟨_, _, _, h, _⟩ <;> rw [h] <;> rfl)
                  clear hX hOw HXw HEs
                  go_wp2_with (at_builtin; refine wpList_push rfl _ _ 23 rfl w.heap.size 53 i1 _ 2 32 Try.underlying23 hj hy0 hy1 hy2 rfl (by decide) _ L.length (stCells L) rfl HOo.out.own _ rfl (by intro x hx; simp at hx; rcases hx with rfl | rfl; rfl; exact HOne.out) rfl (by have := HL.out.1; unfold maxLen; omega) (by have := HL.out.1; omega) HKr.out.size ?_; intro gg cc w8 hown hg8; have HO8 := Lib.hid hown; have HG8 : Hid (wr.grownBy w8 u4.ownBlock) := Lib.hid hg8; clear hown hg8)
                  refine ⟨⟨k + 1, p', L ++ [((fv, es), sv)], by omega, rfl, Lib.hid ⟨by rw [List.length_append, HL.out.1]; rfl, HE.out.2⟩, Lib.hid (HKr.out.push HOo.out.own (Nat.le_refl _) HG8.out), Lib.hid ?_, Lib.hid (HOo.out.push (by decide) HEd.out (x := ((fv, es), sv)) HO8.out HG8.out), Lib.hid ?_⟩, by simp [intOf]; omega⟩
                  · show w8.heap[b]? = _
                    rw [HG8.out.block b (block_lt HRw.out) (fun e => by
                      have h1 := (own_ty HOo.out.own e.symm).2
                      have h2 := HBW.out
                      omega)]
                    exact HRw.out
                  · rw [HT.out, HS3.out]; simp
        · obtain rfl : k = n := by omega
          have HR3 : Hid (R = if shapeB (L.map (·.1)) then .ok (L.map (·.1), p) else .error 190) := Lib.hid (by rw [HR'.out, HS.out, Nat.sub_self, statesR]; simp [prep])
          have hSh := fun W (h : Kept [] wr W) => Shape_any (L.map (·.1)) u4 W ((HO.out.aut.mono (fun _ _ => trivial)).kept h (by simp))
          have HSh := Lib.hid hSh
          clear hSh HNum HTake HS
          by_cases hshp : shapeB (L.map (·.1)) = true
          · have HR4 := Lib.hid (HR3.out.trans (if_pos hshp))
            have HV : Hid (shapeV (L.map (·.1)) = 0) := Lib.hid (if_pos hshp)
            clear hshp
            go_wp2_with fail
            refine (HSh.out _ (Kept.refl _ _)).mono ?_
            rw [HV.out]
            rintro e w5 ⟨rfl, hb⟩
            have HK5 : Hid (Kept [] wr w5) := Lib.hid (Kept.of_below hb)
            clear hb
            go_wp2_with fail
            refine (must_any _ _ _ _).mono ?_
            rintro e w6 ⟨⟨hc, rfl⟩ | ⟨hc, rfl⟩, rfl⟩
            rotate_left
            · exact absurd hc (by simp)
            clear hc
            go_wp2_with fail
            go_ret
            rw [HR4.out]
            exact ⟨_, rfl, HK.out.trans (HK5.out.mono (by simp)), HK5.out.at HRd.out (by simp), HO.out.aut.kept HK5.out (by simp)⟩
          · have HR4 := Lib.hid (HR3.out.trans (if_neg hshp))
            have HV : Hid (shapeV (L.map (·.1)) = 190) := Lib.hid (if_neg hshp)
            clear hshp
            go_wp2_with fail
            refine (HSh.out _ (Kept.refl _ _)).mono ?_
            rw [HV.out]
            rintro e w5 ⟨rfl, hb⟩
            have HK5 : Hid (Kept [b] wr w5) := Lib.hid (Kept.of_below hb)
            clear hb
            go_wp2_with fail
            refine (must_any _ _ _ _).mono ?_
            rintro e w6 ⟨⟨hc, rfl⟩ | ⟨hc, rfl⟩, rfl⟩
            · exact absurd hc (by simp)
            · exact ⟨rfl, by rw [HR4.out]; exact ⟨rfl, HK.out.trans HK5.out⟩⟩
end Go.Proofs.Ytehbjfjhalpgaaa
