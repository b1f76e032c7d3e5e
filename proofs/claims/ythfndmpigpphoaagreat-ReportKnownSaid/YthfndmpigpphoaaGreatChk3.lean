/-
  The way of a word along a section of a checker, walked.
-/
import Derived.Test.YthfndmpigpphoaaGreatRows
import Derived.Test.YthfndmpigpphoaaGreatChk2
namespace Go.Proofs.YthfndmpigpphoaaGreat
open Go.RowKit

set_option maxHeartbeats 1000000 in
theorem so_IndexFuncE (v : Value) (es : List Ed) (s : ByteArray) (i p q : Nat) (w : World) (h : EdsAt w (fun _ => True) v es) (hi : i < s.size) (hs : s.size ≤ maxLen) (hn : es.length ≤ 4611686018427387904)
    (hp : w.cell? ⟨p, 0, none⟩ = some (.string s)) (hq : w.cell? ⟨q, 0, none⟩ = some (.int .i64 i)) :
    Calls Tryz.prog 85 #[v, .func (.func 86) #[] #[.pointer (some ⟨p, 0, none⟩), .pointer (some ⟨q, 0, none⟩)]] w fun e w' => ∃ r : Int, e = .returned (.int .i64 r) ∧ Below w.heap.size w w' ∧
      ((∃ (k : Nat) (hk : k < es.length), r = k ∧ stepE es s[i] = some es[k].2) ∨ (r = -1 ∧ stepE es s[i] = none)) := by
  obtain ⟨Ex, cap, rfl, hcap, hE⟩ := h
  have HE := Lib.hid hE
  have HP := Lib.hid hp
  have HQ := Lib.hid hq
  clear hE hp hq
  go_enter Tryz.func85, Tryz.ntmps85
  go_wp2
  go_loopw [5, 8] (fun _ i' wr => ∃ k : Nat, k ≤ es.length ∧ i' = .int .i64 k ∧ Hid (Below w.heap.size w wr) ∧ Hid (∀ j (hj : j < es.length), j < k → es[j].1 ≠ s[i])) (fun _ i' _ => es.length - (intOf i').toNat)
  case atStart => exact ⟨0, Nat.zero_le _, rfl, Below.refl _ _, fun j _ hj => absurd hj (Nat.not_lt_zero _)⟩
  case round =>
    obtain ⟨k, hk, rfl, HB, HN⟩ := hrel
    by_cases hlt : k < es.length
    · obtain ⟨g, o, rfl, hg, -, hc⟩ := HE.out.resolve_left (by omega)
      have c0 := (HB.out.cell (p := ⟨g, _, none⟩) hg).trans (hc k hlt).1
      have c1 := (HB.out.cell (p := ⟨g, _, none⟩) hg).trans (hc k hlt).2
      have hp' := Lib.hid ((HB.out.cell (World.block_lt_of_cell? w _ HP.out)).trans HP.out)
      have hq' := Lib.hid ((HB.out.cell (World.block_lt_of_cell? w _ HQ.out)).trans HQ.out)
      have HX := Lib.hid (show ∀ x y, es[k] = (x, y) → x = s[i] → stepE es s[i] = some es[k].2 from fun x y hxy hx => stepE_hit hlt (by rw [hxy]; exact hx) (fun j hj => HN.out j (by omega) hj))
      obtain ⟨x, t, hxt⟩ : ∃ x t, es[k] = (x, t) := ⟨_, _, rfl⟩
      rw [hxt] at c0 c1
      dsimp only at c0 c1
      have HXT := Lib.hid hxt
      clear hc hxt
      cases hd : decide (x = s[i])
      · have HD := Lib.hid hd
        clear hd
        go_wp2_with (go_at_call 86; refine (so_along1 x t s i p q _ hi hs hp'.out hq'.out).mono ?_; rw [HD.out]; rintro e w1 ⟨rfl, b1⟩; have HB1 := Lib.hid (HB.out.trans (b1.mono HB.out.size)); clear b1)
        go_roundw
        case rel =>
          refine ⟨k + 1, by omega, by go_num, HB1, Lib.hid (fun j hj hjk => ?_)⟩
          by_cases e : j = k
          · subst e; rw [HXT.out]; exact of_decide_eq_false HD.out
          · exact HN.out j hj (by omega)
        case measure => simp [intOf]; omega
      · have HD := Lib.hid hd
        clear hd
        go_wp2_with (go_at_call 86; refine (so_along1 x t s i p q _ hi hs hp'.out hq'.out).mono ?_; rw [HD.out]; rintro e w1 ⟨rfl, b1⟩; have HB1 := Lib.hid (HB.out.trans (b1.mono HB.out.size)); clear b1)
        go_ret
        exact ⟨k, rfl, HB1.out, .inl ⟨k, hlt, rfl, HX.out x t HXT.out (of_decide_eq_true HD.out)⟩⟩
    · have hke : k = es.length := by omega
      subst hke
      go_wp2
      go_ret
      exact ⟨-1, rfl, HB.out, .inr ⟨rfl, stepE_miss (fun j hj => HN.out j hj hj)⟩⟩

set_option maxHeartbeats 2000000 in
set_option maxRecDepth 100000 in
theorem so_along (k : Nat) (hk : k < 4) (c : Value) (As : List (List St)) (A : List St) (s : ByteArray) (w : World) (h : CkAt w c As) (hA : As[k]? = some A) (hs : s.size ≤ maxLen) :
    Calls Tryz.prog 62 #[c, .int .i64 k, .string s] w fun e w' => ∃ pv n, e = .returned (.tuple #[pv, n]) ∧ Below w.heap.size w w' ∧
      ((alongGo A 0 s.data.toList = none ∧ pv = .pointer none) ∨ ∃ q g off, alongGo A 0 s.data.toList = some q ∧ pv = .pointer (some ⟨g, off, none⟩) ∧ w'.cell? ⟨g, off, none⟩ = some (.bool (finB A q))) := by
  have HH := Lib.hid h
  have HB0 := Lib.hid ((Below.refl w.heap.size w).alloc (Nat.le_refl _) (.cells #[.string s] 9))
  have hz0 : (w.alloc (.cells #[.string s] 9)).heap.size = w.heap.size + 1 := by simp
  have hbox : (w.alloc (.cells #[.string s] 9)).cell? ⟨w.heap.size, 0, none⟩ = some (.string s) := by go_simp
  have hS := so_section k hk c As A (w.alloc (.cells #[.string s] 9)) (h.keep ((Below.refl w.heap.size w).alloc (Nat.le_refl _) (.cells #[.string s] 9))) hA
  clear h
  generalize hW0 : w.alloc (.cells #[.string s] 9) = W0 at *
  have HS := Lib.hid hS
  have HW0 := Lib.hid hW0
  have hbx := Lib.hid hbox
  clear hS hW0 hbox
  go_enter Tryz.func62, Tryz.ntmps62
  go_wp2_with fail
  rw [HW0.out]
  refine HS.out.mono ?_
  rintro e w1 ⟨v, rfl, hw1, h1, hsh, hlen⟩
  obtain rfl := hw1.symm
  clear hw1
  obtain ⟨Ad, cap, rfl, hcap, hA0⟩ := h1
  have hlow := shape_low hsh
  have HL := Lib.hid hlen
  have HW := Lib.hid hlow.1
  have hp0 := hlow.2.1
  have hm0 := hlow.2.2
  have q1 : ((A.length : Int) == 0) = false := by rw [beq_eq_false_iff_ne]; omega
  obtain ⟨g, o, rfl, hg, -, hcs⟩ := hA0.resolve_left (by omega)
  have HC := Lib.hid hcs
  clear hlen hsh hlow hcs hA0
  have hb0 := hbx.out
  have hs' : s.size ≤ 9223372036854775807 := by unfold maxLen at hs; exact hs
  go_wp2_with fail
  go_loopw [9, 20] (fun a i wr => ∃ k q h : Nat, k ≤ s.size ∧ i = .int .i64 k ∧ a = .int .i64 q ∧ Hid (Below W0.heap.size W0 wr) ∧ Hid (Low A h (q : Int)) ∧ Hid (alongGo A q (s.data.toList.drop k) = alongGo A 0 s.data.toList)) (fun _ i _ => s.size - (intOf i).toNat)
  case atStart => exact ⟨0, 0, A.length, Nat.zero_le _, rfl, rfl, Below.refl _ _, HW, rfl⟩
  case round =>
    obtain ⟨k', q, h, hk', rfl, rfl, HB, HLq, HG⟩ := hrel
    have hql : q < A.length := by have := HLq.out.lt; simpa using this
    have hszr := HB.out.size
    by_cases hlt : k' < s.size
    · have hd := drop_cons s k' hlt
      have hG : alongGo A q (s[k'] :: s.data.toList.drop (k' + 1)) = alongGo A 0 s.data.toList := by rw [← hd]; exact HG.out
      rw [alongGo] at hG
      simp only [Int.toNat_natCast] at hG
      have hfin : A.getD q (false, []) = A[q] := by simp [List.getD, hql]
      rw [hfin] at hG
      have HST := Lib.hid (show ∀ t, stepE A[q].2 s[k'] = some t → ∃ h', Low A h' t from fun t ht => by
        cases h with
        | zero => exact absurd HLq.out (by intro hh; cases hh)
        | succ h' => exact ⟨h', HLq.out.step (b := s[k']) (by rw [Int.toNat_natCast, hfin]; exact ht)⟩)
      obtain ⟨-, ev, e1, hE⟩ := HC.out q hql
      have hne := HL.out A[q] (List.getElem_mem hql)
      obtain ⟨⟨fin, es⟩, hx⟩ : ∃ x, A[q] = x := ⟨_, rfl⟩
      rw [hx] at hE hG HST hne
      dsimp only at hE hG HST hne
      have hEw := hE.keep HB.out
      obtain ⟨Ex, capE, rfl, hcapE, hE0⟩ := hE
      have ce := (HB.out.cell (p := ⟨g, _, none⟩) hg).trans e1
      have cb := (HB.out.cell (World.block_lt_of_cell? W0 _ hbx.out)).trans hbx.out
      have gne : wr.heap.size ≠ g := by omega
      have bne : wr.heap.size ≠ w.heap.size := by omega
      have HEw := Lib.hid hEw
      have HE0 := Lib.hid hE0
      have HGG := Lib.hid hG
      have BA := Lib.hid ((Below.refl wr.heap.size wr).alloc (Nat.le_refl _) (.cells #[.int .i64 (k' : Int)] 3))
      have cbA : (wr.alloc (.cells #[.int .i64 (k' : Int)] 3)).cell? ⟨w.heap.size, 0, none⟩ = some (.string s) := (BA.out.cell (World.block_lt_of_cell? wr _ cb)).trans cb
      have ceA : (wr.alloc (.cells #[.int .i64 (k' : Int)] 3)).cell? ⟨g, o + q * 2 + 1, none⟩ = some (.slice Ex es.length capE) := (BA.out.cell (World.block_lt_of_cell? wr _ ce)).trans ce
      have ciA : (wr.alloc (.cells #[.int .i64 (k' : Int)] 3)).cell? ⟨wr.heap.size, 0, none⟩ = some (.int .i64 (k' : Int)) := by go_simp
      have HI := Lib.hid (so_IndexFuncE (.slice Ex es.length capE) es s k' w.heap.size wr.heap.size _ (HEw.out.keep BA.out) hlt hs (by omega) cbA ciA)
      have HE1 := Lib.hid e1
      clear hE0 hEw hG hfin hd hx e1 cbA ciA hne
      go_wp2_with fail
      refine HI.out.mono ?_
      rintro e w2 ⟨r, rfl, hb2, hcase⟩
      have HB2 := Lib.hid (HB.out.trans (((Below.refl wr.heap.size wr).alloc (Nat.le_refl _) _).trans (hb2.mono (by simp)) |>.mono hszr))
      have ce2 := (HB2.out.cell (p := ⟨g, _, none⟩) hg).trans (show W0.cell? ⟨g, o + q * 2 + 1, none⟩ = some (.slice Ex es.length capE) from HE1.out)
      have ci2 : w2.cell? ⟨wr.heap.size, 0, none⟩ = some (.int .i64 (k' : Int)) := by
        rw [hb2.cell (p := ⟨wr.heap.size, 0, none⟩) (by simp)]; go_simp
      clear hb2
      rcases hcase with ⟨j, hj, rfl, hst⟩ | ⟨rfl, hst⟩
      · obtain ⟨h', hlow⟩ := HST.out _ hst
        obtain ⟨g2, o2, rfl, hg2, -, hc⟩ := HE0.out.resolve_left (by omega)
        have c1 := (HB2.out.cell (p := ⟨g2, _, none⟩) hg2).trans (hc j hj).2
        obtain ⟨t, ht⟩ : ∃ t, es[j].2 = t := ⟨_, rfl⟩
        rw [ht] at hst hlow c1
        obtain ⟨q', rfl⟩ : ∃ q' : Nat, t = q' := ⟨t.toNat, (Int.toNat_of_nonneg hlow.nn).symm⟩
        have hG2 := HGG.out
        rw [hst] at hG2
        dsimp only at hG2
        have HG2 := Lib.hid hG2
        have HL2 := Lib.hid hlow
        clear hc ht hst hG2 hlow
        go_wp2_with fail
        go_roundw
        case rel => exact ⟨k' + 1, q', h', by omega, by go_num, rfl, HB2, HL2, HG2⟩
        case measure => simp [intOf]; omega
      · have hG2 := HGG.out
        rw [hst] at hG2
        dsimp only at hG2
        have HG2 := Lib.hid hG2
        clear hst hG2
        go_wp2_with fail
        go_quiet (fail)
        go_wp2_with fail
        go_ret2
        exact ⟨_, _, rfl, below_drewN (HB0.out.trans (HB2.out.mono HB0.out.size)) _, .inl ⟨HG2.out.symm, rfl⟩⟩
    · obtain rfl : k' = s.size := by omega
      have hda := drop_all s
      have e1 : alongGo A 0 s.data.toList = some (q : Int) := by rw [← HG.out, hda]; rfl
      have cb := (HB.out.cell (World.block_lt_of_cell? W0 _ hbx.out)).trans hbx.out
      have cq := (HB.out.cell (p := ⟨g, _, none⟩) hg).trans (HC.out q hql).1
      have hfq : finB A (q : Int) = A[q].1 := by show (A.getD (q : Int).toNat (false, [])).1 = _; rw [Int.toNat_natCast]; simp [List.getD, hql]
      have HE := Lib.hid e1
      have HQ := Lib.hid (show wr.cell? ⟨g, o + q * 2, none⟩ = some (.bool (finB A (q : Int))) by rw [hfq]; exact cq)
      clear hda e1 cq hfq
      go_wp2_with fail
      go_quiet (fail)
      go_wp2_with fail
      go_ret2
      exact ⟨_, _, rfl, below_drewN (HB0.out.trans (HB.out.mono HB0.out.size)) _, .inr ⟨_, g, o + q * 2, HE.out, rfl, HQ.out⟩⟩
end Go.Proofs.YthfndmpigpphoaaGreat
