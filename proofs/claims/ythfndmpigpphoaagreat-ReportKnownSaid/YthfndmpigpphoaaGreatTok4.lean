/-
  report.columns walked.
-/
import Derived.Test.YthfndmpigpphoaaGreatRows
import Derived.Test.YthfndmpigpphoaaGreatTok3
namespace Go.Proofs.YthfndmpigpphoaaGreat
open Go.RowKit

theorem int_info : (Tryz.prog.info? 3).map (fun i => (i.zero, i.size, i.bytes)) = some (some (.int .i64 0), 1, 8) := by kernel_rfl
def natV (l : List Nat) : List Value := l.map fun n => Value.int .i64 (n : Nat)
/-- The columns while they are being written: those of the bytes ahead, q of this character's, none behind. -/
def colsMid (acc : List Nat) (q c m : Nat) : List Value := natV (acc ++ List.replicate q c ++ List.replicate m 0)
theorem colsMid_put (acc : List Nat) (q c m : Nat) : (colsMid acc q c (m + 1)).set (acc.length + q) (.int .i64 (c : Nat)) = colsMid acc (q + 1) c m := by
  have e : natV (acc ++ List.replicate q c ++ List.replicate (m + 1) 0) = natV (acc ++ List.replicate q c) ++ (Value.int .i64 (0 : Nat) :: natV (List.replicate m 0)) := by
    rw [List.replicate_succ]; simp [natV]
  have hl : (natV (acc ++ List.replicate q c)).length = acc.length + q := by simp [natV]
  unfold colsMid
  rw [e, List.set_append_right _ _ (by omega), hl, Nat.sub_self, List.set_cons_zero, List.replicate_succ']
  simp [natV]
theorem colsMid_get (acc : List Nat) (q c m : Nat) : (colsMid acc q c (m + 1))[acc.length + q]? = some (.int .i64 (0 : Nat)) := by
  have e : natV (acc ++ List.replicate q c ++ List.replicate (m + 1) 0) = natV (acc ++ List.replicate q c) ++ (Value.int .i64 (0 : Nat) :: natV (List.replicate m 0)) := by
    rw [List.replicate_succ]; simp [natV]
  have hl : (natV (acc ++ List.replicate q c)).length = acc.length + q := by simp [natV]
  unfold colsMid
  rw [e, List.getElem?_append_right (by omega), hl, Nat.sub_self]; rfl
theorem Own.iterAt {w W : World} {e size n : Nat} {v : Value} {xs : List Value} (h : Own w W e size v n xs) {k : Nat} {s : ByteArray} {pos : Nat} (hk : W.heap[k]? = some (.stringIter s pos)) (hw : w.heap.size ≤ k) (pos' : Nat) : Own w (W.iterAt k s pos') e size v n xs := by
  refine ⟨Lib.below_iterAt h.below hw s pos', h.own.1, ?_⟩
  rcases h.own.2 with hn | ⟨g, cap, cur, hv, hg, hb, r⟩
  · exact .inl hn
  · refine .inr ⟨g, cap, cur, hv, hg, ?_, r⟩
    refine (Lib.iterAt_other W k g s pos' ?_).trans hb
    rintro rfl
    rw [hk] at hb; cases hb
theorem Own.stored {w W : World} {e size n g cap : Nat} {xs : List Value} (h : Own w W e size (.slice (some ⟨g, 0, none⟩) n cap) n xs) (j : Nat) (u : Value) : Own w (W.setCell ⟨g, j, none⟩ u) e size (.slice (some ⟨g, 0, none⟩) n cap) n (xs.set j u) := by
  obtain ⟨h1, h2⟩ := h.own.stored j u
  exact ⟨h.below.grown h2 h.below.size (fun k e => by cases e; exact (h.own.lt g rfl).1), h1⟩
theorem hasFFFD (s : ByteArray) (p r : Nat) (w : World) (hr : r = 65533) (b : Bool) (h : Lib.hasPrefix (s.data.toList.drop p) [239, 191, 189] = b) :
    Calls Tryz.prog 25 #[.string (s.extract p s.size), .string (Utf8.encode (r : Nat))] w fun e w' => e = .returned (.bool b) ∧ w = w' := by
  subst hr
  refine (Tryz.strings_HasPrefix _ _ w).mono fun e w' ⟨h1, h2⟩ => ⟨?_, h2.symm⟩
  rw [h1]
  have e1 : (s.extract p s.size).data.toList = s.data.toList.drop p := by
    rw [← Lib.toList_data, Lib.extract_toList, List.take_of_length_le]; simp
  have e2 : (Utf8.encode ((65533 : Nat) : Int)).data.toList = [239, 191, 189] := by decide +kernel
  rw [e1, e2, h]

set_option maxRecDepth 100000 in
set_option maxHeartbeats 4000000 in
theorem columns_any (s : ByteArray) (w : World) (hs : s.size ≤ 65536) :
    Calls Tryz.prog 21 #[.string s] w fun e w' => e = .returned (.slice (some ⟨w.heap.size, 0, none⟩) s.size s.size) ∧ Own w w' 3 1 (.slice (some ⟨w.heap.size, 0, none⟩) s.size s.size) s.size (natV (colsOf s.data.toList)) := by
  obtain ⟨j0, hj, hy0, hy1, hy2⟩ := info_parts int_info
  have HC := Lib.hid (colsOf_str s)
  go_enter Tryz.func21, Tryz.ntmps21
  go_wp2_with (refine wpList_make_full _ rfl _ _ 72 rfl w.heap.size 3 j0 (.int .i64 0) 1 Tryz.underlying72 hj hy0 hy1 .i64 .i64 _ _ s.size rfl rfl rfl rfl (by rw [hy2]; omega) (by unfold maxLen; omega) (Nat.le_refl _) ?_; intro w1 hown hgrow; have HO : Hid (Own w w1 3 1 (.slice (some ⟨w.heap.size, 0, none⟩) s.size s.size) s.size (colsMid [] 0 0 s.size)) := Lib.hid ⟨(Below.refl _ w).grown hgrow (Nat.le_refl _) (fun k e => (by cases e)), (by rw [show (colsMid [] 0 0 s.size) = (madeCells (Value.int .i64 0).cells (s.size * 1)).toList from by rw [Nat.mul_one]; simp [Value.cells, toList_madeCells_one, colsMid, natV]]; exact hown)⟩; have hsz := hgrow.size; clear hown hgrow)
  go_loopw [4] (fun n wr => ∃ (p f k : Nat) (acc : List Nat), n = .int .i64 k ∧ p ≤ s.size ∧ s.size - p ≤ f ∧ k ≤ p ∧ acc.length = p ∧ acc ++ colsF s f p k = colsOf s.data.toList ∧ wr.heap[w1.heap.size]? = some (.stringIter s p) ∧
    Own w wr 3 1 (.slice (some ⟨w.heap.size, 0, none⟩) s.size s.size) s.size (colsMid acc 0 0 (s.size - p))) (fun _ wr => s.size - wr.iterPos w1.heap.size)
  case atStart =>
    refine ⟨0, s.size, 0, [], rfl, Nat.zero_le _, by omega, Nat.le_refl _, rfl, HC.out.symm, ?_, HO.out.alloc _⟩
    exact World.iter_heap w1 s 0
  case round =>
    obtain ⟨p, f, k, acc, rfl, hp, hf, hk, hal, hall, hit, ho⟩ := hrel
    have HAL := Lib.hid hal
    have HAll := Lib.hid hall
    have HIt := Lib.hid hit
    have HO := Lib.hid ho
    clear hal hall ho
    by_cases hlt : p < s.size
    · obtain ⟨hd1, hd2⟩ := dec_width s p hlt
      have HStep := Lib.hid (colsF_step s f p k hlt hf)
      have hrc := rune_cases s p hlt
      have hrm := decode_le s p
      have hnx : ∀ ty, (Instr.next (.pointer (some ⟨w1.heap.size, 0, none⟩)) true ty).run Tryz.prog wr = _ := fun ty => Lib.run_next_any_at wr w1.heap.size s p ty hit hlt
      generalize (Utf8.decode s p).1 = r at *
      generalize (Utf8.decode s p).2 = d at *
      have HO2 := Lib.hid (HO.out.iterAt hit hsz (p + d))
      have HIt2 := Lib.hid (Lib.iterAt_heap wr w1.heap.size s p (p + d) hit)
      clear hit
      obtain ⟨m0, hm0⟩ : ∃ m0, s.size - p = m0 + 1 := ⟨s.size - p - 1, by omega⟩
      have hcase : ((((r : Int) == 65533) = true ∧ Hid (r = 65533) ∧ Hid (Lib.hasPrefix (s.data.toList.drop p) [239, 191, 189] = false) ∧ Hid (d = 1)) ∨ (((r : Int) == 65533) = true ∧ Hid (r = 65533) ∧ Hid (Lib.hasPrefix (s.data.toList.drop p) [239, 191, 189] = true) ∧ (Utf8.encode (r : Nat)).size = d)) ∨ (((r : Int) == 65533) = false ∧ (Utf8.encode (r : Nat)).size = d) := by
        rcases hrc with ⟨a, b, c⟩ | ⟨a, b, c⟩ | ⟨a, b⟩
        · exact .inl (.inl ⟨by rw [a]; rfl, Lib.hid a, Lib.hid c, Lib.hid b⟩)
        · exact .inl (.inr ⟨by rw [a]; rfl, Lib.hid a, Lib.hid c, by rw [a, b]; decide +kernel⟩)
        · exact .inr ⟨by simp; omega, b⟩
      clear hrc hm0
      rcases hcase with (⟨hq, hr, hpf, hd⟩ | ⟨hq, hr, hpf, he⟩) | ⟨hq, he⟩
      · have := hd.out
        subst this
        go_wp2_with (go_at_call 25; refine (hasFFFD s p r _ hr.out _ hpf.out).mono ?_; rintro e w' ⟨rfl, rfl⟩)
        clear hnx
        obtain ⟨wo, rfl⟩ : ∃ wo : World, wo = wr := ⟨_, rfl⟩
        go_loopw [8] (fun j wq => ∃ q : Nat, q ≤ 1 ∧ j = .int .i64 (p + q : Nat) ∧ Own w wq 3 1 (.slice (some ⟨w.heap.size, 0, none⟩) s.size s.size) s.size (colsMid acc q (k + 1) (s.size - p - q)) ∧ wq.heap[w1.heap.size]? = some (.stringIter s (p + 1))) (fun j _ => p + 1 - (intOf j).toNat)
        case atStart => exact ⟨0, Nat.zero_le _, rfl, by have := HO2.out; simpa [colsMid] using this, HIt2.out⟩
        case round =>
          obtain ⟨q, hq, rfl, ho, hit⟩ := hrel
          have HO3 := Lib.hid ho
          have HIt3 := Lib.hid hit
          clear ho hit
          by_cases hqd : q < 1
          · obtain ⟨m, hm⟩ : ∃ m, s.size - p - q = m + 1 := ⟨s.size - p - q - 1, by omega⟩
            have HM : Hid (s.size - p - (q + 1) = m) := Lib.hid (by omega)
            rw [hm] at HO3
            have hcl : wr.cell? ⟨w.heap.size, p + q, none⟩ = some (.int .i64 (0 : Nat)) := by
              have := HO3.out.own.cells (g := w.heap.size) rfl (p + q) (.int .i64 (0 : Nat)) (by have h := colsMid_get acc q (k + 1) m; rw [HAL.out] at h; exact h)
              rw [row_addr] at this; exact this
            have hfz : wr.frozen? ⟨w.heap.size, p + q, none⟩ = false := HO3.out.own.frozenAt _
            have HO4 : Hid (Own w (wr.setCell ⟨w.heap.size, p + q, none⟩ (.int .i64 ((k + 1 : Nat) : Int))) 3 1 (.slice (some ⟨w.heap.size, 0, none⟩) s.size s.size) s.size (colsMid acc (q + 1) (k + 1) m)) := Lib.hid (by
              have h := HO3.out.stored (p + q) (.int .i64 ((k + 1 : Nat) : Int))
              rw [show p + q = acc.length + q by rw [HAL.out]] at h
              rw [colsMid_put] at h
              rw [HAL.out] at h; exact h)
            have HIt4 : Hid ((wr.setCell ⟨w.heap.size, p + q, none⟩ (.int .i64 ((k + 1 : Nat) : Int))).heap[w1.heap.size]? = some (.stringIter s (p + 1))) := Lib.hid (by
              refine (_root_.Go.heap_setCell_other wr ⟨w.heap.size, p + q, none⟩ _ _ ?_).trans HIt3.out
              intro e
              have hb := HIt3.out
              rw [e] at hb
              rcases HO3.out.own.2 with ⟨e', _⟩ | ⟨g, cap, cur, e', _, hb', _⟩
              · cases e'
              · cases e'; rw [hb'] at hb; cases hb)
            clear hm
            go_wp2_with fail
            go_roundw
            case rel => exact ⟨q + 1, by omega, by go_num, by rw [HM.out]; simpa using HO4.out, by simpa using HIt4.out⟩
            case measure => simp [intOf] <;> omega
          · obtain rfl : q = 1 := by omega
            go_wp2_with fail
            go_roundw
            case rel =>
              refine ⟨p + 1, f - 1, k + 1, acc ++ List.replicate 1 (k + 1), by go_num, hd2, by omega, by omega, by simp [HAL.out], ?_, HIt3.out, ?_⟩
              · rw [← HAll.out, HStep.out]; simp
              · have := HO3.out
                rw [Nat.sub_sub] at this
                simpa [colsMid] using this
            case measure => simp only [World.iterPos, HIt3.out, HIt.out]; omega
      · go_wp2_with (go_at_call 25; refine (hasFFFD s p r _ hr.out _ hpf.out).mono ?_; rintro e w' ⟨rfl, rfl⟩)
        clear hnx
        obtain ⟨wo, rfl⟩ : ∃ wo : World, wo = wr := ⟨_, rfl⟩
        go_loopw [8] (fun j wq => ∃ q : Nat, q ≤ d ∧ j = .int .i64 (p + q : Nat) ∧ Own w wq 3 1 (.slice (some ⟨w.heap.size, 0, none⟩) s.size s.size) s.size (colsMid acc q (k + 1) (s.size - p - q)) ∧ wq.heap[w1.heap.size]? = some (.stringIter s (p + d))) (fun j _ => p + d - (intOf j).toNat)
        case atStart => exact ⟨0, Nat.zero_le _, rfl, by have := HO2.out; simpa [colsMid] using this, HIt2.out⟩
        case round =>
          obtain ⟨q, hq, rfl, ho, hit⟩ := hrel
          have HO3 := Lib.hid ho
          have HIt3 := Lib.hid hit
          clear ho hit
          by_cases hqd : q < d
          · obtain ⟨m, hm⟩ : ∃ m, s.size - p - q = m + 1 := ⟨s.size - p - q - 1, by omega⟩
            have HM : Hid (s.size - p - (q + 1) = m) := Lib.hid (by omega)
            rw [hm] at HO3
            have hcl : wr.cell? ⟨w.heap.size, p + q, none⟩ = some (.int .i64 (0 : Nat)) := by
              have := HO3.out.own.cells (g := w.heap.size) rfl (p + q) (.int .i64 (0 : Nat)) (by have h := colsMid_get acc q (k + 1) m; rw [HAL.out] at h; exact h)
              rw [row_addr] at this; exact this
            have hfz : wr.frozen? ⟨w.heap.size, p + q, none⟩ = false := HO3.out.own.frozenAt _
            have HO4 : Hid (Own w (wr.setCell ⟨w.heap.size, p + q, none⟩ (.int .i64 ((k + 1 : Nat) : Int))) 3 1 (.slice (some ⟨w.heap.size, 0, none⟩) s.size s.size) s.size (colsMid acc (q + 1) (k + 1) m)) := Lib.hid (by
              have h := HO3.out.stored (p + q) (.int .i64 ((k + 1 : Nat) : Int))
              rw [show p + q = acc.length + q by rw [HAL.out]] at h
              rw [colsMid_put] at h
              rw [HAL.out] at h; exact h)
            have HIt4 : Hid ((wr.setCell ⟨w.heap.size, p + q, none⟩ (.int .i64 ((k + 1 : Nat) : Int))).heap[w1.heap.size]? = some (.stringIter s (p + d))) := Lib.hid (by
              refine (_root_.Go.heap_setCell_other wr ⟨w.heap.size, p + q, none⟩ _ _ ?_).trans HIt3.out
              intro e
              have hb := HIt3.out
              rw [e] at hb
              rcases HO3.out.own.2 with ⟨e', _⟩ | ⟨g, cap, cur, e', _, hb', _⟩
              · cases e'
              · cases e'; rw [hb'] at hb; cases hb)
            clear hm
            go_wp2_with fail
            go_roundw
            case rel => exact ⟨q + 1, by omega, by go_num, by rw [HM.out]; simpa using HO4.out, by simpa using HIt4.out⟩
            case measure => simp [intOf] <;> omega
          · obtain rfl : d = q := by omega
            go_wp2_with fail
            go_roundw
            case rel =>
              refine ⟨p + d, f - 1, k + 1, acc ++ List.replicate d (k + 1), by go_num, hd2, by omega, by omega, by simp [HAL.out], ?_, HIt3.out, ?_⟩
              · rw [← HAll.out, HStep.out]; simp
              · have := HO3.out
                rw [Nat.sub_sub] at this
                simpa [colsMid] using this
            case measure => simp only [World.iterPos, HIt3.out, HIt.out]; omega
      · go_wp2_with fail
        clear hnx
        obtain ⟨wo, rfl⟩ : ∃ wo : World, wo = wr := ⟨_, rfl⟩
        go_loopw [8] (fun j wq => ∃ q : Nat, q ≤ d ∧ j = .int .i64 (p + q : Nat) ∧ Own w wq 3 1 (.slice (some ⟨w.heap.size, 0, none⟩) s.size s.size) s.size (colsMid acc q (k + 1) (s.size - p - q)) ∧ wq.heap[w1.heap.size]? = some (.stringIter s (p + d))) (fun j _ => p + d - (intOf j).toNat)
        case atStart => exact ⟨0, Nat.zero_le _, rfl, by have := HO2.out; simpa [colsMid] using this, HIt2.out⟩
        case round =>
          obtain ⟨q, hq, rfl, ho, hit⟩ := hrel
          have HO3 := Lib.hid ho
          have HIt3 := Lib.hid hit
          clear ho hit
          by_cases hqd : q < d
          · obtain ⟨m, hm⟩ : ∃ m, s.size - p - q = m + 1 := ⟨s.size - p - q - 1, by omega⟩
            have HM : Hid (s.size - p - (q + 1) = m) := Lib.hid (by omega)
            rw [hm] at HO3
            have hcl : wr.cell? ⟨w.heap.size, p + q, none⟩ = some (.int .i64 (0 : Nat)) := by
              have := HO3.out.own.cells (g := w.heap.size) rfl (p + q) (.int .i64 (0 : Nat)) (by have h := colsMid_get acc q (k + 1) m; rw [HAL.out] at h; exact h)
              rw [row_addr] at this; exact this
            have hfz : wr.frozen? ⟨w.heap.size, p + q, none⟩ = false := HO3.out.own.frozenAt _
            have HO4 : Hid (Own w (wr.setCell ⟨w.heap.size, p + q, none⟩ (.int .i64 ((k + 1 : Nat) : Int))) 3 1 (.slice (some ⟨w.heap.size, 0, none⟩) s.size s.size) s.size (colsMid acc (q + 1) (k + 1) m)) := Lib.hid (by
              have h := HO3.out.stored (p + q) (.int .i64 ((k + 1 : Nat) : Int))
              rw [show p + q = acc.length + q by rw [HAL.out]] at h
              rw [colsMid_put] at h
              rw [HAL.out] at h; exact h)
            have HIt4 : Hid ((wr.setCell ⟨w.heap.size, p + q, none⟩ (.int .i64 ((k + 1 : Nat) : Int))).heap[w1.heap.size]? = some (.stringIter s (p + d))) := Lib.hid (by
              refine (_root_.Go.heap_setCell_other wr ⟨w.heap.size, p + q, none⟩ _ _ ?_).trans HIt3.out
              intro e
              have hb := HIt3.out
              rw [e] at hb
              rcases HO3.out.own.2 with ⟨e', _⟩ | ⟨g, cap, cur, e', _, hb', _⟩
              · cases e'
              · cases e'; rw [hb'] at hb; cases hb)
            clear hm
            go_wp2_with fail
            go_roundw
            case rel => exact ⟨q + 1, by omega, by go_num, by rw [HM.out]; simpa using HO4.out, by simpa using HIt4.out⟩
            case measure => simp [intOf] <;> omega
          · obtain rfl : d = q := by omega
            go_wp2_with fail
            go_roundw
            case rel =>
              refine ⟨p + d, f - 1, k + 1, acc ++ List.replicate d (k + 1), by go_num, hd2, by omega, by omega, by simp [HAL.out], ?_, HIt3.out, ?_⟩
              · rw [← HAll.out, HStep.out]; simp
              · have := HO3.out
                rw [Nat.sub_sub] at this
                simpa [colsMid] using this
            case measure => simp only [World.iterPos, HIt3.out, HIt.out]; omega
    · obtain rfl : p = s.size := by omega
      have hnx : ∀ ty, (Instr.next (.pointer (some ⟨w1.heap.size, 0, none⟩)) true ty).run Tryz.prog wr = _ := fun ty => Lib.run_next_end_at wr w1.heap.size s s.size ty hit (by omega)
      have HE : Hid (natV (colsOf s.data.toList) = colsMid acc 0 0 (s.size - s.size)) := Lib.hid (by rw [← HAll.out, colsF_end s f _ k (by omega), Nat.sub_self]; simp [colsMid])
      clear hit
      go_wp2_with fail
      go_ret
      exact ⟨rfl, by rw [HE.out]; exact HO.out⟩
end Go.Proofs.YthfndmpigpphoaaGreat
