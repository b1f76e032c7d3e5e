/-
  The program's Encode.
-/
import Derived.Test.YtehbjfjhalpgaaaRows
import Derived.Test.YtehbjfjhalpgaaaImg38
import Derived.Test.YtehbjfjhalpgaaaImg34
import Derived.Test.YtehbjfjhalpgaaaEnc1
import Derived.Test.YtehbjfjhalpgaaaEnc2
import Derived.Test.YtehbjfjhalpgaaaEnc4
namespace Go.Proofs.Ytehbjfjhalpgaaa
open Go.RowKit

/-- Where Encode stands: the book's variable, the builder b behind it, which holds l. -/
structure NSt (w W : World) (b : Nat) (bk : Array Value) (l : List UInt8) : Prop where
  below : Below w.heap.size w W
  book : W.heap[w.heap.size]? = some (.cells bk 26 (0, 0))
  lt : w.heap.size < b
  isB : IsB b b (Lib.byteCells l) W
theorem NSt.bsz {w W : World} {b : Nat} {bk : Array Value} {l : List UInt8} (h : NSt w W b bk l) : b ≤ W.heap.size := Nat.le_of_lt h.isB.size
theorem NSt.step {w W W' : World} {b : Nat} {bk : Array Value} {l l' : List UInt8} (h : NSt w W b bk l) (hi : IsB b b (Lib.byteCells l') W') (hb : Below b W W') : NSt w W' b bk l' :=
  ⟨h.below.trans (hb.mono (Nat.le_of_lt h.lt)), (hb.block _ h.lt).trans h.book, h.lt, hi⟩
theorem NSt.call {w W W' : World} {b : Nat} {bk : Array Value} {l : List UInt8} (h : NSt w W b bk l) (hb : Below W.heap.size W W') : NSt w W' b bk l :=
  h.step (h.isB.call hb) (hb.mono h.bsz)
theorem NSt.alloc {w W : World} {b : Nat} {bk : Array Value} {l : List UInt8} (h : NSt w W b bk l) (o : Obj) : NSt w (W.alloc o) b bk l := h.call ((Below.refl _ _).alloc (Nat.le_refl _) _)
theorem NSt.cell {w W : World} {b : Nat} {bk : Array Value} {l : List UInt8} (h : NSt w W b bk l) (i : Nat) {x : Value} (hx : bk[i]? = some x) : W.cell? ⟨w.heap.size, i, none⟩ = some x := by rw [Lib.cell_of_heap h.book]; exact hx

theorem encNum_i (b : Nat) (x : Int) (l : List UInt8) (w : World) (h : IsB b b (Lib.byteCells l) w) (h0 : 0 ≤ x) (hx : x ≤ 9223372036854775807) (hlen : l.length ≤ 70368744177664) :
    Calls Try.prog 19 #[.int .i64 x, .pointer (some ⟨b, 0, none⟩)] w fun e w' => e = .returned (.tuple #[]) ∧ IsB b b (Lib.byteCells (l ++ uintB x.toNat)) w' ∧ Below b w w' ∧ KT w w' := by
  obtain ⟨n, rfl⟩ : ∃ n : Nat, x = n := ⟨x.toNat, by omega⟩
  exact encNum_ty b b n l w h (by omega) hlen (Nat.le_of_lt h.size)
theorem index_j (v0 v1 v2 v3 : Value) (j : Nat) (hj : j < 4) (w : World) : (Instr.index 24 (.agg #[v0, v1, v2, v3]) (.int .i64 (j : Int))).run Try.prog w = .ok ([v0, v1, v2, v3].getD j undef) w := by
  rcases j with _ | _ | _ | _ | j
  · exact index_0 v0 v1 v2 v3 w
  · exact index_1 v0 v1 v2 v3 w
  · exact index_2 v0 v1 v2 v3 w
  · exact index_3 v0 v1 v2 v3 w
  · omega

set_option maxHeartbeats 8000000 in
set_option maxRecDepth 100000 in
theorem Encode_any (n : Int) (t : ByteArray) (rs : List Rp) (As : List (List St)) (vr v0 v1 v2 v3 : Value) (w : World) (hrv : RepsAt w vr rs) (hl : As.length = 4)
    (hv : SecP w (fun _ => True) [v0, v1, v2, v3] As) (ht : t.size ≤ 140737488355327) (hrs : ∀ k (h : k < rs.length), rs[k].1.size ≤ 140737488355328 ∧ rs[k].2.size ≤ 140737488355328) :
    Calls Try.prog 10 #[.agg #[.int .i64 n, .string t, vr, v0, v1, v2, v3]] w fun e w' => e = .returned (.tuple #[.string (encV n t rs As).1, .int .i64 (encV n t rs As).2]) ∧ Below w.heap.size w w' := by
  obtain ⟨X1, cap1, rfl, hr1⟩ := hrv.row
  obtain ⟨W0, hW0⟩ : ∃ W0, w.alloc (.cells #[.int .i64 n, .string t, .slice X1 rs.length cap1, v0, v1, v2, v3] 26) = W0 := ⟨_, rfl⟩
  have hb0 : Below w.heap.size w W0 := by rw [← hW0]; exact (Below.refl _ _).alloc (Nat.le_refl _) _
  have hbk0 : W0.heap[w.heap.size]? = some (.cells #[.int .i64 n, .string t, .slice X1 rs.length cap1, v0, v1, v2, v3] 26 (0, 0)) := by rw [← hW0]; exact heap_alloc_new w _
  have hz0 : W0.heap.size = w.heap.size + 1 := by rw [← hW0]; simp
  have HSet := Lib.hid (settings_any n t rs (.slice X1 rs.length cap1) v0 v1 v2 v3 W0 (by
    obtain ⟨A, cap, hv, hA⟩ := hrv
    refine ⟨A, cap, hv, ?_⟩
    rcases hA with hA | ⟨g, o, hA, hg, hcs⟩
    · exact .inl hA
    · exact .inr ⟨g, o, hA, Nat.lt_of_lt_of_le hg hb0.size, fun k h => ⟨(hb0.cell (p := ⟨g, _, none⟩) hg).trans (hcs k h).1, (hb0.cell (p := ⟨g, _, none⟩) hg).trans (hcs k h).2⟩⟩) ht hrs)
  have c0 : W0.cell? ⟨w.heap.size, 0, none⟩ = some (.int .i64 n) := by rw [Lib.cell_of_heap hbk0]; rfl
  have c1 : W0.cell? ⟨w.heap.size, 1, none⟩ = some (.string t) := by rw [Lib.cell_of_heap hbk0]; rfl
  have c2 : W0.cell? ⟨w.heap.size, 2, none⟩ = some (.slice X1 rs.length cap1) := by rw [Lib.cell_of_heap hbk0]; rfl
  have c3 : W0.cell? ⟨w.heap.size, 3, none⟩ = some v0 := by rw [Lib.cell_of_heap hbk0]; rfl
  have c4 : W0.cell? ⟨w.heap.size, 4, none⟩ = some v1 := by rw [Lib.cell_of_heap hbk0]; rfl
  have c5 : W0.cell? ⟨w.heap.size, 5, none⟩ = some v2 := by rw [Lib.cell_of_heap hbk0]; rfl
  have c6 : W0.cell? ⟨w.heap.size, 6, none⟩ = some v3 := by rw [Lib.cell_of_heap hbk0]; rfl
  have HW0 := Lib.hid hW0
  have HB0 := Lib.hid hb0
  have HBk0 := Lib.hid hbk0
  have HZ0 := Lib.hid hz0
  have HR1 := Lib.hid hr1
  have HV := Lib.hid hv
  have HL := Lib.hid hl
  clear hW0 hb0 hbk0 hz0 hr1 hv hl hrv hrs
  cases hset : settingsB n t rs
  · have HN := Lib.hid (encV_set n t rs As hset)
    rw [hset] at HSet
    clear hset
    go_enter Try.func10, Try.ntmps10
    go_wp2_with fail
    rw [HW0.out]
    go_wp2_with fail
    refine HSet.out.mono ?_
    rintro e w1 ⟨rfl, hb1⟩
    have HB1 := Lib.hid (HB0.out.trans (hb1.mono HB0.out.size))
    clear hb1
    go_wp2_with fail
    go_ret2
    exact ⟨by rw [HN.out]; rfl, HB1.out⟩
  · rw [hset] at HSet
    obtain ⟨hn1, hn2, hr3, ht4, hr5⟩ := settings_parts hset
    obtain ⟨m, rfl⟩ : ∃ m : Nat, n = m := ⟨n.toNat, by omega⟩
    have HSt := Lib.hid hset
    clear hset ht4 hr5
    go_enter Try.func10, Try.ntmps10
    go_wp2_with fail
    rw [HW0.out]
    go_wp2_with fail
    refine HSet.out.mono ?_
    rintro e w1 ⟨rfl, hb1⟩
    have HB1 := Lib.hid (HB0.out.trans (hb1.mono HB0.out.size))
    have HBk1 := Lib.hid ((hb1.block _ (by have := HZ0.out; omega)).trans HBk0.out)
    clear hb1 c0 c1 c2 c3 c4 c5 c6
    go_wp2_with fail
    obtain ⟨b, hb⟩ : ∃ b, w1.heap.size = b := ⟨_, rfl⟩
    obtain ⟨W1, hW1⟩ : ∃ W, w1.alloc (.cells #[.pointer none, .slice none 0 0] 59) = W := ⟨_, rfl⟩
    have HN1 : Hid (NSt w W1 b #[.int .i64 m, .string t, .slice X1 rs.length cap1, v0, v1, v2, v3] []) := Lib.hid (by
      rw [← hW1, ← hb]
      exact ⟨HB1.out.alloc HB1.out.size _, by rw [Below.heap_alloc _ _ _ (block_lt HBk1.out)]; exact HBk1.out, block_lt HBk1.out, fresh_isB w1⟩)
    rw [hW1, hb]
    clear hW1 hb
    refine (writeString_ty b b _ _ W1 HN1.out.isB (by show 0 + 4 ≤ _; omega) HN1.out.bsz).mono ?_
    rintro e w2 ⟨rfl, hat, hb2, hk2⟩
    have HN2 : Hid (NSt w w2 b #[.int .i64 m, .string t, .slice X1 rs.length cap1, v0, v1, v2, v3] magicS.data.toList) := Lib.hid (HN1.out.step (by have := hat.is; rw [bcells_app] at this; exact this) hb2)
    clear hat hb2 hk2
    have c0 := HN2.out.cell 0 rfl
    go_wp2_with fail
    clear c0
    refine (encNum_ty b b m _ w2 HN2.out.isB (by omega) (by show 4 ≤ _; omega) HN2.out.bsz).mono ?_
    rintro e w3 ⟨rfl, hi3, hb3, hk3⟩
    have HN3 := Lib.hid (HN2.out.step hi3 hb3)
    clear hi3 hb3 hk3
    have c1 := HN3.out.cell 1 rfl
    go_wp2_with fail
    clear c1
    have hH1 : (magicS.data.toList ++ uintB m).length ≤ 14 := by rw [List.length_append]; have := uintB_ten m (by omega); show 4 + _ ≤ _; omega
    have hF1 := (frameS_len [t])
    have hU1 := uintB_ten rs.length (by omega)
    have HF1 := Lib.hid hF1
    have HH1 := Lib.hid hH1
    have HU1 := Lib.hid hU1
    have HN4 := Lib.hid (HN3.out.alloc (.cells #[.string t] 9))
    clear hF1 hH1 hU1
    refine (encFrame_ty b b _ [t] w3.heap.size 0 1 _ HN4.out.isB (by simp) (by simp) (fun k hk => by obtain rfl : k = 0 := by simpa using hk
                                                                                                     rw [Lib.cell_of_heap (heap_alloc_new w3 _)]; rfl) (by have := HH1.out; omega) (by have := HF1.out.1; simp at this; omega) HN4.out.bsz).mono ?_
    rintro e w5 ⟨rfl, hi5, hb5, hk5⟩
    have HN5 := Lib.hid (HN4.out.step hi5 hb5)
    clear hi5 hb5 hk5
    have c2 := HN5.out.cell 2 rfl
    go_wp2_with fail
    clear c2
    refine (encNum_ty b b rs.length _ w5 HN5.out.isB (by omega) (by have := HH1.out; have := HF1.out.2; simp only [List.length_append, List.length_cons, List.length_nil] at *; omega) HN5.out.bsz).mono ?_
    rintro e w6 ⟨rfl, hi6, hb6, hk6⟩
    have HN6 := Lib.hid (HN5.out.step hi6 hb6)
    clear hi6 hb6 hk6
    have c2 := HN6.out.cell 2 rfl
    go_wp2_with fail
    clear c2
    obtain ⟨P0, hP0⟩ : ∃ P, magicS.data.toList ++ uintB m ++ (frameS [t]).1.data.toList ++ uintB rs.length = P := ⟨_, rfl⟩
    have HPl : Hid (P0.length ≤ 300) := Lib.hid (by rw [← hP0]; have := HH1.out; have := HF1.out.2; have := HU1.out; simp only [List.length_append, List.length_cons, List.length_nil] at *; omega)
    have HPe : Hid (encH m t rs = P0 ++ rs.flatMap encRep) := Lib.hid (by rw [← hP0]; rfl)
    rw [hP0] at HN6
    clear hP0 HN1 HN2 HN3 HN4 HN5 HH1 HF1 HU1
    go_loopw [8, 39] (fun _ i W => ∃ k : Nat, k ≤ rs.length ∧ i = .int .i64 k ∧ Hid (NSt w W b #[.int .i64 m, .string t, .slice X1 rs.length cap1, v0, v1, v2, v3] (P0 ++ (rs.take k).flatMap encRep))) (fun _ i _ => rs.length - (intOf i).toNat)
    case atStart => exact ⟨0, Nat.zero_le _, rfl, Lib.hid (by have := HN6.out; simpa using this)⟩
    case round =>
      obtain ⟨k, hk, rfl, HN⟩ := hrel
      by_cases hlt : k < rs.length
      · obtain ⟨g, o, hX1, hg, d0', d1'⟩ := HR1.out k hlt
        subst hX1
        have d0 := (HN.out.below.cell (p := ⟨g, o + k * 2, none⟩) hg).trans d0'
        have d1 := (HN.out.below.cell (p := ⟨g, o + k * 2 + 1, none⟩) hg).trans d1'
        have hSn := flat_snoc rs encRep k hlt
        obtain ⟨⟨f, to⟩, hy⟩ : ∃ x, rs[k] = x := ⟨_, rfl⟩
        rw [hy] at d0 d1 hSn
        dsimp only at d0 d1
        have HSn := Lib.hid hSn
        have HLt : Hid (True → k + 1 ≤ rs.length) := Lib.hid (fun _ => hlt)
        have hki : (k : Int) < (rs.length : Int) := by omega
        have HLl : Hid ((P0 ++ (rs.take k).flatMap encRep).length ≤ 140000) := Lib.hid (by
          have h1 := flat_take_len rs encRep 530 256 k (fun x _ => encRep_len x) hr3
          have h2 := HPl.out
          rw [List.length_append]; omega)
        obtain ⟨L, hL⟩ : ∃ L, P0 ++ (rs.take k).flatMap encRep = L := ⟨_, rfl⟩
        rw [hL] at HN HLl
        have HL := Lib.hid hL
        clear d0' d1' hSn hy hL hlt
        go_wp2_with fail
        refine (encFrame_ty b b L [f, to] (wr.heap.size + 1) 0 2 _ ((HN.out.alloc _).alloc _).isB (by simp) (by simp) (fun k hk => by
          have hnew := heap_alloc_new (wr.alloc (.cells #[.string f, .string to] 50)) (.cells #[.string f, .string to] 9)
          rw [show (wr.alloc (.cells #[.string f, .string to] 50)).heap.size = wr.heap.size + 1 by simp] at hnew
          rw [Lib.cell_of_heap hnew]
          rcases k with _ | _ | k
          · rfl
          · rfl
          · simp at hk; omega) (by have := HLl.out; omega) (by have := (frameS_len [f, to]).1; simp at this; omega) ((HN.out.alloc _).alloc _).bsz).mono ?_
        rintro e w8 ⟨rfl, hi8, hb8, hk8⟩
        have HN8 := Lib.hid (((HN.out.alloc _).alloc _).step hi8 hb8)
        clear hi8 hb8 hk8 d0 d1
        go_wp2_with fail
        refine ⟨⟨k + 1, HLt.out trivial, by go_num, Lib.hid (by rw [HSn.out, ← List.append_assoc, HL.out]; exact HN8.out)⟩, by have := HLt.out trivial; simp [intOf]; omega⟩
      · obtain rfl : k = rs.length := by omega
        obtain ⟨H, hH⟩ : ∃ H, encH m t rs = H := ⟨_, rfl⟩
        have HHl : Hid (H.length ≤ 137000) := Lib.hid (by rw [← hH]; exact encH_len (by omega) hr3)
        have HN7 : Hid (NSt w wr b #[.int .i64 m, .string t, .slice X1 rs.length cap1, v0, v1, v2, v3] H) := Lib.hid (by
          have := HN.out
          rw [List.take_length, ← HPe.out, hH] at this
          exact this)
        have HHe := Lib.hid hH
        have d3 := HN7.out.cell 3 rfl
        have d4 := HN7.out.cell 4 rfl
        have d5 := HN7.out.cell 5 rfl
        have d6 := HN7.out.cell 6 rfl
        clear hlt hk hH HN HPl HPe HN6
        go_wp2_with fail
        clear d3 d4 d5 d6
        go_loopw [10, 12, 13, 15, 53] (fun _ _ _ _ i W => ∃ j : Nat, j ≤ 4 ∧ i = .int .i64 j ∧ Hid (NSt w W b #[.int .i64 m, .string t, .slice X1 rs.length cap1, v0, v1, v2, v3] (H ++ (As.take j).flatMap encA)) ∧ Hid (∀ A ∈ As.take j, shapeB A = true)) (fun _ _ _ _ i _ => 4 - (intOf i).toNat)
        case atStart => exact ⟨0, by omega, rfl, Lib.hid (by have := HN7.out; simpa using this), Lib.hid (fun _ h => by simp at h)⟩
        case round =>
          clear HN7
          obtain ⟨j, hj, rfl, HN, HAl⟩ := hrel
          rename World => wo
          by_cases hlt : j < 4
          · have hjl : j < As.length := by have := HL.out; omega
            have hAj := HV.out j hjl
            have hix := fun W => index_j v0 v1 v2 v3 j hlt W
            have hSn := flat_snoc As encA j hjl
            have hTk : As.take (j + 1) = As.take j ++ [As[j]] := List.take_succ_eq_append_getElem hjl
            have hLen : (H ++ (As.take j).flatMap encA).length ≤ 11853240144 := by
              have h1 := encA_take_len HL.out j HAl.out
              have h2 := HHl.out
              rw [List.length_append]; omega
            have hbad := fun h => encV_bad (m : Int) t rs As HSt.out j hjl h
            obtain ⟨A, hA⟩ : ∃ A, As[j] = A := ⟨_, rfl⟩
            obtain ⟨L, hL⟩ : ∃ L, H ++ (As.take j).flatMap encA = L := ⟨_, rfl⟩
            rw [hA] at hAj hSn hTk hbad
            rw [hL] at hLen HN
            obtain ⟨AX, acap, hvj, hac, hA0⟩ := id hAj
            rw [hvj] at hix hAj
            have HShp := Lib.hid (Shape_any A _ wo (hAj.kept (Kept.of_below (E := []) HN.out.below) (by simp)))
            have HA0 := Lib.hid hA0
            have HSn := Lib.hid hSn
            have HTk := Lib.hid hTk
            have HLen := Lib.hid hLen
            have HBad := Lib.hid hbad
            have HLe := Lib.hid hL
            have HLt : Hid (True → j + 1 ≤ 4) := Lib.hid (fun _ => hlt)
            have hji : (j : Int) < 4 := by omega
            clear hjl hAj hA0 hSn hTk hLen hbad hA hL hvj hac hlt
            cases hsh : shapeB A
            · have hsv : shapeV A = 190 := by unfold shapeV; rw [hsh]; rfl
              rw [hsv] at HShp
              have HN190 := Lib.hid (HBad.out hsh)
              clear hsv hsh
              go_wp2_with fail
              clear hix
              refine HShp.out.mono ?_
              rintro e w9 ⟨rfl, hb9⟩
              have HB9 := Lib.hid (HN.out.call hb9).below
              clear hb9
              go_wp2_with fail
              go_ret2
              exact ⟨by rw [HN190.out]; rfl, HB9.out⟩
            · have hsv : shapeV A = 0 := by unfold shapeV; rw [hsh]; rfl
              rw [hsv] at HShp
              have HSh := Lib.hid hsh
              obtain ⟨hp1, hp2, hp3⟩ := shape_parts hsh
              have HG := Lib.hid hp3
              clear hsv hsh hp3
              go_wp2_with fail
              clear hix
              refine HShp.out.mono ?_
              rintro e w9 ⟨rfl, hb9⟩
              have HN9 := Lib.hid (HN.out.call hb9)
              clear hb9
              go_wp2_with fail
              refine (encNum_i b A.length L w9 HN9.out.isB (by omega) (by omega) (by have := HLen.out; omega)).mono ?_
              rintro e w10 ⟨rfl, hi10, hb10, hk10⟩
              have HN10 := Lib.hid (HN9.out.step hi10 hb10)
              clear hi10 hb10 hk10
              go_wp2_with fail
              obtain ⟨L1, hL1⟩ : ∃ L1, L ++ uintB A.length = L1 := ⟨_, rfl⟩
              have HN11 : Hid (NSt w w10 b #[.int .i64 m, .string t, .slice X1 rs.length cap1, v0, v1, v2, v3] L1) := Lib.hid (by rw [← hL1]; exact HN10.out)
              have HL1 := Lib.hid hL1
              have HL1l : Hid (L1.length ≤ 11853240154) := Lib.hid (by rw [← hL1, List.length_append]; have := uintB_ten A.length (by omega); have := HLen.out; omega)
              clear hL1 HN9 HN10
              go_loopw [12, 13, 15, 65] (fun _ _ _ i W => ∃ k : Nat, k ≤ A.length ∧ i = .int .i64 k ∧ Hid (NSt w W b #[.int .i64 m, .string t, .slice X1 rs.length cap1, v0, v1, v2, v3] (L1 ++ (A.take k).flatMap encS))) (fun _ _ _ i _ => A.length - (intOf i).toNat)
              case atStart => exact ⟨0, Nat.zero_le _, rfl, Lib.hid (by have := HN11.out; simpa using this)⟩
              case round =>
                clear HN11
                obtain ⟨k, hk, rfl, HNk⟩ := hrel
                rename World => wp
                by_cases hlk : k < A.length
                · obtain ⟨g, o, hAX, hg, hp, hcs⟩ := HA0.out.resolve_left (by omega)
                  subst hAX
                  obtain ⟨a0, ev, a1, hEv⟩ := hcs k hlk
                  have hGk := HG.out A[k] (List.getElem_mem hlk)
                  have hSk := flat_snoc A encS k hlk
                  have hLk : (L1 ++ (A.take k).flatMap encS).length ≤ 14816516000 := by
                    have h1 := flat_take_len A encS 2826 1048576 k (fun x hx => encS_len (HG.out x hx) hp2) hp2
                    have h2 := HL1l.out
                    rw [List.length_append]; omega
                  obtain ⟨⟨fin, es⟩, hx⟩ : ∃ x, A[k] = x := ⟨_, rfl⟩
                  rw [hx] at a0 hEv hGk hSk
                  dsimp only at a0 hEv hGk
                  have hEl := hGk.len
                  obtain ⟨EX, ecap, rfl, hec, hE1⟩ := hEv
                  have x0 := (HNk.out.below.cell (p := ⟨g, o + k * 2, none⟩) hg).trans a0
                  have x1 := (HNk.out.below.cell (p := ⟨g, o + k * 2 + 1, none⟩) hg).trans a1
                  obtain ⟨M, hM⟩ : ∃ M, L1 ++ (A.take k).flatMap encS = M := ⟨_, rfl⟩
                  rw [hM] at HNk hLk
                  have HE1 := Lib.hid hE1
                  have HSk := Lib.hid hSk
                  have HGk := Lib.hid hGk
                  have HLk := Lib.hid hLk
                  have HM := Lib.hid hM
                  have HLt3 : Hid (True → k + 1 ≤ A.length) := Lib.hid (fun _ => hlk)
                  have hEi : (es.length : Int) ≤ 256 := by omega
                  have hki : (k : Int) < (A.length : Int) := by omega
                  have HNb := Lib.hid (HNk.out.alloc (.cells #[.bool fin, .slice EX es.length ecap] 53))
                  have HKb : Hid (∀ W, KT (wp.alloc (.cells #[.bool fin, .slice EX es.length ecap] 53)) W → W.heap[wp.heap.size]? = some (.cells #[.bool fin, .slice EX es.length ecap] 53 (0, 0))) := Lib.hid (fun W hK => hK _ _ _ (heap_alloc_new wp _) (by decide) (by decide))
                  clear hx hcs hE1 hSk hGk a0 a1 hEl hec hM hLk hlk
                  cases fin
                  all_goals
                    go_wp2_with fail
                    refine (encNum_i b _ M _ HNb.out.isB (by omega) (by omega) (by have := HLk.out; omega)).mono ?_
                    rintro e w12 ⟨rfl, hi12, hb12, hk12⟩
                    have hz1 : w12.cell? ⟨wp.heap.size, 1, none⟩ = some (.slice EX es.length ecap) := by rw [Lib.cell_of_heap (HKb.out _ hk12)]; rfl
                    obtain ⟨L2, hL2, hQ2, hLe2⟩ : ∃ L2, NSt w w12 b #[.int .i64 m, .string t, .slice X1 rs.length cap1, v0, v1, v2, v3] L2 ∧ L2 ++ es.flatMap encE = M ++ encS (_, es) ∧ L2.length ≤ M.length + 10 := by
                      first
                        | exact ⟨_, HNb.out.step hi12 hb12, by rw [List.append_assoc, encS_true], by rw [List.length_append]; have := uintB_ten (2 * (es.length : Int) + 1).toNat (by omega); omega⟩
                        | exact ⟨_, HNb.out.step hi12 hb12, by rw [List.append_assoc, encS_false], by rw [List.length_append]; have := uintB_ten (2 * (es.length : Int)).toNat (by omega); omega⟩
                    have HN12 := Lib.hid hL2
                    have HQ2 := Lib.hid hQ2
                    have HLe2 := Lib.hid hLe2
                    clear hi12 hb12 hk12 x0 x1 hL2 hQ2 hLe2
                    go_wp2_with fail
                    clear hz1
                    go_loopw [15, 83] (fun _ i W => ∃ u : Nat, u ≤ es.length ∧ i = .int .i64 u ∧ Hid (NSt w W b #[.int .i64 m, .string t, .slice X1 rs.length cap1, v0, v1, v2, v3] (L2 ++ (es.take u).flatMap encE))) (fun _ i _ => es.length - (intOf i).toNat)
                    case atStart => exact ⟨0, Nat.zero_le _, rfl, Lib.hid (by have := HN12.out; simpa using this)⟩
                    case round =>
                      obtain ⟨u, hu, rfl, HNu⟩ := hrel
                      by_cases hlu : u < es.length
                      · obtain ⟨eg, eo, hEX, heg, hep, hec2⟩ := HE1.out.resolve_left (by omega)
                        subst hEX
                        obtain ⟨e0, e1⟩ := hec2 u hlu
                        have hEsn := flat_snoc es encE u hlu
                        have hGe := HGk.out.1 es[u] (List.getElem_mem hlu)
                        obtain ⟨⟨eb, et⟩, hy⟩ : ∃ x, es[u] = x := ⟨_, rfl⟩
                        rw [hy] at e0 e1 hEsn hGe
                        dsimp only at e0 e1 hGe
                        have y0 := (HNu.out.below.cell (p := ⟨eg, eo + u * 2, none⟩) heg).trans e0
                        have y1 := (HNu.out.below.cell (p := ⟨eg, eo + u * 2 + 1, none⟩) heg).trans e1
                        have HLg : Hid ((L2 ++ (es.take u).flatMap encE).length ≤ 14816519000) := Lib.hid (by
                          have h1 := flat_take_len es encE 11 256 u (encE_len HGk.out hp2) HGk.out.len
                          have h2 := HLe2.out
                          have h3 := HLk.out
                          rw [List.length_append]; omega)
                        obtain ⟨N, hN⟩ : ∃ N, L2 ++ (es.take u).flatMap encE = N := ⟨_, rfl⟩
                        rw [hN] at HNu HLg
                        have HNe := Lib.hid hN
                        have HEsn := Lib.hid hEsn
                        have HLu : Hid (True → u + 1 ≤ es.length) := Lib.hid (fun _ => hlu)
                        have hui : (u : Int) < (es.length : Int) := by omega
                        have HNv := Lib.hid (HNu.out.alloc (.cells #[.int .u8 (eb.toNat : Int), .int .i64 et] 55))
                        have HKv : Hid (∀ W, KT (wr.alloc (.cells #[.int .u8 (eb.toNat : Int), .int .i64 et] 55)) W → W.heap[wr.heap.size]? = some (.cells #[.int .u8 (eb.toNat : Int), .int .i64 et] 55 (0, 0))) := Lib.hid (fun W hK => hK _ _ _ (heap_alloc_new wr _) (by decide) (by decide))
                        clear e0 e1 hEsn hy hec2 hN hlu
                        go_wp2_with fail
                        refine (writeByte_ty b b _ _ _ HNv.out.isB (by rw [bcells_len]; have := HLg.out; omega) HNv.out.bsz).mono ?_
                        rintro e w13 ⟨rfl, hi13, hb13, hk13⟩
                        have hz1 : w13.cell? ⟨wr.heap.size, 1, none⟩ = some (.int .i64 et) := by rw [Lib.cell_of_heap (HKv.out _ hk13)]; rfl
                        have HN13 : Hid (NSt w w13 b #[.int .i64 m, .string t, .slice X1 rs.length cap1, v0, v1, v2, v3] (N ++ [eb])) := Lib.hid (HNv.out.step (by have := hi13.is; rw [bcells_snoc] at this; exact this) hb13)
                        clear hi13 hb13 hk13 y0 y1
                        go_wp2_with fail
                        clear hz1
                        refine (encNum_i b et _ _ HN13.out.isB hGe.1 (by have := hGe.2; omega) (by rw [List.length_append, List.length_singleton]; have := HLg.out; omega)).mono ?_
                        rintro e w14 ⟨rfl, hi14, hb14, hk14⟩
                        have HN14 := Lib.hid (HN13.out.step hi14 hb14)
                        clear hi14 hb14 hk14
                        go_wp2_with fail
                        refine ⟨⟨u + 1, HLu.out trivial, by go_num, Lib.hid (by rw [HEsn.out, ← List.append_assoc, HNe.out]; have := HN14.out; rw [List.append_assoc, List.singleton_append] at this; exact this)⟩, by have := HLu.out trivial; simp [intOf]; omega⟩
                      · obtain rfl : u = es.length := by omega
                        have HT2 : Hid (NSt w wr b #[.int .i64 m, .string t, .slice X1 rs.length cap1, v0, v1, v2, v3] (M ++ encS (_, es))) := Lib.hid (by rw [← HQ2.out]; have := HNu.out; rwa [List.take_length] at this)
                        clear hlu
                        go_wp2_with fail
                        refine ⟨⟨k + 1, HLt3.out trivial, by go_num, Lib.hid (by rw [HSk.out, ← List.append_assoc, HM.out]; exact HT2.out)⟩, by have := HLt3.out trivial; simp [intOf]; omega⟩
                · obtain rfl : k = A.length := by omega
                  have HT3 : Hid (NSt w wp b #[.int .i64 m, .string t, .slice X1 rs.length cap1, v0, v1, v2, v3] (L ++ encA A)) := Lib.hid (by rw [encA, ← List.append_assoc, HL1.out]; have := HNk.out; rwa [List.take_length] at this)
                  clear hlk
                  go_wp2_with fail
                  refine ⟨⟨j + 1, HLt.out trivial, by go_num, Lib.hid (by rw [HSn.out, ← List.append_assoc, HLe.out]; exact HT3.out), Lib.hid (by
                    rw [HTk.out]
                    intro B hB
                    rcases List.mem_append.1 hB with hB | hB
                    · exact HAl.out B hB
                    · obtain rfl : B = A := by simpa using hB
                      exact HSh.out)⟩, by have := HLt.out trivial; simp [intOf]; omega⟩
          · obtain rfl : j = 4 := by omega
            have HOk : Hid (encV (m : Int) t rs As = (mkS (H ++ As.flatMap encA), 0)) := Lib.hid (by
              have h4 : As.take 4 = As := List.take_of_length_le (by rw [HL.out]; omega)
              have h := HAl.out
              rw [h4] at h
              rw [encV_ok _ _ _ _ HSt.out h, encL, Int.toNat_natCast, HHe.out])
            have HN15 : Hid (NSt w wo b #[.int .i64 m, .string t, .slice X1 rs.length cap1, v0, v1, v2, v3] (H ++ As.flatMap encA)) := Lib.hid (by
              have h4 : As.take 4 = As := List.take_of_length_le (by rw [HL.out]; omega)
              have := HN.out
              rwa [h4] at this)
            clear hlt hj
            go_wp2_with fail
            refine (builderString_any b b _ wo HN15.out.isB HN15.out.bsz).mono ?_
            rintro e w16 ⟨rfl, hb16⟩
            have HB16 := Lib.hid (HN15.out.below.trans (hb16.mono (Nat.le_of_lt HN15.out.lt)))
            clear hb16
            go_wp2_with fail
            go_ret2
            exact ⟨by rw [HOk.out]; rfl, HB16.out⟩
end Go.Proofs.Ytehbjfjhalpgaaa
