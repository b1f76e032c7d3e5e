/-
  The law's walk: bytes that are taken are the bytes of the book.
-/
import Derived.Test.YtehbjfjhalpgaaaRows
import Derived.Test.YtehbjfjhalpgaaaEnc10
namespace Go.Proofs.Ytehbjfjhalpgaaa
open Go.RowKit

/-! ### A fault's number is none of 'no fault' -/
theorem numR_ne {s : ByteArray} {a c : Nat} (h : numR s a = .error c) : c ≠ 0 := by
  unfold numR at h
  split at h
  · cases h
  · rename_i h0
    injection h with h
    rw [← h]; exact h0
theorem frmR_ne {s : ByteArray} {a c : Nat} (h : frmR s a = .error c) : c ≠ 0 := by
  unfold frmR at h
  split at h
  · rename_i c' hc
    injection h with h
    rw [← h]; exact numR_ne hc
  · split at h
    · injection h with h; omega
    · split at h
      · injection h with h; omega
      · cases h
theorem manyR_ne {α : Type} {f : Nat → Except Nat (α × Nat)} (hf : ∀ a c, f a = .error c → c ≠ 0) : ∀ (k a c : Nat), manyR f k a = .error c → c ≠ 0
  | 0, a, c, h => by rw [manyR] at h; cases h
  | k + 1, a, c, h => by
    rw [manyR] at h
    split at h
    · rename_i c' hc
      injection h with h
      rw [← h]; exact hf _ _ hc
    · split at h
      · rename_i c' hc
        injection h with h
        rw [← h]; exact manyR_ne hf k _ _ hc
      · cases h
theorem edgR_ne {s : ByteArray} {n a c : Nat} (h : edgR s n a = .error c) : c ≠ 0 := by
  unfold edgR at h
  split at h
  · injection h with h; omega
  · split at h
    · rename_i c' hc
      injection h with h
      rw [← h]; exact numR_ne hc
    · split at h
      · injection h with h; omega
      · cases h
theorem staR_ne {s : ByteArray} {n a c : Nat} (h : staR s n a = .error c) : c ≠ 0 := by
  unfold staR at h
  split at h
  · rename_i c' hc
    injection h with h
    rw [← h]; exact numR_ne hc
  · split at h
    · injection h with h; omega
    · split at h
      · rename_i c' hc
        rw [edgesR_many] at hc
        injection h with h
        rw [← h]; exact manyR_ne (fun _ _ h => edgR_ne h) _ _ _ hc
      · cases h
theorem secR_ne {s : ByteArray} {a c : Nat} (h : secR s a = .error c) : c ≠ 0 := by
  unfold secR at h
  split at h
  · rename_i c' hc
    injection h with h
    rw [← h]; exact numR_ne hc
  · split at h
    · injection h with h; omega
    · split at h
      · rename_i c' hc
        rw [statesR_many] at hc
        injection h with h
        rw [← h]; exact manyR_ne (fun _ _ h => staR_ne h) _ _ _ hc
      · split at h
        · cases h
        · injection h with h; omega
theorem repR_ne {s : ByteArray} {a c : Nat} (h : repR s a = .error c) : c ≠ 0 := by
  unfold repR at h
  split at h
  · rename_i c' hc
    injection h with h
    rw [← h]; exact frmR_ne hc
  · split at h
    · rename_i c' hc
      injection h with h
      rw [← h]; exact frmR_ne hc
    · cases h
theorem decR_ne {s : ByteArray} {c : Nat} (h : decR s = .error c) : c ≠ 0 := by
  unfold decR at h
  split at h
  · unfold bookR at h
    split at h
    · rename_i c' hc
      injection h with h
      rw [← h]; exact numR_ne hc
    · split at h
      · rename_i c' hc
        injection h with h
        rw [← h]; exact frmR_ne hc
      · unfold repsR at h
        split at h
        · rename_i c' hc
          injection h with h
          rw [← h]; exact numR_ne hc
        · split at h
          · injection h with h; omega
          · split at h
            · rename_i c' hc
              injection h with h
              rw [← h]; exact manyR_ne (fun _ _ h => repR_ne h) _ _ _ hc
            · unfold secsR at h
              split at h
              · injection h with h; omega
              · split at h
                · rename_i c' hc
                  injection h with h
                  rw [← h]; exact manyR_ne (fun _ _ h => secR_ne h) _ _ _ hc
                · unfold endR at h
                  split at h
                  · cases h
                  · injection h with h; omega
  · injection h with h; omega

/-- Decode that ends in a fault. -/
theorem Decode_bad (s : ByteArray) (c : Nat) (w : World) (h : decR s = .error c) (hz : s.size ≤ 562949953421311) :
    Calls Try.prog 15 #[.string s] w fun e w' => e = .returned (.tuple #[.agg #[.int .i64 0, .string ⟨#[]⟩, .slice none 0 0, .slice none 0 0, .slice none 0 0, .slice none 0 0, .slice none 0 0], .int .i64 (c : Int)]) ∧ Below w.heap.size w w' := by
  have hd := Decode_any s w hz
  rw [h] at hd
  exact hd

set_option maxHeartbeats 8000000 in
set_option maxRecDepth 100000 in
theorem form_walk (s : ByteArray) (w : World) (hs : s.size ≤ 140737488355327) :
    Calls Try.prog 6 #[.string s] w fun e w' => e = .returned (.bool true) ∧ Below w.heap.size w w' := by
  cases hd : decR s with
  | error c =>
    have hc0 := decR_ne hd
    have HD := Lib.hid (fun W => Decode_bad s c W hd (by omega))
    have hcn : ((c : Int) != 0) = true := by simp; omega
    have hcn2 : ((c : Int) == 0) = false := by simp; omega
    clear hd hc0
    go_enter Try.func6, Try.ntmps6
    go_wp2_with fail
    refine (wakes_any w).mono ?_
    rintro e w1 ⟨rfl, hb1⟩
    have HB1 := Lib.hid hb1
    clear hb1
    go_wp2_with fail
    refine (HD.out w1).mono ?_
    rintro e w2 ⟨rfl, hb2⟩
    have HB2 := Lib.hid (HB1.out.trans (hb2.mono HB1.out.size))
    clear hb2
    go_wp2_with fail
    refine (ref_b 0 ⟨#[]⟩ [] [[], [], [], []] _ _ _ _ _ _ (zero_at _) ⟨Nat.zero_le _, fun A hA => ?_⟩).mono ?_
    · have : A = [] := by simpa using hA
      subst this
      exact ⟨Nat.zero_le _, fun x hx => by cases hx⟩
    rintro e w3 ⟨ur, u0, u1, u2, u3, rfl, hb3, hk3⟩
    have HB3 := Lib.hid ((HB2.out.alloc HB2.out.size _).trans (hb3.mono (HB2.out.alloc HB2.out.size _).size))
    have HK3 := Lib.hid hk3
    clear hb3 hk3
    go_wp2_with fail
    refine (alike_b 0 ⟨#[]⟩ [] [[], [], [], []] _ _ _ _ _ _ _ _ _ _ _ HK3.out (zero_at _) ⟨Nat.zero_le _, fun A hA => ?_⟩).mono ?_
    · have : A = [] := by simpa using hA
      subst this
      exact ⟨Nat.zero_le _, fun x hx => by cases hx⟩
    rintro e w4 ⟨rfl, hb4⟩
    have HB4 := Lib.hid (HB3.out.trans (hb4.mono HB3.out.size))
    clear hb4
    go_wp2_with fail
    go_ret
    exact ⟨rfl, HB4.out⟩
  | ok b =>
    obtain ⟨hok, hbs⟩ := decR_dec hd
    obtain ⟨m, t, rs, As⟩ := b
    have hV : encV (m : Int) t rs As = (s, 0) := by
      rw [encV_ok _ _ _ _ hok.set hok.shape, Int.toNat_natCast]
      have : mkS (encL m t rs As) = s := by
        have h1 : encL m t rs As = s.data.toList := hbs.symm
        rw [h1]; rfl
      rw [this]
    have htx : Texts t rs := ⟨Nat.le_trans hok.tryz (by omega), fun k hk => by have := hok.reps255 _ (List.getElem_mem hk); omega⟩
    have hE := fun vr v0 v1 v2 v3 W h => Encode_b (m : Int) t rs As vr v0 v1 v2 v3 W h htx
    rw [hV] at hE
    have HE := Lib.hid hE
    have HD := Lib.hid (fun W => Decode_bk m t rs As s W hok hbs (by omega))
    have HOk := Lib.hid hok
    clear hd hbs hok hV htx hE
    go_enter Try.func6, Try.ntmps6
    go_wp2_with fail
    refine (wakes_any w).mono ?_
    rintro e w1 ⟨rfl, hb1⟩
    have HB1 := Lib.hid hb1
    clear hb1
    go_wp2_with fail
    refine (HD.out w1).mono ?_
    rintro e w2 ⟨vr, v0, v1, v2, v3, rfl, hb2, hk2⟩
    obtain ⟨X, k, X0, n0, k0, X1, n1, k1, X2, n2, k2, X3, n3, k3, rfl, rfl, rfl, rfl, rfl⟩ := hk2.form
    have hB2 := HB1.out.trans (hb2.mono HB1.out.size)
    obtain ⟨b3, hb3⟩ : ∃ b, w2.heap.size = b := ⟨_, rfl⟩
    obtain ⟨W2, hW2⟩ : ∃ W, w2.alloc (.cells #[.int .i64 (m : Int), .string t, .slice X rs.length k, .slice X0 n0 k0, .slice X1 n1 k1, .slice X2 n2 k2, .slice X3 n3 k3] 26) = W := ⟨_, rfl⟩
    have hz2 : W2.heap[b3]? = some (.cells #[.int .i64 (m : Int), .string t, .slice X rs.length k, .slice X0 n0 k0, .slice X1 n1 k1, .slice X2 n2 k2, .slice X3 n3 k3] 26 (0, 0)) := by rw [← hW2, ← hb3]; exact heap_alloc_new w2 _
    have hb22 : Below w2.heap.size w2 W2 := by rw [← hW2]; exact (Below.refl _ _).alloc (Nat.le_refl _) _
    have HBW : Hid (Below w.heap.size w W2) := Lib.hid (hB2.trans (hb22.mono hB2.size))
    have HK : Hid (∀ W', Below W2.heap.size W2 W' → BkAt W' (fun _ => True) (.slice X rs.length k) (.slice X0 n0 k0) (.slice X1 n1 k1) (.slice X2 n2 k2) (.slice X3 n3 k3) rs As) := Lib.hid (fun W' hB => (hk2.keep hb22).keep hB)
    have HC : Hid (∀ W', Below W2.heap.size W2 W' → W'.heap[b3]? = some (.cells #[.int .i64 (m : Int), .string t, .slice X rs.length k, .slice X0 n0 k0, .slice X1 n1 k1, .slice X2 n2 k2, .slice X3 n3 k3] 26 (0, 0))) := Lib.hid (fun W' hB => (hB.block _ (block_lt hz2)).trans hz2)
    have HW2 := Lib.hid hW2
    have HB3 := Lib.hid hb3
    clear hb2 hk2 hB2 hb3 hW2 hz2 hb22
    go_wp2_with fail
    rw [HW2.out, HB3.out]
    have cc := two_boxes (HC.out W2 (Below.refl _ _)) (HC.out W2 (Below.refl _ _))
    go_wp2_with fail
    clear cc
    go_loopw [6, 23] (fun _ i W => ∃ j : Nat, j ≤ 4 ∧ i = .int .i64 j ∧ Hid (Below W2.heap.size W2 W)) (fun _ i _ => 4 - (intOf i).toNat)
    case atStart => exact ⟨0, by omega, rfl, Lib.hid (Below.refl _ _)⟩
    case round =>
      obtain ⟨j, hj, rfl, HB⟩ := hrel
      by_cases hlt : j < 4
      · have hjl : j < As.length := by have := HOk.out.len; dsimp only at this; omega
        have hix := fun W => index_j (.slice X0 n0 k0) (.slice X1 n1 k1) (.slice X2 n2 k2) (.slice X3 n3 k3) j hlt W
        have hAj := (HK.out wr HB.out).secs j hjl
        have hsh := HOk.out.shape _ (List.getElem_mem hjl)
        obtain ⟨AX, acap, hvj, -⟩ := id hAj
        rw [hvj] at hix hAj
        have hSh := Shape_any As[j] _ wr hAj
        rw [show shapeV As[j] = 0 by unfold shapeV; rw [hsh]; rfl] at hSh
        obtain ⟨nj, hnj⟩ : ∃ n, As[j].length = n := ⟨_, rfl⟩
        rw [hnj] at hSh hix
        have HSh := Lib.hid hSh
        have HLt : Hid (True → j + 1 ≤ 4) := Lib.hid (fun _ => hlt)
        have hji : (j : Int) < 4 := by omega
        clear hjl hAj hsh hSh hvj hnj hlt
        go_wp2_with fail
        clear hix
        refine HSh.out.mono ?_
        rintro e w9 ⟨rfl, hb9⟩
        have HB9 := Lib.hid (HB.out.trans (hb9.mono HB.out.size))
        clear hb9
        go_wp2_with fail
        refine ⟨⟨j + 1, HLt.out trivial, by go_num, HB9⟩, by have := HLt.out trivial; simp [intOf]; omega⟩
      · obtain rfl : j = 4 := by omega
        have cc := two_boxes (HC.out wr HB.out) (HC.out wr HB.out)
        go_wp2_with fail
        clear cc
        refine (HE.out _ _ _ _ _ wr (HK.out wr HB.out)).mono ?_
        rintro e w10 ⟨rfl, hb10⟩
        have HB10 := Lib.hid (HB.out.trans (hb10.mono HB.out.size))
        clear hb10
        go_wp2_with fail
        go_ret
        exact ⟨rfl, HBW.out.trans (HB10.out.mono HBW.out.size)⟩
end Go.Proofs.Ytehbjfjhalpgaaa
