/-
  Bytes and books: what is read are the bytes of what is answered; the bytes of a book are read back. No program in sight.
-/
import Derived.Test.YtehbjfjhalpgaaaRows
import Derived.Test.YtehbjfjhalpgaaaIH
import Derived.Test.YtehbjfjhalpgaaaIF
import Derived.Test.YtehbjfjhalpgaaaII
namespace Go.Proofs.Ytehbjfjhalpgaaa
open Go.RowKit

/-! ### Numbers -/
theorem byteAt_drop (L : List UInt8) (i : Nat) (h : i < L.length) : L.drop i = byteAt L i :: L.drop (i + 1) := by
  rw [List.drop_eq_getElem_cons h]
  unfold byteAt
  simp [List.getD, List.getElem?_eq_getElem h]
theorem byteAt_cons (L : List UInt8) (i : Nat) (b : UInt8) (r : List UInt8) (h : L.drop i = b :: r) : i < L.length ∧ byteAt L i = b ∧ L.drop (i + 1) = r := by
  have hi : i < L.length := by
    rcases Nat.lt_or_ge i L.length with h' | h'
    · exact h'
    · rw [List.drop_of_length_le h'] at h; cases h
  rw [byteAt_drop L i hi] at h
  injection h with h1 h2
  exact ⟨hi, h1, h2⟩
theorem uintB_ne (n : Nat) : uintB n ≠ [] := by
  by_cases h : n < 128
  · rw [uintB_small n h]; simp
  · rw [uintB_more n h]; simp
theorem rdGo_dec (L : List UInt8) (a : Nat) : ∀ (f i acc n p : Nat), f + i = 10 → rdGo L a f i acc = (n, p, 0) → ∃ m, n = acc + m * 2 ^ (7 * i) ∧ (0 < i → m ≠ 0) ∧ L.drop (a + i) = uintB m ++ L.drop p
  | 0, i, acc, n, p, _, h => by rw [rdGo] at h; injection h with _ h; injection h with _ h; cases h
  | f + 1, i, acc, n, p, hf, h => by
    rw [rdGo] at h
    split at h
    · injection h with _ h; injection h with _ h; cases h
    · rename_i h1
      split at h
      · rename_i h2
        obtain ⟨m, hn, hm, hd⟩ := rdGo_dec L a f (i + 1) _ n p (by omega) h
        have hb := (byteAt L (a + i)).toNat_lt
        have hm0 := hm (by omega)
        refine ⟨(byteAt L (a + i)).toNat % 128 + m * 128, ?_, fun _ => by omega, ?_⟩
        · rw [hn, pow7, Nat.add_mul, Nat.mul_assoc m 128, Nat.add_assoc]
        · rw [uintB_more _ (by omega), byteAt_drop L (a + i) (by omega), List.cons_append]
          congr 1
          · rw [show (byteAt L (a + i)).toNat % 128 + m * 128 = m * 128 + (byteAt L (a + i)).toNat % 128 by omega]
            rw [show (m * 128 + (byteAt L (a + i)).toNat % 128) % 128 + 128 = (byteAt L (a + i)).toNat by omega]
            exact (UInt8.ofNat_toNat).symm
          · rw [show ((byteAt L (a + i)).toNat % 128 + m * 128) / 128 = m by omega]
            exact hd
      · rename_i h2
        split at h
        · injection h with _ h; injection h with _ h; cases h
        · rename_i h3
          injection h with e1 h
          injection h with e2 _
          refine ⟨(byteAt L (a + i)).toNat, ?_, fun h0 h00 => h3 (.inr ⟨h0, h00⟩), ?_⟩
          · rw [← e1, Nat.mod_eq_of_lt (by omega)]
          · rw [uintB_small _ (by omega), ← e2, byteAt_drop L (a + i) (by omega), UInt8.ofNat_toNat]
            rfl
theorem rdGo_enc (L : List UInt8) (a : Nat) : ∀ (f i acc m : Nat) (r : List UInt8), f + i = 10 → (0 < i → m ≠ 0) → acc + m * 2 ^ (7 * i) < 18446744073709551616 → L.drop (a + i) = uintB m ++ r →
    rdGo L a f i acc = (acc + m * 2 ^ (7 * i), a + i + (uintB m).length, 0)
  | 0, i, acc, m, r, hf, h0, hn, hd => by
    have hm := h0 (by omega)
    obtain rfl : i = 10 := by omega
    have : 1 * 2 ^ (7 * 10) ≤ m * 2 ^ (7 * 10) := Nat.mul_le_mul_right _ (by omega)
    omega
  | f + 1, i, acc, m, r, hf, h0, hn, hd => by
    by_cases hm : m < 128
    · rw [uintB_small m hm] at hd ⊢
      obtain ⟨h1, h2, _⟩ := byteAt_cons L (a + i) _ _ hd
      have hb : (byteAt L (a + i)).toNat = m := by rw [h2, UInt8.toNat_ofNat']; omega
      rw [rdGo, if_neg (by omega), if_neg (by omega), if_neg (by
        rintro (⟨h9, h9'⟩ | ⟨hi, h9'⟩)
        · rw [hb] at h9'
          subst h9
          have : 2 * 2 ^ (7 * 9) ≤ m * 2 ^ (7 * 9) := Nat.mul_le_mul_right _ (by omega)
          omega
        · exact h0 hi (by omega)), hb, Nat.mod_eq_of_lt hm]
      rfl
    · rw [uintB_more m hm] at hd
      rw [List.cons_append] at hd
      obtain ⟨h1, h2, h3⟩ := byteAt_cons L (a + i) _ _ hd
      have hb : (byteAt L (a + i)).toNat = m % 128 + 128 := by rw [h2, UInt8.toNat_ofNat']; omega
      have he : acc + (m % 128 + 128) % 128 * 2 ^ (7 * i) + m / 128 * 2 ^ (7 * (i + 1)) = acc + m * 2 ^ (7 * i) := by
        rw [pow7, ← Nat.mul_assoc, Nat.add_assoc, ← Nat.add_mul]
        congr 2
        omega
      rw [rdGo, if_neg (by omega), if_pos (by omega), hb, rdGo_enc L a f (i + 1) _ (m / 128) r (by omega) (fun _ => by omega) (by rw [he]; exact hn) (by rw [← Nat.add_assoc]; exact h3), he, uintB_more m hm, List.length_cons]
      congr 2
      omega
theorem numR_dec {s : ByteArray} {a n p : Nat} (h : numR s a = .ok (n, p)) : s.data.toList.drop a = uintB n ++ s.data.toList.drop p := by
  unfold numR at h
  split at h
  · rename_i h0
    injection h with h
    injection h with h1 h2
    unfold rdU at h0 h1 h2
    split at h0
    · cases h0
    · rename_i hl
      rw [if_neg hl] at h1 h2
      obtain ⟨m, hn, _, hd⟩ := rdGo_dec s.data.toList a 10 0 0 n p rfl (Prod.ext h1 (Prod.ext h2 h0))
      have : n = m := by rw [hn]; simp
      rw [this]
      exact hd
  · cases h
theorem numR_enc {s : ByteArray} {a n : Nat} {r : List UInt8} (hn : n < 18446744073709551616) (h : s.data.toList.drop a = uintB n ++ r) : numR s a = .ok (n, a + (uintB n).length) := by
  have hl : ¬ s.data.toList.length ≤ a := fun hl => by
    rw [List.drop_of_length_le hl] at h
    have := congrArg List.length h
    rw [List.length_append] at this
    have h2 : (uintB n).length ≠ 0 := fun e => uintB_ne n (List.eq_nil_of_length_eq_zero e)
    simp only [List.length_nil] at this
    omega
  have := rdGo_enc s.data.toList a 10 0 0 n r rfl (fun h => by omega) (by simpa using hn) h
  unfold numR rdU
  rw [if_neg hl, this]
  simp
/-! ### Frames -/
theorem drop_more {L : List UInt8} {a : Nat} {l r : List UInt8} (h : L.drop a = l ++ r) : L.drop (a + l.length) = r := by
  rw [← List.drop_drop, h, List.drop_left]
theorem frameS_one (t : ByteArray) (h : t.size ≤ 255) : (frameS [t]).1.data.toList = uintB t.size ++ t.data.toList := by
  unfold frameS
  rw [if_pos (by unfold fitsL; simp [h])]
  simp [mkS_data, frameL]
theorem frameS_two (f t : ByteArray) (h : f.size ≤ 255) (h2 : t.size ≤ 255) : (frameS [f, t]).1.data.toList = (uintB f.size ++ f.data.toList) ++ (uintB t.size ++ t.data.toList) := by
  unfold frameS
  rw [if_pos (by unfold fitsL; simp [h, h2])]
  simp [mkS_data, frameL]
def frmB (t : ByteArray) : List UInt8 := uintB t.size ++ t.data.toList
theorem frmR_dec {s t : ByteArray} {a p : Nat} (h : frmR s a = .ok (t, p)) : t.size ≤ 255 ∧ s.data.toList.drop a = frmB t ++ s.data.toList.drop p := by
  have hz := frmR_size h
  refine ⟨hz, ?_⟩
  unfold frmR at h
  split at h
  · cases h
  · rename_i n q hn
    split at h
    · cases h
    · split at h
      · cases h
      · rename_i h1 h2
        injection h with h
        injection h with e1 e2
        have hd := numR_dec hn
        have hq := numR_le hn
        rw [extract_mkS] at e1
        have hts : t.size = n := by
          rw [← e1, mkS_size, List.length_take, List.length_drop, len_toList]; omega
        have htd : t.data.toList = (s.data.toList.drop q).take n := by rw [← e1, mkS_data]; congr 1; omega
        unfold frmB
        rw [hts, htd, hd, ← e2, ← List.drop_drop, List.append_assoc, List.take_append_drop]
theorem frmR_enc {s t : ByteArray} {a : Nat} {r : List UInt8} (ht : t.size ≤ 255) (h : s.data.toList.drop a = frmB t ++ r) : frmR s a = .ok (t, a + (frmB t).length) := by
  unfold frmB at h
  rw [List.append_assoc] at h
  have hn := numR_enc (n := t.size) (by omega) h
  have hd := drop_more h
  unfold frmR
  rw [hn]
  simp only
  have hlen : s.size = a + (uintB t.size).length + t.size + r.length := by
    have hne : (uintB t.size).length ≠ 0 := fun e => uintB_ne _ (List.eq_nil_of_length_eq_zero e)
    have := congrArg List.length h
    rw [List.length_drop, List.length_append, List.length_append, len_toList, len_toList] at this
    omega
  rw [if_neg (by omega), if_neg (by omega)]
  unfold frmB
  rw [List.length_append, len_toList, ← Nat.add_assoc, extract_mkS, hd]
  congr 2
  rw [show a + (uintB t.size).length + t.size - (a + (uintB t.size).length) = t.data.toList.length by rw [len_toList]; omega, List.take_left]
  rfl

/-! ### Many -/
theorem manyR_dec {α : Type} {s : ByteArray} {f : Nat → Except Nat (α × Nat)} {enc : α → List UInt8} {P : α → Prop} (hf : ∀ a x q, f a = .ok (x, q) → P x ∧ s.data.toList.drop a = enc x ++ s.data.toList.drop q) :
    ∀ (k a : Nat) (xs : List α) (q : Nat), manyR f k a = .ok (xs, q) → xs.length = k ∧ (∀ x ∈ xs, P x) ∧ s.data.toList.drop a = xs.flatMap enc ++ s.data.toList.drop q
  | 0, a, xs, q, h => by
    rw [manyR] at h
    injection h with h
    injection h with h1 h2
    subst h1 h2
    exact ⟨rfl, (fun _ h => by cases h), by simp⟩
  | k + 1, a, xs, q, h => by
    rw [manyR] at h
    split at h
    · cases h
    · rename_i x p hx
      split at h
      · cases h
      · rename_i ys q' hys
        injection h with h
        injection h with h1 h2
        subst h1 h2
        obtain ⟨hP, hd⟩ := hf _ _ _ hx
        obtain ⟨i1, i2, i3⟩ := manyR_dec hf k p ys q' hys
        refine ⟨by rw [List.length_cons, i1], fun y hy => ?_, by rw [hd, i3, List.flatMap_cons, List.append_assoc]⟩
        rcases List.mem_cons.1 hy with rfl | hy
        · exact hP
        · exact i2 y hy
theorem manyR_enc {α : Type} {s : ByteArray} {f : Nat → Except Nat (α × Nat)} {enc : α → List UInt8} {P : α → Prop} (hf : ∀ a x r, P x → s.data.toList.drop a = enc x ++ r → f a = .ok (x, a + (enc x).length)) :
    ∀ (xs : List α) (a : Nat) (r : List UInt8), (∀ x ∈ xs, P x) → s.data.toList.drop a = xs.flatMap enc ++ r → manyR f xs.length a = .ok (xs, a + (xs.flatMap enc).length)
  | [], a, r, _, h => by simp [manyR]
  | x :: xs, a, r, hP, h => by
    rw [List.flatMap_cons, List.append_assoc] at h
    have h1 := hf a x _ (hP x (by simp)) h
    have h2 := manyR_enc hf xs _ r (fun y hy => hP y (by simp [hy])) (drop_more h)
    rw [List.length_cons, manyR, h1]
    simp only
    rw [h2]
    simp only
    rw [List.flatMap_cons, List.length_append, Nat.add_assoc]
theorem edgesR_many (s : ByteArray) (n : Nat) : ∀ k a, edgesR s n k a = manyR (edgR s n) k a
  | 0, a => rfl
  | k + 1, a => by
    rw [edgesR, manyR]
    cases edgR s n a with
    | error c => rfl
    | ok r =>
      obtain ⟨e, q⟩ := r
      simp only
      rw [edgesR_many s n k q]
      cases manyR (edgR s n) k q <;> rfl
theorem statesR_many (s : ByteArray) (n : Nat) : ∀ k a, statesR s n k a = manyR (staR s n) k a
  | 0, a => rfl
  | k + 1, a => by
    rw [statesR, manyR]
    cases staR s n a with
    | error c => rfl
    | ok r =>
      obtain ⟨e, q⟩ := r
      simp only
      rw [statesR_many s n k q]
      cases manyR (staR s n) k q <;> rfl
/-! ### Sections -/
theorem edgR_dec {s : ByteArray} {n a q : Nat} {e : Ed} (h : edgR s n a = .ok (e, q)) : (0 ≤ e.2 ∧ e.2 < n) ∧ s.data.toList.drop a = encE e ++ s.data.toList.drop q := by
  unfold edgR at h
  split at h
  · cases h
  · rename_i hs
    split at h
    · cases h
    · rename_i t p ht
      split at h
      · cases h
      · rename_i hn
        injection h with h
        injection h with h1 h2
        subst h1 h2
        have hd := numR_dec ht
        refine ⟨⟨by simp, by simp; omega⟩, ?_⟩
        rw [byteAt_drop _ _ (by rw [len_toList]; omega), hd]
        simp [encE]
theorem edgR_enc {s : ByteArray} {n a : Nat} {e : Ed} {r : List UInt8} (hn : n ≤ 1048576) (he : 0 ≤ e.2 ∧ e.2 < (n : Int)) (h : s.data.toList.drop a = encE e ++ r) : edgR s n a = .ok (e, a + (encE e).length) := by
  unfold encE at h
  rw [List.cons_append] at h
  obtain ⟨h1, h2, h3⟩ := byteAt_cons _ _ _ _ h
  rw [len_toList] at h1
  have hr := numR_enc (s := s) (n := e.2.toNat) (by omega) h3
  unfold edgR
  rw [if_neg (by omega), hr]
  simp only
  rw [if_neg (by omega), h2]
  congr 2
  · rw [show ((e.2.toNat : Nat) : Int) = e.2 by omega]
  · unfold encE; rw [List.length_cons]; omega
theorem staR_dec {s : ByteArray} {n a q : Nat} {x : St} (h : staR s n a = .ok (x, q)) : True ∧ s.data.toList.drop a = encS x ++ s.data.toList.drop q := by
  refine ⟨trivial, ?_⟩
  unfold staR at h
  split at h
  · cases h
  · rename_i v p hv
    split at h
    · cases h
    · split at h
      · cases h
      · rename_i es p' hes
        injection h with h
        injection h with h1 h2
        subst h1 h2
        rw [edgesR_many] at hes
        obtain ⟨i1, _, i3⟩ := manyR_dec (P := fun e => 0 ≤ e.2 ∧ e.2 < (n : Int)) (enc := encE) (fun a x q h => edgR_dec h) _ _ _ _ hes
        have hd := numR_dec hv
        have hst : stN (decide (v % 2 = 1), es) = v := by
          unfold stN
          by_cases h2 : v % 2 = 1
          · simp [h2]; omega
          · simp [h2]; omega
        unfold encS
        rw [hst, hd, i3, List.append_assoc]
theorem staR_enc {s : ByteArray} {n a : Nat} {x : St} {r : List UInt8} (hn : n ≤ 1048576) (hx : GoodE n x.2) (h : s.data.toList.drop a = encS x ++ r) : staR s n a = .ok (x, a + (encS x).length) := by
  obtain ⟨fin, es⟩ := x
  have hl := hx.len
  dsimp only at hl hx
  unfold encS at h
  dsimp only at h
  rw [List.append_assoc] at h
  have hle := stN_le (x := (fin, es)) hl
  have hr := numR_enc (s := s) (n := stN (fin, es)) (by omega) h
  have hm := manyR_enc (f := edgR s n) (P := fun e : Ed => 0 ≤ e.2 ∧ e.2 < (n : Int)) (enc := encE) (fun a e r he h => edgR_enc hn he h) es _ r hx.1 (drop_more h)
  have hdiv : stN (fin, es) / 2 = es.length := by unfold stN; cases fin <;> simp <;> omega
  have hmod : decide (stN (fin, es) % 2 = 1) = fin := by unfold stN; cases fin <;> simp <;> omega
  unfold staR
  rw [hr]
  simp only
  rw [if_neg (by omega), hdiv, edgesR_many, hm]
  simp only
  rw [hmod]
  congr 2
  unfold encS
  rw [List.length_append, Nat.add_assoc]
theorem secR_dec {s : ByteArray} {a q : Nat} {A : List St} (h : secR s a = .ok (A, q)) : shapeB A = true ∧ s.data.toList.drop a = encA A ++ s.data.toList.drop q := by
  unfold secR at h
  split at h
  · cases h
  · rename_i n p hn
    split at h
    · cases h
    · split at h
      · cases h
      · rename_i B p' hB
        split at h
        · rename_i hs
          injection h with h
          injection h with h1 h2
          subst h1 h2
          rw [statesR_many] at hB
          obtain ⟨i1, _, i3⟩ := manyR_dec (P := fun _ => True) (enc := encS) (fun a x q h => staR_dec h) _ _ _ _ hB
          refine ⟨hs, ?_⟩
          unfold encA
          rw [i1, numR_dec hn, i3, List.append_assoc]
        · cases h
theorem secR_enc {s : ByteArray} {a : Nat} {A : List St} {r : List UInt8} (hA : shapeB A = true) (h : s.data.toList.drop a = encA A ++ r) : secR s a = .ok (A, a + (encA A).length) := by
  obtain ⟨h1, h2, h3⟩ := shape_parts hA
  unfold encA at h
  rw [List.append_assoc] at h
  have hr := numR_enc (s := s) (n := A.length) (by omega) h
  have hm := manyR_enc (f := staR s A.length) (P := fun x : St => GoodE A.length x.2) (enc := encS) (fun a e r he h => staR_enc h2 he h) A _ r h3 (drop_more h)
  unfold secR
  rw [hr]
  simp only
  rw [if_neg (by omega), statesR_many, hm]
  simp only
  rw [if_pos hA]
  congr 2
  unfold encA
  rw [List.length_append, Nat.add_assoc]
def repB (r : Rp) : List UInt8 := frmB r.1 ++ frmB r.2
theorem repR_dec {s : ByteArray} {a q : Nat} {r : Rp} (h : repR s a = .ok (r, q)) : (r.1.size ≤ 255 ∧ r.2.size ≤ 255) ∧ s.data.toList.drop a = repB r ++ s.data.toList.drop q := by
  unfold repR at h
  split at h
  · cases h
  · rename_i f p hf
    split at h
    · cases h
    · rename_i t p' ht
      injection h with h
      injection h with h1 h2
      subst h1 h2
      obtain ⟨z1, d1⟩ := frmR_dec hf
      obtain ⟨z2, d2⟩ := frmR_dec ht
      exact ⟨⟨z1, z2⟩, by unfold repB; rw [d1, d2, List.append_assoc]⟩
theorem repR_enc {s : ByteArray} {a : Nat} {x : Rp} {r : List UInt8} (hx : x.1.size ≤ 255 ∧ x.2.size ≤ 255) (h : s.data.toList.drop a = repB x ++ r) : repR s a = .ok (x, a + (repB x).length) := by
  unfold repB at h
  rw [List.append_assoc] at h
  have h1 := frmR_enc hx.1 h
  have h2 := frmR_enc hx.2 (drop_more h)
  unfold repR
  rw [h1]
  simp only
  rw [h2]
  simp only
  unfold repB
  rw [List.length_append, Nat.add_assoc]
theorem encRep_eq (r : Rp) (h : r.1.size ≤ 255 ∧ r.2.size ≤ 255) : encRep r = repB r := by
  unfold encRep repB frmB
  exact frameS_two _ _ h.1 h.2
theorem flat_rep (rs : List Rp) (h : ∀ r ∈ rs, r.1.size ≤ 255 ∧ r.2.size ≤ 255) : rs.flatMap encRep = rs.flatMap repB := by
  induction rs with
  | nil => rfl
  | cons r rs ih => rw [List.flatMap_cons, List.flatMap_cons, ih (fun x hx => h x (by simp [hx])), encRep_eq r (h r (by simp))]

/-! ### Books -/
/-- What a book that is written holds. -/
structure BkOk (b : Bk) : Prop where
  set : settingsB (b.least : Int) b.tryT b.reps = true
  len : b.secs.length = 4
  shape : ∀ A ∈ b.secs, shapeB A = true
  tryz : b.tryT.size ≤ 255
def bkL (b : Bk) : List UInt8 := encL b.least b.tryT b.reps b.secs
theorem BkOk.reps255 {b : Bk} (h : BkOk b) : ∀ r ∈ b.reps, r.1.size ≤ 255 ∧ r.2.size ≤ 255 := fun r hr => by
  obtain ⟨_, _, _, _, h5⟩ := settings_parts h.set
  have := repOk_parts (h5 r hr)
  omega
theorem decR_dec {s : ByteArray} {b : Bk} (h : decR s = .ok b) : BkOk b ∧ s.data.toList = bkL b := by
  obtain ⟨b1, b2, b3, b4⟩ := decR_bounds h
  unfold decR at h
  split at h
  · rename_i hpre
    unfold bookR at h
    split at h
    · cases h
    · rename_i l q hl
      split at h
      · cases h
      · rename_i t p ht
        unfold repsR at h
        split at h
        · cases h
        · rename_i n q2 hn
          split at h
          · cases h
          · split at h
            · cases h
            · rename_i rs p2 hrs
              unfold secsR at h
              split at h
              · cases h
              · rename_i hset
                split at h
                · cases h
                · rename_i As p3 hAs
                  unfold endR at h
                  split at h
                  · rename_i hend
                    injection h with h
                    subst h
                    have hset' : settingsB (leastV l : Int) t rs = true := by simpa using hset
                    obtain ⟨s1, s2, _, _, _⟩ := settings_parts hset'
                    have hlv : leastV l = l := by
                      by_cases h64 : l ≤ 64
                      · exact leastV_le h64
                      · rw [leastV_gt h64] at s1; omega
                    obtain ⟨tz, td⟩ := frmR_dec ht
                    have hbok : BkOk ⟨leastV l, t, rs, As⟩ := ⟨hset', b3, fun A hA => (b4 A hA).1, tz⟩
                    refine ⟨hbok, ?_⟩
                    obtain ⟨i1, i2, i3⟩ := manyR_dec (P := fun r : Rp => r.1.size ≤ 255 ∧ r.2.size ≤ 255) (enc := repB) (fun a x q h => repR_dec h) _ _ _ _ hrs
                    obtain ⟨j1, _, j3⟩ := manyR_dec (P := fun A => shapeB A = true) (enc := encA) (fun a x q h => secR_dec h) _ _ _ _ hAs
                    have hp4 : s.data.toList = magicS.data.toList ++ s.data.toList.drop 4 := by
                      have := hasPrefix_yes s hpre
                      have h4 : (s.extract 0 4).data.toList = s.data.toList.take 4 := by rw [extract_mkS, mkS_data]; simp
                      rw [this] at h4
                      rw [h4, List.take_append_drop]
                    have hz : s.data.toList.drop p3 = [] := List.drop_of_length_le (by rw [len_toList]; omega)
                    rw [hp4, numR_dec hl, td, numR_dec hn, i3, j3, hz]
                    unfold bkL encL encH
                    simp only [hlv]
                    rw [flat_rep rs i2, frameS_one t tz, i1]
                    simp only [List.append_assoc, List.append_nil, frmB]
                  · cases h
  · cases h
theorem decR_enc {s : ByteArray} {b : Bk} {r : List UInt8} (hb : BkOk b) (h : s.data.toList = bkL b ++ r) : decR s = if r = [] then .ok b else .error 202 := by
  obtain ⟨l, t, rs, As⟩ := b
  have hset := hb.set
  have hlen := hb.len
  have hsh := hb.shape
  have htz := hb.tryz
  have hr := hb.reps255
  dsimp only at hset hlen hsh htz hr
  obtain ⟨s1, s2, s3, _, _⟩ := settings_parts hset
  unfold bkL encL encH at h
  dsimp only at h
  rw [flat_rep rs hr, frameS_one t htz] at h
  simp only [List.append_assoc] at h
  have h4 : s.data.toList.drop 4 = uintB l ++ (uintB t.size ++ (t.data.toList ++ (uintB rs.length ++ (rs.flatMap repB ++ (As.flatMap encA ++ r))))) := by
    rw [h, show (4 : Nat) = magicS.data.toList.length from rfl]
    exact List.drop_left
  have hn1 := numR_enc (s := s) (n := l) (by omega) h4
  have h5 := drop_more h4
  rw [← List.append_assoc (uintB t.size)] at h5
  have hf := frmR_enc (t := t) htz h5
  have h6 := drop_more (l := frmB t) h5
  have hn2 := numR_enc (s := s) (n := rs.length) (by omega) h6
  have h7 := drop_more h6
  have hm := manyR_enc (f := repR s) (P := fun r : Rp => r.1.size ≤ 255 ∧ r.2.size ≤ 255) (enc := repB) (fun a x r hx h => repR_enc hx h) rs _ _ hr h7
  have h8 := drop_more h7
  have hS := manyR_enc (f := secR s) (P := fun A => shapeB A = true) (enc := encA) (fun a x r hx h => secR_enc hx h) As _ _ hsh h8
  have h9 := drop_more h8
  rw [hlen] at hS
  have hpre : Lib.hasPrefix s.data.toList magicS.data.toList = true := by
    unfold Lib.hasPrefix
    rw [List.isPrefixOf_iff_prefix, h]
    exact List.prefix_append _ _
  unfold decR
  rw [if_pos hpre]
  unfold bookR
  rw [hn1]
  simp only
  rw [hf]
  simp only
  unfold repsR
  rw [hn2]
  simp only
  rw [if_neg (by omega), hm]
  simp only
  unfold secsR
  rw [leastV_le (by omega), if_neg (by rw [hset]; simp), hS]
  simp only
  unfold endR
  by_cases hr0 : r = []
  · subst hr0
    rw [if_pos rfl, if_pos]
    have hl0 := congrArg List.length h9
    have hs := congrArg List.length h
    have h4' := congrArg List.length h4
    simp only [List.length_append, List.length_drop, List.length_nil, len_toList, frmB] at hl0 hs h4' ⊢
    have : magicS.size = 4 := rfl
    omega
  · rw [if_neg hr0, if_neg]
    intro e
    have hl0 := congrArg List.length h9
    have hrl : r.length ≠ 0 := fun e => hr0 (List.eq_nil_of_length_eq_zero e)
    rw [List.length_drop, len_toList] at hl0
    omega
/-- No beginning of a book's bytes but the whole is a book's. -/
theorem decR_part {s p : ByteArray} {b : Bk} {r : List UInt8} (hb : BkOk b) (h : s.data.toList = bkL b) (hp : s.data.toList = p.data.toList ++ r) (hr : r ≠ []) : ∃ c, decR p = .error c := by
  cases hd : decR p with
  | error c => exact ⟨c, rfl⟩
  | ok b' =>
    exfalso
    obtain ⟨hb', he⟩ := decR_dec hd
    have h1 := decR_enc (s := s) (r := []) hb (by rw [h, List.append_nil])
    have h2 := decR_enc (s := s) (r := r) hb' (by rw [← he, hp])
    rw [if_pos rfl] at h1
    rw [if_neg hr, h1] at h2
    cases h2

/-! ### A Try's length -/
theorem nodup_len : ∀ (c : Nat) (l : List Nat), l.Nodup → (∀ x ∈ l, x < c) → l.length ≤ c
  | 0, l, _, h => by
    cases l with
    | nil => exact Nat.le_refl _
    | cons a l => exact absurd (h a (by simp)) (Nat.not_lt_zero _)
  | c + 1, l, hn, h => by
    have h1 := nodup_len c (l.erase c) (hn.erase c) (fun x hx => by
      have hx1 := h x (List.mem_of_mem_erase hx)
      have hx2 : x ≠ c := fun e => by
        subst e
        exact (hn.not_mem_erase) hx
      omega)
    have h2 : l.length ≤ (l.erase c).length + 1 := by
      rw [List.length_erase]
      split <;> omega
    omega
theorem onceGo_nodup (l : List UInt8) : ∀ acc : List UInt8, acc.Nodup → (onceGo acc l).Nodup := by
  induction l with
  | nil => intro acc h; exact h
  | cons c l ih =>
    intro acc h
    rw [onceGo]
    refine ih _ ?_
    split
    · exact h
    · rename_i hc
      rw [List.nodup_append]
      refine ⟨h, by simp, fun a ha b hb => ?_⟩
      have : b = c := by simpa using hb
      subst this
      rintro rfl
      exact hc (List.contains_iff_mem.2 ha)
theorem tryOk_len {t : ByteArray} (h : tryOk t = true) : t.size ≤ 255 := by
  unfold tryOk at h
  rw [Bool.or_eq_true, decide_eq_true_eq, Bool.and_eq_true, decide_eq_true_eq, decide_eq_true_eq] at h
  rcases h with h | ⟨h1, h2⟩
  · omega
  · unfold lettersS at h1 h2
    split at h1
    · cases h1
    · rename_i hn
      rw [if_neg hn] at h2
      have hfit : fitAll t = true := by
        cases hf : fitAll t
        · exact absurd (.inr hf) hn
        · rfl
      have hl : t.data.toList = onceL t.data.toList := by
        have := congrArg (fun x : ByteArray => x.data.toList) h2
        simp only [mkS_data] at this
        exact this.symm
      have hnd : t.data.toList.Nodup := by rw [hl]; exact onceGo_nodup _ _ List.nodup_nil
      unfold fitAll at hfit
      rw [List.all_eq_true] at hfit
      have hmap : (t.data.toList.map fun b => b.toNat - 1).Nodup := by
        refine List.Pairwise.map _ ?_ (List.Pairwise.and_mem.1 hnd)
        rintro a b ⟨ha, hb, hne⟩ he
        have fa := hfit a ha
        have fb := hfit b hb
        unfold fitB at fa fb
        simp only [Bool.and_eq_true, decide_eq_true_eq] at fa fb
        exact hne (UInt8.toNat_inj.1 (by omega))
      have := nodup_len 255 _ hmap (fun x hx => by
        obtain ⟨b, hb, rfl⟩ := List.mem_map.1 hx
        have fb := hfit b hb
        unfold fitB at fb
        simp only [Bool.and_eq_true, decide_eq_true_eq] at fb
        have := b.toNat_lt
        omega)
      rw [List.length_map, len_toList] at this
      exact this
end Go.Proofs.Ytehbjfjhalpgaaa
