/-
  The columns of a line's bytes: by the model's own decoding of UTF-8.
-/
import Derived.Test.YthfndmpigpphoaaGreatRows
import Derived.Test.YthfndmpigpphoaaGreatTok2
import Derived.Laws.RangeString
import Derived.Laws.RangeAny
import Derived.Lib.DecodeN
import Derived.Lib.OthersKept
import Derived.Laws.Runes
namespace Go.Proofs.YthfndmpigpphoaaGreat
open Go.RowKit

def colsF (s : ByteArray) : Nat → Nat → Nat → List Nat
  | 0, _, _ => []
  | f + 1, p, n => if p < s.size then List.replicate (Utf8.decode s p).2 (n + 1) ++ colsF s f (p + (Utf8.decode s p).2) (n + 1) else []
def colsOf (l : List UInt8) : List Nat := colsF (mkS l) l.length 0 0
theorem mkS_self (s : ByteArray) : mkS s.data.toList = s := by
  obtain ⟨⟨l⟩⟩ := s; rfl
theorem colsOf_str (s : ByteArray) : colsOf s.data.toList = colsF s s.size 0 0 := by
  unfold colsOf; rw [mkS_self, len_toList]
theorem getB_byteAt (s : ByteArray) (i : Nat) : s.get! i = byteAt s.data.toList i := by
  obtain ⟨⟨l⟩⟩ := s
  simp [ByteArray.get!, byteAt, List.getD]
  rfl
theorem dec_width (s : ByteArray) (p : Nat) (h : p < s.size) : 1 ≤ (Utf8.decode s p).2 ∧ p + (Utf8.decode s p).2 ≤ s.size := by
  rw [Lib.decode_at]
  unfold Lib.decodeN
  repeat' split
  all_goals simp only <;> omega
theorem colsF_len (s : ByteArray) : ∀ (f p n : Nat), p ≤ s.size → s.size - p ≤ f → (colsF s f p n).length = s.size - p
  | 0, p, n, hp, hf => by simp [colsF]; omega
  | f + 1, p, n, hp, hf => by
    unfold colsF
    split
    · rename_i h
      obtain ⟨h1, h2⟩ := dec_width s p h
      rw [List.length_append, List.length_replicate, colsF_len s f _ _ h2 (by omega)]; omega
    · simp; omega
theorem colsF_ge (s : ByteArray) : ∀ (f p n : Nat), ∀ c ∈ colsF s f p n, 1 ≤ c
  | 0, p, n, c, hc => by simp [colsF] at hc
  | f + 1, p, n, c, hc => by
    unfold colsF at hc
    split at hc
    · rcases List.mem_append.1 hc with h | h
      · rw [List.mem_replicate] at h; omega
      · exact colsF_ge s f _ _ c h
    · cases hc
theorem colsOf_len (l : List UInt8) : (colsOf l).length = l.length := by
  unfold colsOf
  rw [colsF_len _ _ _ _ (Nat.zero_le _) (by rw [mkS_size]; omega), mkS_size]; rfl
theorem colsOf_ge (L : List UInt8) (i : Nat) (h : i < L.length) : 1 ≤ (colsOf L).getD i 0 := by
  have hl : i < (colsOf L).length := by rw [colsOf_len]; exact h
  rw [List.getD, List.getElem?_eq_getElem hl]
  exact colsF_ge _ _ _ _ _ (List.getElem_mem hl)
theorem colsF_end (s : ByteArray) (f p n : Nat) (h : ¬ p < s.size) : colsF s f p n = [] := by
  cases f with
  | zero => rfl
  | succ f => simp [colsF, h]
theorem colsF_step (s : ByteArray) (f p n : Nat) (h : p < s.size) (hf : s.size - p ≤ f) : colsF s f p n = List.replicate (Utf8.decode s p).2 (n + 1) ++ colsF s (f - 1) (p + (Utf8.decode s p).2) (n + 1) := by
  cases f with
  | zero => omega
  | succ f => simp [colsF, h]

theorem prefix3 (M : List UInt8) (a b c : UInt8) (ha : a ≠ 0) (hb : b ≠ 0) (hc : c ≠ 0) : Lib.hasPrefix M [a, b, c] = true ↔ byteAt M 0 = a ∧ byteAt M 1 = b ∧ byteAt M 2 = c := by
  unfold Lib.hasPrefix byteAt
  match M with
  | [] => simp [List.isPrefixOf]; intro h; exact absurd h.symm ha
  | [x] => simp [List.isPrefixOf]; intro _ h; exact absurd h.symm hb
  | [x, y] => simp [List.isPrefixOf]; intro _ _ h; exact absurd h.symm hc
  | x :: y :: z :: r => simp [List.isPrefixOf]; exact ⟨fun ⟨h1, h2, h3⟩ => ⟨h1.symm, h2.symm, h3.symm⟩, fun ⟨h1, h2, h3⟩ => ⟨h1.symm, h2.symm, h3.symm⟩⟩
theorem encode_size (c : Nat) (hv : c < 55296 ∨ (57344 ≤ c ∧ c ≤ 1114111)) : (Utf8.encode (c : Nat)).size = if c < 128 then 1 else if c < 2048 then 2 else if c < 65536 then 3 else 4 := by
  have hval : Utf8.valid (c : Int) = true := by
    unfold Utf8.valid; simp; omega
  unfold Utf8.encode
  simp only [hval, if_true, Int.toNat_natCast]
  repeat' split
  all_goals first | rfl | omega
/-- What the rune at a place is, and how long its bytes are. -/
theorem rune_cases (s : ByteArray) (p : Nat) (h : p < s.size) :
    ((Utf8.decode s p).1 = 65533 ∧ (Utf8.decode s p).2 = 1 ∧ Lib.hasPrefix (s.data.toList.drop p) [239, 191, 189] = false) ∨
    ((Utf8.decode s p).1 = 65533 ∧ (Utf8.decode s p).2 = 3 ∧ Lib.hasPrefix (s.data.toList.drop p) [239, 191, 189] = true) ∨
    ((Utf8.decode s p).1 ≠ 65533 ∧ (Utf8.encode ((Utf8.decode s p).1 : Nat)).size = (Utf8.decode s p).2) := by
  have e0 : byteAt (s.data.toList.drop p) 0 = byteAt s.data.toList p := by rw [← drop_at]; rfl
  have e1 : byteAt (s.data.toList.drop p) 1 = byteAt s.data.toList (p + 1) := by rw [← drop_at]
  have e2 : byteAt (s.data.toList.drop p) 2 = byteAt s.data.toList (p + 2) := by rw [← drop_at]
  have hpre : Lib.hasPrefix (s.data.toList.drop p) [239, 191, 189] = decide ((byteAt s.data.toList p).toNat = 239 ∧ (byteAt s.data.toList (p + 1)).toNat = 191 ∧ (byteAt s.data.toList (p + 2)).toNat = 189) := by
    rw [Bool.eq_iff_iff, prefix3 _ _ _ _ (by decide) (by decide) (by decide), decide_eq_true_iff, e0, e1, e2, ← UInt8.toNat_inj, ← UInt8.toNat_inj, ← UInt8.toNat_inj]; rfl
  have hz1 : s.size ≤ p + 1 → (byteAt s.data.toList (p + 1)).toNat = 0 := fun h => by rw [byteAt_beyond _ _ (by rw [len_toList]; exact h)]; rfl
  have hz2 : s.size ≤ p + 2 → (byteAt s.data.toList (p + 2)).toNat = 0 := fun h => by rw [byteAt_beyond _ _ (by rw [len_toList]; exact h)]; rfl
  have hb0 := (byteAt s.data.toList p).toNat_lt
  have hb1 := (byteAt s.data.toList (p + 1)).toNat_lt
  have hb2 := (byteAt s.data.toList (p + 2)).toNat_lt
  have hb3 := (byteAt s.data.toList (p + 3)).toNat_lt
  rw [hpre, Lib.decode_at, getB_byteAt, getB_byteAt, getB_byteAt, getB_byteAt]
  generalize (byteAt s.data.toList p).toNat = b0 at *
  generalize (byteAt s.data.toList (p + 1)).toNat = b1 at *
  generalize (byteAt s.data.toList (p + 2)).toNat = b2 at *
  generalize (byteAt s.data.toList (p + 3)).toNat = b3 at *
  clear hpre e0 e1 e2
  unfold Lib.decodeN
  have enc := encode_size
  split
  · right; right
    refine ⟨by show b0 ≠ 65533; omega, ?_⟩
    show (Utf8.encode (b0 : Nat)).size = 1
    rw [enc b0 (by omega), if_pos (by omega)]
  split
  · split
    · right; right
      refine ⟨by simp only; omega, ?_⟩
      simp only
      rw [enc _ (by omega), if_neg (by omega), if_pos (by omega)]
    · left
      refine ⟨rfl, rfl, ?_⟩
      rw [decide_eq_false_iff_not]; omega
  split
  · split
    · by_cases hc : b0 % 16 * 4096 + b1 % 64 * 64 + b2 % 64 = 65533
      · right; left
        refine ⟨hc, rfl, ?_⟩
        rw [decide_eq_true_iff]; omega
      · right; right
        refine ⟨hc, ?_⟩
        simp only
        rw [enc _ (by omega), if_neg (by omega), if_neg (by omega), if_pos (by omega)]
    · left
      refine ⟨rfl, rfl, ?_⟩
      rw [decide_eq_false_iff_not]; omega
  split
  · split
    · right; right
      refine ⟨by simp only; omega, ?_⟩
      simp only
      rw [enc _ (by omega), if_neg (by omega), if_neg (by omega), if_neg (by omega)]
    · left
      refine ⟨rfl, rfl, ?_⟩
      rw [decide_eq_false_iff_not]; omega
  · left
    refine ⟨rfl, rfl, ?_⟩
    rw [decide_eq_false_iff_not]; omega
end Go.Proofs.YthfndmpigpphoaaGreat
