/-
  The reference's columns; plain facts under its words.
-/
import Derived.Test.YtdleoankkcemfaaRows
import Derived.Test.YtdleoankkcemfaaRefTok2
namespace Go.Proofs.Ytdleoankkcemfaa
open Go.RowKit

theorem cols_at (acc r : List Nat) (p d c i : Nat) (hp : acc.length = p) (h1 : p ≤ i) (h2 : i < p + d) : (acc ++ (List.replicate d c ++ r)).getD i 0 = c := by
  rw [List.getD, List.getElem?_append_right (by omega), List.getElem?_append_left (by simp; omega), List.getElem?_replicate, if_pos (by omega)]; rfl
set_option maxRecDepth 100000 in
set_option maxHeartbeats 2000000 in
theorem columnR_any (s : ByteArray) (i cc : Nat) (w : World) (hs : s.size ≤ 65536) (hi : i < s.size) (hcc : (colsOf s.data.toList).getD i 0 = cc) :
    Calls Try.prog 55 #[.string s, .int .i64 i] w fun e w' => e = .returned (.int .i64 (cc : Nat)) ∧ w = w' := by
  have HC := Lib.hid (colsOf_str s)
  have HCC := Lib.hid hcc
  clear hcc
  go_enter Try.func55, Try.ntmps55
  go_wp2_with fail
  go_loop [5, 6] (fun n a => ∃ (p f k : Nat) (acc : List Nat), n = .int .i64 (1 + k : Nat) ∧ a = .int .i64 p ∧ p ≤ i ∧ s.size - p ≤ f ∧ k ≤ p ∧ acc.length = p ∧ acc ++ colsF s f p k = colsOf s.data.toList) (fun _ a => s.size - (intOf a).toNat)
  case atStart => exact ⟨0, s.size, 0, [], rfl, rfl, Nat.zero_le _, by omega, Nat.le_refl _, rfl, HC.out.symm⟩
  case round =>
    obtain ⟨p, f, k, acc, rfl, rfl, hp, hf, hk, hal, hall⟩ := hrel
    have hps : p < s.size := by omega
    obtain ⟨hd1, hd2⟩ := dec_width s p hps
    have hst := colsF_step s f p k hps hf
    have HS := Lib.hid (Size_any s p · hs hps)
    obtain ⟨d, hd⟩ : ∃ d, (Utf8.decode s p).2 = d := ⟨_, rfl⟩
    rw [hd] at hd1 hd2 hst HS
    rw [hst] at hall
    have HAll := Lib.hid hall
    have HAL := Lib.hid hal
    clear hall hal hst hd
    by_cases hid : i < p + d
    · have HR : Hid (cc = 1 + k) := Lib.hid (by rw [← HCC.out, ← HAll.out, cols_at acc _ p d (k + 1) i HAL.out hp hid]; omega)
      go_wp2_with (go_at_call 77; refine (HS.out _).mono ?_; rintro e w' ⟨rfl, rfl⟩)
      go_ret
      exact ⟨ret_int (by rw [HR.out]; omega), rfl⟩
    · go_wp2_with (go_at_call 77; refine (HS.out _).mono ?_; rintro e w' ⟨rfl, rfl⟩)
      go_round
      case rel => exact ⟨p + d, f - 1, k + 1, acc ++ List.replicate d (k + 1), by go_num, by go_num, by omega, by omega, by omega, by simp [HAL.out], by rw [← HAll.out]; simp⟩
      case measure => simp [intOf]; omega

theorem begins_letter {L : List UInt8} {q : Nat} (hb : belongs L q = true) (hq : q = 0 ∨ belongs L (q - 1) = false ∨ belongs L q = false) : letterB (byteAt L q) = true := by
  rcases belongs_cases hb with h | ⟨_, h0, _, h3⟩
  · exact h
  · rcases hq with h | h | h
    · omega
    · rw [belongs_letter h3] at h; cases h
    · rw [h] at hb; cases hb
theorem letter_no {L : List UInt8} {q : Nat} (hb : belongs L q = false) : letterB (byteAt L q) = false := by
  cases h : letterB (byteAt L q)
  · rfl
  · rw [belongs_letter h] at hb; cases hb
/-- Where the search for the line's end stops. -/
theorem search_stop (T : List UInt8) (a z : Nat) (haz : a ≤ z) (hz : z ≤ T.length) (hno : ∀ j, a ≤ j → j < z → byteAt T j ≠ 10) (hstop : z = T.length ∨ byteAt T z = 10) :
    (∀ m r, T.drop a = m ++ 10 :: r → (10 : UInt8) ∉ m → z = a + m.length) := by
  intro m r he hm
  have hlen := congrArg List.length he
  rw [List.length_drop, List.length_append, List.length_cons] at hlen
  have hat : byteAt T (a + m.length) = 10 := by
    rw [drop_at, he]; unfold byteAt; simp [List.getD]
  rcases Nat.lt_trichotomy z (a + m.length) with h | h | h
  · rcases hstop with h1 | h1
    · omega
    · obtain ⟨q, rfl⟩ : ∃ q, z = a + q := ⟨z - a, by omega⟩
      have hq : q < m.length := by omega
      rw [drop_at, he] at h1
      unfold byteAt at h1
      rw [List.getD, List.getElem?_append_left hq, List.getElem?_eq_getElem hq] at h1
      exact absurd (by rw [← show m[q] = 10 from h1]; exact List.getElem_mem hq) hm
  · exact h
  · exact absurd hat (hno _ (by omega) h)
theorem drop_lines (L : List (List UInt8)) (k f : Nat) (rest : List UInt8) (hk : k < L.length) (h : L.drop k = linesFrom f rest) (hf : rest.length ≤ f) :
    L[k] = ended (Lib.cut rest [10]).1 ∧ L.drop (k + 1) = linesFrom (f - 1) (Lib.cut rest [10]).2.1 ∧ rest ≠ [] := by
  have hne : rest ≠ [] := by
    rintro rfl
    rw [linesFrom_nil] at h
    have := congrArg List.length h
    rw [List.length_drop, List.length_nil] at this; omega
  rw [List.drop_eq_getElem_cons hk, linesFrom_step f rest hne hf] at h
  injection h with h1 h2
  exact ⟨h1, h2, hne⟩
end Go.Proofs.Ytdleoankkcemfaa
