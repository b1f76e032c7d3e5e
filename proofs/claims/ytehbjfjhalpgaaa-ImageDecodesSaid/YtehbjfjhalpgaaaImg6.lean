/-
  The letters of a text, each once: the reference's Letters.
-/
import Derived.Test.YtehbjfjhalpgaaaRows
import Derived.Test.YtehbjfjhalpgaaaImg5
import Derived.BigQuiet
namespace Go.Proofs.Ytehbjfjhalpgaaa
open Go.RowKit

theorem own_byteC {w : World} {B e n g cap : Nat} {l : List UInt8} (h : w.ownsRow B e 1 (.slice (some ⟨g, 0, none⟩) n cap) n (Lib.byteCells l)) (j : Nat) (hj : j < l.length) :
    w.cell? ⟨g, j, none⟩ = some (.int .u8 (l[j].toNat : Int)) := by
  have := h.cells (g := g) rfl j (.int .u8 (l[j].toNat : Int)) (by simp [Lib.byteCells, hj])
  rwa [row_addr] at this
theorem once_snoc (s : ByteArray) (k : Nat) (h : k < s.size) : onceL (s.data.toList.take (k + 1)) = if (onceL (s.data.toList.take k)).contains s[k] then onceL (s.data.toList.take k) else onceL (s.data.toList.take k) ++ [s[k]] := by
  rw [take_snoc s k h]; exact onceGo_snoc _ _ _
theorem once_le (s : ByteArray) (k : Nat) : (onceL (s.data.toList.take k)).length ≤ k := by
  have h1 := onceGo_len [] (s.data.toList.take k)
  have h2 : (s.data.toList.take k).length ≤ k := List.length_take_le _ _
  rw [onceL]
  simp only [List.length_nil] at h1
  omega
theorem take_not (l : List UInt8) (q : Nat) (hq : q < l.length) (c : UInt8) (h : c ∉ l.take q) (hne : l[q] ≠ c) : c ∉ l.take (q + 1) := by
  rw [List.take_succ_eq_append_getElem hq, List.mem_append, List.mem_singleton]
  rintro (h1 | h1)
  · exact h h1
  · exact hne h1.symm

set_option maxHeartbeats 4000000 in
set_option maxRecDepth 100000 in
theorem rLetters_any (s : ByteArray) (w : World) (hs : s.size ≤ 140737488355327) :
    Calls Try.prog 48 #[.string s] w fun e w' => e = .returned (.tuple #[.string (lettersS s).1, .int .i64 (lettersS s).2]) ∧ Below w.heap.size w w' := by
  obtain ⟨i0, hi, hz0, hz1, hz2⟩ := info_parts byte_info
  by_cases h0 : s.size = 0
  · have H : Hid (lettersS s = (⟨#[]⟩, 21)) := Lib.hid (by unfold lettersS; rw [if_pos (.inl h0)])
    have h00 : ((s.size : Int) == 0) = true := by rw [beq_iff_eq]; omega
    go_enter Try.func48, Try.ntmps48
    go_wp2_with (first | (go_at_call 49; refine (Bytes02_any _ _ (by omega)).mono ?_; rintro e w' ⟨rfl, rfl⟩))
    go_ret2
    exact ⟨by rw [H.out]; rfl, Below.refl _ _⟩
  · have h00 : ((s.size : Int) == 0) = false := by rw [beq_eq_false_iff_ne]; omega
    cases hf : fitAll s
    · have H : Hid (lettersS s = (⟨#[]⟩, 21)) := Lib.hid (by unfold lettersS; rw [if_pos (.inr hf)])
      go_enter Try.func48, Try.ntmps48
      go_wp2_with (first | (go_at_call 49; refine (Bytes02_any _ _ (by omega)).mono ?_; rintro e w' ⟨rfl, rfl⟩))
      go_ret2
      exact ⟨by rw [H.out]; rfl, Below.refl _ _⟩
    · have H : Hid (lettersS s = (mkS (onceL s.data.toList), 0)) := Lib.hid (by
        unfold lettersS; rw [if_neg (by rintro (h | h); · exact h0 h
                                        · rw [hf] at h; cases h)])
      go_enter Try.func48, Try.ntmps48
      go_wp2_with (first | (go_at_call 49; refine (Bytes02_any _ _ (by omega)).mono ?_; rintro e w' ⟨rfl, rfl⟩))
      go_loopw [5, 6, 7, 8] (fun v i _ _ W => ∃ k g n cap : Nat, k ≤ s.size ∧ i = .int .i64 k ∧ v = .slice (some ⟨g, 0, none⟩) n cap ∧ Hid (n = (onceL (s.data.toList.take k)).length) ∧ Own w W 5 1 (.slice (some ⟨g, 0, none⟩) n cap) n (Lib.byteCells (onceL (s.data.toList.take k)))) (fun _ i _ _ _ => s.size - (intOf i).toNat)
      case atStart => exact ⟨0, _, 0, 0, Nat.zero_le _, rfl, rfl, Lib.hid rfl, Own.empty w _ _⟩
      case round =>
        obtain ⟨k, g, n, cap, hk, rfl, rfl, HN, ho⟩ := hrel
        have HO := Lib.hid ho
        clear ho
        by_cases hlt : k < s.size
        · have HK := Lib.hid (once_snoc s k hlt)
          have hn := HN.out ▸ once_le s k
          obtain ⟨acc, hacc⟩ : ∃ acc, onceL (s.data.toList.take k) = acc := ⟨_, rfl⟩
          rw [hacc] at HK HO HN
          clear hacc
          go_wp2_with fail
          go_loopw [7, 8] (fun b j W' => ∃ m q : Nat, W' = wr.drewN m ∧ j = .int .i64 q ∧ q ≤ n ∧ ((b = .bool false ∧ Hid (s[k] ∉ acc.take q)) ∨ (b = .bool true ∧ Hid (s[k] ∈ acc)))) (fun _ j _ => n - (intOf j).toNat)
          case atStart => exact ⟨0, 0, rfl, rfl, Nat.zero_le _, .inl ⟨rfl, Lib.hid (by simp)⟩⟩
          case round =>
            obtain ⟨m, q, rfl, rfl, hq, ⟨rfl, HS⟩ | ⟨rfl, HS⟩⟩ := hrel
            · by_cases hqn : q < n
              · have hqa : q < acc.length := by have := HN.out; omega
                have hcell := own_byteC HO.out.own q hqa
                obtain ⟨c, hc⟩ : ∃ c, acc[q]'hqa = c := ⟨_, rfl⟩
                rw [hc] at hcell
                by_cases hcs : c = s[k]
                · have hq2 : ((c.toNat : Int) == (s[k].toNat : Int)) = true := by rw [hcs]; simp
                  have HS2 : Hid (s[k] ∈ acc) := Lib.hid (by rw [← hcs, ← hc]; exact List.getElem_mem _)
                  clear hcs hc
                  go_wp2_with fail
                  go_quiet (fail)
                  go_wp2_with fail
                  go_roundw
                  case rel => exact ⟨_, q + 1, rfl, by go_num, by omega, .inr ⟨rfl, HS2⟩⟩
                  case measure => simp [intOf]; omega
                · have hq2 : ((c.toNat : Int) == (s[k].toNat : Int)) = false := by
                    rw [beq_eq_false_iff_ne]; intro e; exact hcs (UInt8.toNat_inj.1 (by omega))
                  have HS2 : Hid (s[k] ∉ acc.take (q + 1)) := Lib.hid (take_not acc q hqa _ HS.out (by rw [hc]; exact hcs))
                  clear hcs hc
                  go_wp2_with fail
                  go_quiet (fail)
                  go_wp2_with fail
                  go_roundw
                  case rel => exact ⟨_, q + 1, rfl, by go_num, by omega, .inl ⟨rfl, HS2⟩⟩
                  case measure => simp [intOf]; omega
              · have HK2 : Hid (onceL (s.data.toList.take (k + 1)) = acc ++ [s[k]]) := Lib.hid (by
                  rw [HK.out, if_neg]
                  have h1 := HS.out
                  rw [List.take_of_length_le (by have := HN.out; omega)] at h1
                  simpa using h1)
                go_wp2_with (at_builtin; refine wpList_push1 rfl _ _ 57 rfl w.heap.size 5 i0 (.int .u8 0) 1 Try.underlying57 hi hz0 hz1 hz2 rfl _ _ _ rfl (HO.out.drewN m).own _ rfl rfl (by unfold maxLen; omega) (by omega) (HO.out.drewN m).size ?_; intro gg cap w5 hown hg5; have HO' := Lib.hid ((HO.out.drewN m).push hown hg5); clear hown hg5)
                go_roundw
                case rel => exact ⟨k + 1, gg, n + 1, cap, by omega, by go_num, rfl, Lib.hid (by rw [HK2.out, HN.out]; simp), by rw [HK2.out, ← bytes_snoc]; exact HO'.out⟩
                case measure => simp [intOf]; omega
            · have HK2 : Hid (onceL (s.data.toList.take (k + 1)) = acc) := Lib.hid (by rw [HK.out, if_pos (by simpa using HS.out)])
              by_cases hqn : q < n
              all_goals
                go_wp2_with fail
                go_roundw
                case rel => exact ⟨k + 1, g, n, cap, by omega, by go_num, rfl, Lib.hid (by rw [HK2.out, HN.out]), by rw [HK2.out]; exact HO.out.drewN m⟩
                case measure => simp [intOf]; omega
        · obtain rfl : k = s.size := by omega
          have HF : Hid (onceL (s.data.toList.take s.size) = onceL s.data.toList) := Lib.hid (by rw [List.take_of_length_le (by simp)])
          have hcv := run_string_of_own HO.out.own 57 9 Try.underlying57 Try.underlying5 Try.underlying9
          rw [HF.out] at hcv
          go_wp2_with fail
          go_ret2
          exact ⟨by rw [H.out]; rfl, HO.out.below⟩
end Go.Proofs.Ytehbjfjhalpgaaa
