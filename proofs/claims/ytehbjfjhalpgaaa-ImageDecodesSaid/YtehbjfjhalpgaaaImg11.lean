/-
  Bytes behind bytes: the reference's put and number.
-/
import Derived.Test.YtehbjfjhalpgaaaRows
import Derived.Test.YtehbjfjhalpgaaaImg10
namespace Go.Proofs.Ytehbjfjhalpgaaa
open Go.RowKit

set_option maxHeartbeats 4000000 in
set_option maxRecDepth 100000 in
theorem put_any (w0 w : World) (v : Value) (n : Nat) (l : List UInt8) (s : ByteArray) (ho : Own w0 w 5 1 v n (Lib.byteCells l)) (hn : n + s.size ≤ 140737488355328) :
    Calls Try.prog 28 #[v, .string s] w fun e w' => ∃ v', e = .returned v' ∧ Own w0 w' 5 1 v' (n + s.size) (Lib.byteCells (l ++ s.data.toList)) := by
  obtain ⟨i0, hi, hz0, hz1, hz2⟩ := info_parts byte_info
  have HO0 := Lib.hid ho
  clear ho
  go_enter Try.func28, Try.ntmps28
  go_wp2_with fail
  go_loopw [0, 5] (fun u i W => ∃ k : Nat, k ≤ s.size ∧ i = .int .i64 k ∧ Hid (Own w0 W 5 1 u (n + k) (Lib.byteCells (l ++ s.data.toList.take k)))) (fun _ i _ => s.size - (intOf i).toNat)
  case atStart => exact ⟨0, Nat.zero_le _, rfl, Lib.hid (by rw [List.take_zero, List.append_nil]; exact HO0.out)⟩
  case round =>
    obtain ⟨k, hk, rfl, HO⟩ := hrel
    by_cases hlt : k < s.size
    · have HA := Lib.hid (take_app l s k hlt)
      go_wp2_with (at_builtin; refine wpList_push1 rfl _ _ 57 rfl w0.heap.size 5 i0 (.int .u8 0) 1 Try.underlying57 hi hz0 hz1 hz2 rfl _ _ _ rfl HO.out.own _ rfl rfl (by unfold maxLen; omega) (by omega) HO.out.size ?_; intro gg cc w5 hown hg5; have HO' := Lib.hid (HO.out.push hown hg5); clear hown hg5)
      go_roundw
      case rel => exact ⟨k + 1, by omega, by go_num, Lib.hid (by rw [HA.out, ← bytes_snoc]; exact HO'.out)⟩
      case measure => simp [intOf]; omega
    · obtain rfl : k = s.size := by omega
      have HQ : Hid (l ++ s.data.toList.take s.size = l ++ s.data.toList) := Lib.hid (by rw [List.take_of_length_le (by simp)])
      go_wp2_with fail
      go_ret
      exact ⟨_, rfl, by rw [← HQ.out]; exact HO.out⟩
set_option maxHeartbeats 1000000 in
theorem number_any (w0 w : World) (v : Value) (n : Nat) (l : List UInt8) (x : Nat) (hx : x ≤ 9223372036854775807) (ho : Own w0 w 5 1 v n (Lib.byteCells l)) (hn : n + 10 ≤ 140737488355328) :
    Calls Try.prog 29 #[v, .int .i64 (x : Int)] w fun e w' => ∃ v', e = .returned v' ∧ Own w0 w' 5 1 v' (n + (uintB x).length) (Lib.byteCells (l ++ uintB x)) := by
  have HO := Lib.hid ho
  have hU := fun w => rUint_any x w (by omega)
  have hl := uintB_ten x (by omega)
  obtain ⟨T, hT⟩ : ∃ T, mkS (uintB x) = T := ⟨_, rfl⟩
  have HT : Hid (T.data.toList = uintB x) := Lib.hid (by rw [← hT, mkS_data])
  have HTs : Hid (T.size = (uintB x).length) := Lib.hid (by rw [← hT, mkS_size])
  have HL := Lib.hid hl
  rw [hT] at hU
  have HU := Lib.hid hU
  clear ho hT hU hl
  go_enter Try.func29, Try.ntmps29
  go_wp2_with fail
  refine (HU.out _).mono ?_
  rintro e w1 ⟨rfl, hb⟩
  have HO1 := Lib.hid (HO.out.call hb)
  clear hb
  go_wp2_with fail
  refine (put_any w0 _ v n l T HO1.out (by have := HTs.out; have := HL.out; omega)).mono ?_
  rintro e w2 ⟨v', rfl, ho2⟩
  have HO2 := Lib.hid ho2
  clear ho2
  go_wp2_with fail
  go_ret
  exact ⟨v', rfl, by rw [← HTs.out, ← HT.out]; exact HO2.out⟩
end Go.Proofs.Ytehbjfjhalpgaaa
