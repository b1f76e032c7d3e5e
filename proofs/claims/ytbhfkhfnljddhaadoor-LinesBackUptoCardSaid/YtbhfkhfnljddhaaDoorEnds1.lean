/-
  A text without line feeds, and without carriage returns at its end.
-/
import Derived.Test.YtbhfkhfnljddhaaDoorRows
import Derived.Test.YtbhfkhfnljddhaaDoorBase3
import Derived.Test.YtbhfkhfnljddhaaDoorSplit3
namespace Go.Proofs.YtbhfkhfnljddhaaDoor
open Go.RowKit

def bare (l : List UInt8) : List UInt8 := l.filter (· != 10)
def shorn (l : List UInt8) : List UInt8 := (l.reverse.dropWhile (· == 13)).reverse
def plainOf (l : List UInt8) : List UInt8 := shorn (bare l)
theorem bare_snoc (l : List UInt8) (b : UInt8) : bare (l ++ [b]) = if b = 10 then bare l else bare l ++ [b] := by
  unfold bare
  rw [List.filter_append]
  by_cases h : b = 10 <;> simp [h]
theorem bare_le (l : List UInt8) : (bare l).length ≤ l.length := List.length_filter_le _ _
theorem shorn_cr (l : List UInt8) (n : Nat) (h : n < l.length) (hb : l[n] = 13) : shorn (l.take (n + 1)) = shorn (l.take n) := by
  unfold shorn
  rw [List.take_succ_eq_append_getElem h, hb]
  simp
theorem shorn_end (l : List UInt8) (n : Nat) (h : n < l.length) (hb : l[n] ≠ 13) : shorn (l.take (n + 1)) = l.take (n + 1) := by
  unfold shorn
  rw [List.take_succ_eq_append_getElem h, List.reverse_append, List.reverse_singleton, List.singleton_append, List.dropWhile_cons_of_neg (by simpa using hb), List.reverse_cons, List.reverse_reverse]
theorem shorn_nil : shorn [] = [] := rfl
theorem shorn_sub (l : List UInt8) : ∀ x ∈ shorn l, x ∈ l := by
  intro x hx
  unfold shorn at hx
  rw [List.mem_reverse] at hx
  exact List.mem_reverse.1 ((List.dropWhile_sublist _).mem hx)
theorem plain_no (l : List UInt8) : (10 : UInt8) ∉ plainOf l := by
  intro h
  have := shorn_sub _ _ h
  simp [bare] at this
theorem plain_le (l : List UInt8) : (plainOf l).length ≤ l.length := by
  unfold plainOf shorn
  rw [List.length_reverse]
  have h1 := (List.dropWhile_sublist (fun b : UInt8 => b == 13) (l := (bare l).reverse)).length_le
  rw [List.length_reverse] at h1
  exact Nat.le_trans h1 (bare_le l)
theorem plain_last (l : List UInt8) : ended (plainOf l) = plainOf l := by
  unfold plainOf shorn
  generalize hq : (bare l).reverse.dropWhile (· == 13) = q
  cases q with
  | nil => rfl
  | cons a q =>
    have := List.head_dropWhile_not (fun b : UInt8 => b == 13) (l := (bare l).reverse) (by rw [hq]; simp)
    simp only [hq, List.head_cons] at this
    rw [List.reverse_cons, ended_some, if_neg (by simpa using this)]

theorem own_take {w : World} {B e : Nat} {g cap n m : Nat} {l : List UInt8} (h : w.ownsRow B e 1 (.slice (some ⟨g, 0, none⟩) n cap) n (Lib.byteCells l)) (hm : m ≤ n) : w.ownsRow B e 1 (.slice (some ⟨g, 0, none⟩) m cap) m (Lib.byteCells (l.take m)) := by
  obtain ⟨h1, h2⟩ := h
  have hl : l.length = n := by simpa [Lib.byteCells] using h1
  refine ⟨by simp [Lib.byteCells, hl]; omega, ?_⟩
  rcases h2 with ⟨hv, _⟩ | ⟨g', cap', cur, hv, hb, hh, hn, hx, hs, ht⟩
  · cases hv
  · cases hv
    refine .inr ⟨_, _, cur, rfl, hb, hh, by omega, hx, hs, ?_⟩
    have := congrArg (List.take m) ht
    rw [List.take_take] at this
    rw [show min m (n * 1) = m * 1 by omega] at this
    rw [this]
    simp [Lib.byteCells, List.map_take]

set_option maxRecDepth 100000 in
set_option maxHeartbeats 2000000 in
theorem plain_any (s : ByteArray) (w : World) (hs : s.size ≤ 140737488351232) :
    Calls Tryd.prog 27 #[.string s] w fun e w' => e = .returned (.string (mkS (plainOf s.data.toList))) ∧ Below w.heap.size w w' := by
  obtain ⟨j0, hj, hy0, hy1, hy2⟩ := info_parts byte_info
  go_enter Tryd.func27, Tryd.ntmps27
  go_wp2_with fail
  go_loopw [3, 4] (fun b i wr => ∃ k : Nat, k ≤ s.size ∧ i = .int .i64 k ∧ Own w wr 5 1 b (bare (s.data.toList.take k)).length (Lib.byteCells (bare (s.data.toList.take k)))) (fun _ i _ => s.size - (intOf i).toNat)
  case atStart => exact ⟨0, Nat.zero_le _, rfl, Own.nil_ w _ _⟩
  case round =>
    obtain ⟨k, hk, rfl, hb⟩ := hrel
    have HB := Lib.hid hb
    clear hb
    by_cases hlt : k < s.size
    · have hT : s.data.toList.take (k + 1) = s.data.toList.take k ++ [s[k]] := by
        rw [List.take_succ_eq_append_getElem (by rw [len_toList]; exact hlt)]; rfl
      have hle : (bare (s.data.toList.take k)).length ≤ k := Nat.le_trans (bare_le _) (by rw [List.length_take]; omega)
      by_cases hc : s[k] = 10
      · have q : ((s[k].toNat : Int) != 10) = false := by rw [hc]; rfl
        have HN : Hid (bare (s.data.toList.take (k + 1)) = bare (s.data.toList.take k)) := Lib.hid (by rw [hT, bare_snoc, if_pos hc])
        clear hT hc
        go_wp2_with fail
        go_roundw
        case rel => exact ⟨k + 1, by omega, by go_num, by rw [HN.out]; exact HB.out⟩
        case measure => simp [intOf] <;> omega
      · have q : ((s[k].toNat : Int) != 10) = true := by
          have : s[k].toNat ≠ 10 := fun e => hc (UInt8.toNat_inj.1 e)
          simp; omega
        have HN : Hid (bare (s.data.toList.take (k + 1)) = bare (s.data.toList.take k) ++ [s[k]]) := Lib.hid (by rw [hT, bare_snoc, if_neg hc])
        clear hT hc
        go_wp2_with (at_builtin; refine wpList_push1 rfl _ _ 36 rfl w.heap.size 5 j0 (.int .u8 0) 1 Tryd.underlying36 hj hy0 hy1 hy2 rfl _ _ _ rfl HB.out.own _ rfl rfl (by unfold maxLen; omega) (by omega) HB.out.size ?_; intro gg cap w5 hown hg5; have HB' := Lib.hid (HB.out.push hown hg5); clear hown hg5)
        go_roundw
        case rel =>
          refine ⟨k + 1, by omega, by go_num, ?_⟩
          have h5 := HB'.out
          rw [bytes_snoc, ← HN.out] at h5
          rw [HN.out] at h5 ⊢
          simpa using h5
        case measure => simp [intOf] <;> omega
    · obtain rfl : k = s.size := by omega
      obtain ⟨l, hl⟩ : ∃ l, l = bare s.data.toList := ⟨_, rfl⟩
      have HP : Hid (plainOf s.data.toList = shorn (l.take l.length)) := Lib.hid (by rw [List.take_length, hl]; rfl)
      have ho := HB.out
      rw [List.take_of_length_le (by rw [len_toList]; exact Nat.le_refl _), ← hl] at ho
      have hll : l.length ≤ s.size := by rw [hl, ← len_toList]; exact bare_le _
      have HO := Lib.hid ho
      clear HB hl
      rcases ho.own.2 with ⟨rfl, h0⟩ | ⟨g, cap, cur, rfl, _, _, hcap, _⟩
      · have hcv := run_string_of_own ho.own 36 9 Tryd.underlying36 Tryd.underlying5 Tryd.underlying9
        have HE : Hid (plainOf s.data.toList = []) := Lib.hid (by rw [HP.out, List.eq_nil_of_length_eq_zero h0]; rfl)
        rw [List.eq_nil_of_length_eq_zero h0] at hcv
        rw [h0] at HO
        clear ho h0 HP
        go_wp2_with fail
        go_loopw [5] (fun j wn => j = .int .i64 0 ∧ wn = wr) (fun _ _ => 1)
        case atStart => exact ⟨rfl, rfl⟩
        case round =>
          obtain ⟨rfl, rfl⟩ := hrel
          go_wp2_with fail
          go_ret
          exact ⟨by rw [HE.out]; rfl, HO.out.below⟩
      · have HC : Hid (∀ n (h : n < l.length), wr.cell? ⟨g, n, none⟩ = some (.int .u8 l[n].toNat)) := Lib.hid (fun n h => by
          have := ho.own.cells (g := g) rfl n (.int .u8 l[n].toNat) (by simp [Lib.byteCells, h])
          rw [row_addr] at this; exact this)
        clear ho
        go_wp2_with fail
        go_loopw [5] (fun j wn => wn = wr ∧ ∃ n : Nat, n ≤ l.length ∧ j = .int .i64 n ∧ plainOf s.data.toList = shorn (l.take n)) (fun j _ => (intOf j).toNat)
        case atStart => exact ⟨rfl, l.length, Nat.le_refl _, rfl, HP.out⟩
        case round =>
          obtain ⟨rfl, n, hn, rfl, hsh⟩ := hrel
          have HS := Lib.hid hsh
          clear hsh
          have hcv := run_string_of_own (own_take HO.out.own hn) 36 9 Tryd.underlying36 Tryd.underlying5 Tryd.underlying9
          rcases n with _ | q
          · have HE : Hid (plainOf s.data.toList = []) := Lib.hid (by rw [HS.out]; rfl)
            rw [List.take_zero] at hcv
            go_wp2_with fail
            go_ret
            exact ⟨by rw [HE.out]; rfl, HO.out.below⟩
          · have hql : q < l.length := by omega
            have hc := HC.out q hql
            by_cases hb : l[q] = 13
            · have t13 : ((l[q].toNat : Int) == 13) = true := by rw [hb]; rfl
              have HN : Hid (plainOf s.data.toList = shorn (l.take q)) := Lib.hid (by rw [HS.out, shorn_cr l q hql hb])
              clear hb
              go_wp2_with fail
              go_roundw
              case rel => exact ⟨trivial, q, by omega, rfl, HN.out⟩
              case measure => simp [intOf] <;> omega
            · have t13 : ((l[q].toNat : Int) == 13) = false := by
                have : l[q].toNat ≠ 13 := fun e => hb (UInt8.toNat_inj.1 e)
                simp; omega
              have HN : Hid (plainOf s.data.toList = l.take (q + 1)) := Lib.hid (by rw [HS.out, shorn_end l q hql hb])
              clear hb
              go_wp2_with fail
              go_ret
              exact ⟨by rw [HN.out]; rfl, HO.out.below⟩
end Go.Proofs.YtbhfkhfnljddhaaDoor
