/-
  The reference's Step, Accepts and Check walked.
-/
import Derived.Test.YthfndmpigpphoaaGreatRows
import Derived.Test.YthfndmpigpphoaaGreatChk1
namespace Go.Proofs.YthfndmpigpphoaaGreat
open Go.RowKit

def stepV (es : List Ed) (b : UInt8) : Int := match stepE es b with | some t => t | none => -1
/-- How many edges are taken. -/
def accN (A : List St) : Int → List UInt8 → Nat
  | _, [] => 0
  | n, b :: l => match stepE (A.getD n.toNat (false, [])).2 b with
    | none => 0
    | some t => accN A t l + 1

set_option maxHeartbeats 1000000 in
set_option maxRecDepth 100000 in
theorem so_rStep (v : Value) (A : List St) (q : Nat) (b : UInt8) (w : World) (h : AutAt w (fun _ => True) v A) (hq : q < A.length) :
    Calls Tryz.prog 68 #[v, .int .i64 q, .int .u8 (b.toNat : Int)] w fun e w' => e = .returned (.int .i64 (stepV (A.getD q (false, [])).2 b)) ∧ w' = w := by
  obtain ⟨Ad, cap, rfl, hcap, hA0⟩ := h
  obtain ⟨g, o, rfl, hg, -, hcs⟩ := hA0.resolve_left (by omega)
  obtain ⟨-, ev, e1, hE⟩ := hcs q hq
  have hget : A.getD q (false, []) = A[q] := by simp [List.getD, hq]
  rw [hget]
  obtain ⟨⟨fin, es⟩, hx⟩ : ∃ x, A[q] = x := ⟨_, rfl⟩
  rw [hx] at hE ⊢
  dsimp only at hE ⊢
  obtain ⟨Ex, capE, rfl, hcapE, hE0⟩ := hE
  have HE := Lib.hid hE0
  have hml : es.length ≤ 9223372036854775807 := by have := hcapE; unfold maxLen at this; omega
  clear hcs hE0 hx hget hA0
  go_enter Tryz.func68, Tryz.ntmps68
  go_wp2
  go_loop [7] (fun i => ∃ k : Nat, k ≤ es.length ∧ i = .int .i64 k ∧ Hid (∀ j (hj : j < es.length), j < k → es[j].1 ≠ b)) (fun i => es.length - (intOf i).toNat)
  case atStart => exact ⟨0, Nat.zero_le _, rfl, fun j _ hj => absurd hj (Nat.not_lt_zero _)⟩
  case round =>
    obtain ⟨k, hk, rfl, HN⟩ := hrel
    by_cases hlt : k < es.length
    · obtain ⟨g2, o2, rfl, hg2, -, hc⟩ := HE.out.resolve_left (by omega)
      have c0 := (hc k hlt).1
      have c1 := (hc k hlt).2
      have HX := Lib.hid (show ∀ x y, es[k] = (x, y) → x = b → stepV es b = y from fun x y hxy hx => by
        have := stepE_hit (b := b) hlt (by rw [hxy]; exact hx) (fun j hj => HN.out j (by omega) hj)
        rw [hxy] at this
        unfold stepV; rw [this])
      obtain ⟨x, t, hxt⟩ : ∃ x t, es[k] = (x, t) := ⟨_, _, rfl⟩
      rw [hxt] at c0 c1
      dsimp only at c0 c1
      have HXT := Lib.hid hxt
      clear hc hxt
      have qb := beq_byte x b
      cases hd : decide (x = b)
      · have HD := Lib.hid hd
        rw [hd] at qb
        clear hd
        go_wp2
        go_round
        case rel =>
          refine ⟨k + 1, by omega, by go_num, Lib.hid (fun j hj hjk => ?_)⟩
          by_cases e : j = k
          · subst e; rw [HXT.out]; exact of_decide_eq_false HD.out
          · exact HN.out j hj (by omega)
        case measure => simp [intOf]; omega
      · have HD := Lib.hid hd
        rw [hd] at qb
        clear hd
        go_wp2
        go_ret
        exact ⟨by rw [HX.out x t HXT.out (of_decide_eq_true HD.out)]; rfl, rfl⟩
    · have hke : k = es.length := by omega
      subst hke
      go_wp2
      go_ret
      exact ⟨by unfold stepV; rw [stepE_miss (fun j hj => HN.out j hj hj)]; rfl, rfl⟩

set_option maxHeartbeats 1000000 in
set_option maxRecDepth 100000 in
theorem so_Accepts (v : Value) (A : List St) (s : ByteArray) (w : World) (h : AutAt w (fun _ => True) v A) (hsh : shapeB A = true) (hs : s.size ≤ maxLen) :
    Calls Tryz.prog 41 #[v, .string s] w fun e w' => e = .returned (.tuple #[.bool (accB A s.data.toList), .int .i64 (accN A 0 s.data.toList : Nat)]) ∧ w' = w := by
  have HA := Lib.hid h
  have hs' : s.size ≤ 9223372036854775807 := by unfold maxLen at hs; exact hs
  obtain ⟨hlow, hp0, -⟩ := shape_low hsh
  have HL := Lib.hid hlow
  clear h hlow hsh
  obtain ⟨Ad, cap, rfl, hcap, hA0⟩ := HA.out
  obtain ⟨g, o, rfl, hg, -, hcs⟩ := hA0.resolve_left (by omega)
  have HC := Lib.hid (show ∀ k (h : k < A.length), w.cell? ⟨g, o + k * 2, none⟩ = some (.bool A[k].1) from fun k h => (hcs k h).1)
  clear hcs hA0
  go_enter Tryz.func41, Tryz.ntmps41
  go_wp2
  go_loop [6, 7] (fun a i => ∃ k q h : Nat, k ≤ s.size ∧ i = .int .i64 k ∧ a = .int .i64 q ∧ Hid (Low A h (q : Int)) ∧ Hid (alongGo A q (s.data.toList.drop k) = alongGo A 0 s.data.toList) ∧ Hid (k + accN A q (s.data.toList.drop k) = accN A 0 s.data.toList)) (fun _ i => s.size - (intOf i).toNat)
  case atStart => exact ⟨0, 0, A.length, Nat.zero_le _, rfl, rfl, HL, rfl, Lib.hid (by simp)⟩
  case round =>
    obtain ⟨k, q, h, hk, rfl, rfl, HLq, HG, HN⟩ := hrel
    have hql : q < A.length := by have := HLq.out.lt; simpa using this
    by_cases hlt : k < s.size
    · have hd := drop_cons s k hlt
      have hG : alongGo A q (s[k] :: s.data.toList.drop (k + 1)) = alongGo A 0 s.data.toList := by rw [← hd]; exact HG.out
      have hN : k + accN A q (s[k] :: s.data.toList.drop (k + 1)) = accN A 0 s.data.toList := by rw [← hd]; exact HN.out
      rw [alongGo] at hG
      rw [accN] at hN
      simp only [Int.toNat_natCast] at hG hN
      have hS := so_rStep _ A q s[k] w HA.out hql
      unfold stepV at hS
      cases hst : stepE (A.getD q (false, [])).2 s[k] with
      | none =>
        rw [hst] at hG hN hS
        dsimp only at hG hN hS
        have HGG := Lib.hid hG
        have HNN := Lib.hid hN
        have HS := Lib.hid hS
        clear hG hN hS hst hd
        go_wp2_with (go_at_call 68; refine HS.out.mono ?_; rintro e w' ⟨rfl, rfl⟩)
        go_ret2
        refine ⟨?_, rfl⟩
        have e1 := HGG.out
        have e2 := HNN.out
        unfold accB
        rw [← e1, ← e2]
        simp
      | some t =>
        rw [hst] at hG hN hS
        dsimp only at hG hN hS
        have hlt' : ∃ h', h = h' + 1 := by
          cases h with
          | zero => exact absurd HLq.out (by intro hh; cases hh)
          | succ h' => exact ⟨h', rfl⟩
        obtain ⟨h', rfl⟩ := hlt'
        have hlow := HLq.out.step (t := t) (b := s[k]) (by simpa using hst)
        obtain ⟨q', rfl⟩ : ∃ q' : Nat, t = q' := ⟨t.toNat, (Int.toNat_of_nonneg hlow.nn).symm⟩
        have HGG := Lib.hid hG
        have HNN := Lib.hid hN
        have HS := Lib.hid hS
        have HLL := Lib.hid hlow
        clear hG hN hS hst hd hlow
        go_wp2_with (go_at_call 68; refine HS.out.mono ?_; rintro e w' ⟨rfl, rfl⟩)
        go_round
        case rel => exact ⟨k + 1, q', h', by omega, by go_num, rfl, HLL, HGG, Lib.hid (by have := HNN.out; omega)⟩
        case measure => simp [intOf]; omega
    · have hke : k = s.size := by omega
      subst hke
      have hda := drop_all s
      have hfin : A.getD q (false, []) = A[q] := by simp [List.getD, hql]
      have c0 := HC.out q hql
      have e1 : alongGo A 0 s.data.toList = some (q : Int) := by rw [← HG.out, hda]; rfl
      have e2 : accN A 0 s.data.toList = s.size := by rw [← HN.out, hda]; rfl
      have e3 : accB A s.data.toList = A[q].1 := by unfold accB; rw [e1]; show (A.getD (q : Int).toNat (false, [])).1 = _; rw [Int.toNat_natCast, hfin]
      have HE := Lib.hid e3
      have HE2 := Lib.hid e2
      clear hda hfin e1 e2 e3
      go_wp2
      go_ret2
      exact ⟨by rw [HE.out, HE2.out]; rfl, rfl⟩
end Go.Proofs.YthfndmpigpphoaaGreat
