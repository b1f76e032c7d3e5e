/-
  The search for a byte among the edges of a state, by halves.
-/
import Derived.Test.YthfndmpigpphoaaGreatRows
import Derived.Test.YthfndmpigpphoaaGreatChk4
import Derived.Test.YthfndmpigpphoaaGreatJn4
namespace Go.Proofs.YthfndmpigpphoaaGreat
open Go.RowKit

set_option maxHeartbeats 1000000 in
theorem so_cmpE (x b : UInt8) (t d : Int) (w : World) (hd : (x.toNat : Int) - (b.toNat : Int) = d) :
    Calls Tryz.prog 101 #[.agg #[.int .u8 (x.toNat : Int), .int .i64 t], .int .u8 (b.toNat : Int)] w fun e w' => e = .returned (.int .i64 d) ∧ Below w.heap.size w w' := by
  have h1 := x.toNat_lt
  have h2 := b.toNat_lt
  go_enter Tryz.func101, Tryz.ntmps101
  go_wp2
  go_ret
  exact ⟨rfl, (Below.refl _ _).alloc (Nat.le_refl _) _⟩

theorem rise_at {es : List Ed} (h : es.Pairwise (fun a b => a.1.toNat < b.1.toNat)) {i j : Nat} (hij : i < j) (hj : j < es.length) : (es[i]'(by omega)).1.toNat < es[j].1.toNat := List.pairwise_iff_getElem.1 h i j (by omega) hj hij

set_option maxHeartbeats 4000000 in
set_option maxRecDepth 100000 in
theorem so_Search (v : Value) (es : List Ed) (b : UInt8) (w : World) (h : EdsAt w (fun _ => True) v es) (hr : es.Pairwise (fun a b => a.1.toNat < b.1.toNat)) (hn : es.length ≤ 256) :
    Calls Tryz.prog 100 #[v, .int .u8 (b.toNat : Int), .func (.func 101) #[] #[]] w fun e w' => ∃ (k : Nat) (ok : Bool), e = .returned (.tuple #[.int .i64 k, .bool ok]) ∧ Below w.heap.size w w' ∧
      ((ok = true ∧ ∃ hk : k < es.length, stepE es b = some es[k].2) ∨ (ok = false ∧ stepE es b = none)) := by
  obtain ⟨Ex, cap, rfl, hcap, hE⟩ := h
  have HE : Hid (∀ k (h : k < es.length), ∃ g o, Ex = some ⟨g, o, none⟩ ∧ g < w.heap.size ∧ w.cell? ⟨g, o + k * 2, none⟩ = some (.int .u8 (es[k].1.toNat : Int)) ∧ w.cell? ⟨g, o + k * 2 + 1, none⟩ = some (.int .i64 es[k].2)) := Lib.hid fun k hk => by
    obtain ⟨g, o, hA, hg, -, hc⟩ := hE.resolve_left (by omega)
    exact ⟨g, o, hA, hg, hc k hk⟩
  have HR : Hid (∀ (i j : Nat) (hij : i < j) (hj : j < es.length), (es[i]'(by omega)).1.toNat < es[j].1.toNat) := Lib.hid fun i j hij hj => rise_at hr hij hj
  clear hE hr
  go_enter Tryz.func100, Tryz.ntmps100
  go_wp2_with fail
  go_loopw [9, 10] (fun i j wr => ∃ p q : Nat, p ≤ q ∧ q ≤ es.length ∧ i = .int .i64 p ∧ j = .int .i64 q ∧ Hid (∀ m (h : m < es.length), m < p → es[m].1.toNat < b.toNat) ∧ Hid (∀ m (h : m < es.length), q ≤ m → b.toNat ≤ es[m].1.toNat) ∧ Hid (Below w.heap.size w wr)) (fun i j _ => (intOf j).toNat - (intOf i).toNat)
  case atStart => exact ⟨0, es.length, Nat.zero_le _, Nat.le_refl _, rfl, rfl, Lib.hid (fun m _ h => absurd h (Nat.not_lt_zero _)), Lib.hid (fun m h h' => by omega), Lib.hid (Below.refl _ _)⟩
  case round =>
    obtain ⟨p, q, hpq, hq, rfl, rfl, HP, HQ, HB⟩ := hrel
    by_cases hlt : p < q
    · obtain ⟨m, hm⟩ : ∃ m, (p + q) / 2 = m := ⟨_, rfl⟩
      have hm1 : p ≤ m ∧ m < q := by omega
      have hmI : ((p : Int) + (q : Int)) / 2 = (m : Int) := by omega
      have hml : m < es.length := by omega
      obtain ⟨g, o, rfl, hg, c0, c1⟩ := HE.out m hml
      have c0 := (HB.out.cell (p := ⟨g, _, none⟩) hg).trans c0
      have c1 := (HB.out.cell (p := ⟨g, _, none⟩) hg).trans c1
      have HRm := Lib.hid (fun j hij hj => HR.out m j hij hj)
      have HRl := Lib.hid (fun i h => HR.out i m h hml)
      obtain ⟨⟨x, t⟩, hxt⟩ : ∃ z, es[m]'hml = z := ⟨_, rfl⟩
      rw [hxt] at c0 c1
      dsimp only at c0 c1
      have HX := Lib.hid hxt
      have HM := Lib.hid hm
      clear hm hxt
      by_cases hx : x.toNat < b.toNat
      · have hdl : (x.toNat : Int) - (b.toNat : Int) < 0 := by omega
        obtain ⟨d, hd⟩ : ∃ d, (x.toNat : Int) - (b.toNat : Int) = d := ⟨_, rfl⟩
        rw [hd] at hdl
        have HD := Lib.hid hd
        clear hd
        go_wp2_with (go_at_call 101; refine (so_cmpE x b t d _ HD.out).mono ?_; rintro e w1 ⟨rfl, b1⟩; have HB1 := Lib.hid (HB.out.trans (b1.mono HB.out.size)); clear b1)
        go_roundw
        case rel =>
          refine ⟨m + 1, q, by omega, hq, by go_num, rfl, Lib.hid (fun j hj hjm => ?_), HQ, HB1⟩
          by_cases e : j = m
          · subst e; rw [HX.out]; exact hx
          · have := HRl.out j (by omega)
            rw [HX.out] at this
            exact Nat.lt_trans this hx
        case measure => simp [intOf]; omega
      · have hdl : ¬ ((x.toNat : Int) - (b.toNat : Int) < 0) := by omega
        obtain ⟨d, hd⟩ : ∃ d, (x.toNat : Int) - (b.toNat : Int) = d := ⟨_, rfl⟩
        rw [hd] at hdl
        have HD := Lib.hid hd
        clear hd
        go_wp2_with (go_at_call 101; refine (so_cmpE x b t d _ HD.out).mono ?_; rintro e w1 ⟨rfl, b1⟩; have HB1 := Lib.hid (HB.out.trans (b1.mono HB.out.size)); clear b1)
        go_roundw
        case rel =>
          refine ⟨p, m, by omega, by omega, rfl, rfl, HP, Lib.hid (fun j hj hjm => ?_), HB1⟩
          by_cases e : j = m
          · subst e; rw [HX.out]; dsimp only; omega
          · have := HRm.out j (by omega) hj
            rw [HX.out] at this
            dsimp only at this
            omega
        case measure => simp [intOf]; omega
    · obtain rfl : p = q := by omega
      by_cases hpl : p < es.length
      · obtain ⟨g, o, rfl, hg, c0, c1⟩ := HE.out p hpl
        have c0 := (HB.out.cell (p := ⟨g, _, none⟩) hg).trans c0
        have c1 := (HB.out.cell (p := ⟨g, _, none⟩) hg).trans c1
        have HRm := Lib.hid (fun j hij hj => HR.out p j hij hj)
        have HXb := Lib.hid (HQ.out p hpl (Nat.le_refl _))
        obtain ⟨⟨x, t⟩, hxt⟩ : ∃ z, es[p]'hpl = z := ⟨_, rfl⟩
        rw [hxt] at c0 c1
        dsimp only at c0 c1
        have HX := Lib.hid hxt
        clear hxt
        by_cases hx : x = b
        · have hd0 : (x.toNat : Int) - (b.toNat : Int) = 0 := by rw [hx]; omega
          have HD := Lib.hid hd0
          have HS : Hid (stepE es b = some es[p].2) := Lib.hid (stepE_hit hpl (by rw [HX.out]; exact hx) (fun j hj e => by
            have := HP.out j (by omega) hj
            rw [e] at this; omega))
          clear hd0 hx
          go_wp2_with (go_at_call 101; refine (so_cmpE x b t 0 _ HD.out).mono ?_; rintro e w1 ⟨rfl, b1⟩; have HB1 := Lib.hid (HB.out.trans (b1.mono HB.out.size)); clear b1)
          go_ret2
          exact ⟨p, true, rfl, HB1.out, .inl ⟨rfl, hpl, HS.out⟩⟩
        · have hxn : x.toNat ≠ b.toNat := fun e => hx (UInt8.toNat_inj.1 e)
          obtain ⟨d, hd⟩ : ∃ d, (x.toNat : Int) - (b.toNat : Int) = d := ⟨_, rfl⟩
          have hdn : (d == 0) = false := by rw [beq_eq_false_iff_ne]; omega
          have HD := Lib.hid hd
          have HS : Hid (stepE es b = none) := Lib.hid (stepE_miss (fun j hj e => by
            by_cases h1 : j < p
            · have := HP.out j hj h1
              rw [e] at this; omega
            · by_cases h2 : j = p
              · subst h2
                rw [HX.out] at e
                exact hx e
              · have h3 := HRm.out j (by omega) hj
                have h4 := HXb.out
                rw [e] at h3
                rw [HX.out] at h3 h4
                dsimp only at h3 h4
                omega))
          clear hd hx hxn
          go_wp2_with (go_at_call 101; refine (so_cmpE x b t d _ HD.out).mono ?_; rintro e w1 ⟨rfl, b1⟩; have HB1 := Lib.hid (HB.out.trans (b1.mono HB.out.size)); clear b1)
          go_ret2
          exact ⟨p, false, rfl, HB1.out, .inr ⟨rfl, HS.out⟩⟩
      · have HS : Hid (stepE es b = none) := Lib.hid (stepE_miss (fun j hj e => by
          have := HP.out j hj (by omega)
          rw [e] at this; omega))
        go_wp2_with fail
        go_ret2
        exact ⟨p, false, rfl, HB.out, .inr ⟨rfl, HS.out⟩⟩
end Go.Proofs.YthfndmpigpphoaaGreat
