/-
  The law's copies of rows.
-/
import Derived.Test.YtbhfkhfnljddhaaDoorRows
import Derived.Test.YtbhfkhfnljddhaaDoorSH0
import Derived.Test.YtbhfkhfnljddhaaDoorApp
namespace Go.Proofs.YtbhfkhfnljddhaaDoor
open Go.RowKit

/-- append of a slice's elements onto nil, nil or not. -/
theorem wpList_append_onto_nil {P : Program} {w : World} {ops : Array Oper} {rest : List Oper} {o : Oper} {a : Act} {Q : Exit → Act → World → Prop} (hgd : o.guard = none) (s x : Operand) (t : TypeId)
    (ho : o.op = .call { callee := .builtin .append, args := #[s, x], argTypes := #[t, t] })
    (base : Nat) (e : TypeId) (i : TypeInfo) (z : Value) (bytes : Nat) (ht : P.underlying t = some (.slice e)) (hi : P.info? e = some i) (hz : i.zero = some z)
    (hsize : i.size = 1) (hby : i.bytes = bytes) (hzs : z.cells.size = 1) (hs : a.eval s = .slice none 0 0)
    (A : Option Addr) (m c : Nat) (news : List Value) (hx : a.eval x = .slice A m c) (hl : news.length = m) (hr : m = 0 ∨ ∃ ad, A = some ad ∧ ∀ j u, news[j]? = some u → w.cell? (ad.add j) = some u) (h1 : ∀ u ∈ news, u.oneCell' = true)
    (h63 : m ≤ maxLen) (hbytes : m * bytes ≤ 140737488355328) (hbase : base ≤ w.heap.size)
    (h : ∀ A' c' w', w'.ownsRow base e 1 (.slice A' m c') m news → Below w.heap.size w w' → wpList P ops Q rest (a.put o.dst (.slice A' m c')) w') :
    wpList P ops Q (o :: rest) a w := by
  refine wpList_plain hgd fun K hK => ?_
  obtain ⟨v', w', hrun, h2, h3, _⟩ := run_append_src (P := P) w base t o.type e i z 1 bytes ht hi hz hsize hby hzs (by decide) (.slice none 0 0) 0 [] (World.ownsRow_nil _ _ _ _) A m c news (by rw [Nat.mul_one]; exact hl) hr h1 (by omega) (by rw [Nat.zero_add]; exact hbytes) hbase
  rw [Nat.zero_add, List.nil_append] at h2
  have hb : Below w.heap.size w w' := (Below.refl _ _).grown h3 (Nat.le_refl _) (fun k e => by cases e)
  unfold Oper.wp execOp
  simp only [ho, resolve, invoke, builtin, Sem.run_bind, Sem.run_pure, Result.andThen_ok, List.map_toArray, List.map_cons, List.map_nil, hs, hx, hrun]
  have hv : ∃ A' c', v' = .slice A' m c' := by
    rcases h2.2 with ⟨rfl, rfl⟩ | ⟨g, cap, cur, rfl, _⟩
    · exact ⟨_, _, rfl⟩
    · exact ⟨_, _, rfl⟩
  obtain ⟨A', c', rfl⟩ := hv
  exact hK _ _ (h A' c' w' h2 hb)

theorem strs_info : (Tryd.prog.info? 24).map (fun i => (i.zero, i.size, i.bytes)) = some (some (.slice none 0 0), 1, 24) := by kernel_rfl
def copiesRead (W : World) (cs : List (Value × List ByteArray)) : Prop := ∀ x ∈ cs, RdT W 9 x.1 x.2.length (strV x.2)
theorem copiesRead.keep {W W' : World} {cs : List (Value × List ByteArray)} (h : copiesRead W cs) (hb : Below W.heap.size W W') : copiesRead W' cs := fun x hx => (h x hx).keep hb
theorem copiesRead.push {W W' : World} {cs : List (Value × List ByteArray)} {B n : Nat} {v : Value} {xs : List Value} (h : copiesRead W cs) (ho : W.ownsRow B 24 1 v n xs) (hg : W.grownBy W' v.ownBlock) : copiesRead W' cs := fun x hx =>
  (h x hx).kept hg (fun k ek => by
    rcases ho.2 with ⟨rfl, _⟩ | ⟨g, cap, cur, rfl, _, hgb, _⟩
    · simp [Value.ownBlock] at ek
    · obtain rfl : g = k := by simpa [Value.ownBlock] using ek
      exact ⟨_, hgb, by rintro c f e'; injection e' with _ h; exact absurd h (by decide)⟩)
theorem RS.of_own {W : World} {B : Nat} {v : Value} {cs : List (Value × List ByteArray)} (h : W.ownsRow B 24 1 v cs.length (cs.map (·.1))) (hr : copiesRead W cs) : RS W v cs := by
  obtain ⟨_, A, cap, hv, hc, h2⟩ := Rd.of_own h
  refine ⟨A, cap, hv, hc, h2.imp id ?_, fun x hx => (hr x hx).rd⟩
  rintro ⟨g, o, hA, h3⟩
  exact ⟨g, o, hA, fun j hj => h3 j _ (by simp [hj])⟩

set_option maxHeartbeats 4000000 in
set_option maxRecDepth 100000 in
theorem copied_any (g : Value) (gs : List (Value × List ByteArray)) (w : World) (h : RS w g gs) (hb : gs.length + sumR (rowsV gs) ≤ 1048576) :
    Calls Tryd.prog 32 #[g] w fun e w' => ∃ v cs, e = .returned v ∧ RS w' v cs ∧ rowsV cs = rowsV gs ∧ Below w.heap.size w w' := by
  obtain ⟨i0, hi, hz0, hz1, hz2⟩ := info_parts str_info
  obtain ⟨j0, hj, hy0, hy1, hy2⟩ := info_parts strs_info
  have hkb : gs.length ≤ 1048576 := by omega
  have HBk : Hid (∀ k (h : k < gs.length), gs[k].2.length ≤ 1048576) := Lib.hid fun k hk => by
    have h1 := sumR_at (rowsV gs) k (by simpa using hk)
    have h2 : (rowsV gs)[k]'(by simpa using hk) = gs[k].2 := by simp [rowsV]
    rw [h2] at h1
    have := bulkS_len gs[k].2
    omega
  obtain ⟨p, c, rfl, -, h1, h2⟩ := h
  have HC : Hid (∀ k (h : k < gs.length), ∃ b off, p = some ⟨b, off, none⟩ ∧ w.cell? ⟨b, off + k, none⟩ = some gs[k].1) := Lib.hid fun k hk => by
    obtain ⟨b, off, hp, hc⟩ := h1.resolve_left (by omega)
    exact ⟨b, off, hp, hc k hk⟩
  have HR : Hid (∀ k (h : k < gs.length), Rd w 1 gs[k].1 gs[k].2.length (strV gs[k].2)) := Lib.hid fun k hk => h2 _ (List.getElem_mem _)
  clear h1 h2 hb
  go_enter Tryd.func32, Tryd.ntmps32
  go_wp2_with fail
  go_loopw [3, 8] (fun v i W => ∃ (k : Nat) (cs : List (Value × List ByteArray)), k ≤ gs.length ∧ i = .int .i64 k ∧ cs.length = k ∧ Hid (rowsV cs = (rowsV gs).take k) ∧ Hid (Own w W 24 1 v cs.length (cs.map (·.1))) ∧ Hid (copiesRead W cs)) (fun _ i _ => gs.length - (intOf i).toNat)
  case atStart => exact ⟨0, [], Nat.zero_le _, rfl, rfl, Lib.hid rfl, Lib.hid (Own.nil_ w _ _), Lib.hid (by intro x hx; cases hx)⟩
  case round =>
    obtain ⟨k, cs, hk, rfl, hcl, HV, HO, HK⟩ := hrel
    have HCl := Lib.hid hcl
    clear hcl
    by_cases hlt : k < gs.length
    · obtain ⟨b, off, rfl, hc0⟩ := HC.out k hlt
      have hc := (HO.out.below.cell (World.block_lt_of_cell? _ _ hc0)).trans hc0
      have hlr := HBk.out k hlt
      obtain ⟨hl1, A, cap, hv, hcap, ha⟩ := (HR.out k hlt).keep HO.out.below
      have HV2 : Hid (∀ u : Value, rowsV (cs ++ [(u, gs[k].2)]) = (rowsV gs).take (k + 1)) := Lib.hid fun u => by
        rw [List.take_succ_eq_append_getElem (by simpa using hlt), ← HV.out]
        simp [rowsV]
      obtain ⟨r, hr⟩ : ∃ r, gs[k].2 = r := ⟨_, rfl⟩
      rw [hr] at hl1 hv ha hlr HV2 hcap
      rw [hv] at hc
      have HA : Hid (r.length = 0 ∨ ∃ ad, A = some ad ∧ ∀ j u, (strV r)[j]? = some u → wr.cell? (ad.add j) = some u) := Lib.hid (ha.imp id (by
        rintro ⟨g, o, hA, h3⟩
        refine ⟨_, hA, fun j u hj => ?_⟩
        rw [show (⟨g, o, none⟩ : Addr).add j = ⟨g, o + j, none⟩ from by unfold Addr.add; split <;> simp_all]
        exact h3 j u hj))
      have HL1 := Lib.hid hl1
      clear hc0 ha hr hv hl1
      obtain ⟨wo, hwo⟩ : ∃ wo : World, wr = wo := ⟨_, rfl⟩
      simp only [hwo] at hc HA HO HK ⊢
      clear hwo
      go_wp2_with first
        | (at_builtin; refine wpList_push1 rfl _ _ 60 rfl w.heap.size 24 j0 (.slice none 0 0) 24 Tryd.underlying60 hj hy0 hy1 hy2 rfl _ _ _ rfl HO2.out.own _ rfl rfl (by have := HCl.out; unfold maxLen; omega) (by have := HCl.out; omega) HO2.out.size ?_; intro gg cap5 w5 hown hg5; have HO3 := Lib.hid (HO2.out.push hown hg5); have HK3 := Lib.hid (HK2.out.push HO2.out.own hg5); have HN3 := Lib.hid (copiesRead.push (cs := [(Value.slice A2 r.length c2, r)]) (by intro x hx; rw [List.mem_singleton.1 hx]; exact HN.out) HO2.out.own hg5); clear hown hg5)
        | (at_builtin; refine wpList_append_onto_nil rfl _ _ 24 rfl w.heap.size 9 i0 (.string ByteArray.empty) 16 Tryd.underlying24 hi hz0 hz1 hz2 rfl rfl A r.length cap (strV r) rfl (strV_len r) HA.out (by intro u hu; unfold strV at hu; obtain ⟨s, _, rfl⟩ := List.mem_map.1 hu; rfl) (by unfold maxLen; omega) (by omega) HO.out.size ?_; intro A2 c2 w2 hown2 hb2; have HO2 := Lib.hid (HO.out.call hb2); have HK2 := Lib.hid (HK.out.keep hb2); have HN := Lib.hid (RdT.of_own hown2); clear hown2 hb2)
      go_roundw
      case rel =>
        refine ⟨k + 1, cs ++ [(.slice A2 r.length c2, r)], by omega, by go_num, by simp [HCl.out], Lib.hid (HV2.out _), Lib.hid ?_, Lib.hid ?_⟩
        · have h5 := HO3.out
          simpa using h5
        · intro x hx
          rcases List.mem_append.1 hx with h | h
          · exact HK3.out x h
          · exact HN3.out x h
      case measure => simp [intOf]; omega
    · obtain rfl : k = gs.length := by omega
      go_wp2_with fail
      go_ret
      exact ⟨_, cs, rfl, RS.of_own HO.out.own HK.out, by rw [HV.out, List.take_of_length_le (by simp)], HO.out.below⟩
end Go.Proofs.YtbhfkhfnljddhaaDoor
