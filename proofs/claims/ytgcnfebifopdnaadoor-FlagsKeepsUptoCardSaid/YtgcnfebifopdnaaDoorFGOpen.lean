/-
  Groups of flags among the arguments, opened; what the bound on their bulk gives.
-/
import Derived.Test.YtgcnfebifopdnaaDoorRows
import Derived.Test.YtgcnfebifopdnaaDoorFLOpen
import Derived.Test.YtgcnfebifopdnaaDoorGB
import Derived.Deep.Slices
namespace Go.Proofs.YtgcnfebifopdnaaDoor
open Go.ChangeShapes Go.WideShapes Go.ChangeAt Go.RowKit Go.Deep

theorem bulk_lits {H : Type} (k : IntKind) (zs : List Int) : Rows.uptoBulkAll (lits (H := H) k zs) = zs.length := by
  induction zs with
  | nil => simp [lits, Rows.uptoBulkAll]
  | cons s ss ih =>
    have e : lits (H := H) k (s :: ss) = .lit (.int k s) :: lits k ss := rfl
    rw [e]
    simp only [Rows.uptoBulkAll, Rows.uptoBulk, ih, List.length_cons]; omega

set_option maxRecDepth 100000 in
/-- A slice of flags that lies in one cell. -/
theorem open_flags_cs {H : Type} {enc : TypeId × Value → H} {W : World} {v : Value} {x : DataW H × List MemPlace} {fuel : Nat}
    (hf : DataW.trod enc Tryd.prog W 0 (fun _ => true) true fuel 22 [v] = some x) :
    ∃ zs : List Int, FS W v zs ∧ zs.length + 1 ≤ Rows.uptoBulk x.1 ∧ ∀ x ∈ zs, 0 ≤ x ∧ x ≤ 65535 := by
  rcases open_ints Tryd.underlying22 Tryd.underlying34 cells_flag hf with ⟨hcs, hx⟩ | ⟨a, len, cap, zs, hcs, _, hl, hm, hz, hx, hcell, hws⟩
  · obtain rfl : v = .slice none 0 0 := by simpa using hcs
    exact ⟨[], ⟨none, 0, rfl, Nat.le_refl _, .inl rfl⟩, by rw [hx]; simp [Rows.uptoBulk], by simp⟩
  · obtain rfl : v = .slice (some a) len cap := by simpa using hcs
    simp only [if_true] at hz
    have hlen : (zs.take len).length = len := by rw [List.length_take]; omega
    refine ⟨zs.take len, ⟨some a, cap, by rw [hlen], by omega, ?_⟩, ?_, fun x hx => ?_⟩
    · rcases Nat.eq_zero_or_pos len with h0 | h0
      · exact .inl (by omega)
      · right
        have c0 := hcell 0 (by omega)
        have e0 : a.add 0 = a := by simp [Addr.add]
        rw [e0] at c0
        have ha := addr_plain c0
        refine ⟨a.block, a.off, by rw [← ha], fun j hj => ?_⟩
        have hjl : j < len := by omega
        have cj := hcell j (by omega)
        rw [ha, addr_add] at cj
        rw [cj]
        simp [List.getD, hjl]
    · rw [hx]
      simp only [Rows.uptoBulk, bulk_lits]
      omega
    · have := hws x (List.mem_of_mem_take hx)
      simp [Lit.wf, IntKind.min, IntKind.max, IntKind.signed, IntKind.bits] at this
      omega

set_option maxRecDepth 100000 in
/-- Flags among the arguments, bounded by their bulk. -/
theorem open_flagsU_ {H : Type} {enc : TypeId × Value → H} {W : World} {base : Nat} {v : Value} {d : DataW H} {p : List MemPlace} (hval : Value.okWide Tryd.prog W .any base 22 v)
    (h : DataW.Trod enc Tryd.prog W 0 (fun _ => true) true 22 v d p) : ∃ zs : List Int, FS W v zs ∧ zs.length + 1 ≤ Rows.uptoBulk d ∧ ∀ x ∈ zs, 0 ≤ x ∧ x ≤ 65535 := by
  obtain ⟨a0, len, cap, rfl⟩ := okWide_slice Tryd.underlying22 hval
  obtain ⟨fuel, hf⟩ := h
  exact open_flags_cs hf

theorem flag_bd {f : Int} (h : (Lit.int .u16 f).wf = true) : 0 ≤ f ∧ f ≤ 65535 := by
  simp [Lit.wf, IntKind.min, IntKind.max, IntKind.signed, IntKind.bits] at h
  omega

theorem pick_groups {α : Type} {p : Nat → α → Prop} : ∀ n : Nat, (∀ k, k < n → ∃ a, p k a) → ∃ l : List α, l.length = n ∧ ∀ k (h : k < l.length), p k l[k]
  | 0, _ => ⟨[], rfl, fun k h => absurd h (Nat.not_lt_zero _)⟩
  | n + 1, h => by
    obtain ⟨l, hl, hp⟩ := pick_groups n (fun k hk => h k (by omega))
    obtain ⟨a, ha⟩ := h n (by omega)
    refine ⟨l ++ [a], by simp [hl], fun k hk => ?_⟩
    by_cases e : k < l.length
    · rw [List.getElem_append_left e]; exact hp k e
    · have : k = n := by simp at hk; omega
      subst this
      rw [List.getElem_append_right (by omega)]
      simp only [hl, Nat.sub_self, List.getElem_cons_zero]
      exact ha
theorem bulk_groups {H : Type} (D : Nat → DataW H) : ∀ (gs : List (Value × List Int)) (k0 : Nat), (∀ k (h : k < gs.length), gs[k].2.length + 1 ≤ Rows.uptoBulk (D (k0 + k))) →
    gs.length + (joinG gs).length ≤ Rows.uptoBulkAll ((List.range' k0 gs.length).map D)
  | [], k0, _ => by simp [joinG]
  | g :: gs, k0, h => by
    have h0 := h 0 (by simp)
    have ih := bulk_groups D gs (k0 + 1) (fun k hk => by
      have := h (k + 1) (by simpa using hk)
      rw [show k0 + (k + 1) = k0 + 1 + k by omega] at this
      simpa using this)
    simp only [List.length_cons, List.range'_succ, List.map_cons, Rows.uptoBulkAll, joinG, List.flatMap_cons, List.length_append] at *
    simp only [List.getElem_cons_zero, Nat.add_zero] at h0
    omega

theorem cells_set : Tryd.prog.cellsOf 22 = 1 := by kernel_rfl
set_option maxRecDepth 100000 in
theorem open_groups_ {H : Type} {enc : TypeId × Value → H} {W : World} {base : Nat} {v : Value} {d : DataW H} {p : List MemPlace} (hval : Value.okWide Tryd.prog W .any base 39 v)
    (h : DataW.Trod enc Tryd.prog W 0 (fun _ => true) true 39 v d p) :
    ∃ gs : List (Value × List Int), GS W v gs ∧ gs.length + (joinG gs).length ≤ Rows.uptoBulk d ∧ ∀ g ∈ gs, ∀ x ∈ g.2, 0 ≤ x ∧ x ≤ 65535 := by
  obtain ⟨a0, len, cap, rfl⟩ := okWide_slice Tryd.underlying39 hval
  obtain ⟨fuel, hf⟩ := h
  rcases open_slice1 Tryd.underlying39 cells_set hf with ⟨hcs, hx⟩ | ⟨a, len', cap', m, n, V, D, Pl, hcs, _, hl, hm, hmm, hx, hi⟩
  · simp only [Value.cells, List.cons.injEq, and_true, Value.slice.injEq] at hcs
    obtain ⟨rfl, rfl, rfl⟩ := hcs
    exact ⟨[], ⟨none, 0, rfl, .inl rfl, by simp⟩, by simp [joinG], by simp⟩
  · simp only [Value.cells, List.cons.injEq, and_true, Value.slice.injEq] at hcs
    obtain ⟨rfl, rfl, rfl⟩ := hcs
    simp only [if_true] at hmm
    subst hmm
    obtain ⟨gs, hgl, hgs⟩ := pick_groups (α := Value × List Int) (p := fun k g => g.1 = V k ∧ FS W g.1 g.2 ∧ g.2.length + 1 ≤ Rows.uptoBulk (D k) ∧ ∀ x ∈ g.2, 0 ≤ x ∧ x ≤ 65535) len (fun k hk => by
      obtain ⟨_, ht⟩ := hi k (by omega)
      obtain ⟨zs, h1, h2, h3⟩ := open_flags_cs ht
      exact ⟨(V k, zs), rfl, h1, h2, h3⟩)
    have hd : d = .slice ((List.range len).map D) ((List.range (m - len)).map fun j => D (len + j)) := (Prod.mk.inj hx).1
    refine ⟨gs, ⟨some a, _, by rw [hgl], ?_, fun g hg => ?_⟩, ?_, fun g hg => ?_⟩
    · rcases Nat.eq_zero_or_pos len with h0 | h0
      · exact .inl (by omega)
      · right
        obtain ⟨c0, _⟩ := hi 0 (by omega)
        have e0 : a.add 0 = a := by simp [Addr.add]
        rw [e0] at c0
        have ha := addr_plain c0
        refine ⟨a.block, a.off, by rw [← ha], fun j hj => ?_⟩
        obtain ⟨cj, _⟩ := hi j (by omega)
        rw [ha, addr_add] at cj
        rw [cj, (hgs j hj).1]
    · obtain ⟨k, hk, rfl⟩ := List.getElem_of_mem hg
      exact (hgs k hk).2.1
    · have := bulk_groups D gs 0 (fun k hk => by rw [Nat.zero_add]; exact (hgs k hk).2.2.1)
      rw [hgl, ← List.range_eq_range'] at this
      rw [hd, Rows.uptoBulk]
      omega
    · obtain ⟨k, hk, rfl⟩ := List.getElem_of_mem hg
      exact (hgs k hk).2.2.2
end Go.Proofs.YtgcnfebifopdnaaDoor
