/-
  A slice of flags among the arguments, opened.
-/
import Derived.Test.YtgcnfebifopdnaaDoorRows
import Derived.Test.YtgcnfebifopdnaaDoorFrame
import Derived.Test.YtgcnfebifopdnaaDoorGA
import Derived.ChangeSlices
import Derived.SizedLaws
namespace Go.Proofs.YtgcnfebifopdnaaDoor
open Go.ChangeShapes Go.WideShapes Go.ChangeAt Go.RowKit

theorem addr_plain {w : World} {a : Addr} {v : Value} (h : w.cell? a = some v) : a = ⟨a.block, a.off, none⟩ := by
  obtain ⟨b, o, sp⟩ := a
  cases sp with
  | none => rfl
  | some s =>
    simp [World.cell?] at h
    split at h <;> simp at h
theorem addr_add (g o j : Nat) : (⟨g, o, none⟩ : Addr).add j = ⟨g, o + j, none⟩ := by unfold Addr.add; split <;> simp_all
theorem cells_flag : Tryd.prog.cellsOf 34 = 1 := by kernel_rfl
theorem bytes_flag : Tryd.prog.bytesOf 34 = 2 := by kernel_rfl
set_option maxRecDepth 100000 in
theorem open_flags_ {H : Type} {enc : TypeId × Value → H} {W : World} {base : Nat} {v : Value} {d : DataW H} {p : List MemPlace} (hval : Value.okWide Tryd.prog W .any base 22 v)
    (h : DataW.Trod enc Tryd.prog W 0 (fun _ => true) true 22 v d p) :
    ∃ zs : List Int, FS W v zs ∧ (zs = [] ∨ ∃ es sp : List (DataW H), d = .slice es sp ∧ es.length = zs.length) ∧ ∀ x ∈ zs, 0 ≤ x ∧ x ≤ 65535 := by
  obtain ⟨a0, len, cap, rfl⟩ := okWide_slice Tryd.underlying22 hval
  obtain ⟨fuel, hf⟩ := h
  rcases open_ints Tryd.underlying22 Tryd.underlying34 cells_flag hf with ⟨hcs, hx⟩ | ⟨a, len', cap', zs, hcs, _, hl, hm, hz, hx, hcell, hws⟩
  · simp only [Value.cells, List.cons.injEq, and_true, Value.slice.injEq] at hcs
    obtain ⟨rfl, rfl, rfl⟩ := hcs
    exact ⟨[], ⟨none, 0, rfl, Nat.le_refl _, .inl rfl⟩, .inl rfl, by simp⟩
  · simp only [Value.cells, List.cons.injEq, and_true, Value.slice.injEq] at hcs
    obtain ⟨rfl, rfl, rfl⟩ := hcs
    simp only [if_true] at hz
    have hd : d = .slice (lits .u16 (zs.take len)) (lits .u16 (zs.drop len)) := (Prod.mk.inj hx).1
    have hlen : (zs.take len).length = len := by rw [List.length_take]; omega
    refine ⟨zs.take len, ⟨some a, cap, by rw [hlen], by omega, ?_⟩, .inr ⟨_, _, hd, by simp [lits]⟩, fun x hx => ?_⟩
    · rcases Nat.eq_zero_or_pos len with h0 | h0
      · exact .inl (by omega)
      · right
        have c0 := hcell 0 (by omega)
        have e0 : a.add 0 = a := by simp [Addr.add]
        rw [e0] at c0
        have ha := addr_plain c0
        refine ⟨a.block, a.off, by rw [← ha], fun j hj => ?_⟩
        have hjl : j < len := by omega
        have cj := hcell j (by omega)
        rw [ha, addr_add] at cj
        rw [cj]
        simp [List.getD, hjl]
    · have := hws x (List.mem_of_mem_take hx)
      simp [Lit.wf, IntKind.min, IntKind.max, IntKind.signed, IntKind.bits] at this
      omega
set_option maxRecDepth 100000 in
theorem flags_reach {H : Type} {ts : List TypeId} {ds : List (DataW H)} {zs : List Int} {d : DataW H} (hsz : (DataW.weightsEach Tryd.prog ts ds).all (· ≤ reachBytes) = true) {j : Nat} (ht : ts[j]? = some 22) (hd : ds[j]? = some d)
    (h : zs = [] ∨ ∃ es sp : List (DataW H), d = .slice es sp ∧ es.length = zs.length) : zs.length * 2 ≤ 140737488351232 := by
  rcases h with rfl | ⟨es, sp, rfl, hl⟩
  · simp
  · have := sized_slice hsz ht hd Tryd.underlying22
    rw [bytes_flag] at this
    simp [reachBytes] at this
    omega
end Go.Proofs.YtgcnfebifopdnaaDoor
