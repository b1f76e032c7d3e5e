/-
  The library's table of powers, out of what the row lists.
-/
import Derived.Test.YtbhfkhfnljddhaaDoorRows
import Derived.Test.YtbhfkhfnljddhaaDoorLines6
import Derived.WalkSmall
namespace Go.Proofs.YtbhfkhfnljddhaaDoor
open Go.RowKit

theorem vars_tab {W : World} {name : String} {k : IntKind} {zs : List Int} {rest : List (String × DataW Unit)} {g : Nat} {t e : TypeId} {n : Nat} {ps : List MemPlace}
    (hg : Tryd.prog.globalNamed name = some g) (hty : (Tryd.prog.globals[g]?).map (·.type) = some t) (ht : Tryd.prog.underlying t = some (.array n e)) (he : Tryd.prog.underlying e = some (.int k)) (hce : Tryd.prog.cellsOf e = 1) (hct : Tryd.prog.cellsOf t = n)
    (h : DataW.LaidVars Tryd.prog W ((name, Lib.tabData k zs) :: rest) ps) : Lib.TabIs Tryd.prog W name k zs := by
  obtain ⟨g', t', cs, fuel, p, q, hg', ht', hvar, hd, _, _⟩ := h
  obtain rfl := Option.some.inj (hg.symm.trans hg')
  obtain rfl := Option.some.inj (hty.symm.trans ht')
  unfold Lib.TabIs
  rw [hvar, ← Lib.cells_of_tab ht he hce hct hd]
theorem vars_tail {W : World} {x : String × DataW Unit} {rest : List (String × DataW Unit)} {ps : List MemPlace} (h : DataW.LaidVars Tryd.prog W (x :: rest) ps) : ∃ qs, DataW.LaidVars Tryd.prog W rest qs := by
  obtain ⟨g', t', cs, fuel, p, q, _, _, _, _, h2, _⟩ := h
  exact ⟨q, h2⟩
theorem powTab {W : World} (h : laidMetH Tryd.prog Rows.linesDecimalsRow.laid W) : PowTab W := by
  have h1 : laidMet Tryd.prog Rows.linesDecimalsRow.laid W := h
  obtain ⟨ps, h2, _⟩ := h1
  obtain ⟨qs, h3⟩ := vars_tail h2
  obtain ⟨rs, h4⟩ := vars_tail h3
  exact vars_tab (g := 1) (by kernel_rfl) (by kernel_rfl) Tryd.underlying106 Tryd.underlying91 (by kernel_rfl) (by kernel_rfl) h4
theorem PowTab.below {W W' : World} (h : PowTab W) (hb : Below W.heap.size W W') : PowTab W' := by
  have hg : Tryd.prog.globalNamed "internal/strconv.uint64pow10" = some 1 := by kernel_rfl
  have hc := h.cell hg 0 (by decide)
  exact var?_below hb hg (World.block_lt_of_cell? W _ hc) h
end Go.Proofs.YtbhfkhfnljddhaaDoor
