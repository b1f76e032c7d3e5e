/-
  append onto an empty row, up to the memory's own bound; append that fits.
-/
import Derived.Test.YtgcnfebifopdnaaDoorRows
import Derived.Test.YtgcnfebifopdnaaDoorFLA
import Derived.Laws.OwnMore
namespace Go.Proofs.YtgcnfebifopdnaaDoor
open Go.RowKit

/-- An append onto an empty row: up to the memory's own bound. -/
theorem run_append_new {P : Program} (w : World) (base : Nat) (t ty e : TypeId) (i : TypeInfo) (z : Value) (bytes : Nat) (ht : P.underlying t = some (.slice e)) (hi : P.info? e = some i) (hz : i.zero = some z)
    (hsize : i.size = 1) (hby : i.bytes = bytes) (hzs : z.cells.size = 1) (g : Nat) (hown : w.ownsRow base e 1 (.slice (some ⟨g, 0, none⟩) 0 0) 0 []) (hbase : base ≤ w.heap.size)
    (A : Option Addr) (m c : Nat) (news : List Value) (hl : news.length = m) (hr : m = 0 ∨ ∃ ad, A = some ad ∧ ∀ j u, news[j]? = some u → w.cell? (ad.add j) = some u)
    (h63 : m ≤ maxLen) (hbytes : m * bytes ≤ 281474976710656) :
    ∃ v' w', (Builtin.append_ #[t, t] ty #[.slice (some ⟨g, 0, none⟩) 0 0, .slice A m c]).run P w = .ok v' w' ∧ w'.ownsRow base e 1 v' m news ∧ Below w.heap.size w w' := by
  rcases Nat.eq_zero_or_pos m with h0 | h0
  · subst h0
    have hn : news = [] := List.eq_nil_of_length_eq_zero hl
    subst hn
    exact ⟨_, w, run_append_zero w base t ty e i 1 ht hi _ 0 [] hown A c, hown, Below.refl _ _⟩
  · obtain ⟨ad, rfl, hc⟩ := hr.resolve_left (by omega)
    have hrun := run_append_grow (P := P) w t ty e i z ht hi hz ⟨g, 0, none⟩ 0 0 [] (by simp) (by simp) ad m c news (by rw [hsize]; omega) hc (by omega) (by simp only [maxLen] at h63; omega) (by rw [hby, Nat.zero_add, nextslicecap_zero h0]; exact hbytes)
    rw [Nat.zero_add] at hrun
    have hge := grownCap_ge w m 0 e
    refine ⟨_, _, hrun, ?_, ((Below.refl _ w).drew).alloc (Nat.le_refl _) _⟩
    refine ⟨by omega, .inr ⟨w.heap.size, _, _, rfl, hbase, heap_alloc_new w.drew _, hge, grownCap_le_maxLen w m 0 e h63, ?_, ?_⟩⟩
    · simp [size_zeroCells, hzs, hl]; omega
    · simp [hl]
/-- An append that fits. -/
theorem run_append_src_fits {P : Program} (w : World) (base : Nat) (t ty e : TypeId) (i : TypeInfo) (size : Nat) (ht : P.underlying t = some (.slice e)) (hi : P.info? e = some i) (hsize : i.size = size)
    (g k cap : Nat) (xs : List Value) (hown : w.ownsRow base e size (.slice (some ⟨g, 0, none⟩) k cap) k xs)
    (A : Option Addr) (m c : Nat) (news : List Value) (hl : news.length = m * size) (hr : m = 0 ∨ ∃ ad, A = some ad ∧ ∀ j u, news[j]? = some u → w.cell? (ad.add j) = some u) (h1 : ∀ u ∈ news, u.oneCell' = true) (hfit : k + m ≤ cap) :
    ∃ w', (Builtin.append_ #[t, t] ty #[.slice (some ⟨g, 0, none⟩) k cap, .slice A m c]).run P w = .ok (.slice (some ⟨g, 0, none⟩) (k + m) cap) w' ∧ w'.ownsRow base e size (.slice (some ⟨g, 0, none⟩) (k + m) cap) (k + m) (xs ++ news) ∧ w.grownBy w' (some g) := by
  rcases Nat.eq_zero_or_pos m with h0 | h0
  · subst h0
    have hn : news = [] := List.eq_nil_of_length_eq_zero (by simpa using hl)
    subst hn
    exact ⟨w, run_append_zero w base t ty e i size ht hi _ k xs hown A c, by simpa using hown, World.grownBy.refl w _⟩
  · obtain ⟨ad, rfl, hc⟩ := hr.resolve_left (by omega)
    exact run_append_fits (P := P) w base t ty e i size ht hi hsize g k cap xs hown ad m c news hl hc h1 hfit
end Go.Proofs.YtgcnfebifopdnaaDoor
