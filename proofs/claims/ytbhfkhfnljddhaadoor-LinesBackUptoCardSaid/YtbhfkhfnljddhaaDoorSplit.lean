/-
  lines.Split over the iterator.
-/
import Derived.Test.YtbhfkhfnljddhaaDoorRows
import Derived.Test.YtbhfkhfnljddhaaDoorBase2
import Derived.Test.YtbhfkhfnljddhaaDoorLines1
import Derived.Test.YtbhfkhfnljddhaaDoorEach
import Derived.Maps.AppendAt
namespace Go.Proofs.YtbhfkhfnljddhaaDoor
open Go.RowKit Go.Shelf
attribute [local go_sem] Oper.semAt_some

def lineV (pre : List (Int × ByteArray)) : List Value := pre.map fun x => .string x.2

set_option maxRecDepth 100000 in
set_option maxHeartbeats 2000000 in
theorem Split_any (s : ByteArray) (m : Int) (w : World) (h0 : 0 < w.heap.size) (hm : w.cell? ⟨0, 0, none⟩ = some (.int .i64 m)) :
    Calls Tryd.prog 26 #[.string s] w fun e W' => ∃ v, e = .returned (.tuple #[v, .int .i64 (if 65536 < s.size then 10 else 0)]) ∧
      W'.ownsRow w.heap.size 9 1 v (eachOf s.data.toList).length (lineV (eachOf s.data.toList)) ∧ Below w.heap.size w W' := by
  by_cases hbig : 65536 < s.size
  · have HE : Hid (eachOf s.data.toList = []) := Lib.hid (by rw [eachOf, if_pos (by rw [len_toList]; omega)])
    go_enter Tryd.func26, Tryd.ntmps26
    go_wp2_with fail
    refine bodyPost_ret (results_tmp2 rfl _ _ _) rfl ?_
    exact ⟨.slice none 0 0, by simp, by rw [HE.out]; exact World.ownsRow_nil _ _ _ _, Below.refl _ _⟩
  · have hlen := eachOf_len s.data.toList
    refine (callsIn_wide (n := 3)).1 ?_
    obtain ⟨i0, hi, hz0, hz1, hz2⟩ := info_parts str_info
    refine callsIn_of_wp_marks Tryd.func26 rfl trivial ?_ rfl
    simp only [Tryd.ntmps26, List.size_toArray, List.length_cons, List.length_nil, Nat.reduceAdd, Nat.reduceSub, Array.replicate_succ, Array.replicate_zero, List.push_toArray, List.append_toArray, List.nil_append, List.cons_append]
    gi_wp2_with (refine ⟨trivial, ?_⟩; gi_at_call 25; refine (Each_in _ _ _).mono ?_; rintro e w' ⟨rfl, rfl⟩)
    have bO := Boxed.new w 24 (.slice none 0 0)
    have bN := Boxed.new (w.alloc (.cells #[.slice none 0 0] 24)) 9 (.string s)
    rw [World.size_alloc] at bN
    have hB0 : Below w.heap.size w ((w.alloc (.cells #[.slice none 0 0] 24)).alloc (.cells #[.string s] 9)) := ((Below.refl _ w).alloc (Nat.le_refl _) _).alloc (by simp) _
    refine wpIn_rangeFunc_ownG rfl (by omega) (gf := 38) (lb := #[.pointer (some ⟨w.heap.size + 1, 0, none⟩)]) rfl trivial (enters_of Tryd.func38 (by kernel_rfl) rfl)
      (each_stops (3 - 1) (by omega) (w.heap.size + 1) w.heap.size s h0 m _ (by simp) bN.cell ((hB0.cell (p := ⟨0, 0, none⟩) h0).trans hm)) belowK_t (belowK_b (by simp; omega)) (Below.refl _ _) (fun _ => rfl)
      (fun pre W => (∃ v, Boxed W w.heap.size 24 v ∧ W.ownsRow w.heap.size 9 1 v pre.length (lineV pre) ∧ True) ∧ Below w.heap.size w W)
      (fun _ _ _ => False)
      (OwnFrom.and (_root_.Go.Own.from (holdsRow_own w.heap.size w.heap.size 24 9 1 (fun pre => pre.length) (fun pre => lineV pre) (fun pre v => True)) _) (ownFrom_below (Nat.le_refl _) (by simp; omega)))
      (fun _ _ _ _ _ hs _ _ => hs)
      ⟨⟨_, bO.alloc _, World.ownsRow_nil _ _ _ _, trivial⟩, hB0⟩
      (fun x => { tmps := #[.string s, undef, .slice none 0 0, .int .i64 0, .pointer (some ⟨w.heap.size, 0, none⟩), undef, .string x.2, .string s, .int .i64 s.size, .bool (decide (65536 < (s.size : Int))), .string s, .func (.func 38) #[] #[.pointer (some ⟨w.heap.size + 1, 0, none⟩)], .int .i64 x.1, .string x.2, undef, undef, undef, undef, undef], defers := [] }) ?assign ?body ?done ?stop
    case assign =>
      intro l x W K hK
      gi_wp2
      exact hK
    case body =>
      rintro l pre x W ⟨⟨v, hv, hrow, _⟩, hB⟩ hlt
      have hc := hv.cell
      gi_wp2_with (gi_at_builtin; refine wpListIn_append_own _ rfl _ _ 24 rfl w.heap.size 9 i0 (.string ByteArray.empty) 1 16 Tryd.underlying24 hi hz0 hz1 hz2 rfl (by decide) _ _ _ rfl (hrow.alloc _) ⟨W.heap.size, 0, none⟩ 1 1 [.string x.2] rfl rfl (cell_one_new _ _ _) (by simp [Value.oneCell']) (by unfold maxLen; omega) (by omega) (by have := hB.size; simp; omega) ?_; intro v' w1 hown' hgrow _; obtain ⟨g', cap', rfl⟩ := ownsRow_succ hown'; obtain ⟨hv1, hv2, hr2, hk2, hb2⟩ := hv.appended (by decide) hrow hB.size (Nat.le_refl _) hown' hgrow; have hc1 := hv1.cell; have hf1 := hv1.frozen)
      exact ⟨hk2.from _, hb2, ⟨_, hv2, by simpa [lineV] using hr2, trivial⟩, hB.trans hb2⟩
    case done =>
      rintro D ys W hD rfl ⟨⟨v, hv, hrow, _⟩, hB⟩ hK
      have hc := hv.cell
      gi_wp2
      refine ⟨by simp, .inl ⟨_, _, rfl, run_takeDeferred hK, ?_⟩⟩
      exact ⟨_, results_tmp2 rfl _ _ _, v, by simp, ownsRow_putObj hrow _ hK rfl, hB.trans (belowK_b (w := w) (Nat.le_refl _) W D _ _ (by simp at hD; omega) hK rfl rfl)⟩
    case stop =>
      rintro D c pre W _ _ h _
      exact h.elim
end Go.Proofs.YtbhfkhfnljddhaaDoor
