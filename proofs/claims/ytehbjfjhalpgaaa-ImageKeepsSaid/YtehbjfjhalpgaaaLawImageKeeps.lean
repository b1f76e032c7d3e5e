/-
  ImageKeeps holds of every book that the claim form reaches: what Decode answers is new memory.
-/
import Derived.Test.YtehbjfjhalpgaaaRows
import Derived.Test.YtehbjfjhalpgaaaIA
import Derived.Test.YtehbjfjhalpgaaaOpen3
import Derived.Test.YtehbjfjhalpgaaaIK2
import Derived.Deep.DeepHandedRow
import Derived.Lib.LaidTab
namespace Go.Proofs.Ytehbjfjhalpgaaa.imageKeeps
open Go.ChangeShapes Go.WideShapes Go.ChangeAt Go.RowKit
open Go.ChangeMaps (open_string shut_string)

/-- A world for the witness: the settled one, the listed variables holding what they are listed with. -/
noncomputable def laidWorld (os : Os) : World :=
  { (World.holding Try.prog os ⟨#[], #[], []⟩) with heap := (World.holding Try.prog os ⟨#[], #[], []⟩).heap }
theorem laid_met (os : Os) : laidMet Try.prog Rows.imageKeepsRow.laid ((laidWorld os).forCall (fun _ _ => 0) ⟨#[], #[Value.agg #[Value.int .i64 0, Value.string ByteArray.empty, Value.slice none 0 0, Value.slice none 0 0, Value.slice none 0 0, Value.slice none 0 0, Value.slice none 0 0]], []⟩).memory :=
  ⟨[], rfl, List.nodup_nil, fun _ _ h => by cases h⟩
theorem reads (os : Os) {H : Type} (enc : TypeId × Value → H) : ∃ places, DataW.whole enc Try.prog ((laidWorld os).forCall (fun _ _ => 0) ⟨#[], #[Value.agg #[Value.int .i64 0, Value.string ByteArray.empty, Value.slice none 0 0, Value.slice none 0 0, Value.slice none 0 0, Value.slice none 0 0, Value.slice none 0 0]], []⟩).memory Try.f8.params.toList Rows.imageKeepsSpec.vars false #[Value.agg #[Value.int .i64 0, Value.string ByteArray.empty, Value.slice none 0 0, Value.slice none 0 0, Value.slice none 0 0, Value.slice none 0 0, Value.slice none 0 0]].toList 8 = some ([.agg [.lit (.int .i64 0), .lit (.string []), .nil, .agg [.nil, .nil, .nil, .nil]]], [], places) :=
  ⟨[], by kernel_rfl⟩

set_option linter.unusedVariables false in
set_option maxRecDepth 100000 in
theorem contract (H : Type) (enc : TypeId × Value → H) (W : World) (base : Nat) (args : Array Value) (ds gs : List (DataW H)) (before : List MemPlace)
    (hval : ∀ (j : Nat) t v, Try.f8.params[j]? = some t → args[j]? = some v → Value.okWide Try.prog W .any base t v)
    (hW : DataW.Whole enc Try.prog Try.f8.params.toList Rows.imageKeepsSpec.vars false W args.toList ds gs before)
    (hsz : (DataW.weightsEach Try.prog (Try.f8.params.toList ++ Rows.imageKeepsSpec.plain.varTypes Try.prog) (ds ++ gs)).all (· ≤ reachBytes) = true)
    (hL : laidMetH Try.prog Rows.imageKeepsRow.laid W) (hsh : W.ShapedOpen Try.prog) :
    Calls Try.prog 8 args W fun e W' => ∃ v, e = .returned v ∧ Rows.imageKeepsSpec.post enc Try.prog Try.f8 false true false false W args v W' := by
  refine law_calls (by kernel_rfl) rfl rfl 1 rfl (fun ds hd => ?_) hW ?_
  · match ds, hd with
    | [d0], _ => rfl
  obtain ⟨p, q, hA0, hV, rfl, hfz, hnd⟩ := hW
  have hA : DataW.TrodAll enc Try.prog W 0 (fun _ => true) true Try.f8.params.toList args.toList ds p := hA0
  rw [Try.params8] at hA hval hsz
  obtain ⟨v0, vs0, d0, ds0, p0, q0, hargs, rfl, rfl, h0, r0⟩ := trodAll_cons hA
  obtain ⟨rfl, rfl, rfl⟩ := trodAll_nil r0
  obtain rfl : args = #[v0] := by cases args; simp_all
  obtain ⟨rfl, rfl⟩ := trodVars_none hV
  obtain ⟨b_n, b_t, b_vr, b_v0, b_v1, b_v2, b_v3, b_rs, b_As, rfl, b_at, b_small, b_t_le, b_rs_le⟩ := open_book (hval 0 26 v0 rfl rfl) h0 (fun m hm => of_decide_eq_true (List.all_eq_true.1 hsz _ (DataW.weights_mem_each (j := 0) (t := 26) rfl rfl _ hm)))
  exact keeps_walk _ _ _ _ _ _ _ _ _ W b_at b_small ⟨b_t_le, b_rs_le⟩

set_option maxRecDepth 100000 in
theorem lifted (os : Os) (started : os.Started) (H : Type) (enc : TypeId × Value → H) (F : Stop.Interp) :
    ReturnsInHanded {} Try.checked os 8 .any ((OpenSpec.ofChange Rows.imageKeepsSpec).preRow enc Try.prog Try.f8 Rows.imageKeepsRow.domain false Rows.imageKeepsRow.laid) (((OpenSpec.ofChange Rows.imageKeepsSpec).at F).post enc Try.prog Try.f8 false true false false) := by
  obtain ⟨places, hx⟩ := reads os enc
  refine returnsInHanded_of_row (C := Try.checked) (s := OpenSpec.ofChange Rows.imageKeepsSpec) own_ started (by kernel_rfl) Try.func8
    (witness_row_at (enc := enc) (C := Try.checked) false (laidWorld os) #[Value.agg #[Value.int .i64 0, Value.string ByteArray.empty, Value.slice none 0 0, Value.slice none 0 0, Value.slice none 0 0, Value.slice none 0 0, Value.slice none 0 0]] rfl (by kernel_rfl) (by kernel_rfl) (by kernel_rfl)
      (OpenSpec.preRow_of_cond 8 hx (by kernel_rfl) (fun k hk => by cases hk) (by kernel_rfl) (laid_met os))) ?_
  intro W base args ds gs before hval hW _ hcond hsz hL hsh _
  exact contract H enc W base args ds gs before hval hW hsz hL hsh

theorem said : Rows.ImageKeepsSaid :=
  OpenClaim.holds_of_cond 8 Try.f8 rfl rfl rfl rfl rfl rfl rfl ⟨rfl, rfl, rfl, rfl, rfl⟩ rfl rfl rfl rfl rfl (by kernel_rfl) Try.func8 (by kernel_rfl)
    (of_decide_eq_true (by kernel_rfl)) (by unfold Func.isWrapper; first | (rw [if_pos (by decide +kernel)]; kernel_rfl) | (rw [if_neg (by decide +kernel)]; exact ⟨rfl, rfl⟩))
    (fun os started H enc _ F => by rw [OpenClaim.pre_eq_preRow]; exact lifted os started H enc F)

theorem proved : Rows.ImageKeepsSaid := said
#print axioms proved
end Go.Proofs.Ytehbjfjhalpgaaa.imageKeeps
