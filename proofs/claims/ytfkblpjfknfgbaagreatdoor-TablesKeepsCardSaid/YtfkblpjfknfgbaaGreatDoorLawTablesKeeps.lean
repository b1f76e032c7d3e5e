/-
  TablesKeeps: whatever the texts: SplitRefs and ExpandTables read but do not write; the inputs and the tables read as they did.
-/
import Derived.Test.YtfkblpjfknfgbaaGreatDoorRows
import Derived.Test.YtfkblpjfknfgbaaGreatDoorCards
import Derived.Test.YtfkblpjfknfgbaaGreatDoorTie
import Derived.Test.YtfkblpjfknfgbaaGreatDoorS1
import Derived.Test.YtfkblpjfknfgbaaGreatDoorK1
import Derived.Deep.DeepHandedRow
import Derived.Lib.LaidTab
namespace Go.Proofs.YtfkblpjfknfgbaaGreatDoor.tablesKeeps
open Go.ChangeShapes Go.WideShapes Go.ChangeAt Go.RowKit
open Go.ChangeMaps (open_string shut_string)

/-- A world for the witness: the settled one, the listed variables holding what they are listed with. -/
noncomputable def laidWorld (os : Os) : World :=
  { (World.holding Tryz.prog os ⟨#[],#[],[]⟩) with heap:=(((World.holding Tryz.prog os ⟨#[],#[],[]⟩).heap.modify 3 fun
      | .cells _ t frozen=>.cells #[.int .u8 128,.int .u8 191,.int .u8 160,.int .u8 191,.int .u8 128,.int .u8 159,.int .u8 144,.int .u8 191,.int .u8 128,.int .u8 143,.int .u8 0,.int .u8 0,.int .u8 0,.int .u8 0,.int .u8 0,.int .u8 0,.int .u8 0,.int .u8 0,.int .u8 0,.int .u8 0,.int .u8 0,.int .u8 0,.int .u8 0,.int .u8 0,.int .u8 0,.int .u8 0,.int .u8 0,.int .u8 0,.int .u8 0,.int .u8 0,.int .u8 0,.int .u8 0] t frozen
      | o=>o).modify 2 fun
      | .cells _ t frozen=>.cells ((Go.Pinned.utf8FirstZ.map fun (n : Nat)=>Value.int .u8 (n : Int)).toArray) t frozen
      | o=>o) }
theorem laid_met (os : Os) : laidMet Tryz.prog Rows.tablesKeepsRow.laid ((laidWorld os).forCall (fun _ _=>0) ⟨#[],#[Value.string ByteArray.empty,Value.string ByteArray.empty],[]⟩).memory :=
  laidMet_of_run' 8 (by kernel_rfl) (by kernel_rfl)
theorem reads (os : Os) {H : Type} (enc : TypeId × Value → H) : ∃ places,DataW.whole enc Tryz.prog ((laidWorld os).forCall (fun _ _=>0) ⟨#[],#[Value.string ByteArray.empty,Value.string ByteArray.empty],[]⟩).memory Tryz.f7.params.toList Rows.tablesKeepsSpec.vars false #[Value.string ByteArray.empty,Value.string ByteArray.empty].toList 8 = some ([.lit (.string []),.lit (.string [])],[],places) :=
  ⟨[],by kernel_rfl⟩

set_option linter.unusedVariables false in
set_option maxRecDepth 100000 in
theorem contract (H : Type) (enc : TypeId × Value → H) (W : World) (base : Nat) (args : Array Value) (ds gs : List (DataW H)) (before : List MemPlace)
    (hval : ∀ (j : Nat) t v,Tryz.f7.params[j]? = some t → args[j]? = some v → Value.okWide Tryz.prog W .any base t v)
    (hW : DataW.Whole enc Tryz.prog Tryz.f7.params.toList Rows.tablesKeepsSpec.vars false W args.toList ds gs before)
    (hsz : (DataW.weightsEach Tryz.prog (Tryz.f7.params.toList ++ Rows.tablesKeepsSpec.plain.varTypes Tryz.prog) (ds ++ gs)).all (· ≤ reachBytes) = true)
    (hL : laidMetH Tryz.prog Rows.tablesKeepsRow.laid W) (hsh : W.ShapedOpen Tryz.prog) :
    Calls Tryz.prog 7 args W fun e W'=>∃ v,e = .returned v ∧ Rows.tablesKeepsSpec.post enc Tryz.prog Tryz.f7 false true false false W args v W':=by
  refine law_calls (by kernel_rfl) rfl rfl 2 rfl (fun ds hd=>?_) hW ?_
  · match ds,hd with
    | [d0,d1],_=>rfl
  obtain ⟨p,q,hA0,hV,rfl,hfz,hnd⟩:=hW
  have hA : DataW.TrodAll enc Tryz.prog W 0 (fun _=>true) true Tryz.f7.params.toList args.toList ds p:=hA0
  rw [Tryz.params7] at hA hval hsz
  obtain ⟨v0,vs0,d0,ds0,p0,q0,hargs,rfl,rfl,h0,r0⟩:=trodAll_cons hA
  obtain ⟨v1,vs1,d1,ds1,p1,q1,rfl,rfl,rfl,h1,r1⟩:=trodAll_cons r0
  obtain ⟨rfl,rfl,rfl⟩:=trodAll_nil r1
  obtain rfl : args = #[v0,v1]:=by cases args;simp_all
  obtain ⟨rfl,rfl⟩:=trodVars_none hV
  obtain ⟨affixes,rfl,rfl,rfl,affixes_max⟩:=open_string Tryz.underlying9 (hval 0 9 v0 rfl rfl) h0
  obtain ⟨words,rfl,rfl,rfl,words_max⟩:=open_string Tryz.underlying9 (hval 1 9 v1 rfl rfl) h1
  have affixes_reach : affixes.size ≤ 140737488351232:=by
    have:=sized_string hsz (j:=0) (t:=9) rfl rfl
    simpa [reachBytes] using this
  have words_reach : words.size ≤ 140737488351232:=by
    have:=sized_string hsz (j:=1) (t:=9) rfl rfl
    simpa [reachBytes] using this
  exact tablesKeeps_sh affixes words W hsh

set_option maxRecDepth 100000 in
theorem lifted (os : Os) (started : os.Started) (H : Type) (enc : TypeId × Value → H) (F : Stop.Interp) :
    ReturnsInHanded {} Tryz.checked os 7 .any ((OpenSpec.ofChange Rows.tablesKeepsSpec).preRow enc Tryz.prog Tryz.f7 Rows.tablesKeepsRow.domain false Rows.tablesKeepsRow.laid) (((OpenSpec.ofChange Rows.tablesKeepsSpec).at F).post enc Tryz.prog Tryz.f7 false true false false):=by
  obtain ⟨places,hx⟩:=reads os enc
  refine returnsInHanded_of_row (C:=Tryz.checked) (s:=OpenSpec.ofChange Rows.tablesKeepsSpec) own_ started (by kernel_rfl) Tryz.func7
    (witness_row_at (enc:=enc) (C:=Tryz.checked) false (laidWorld os) #[Value.string ByteArray.empty,Value.string ByteArray.empty] rfl (by kernel_rfl) (by kernel_rfl) (by kernel_rfl)
      (OpenSpec.preRow_of_cond 8 hx (by kernel_rfl) (fun k hk=>by cases hk) (by kernel_rfl) (laid_met os))) ?_
  intro W base args ds gs before hval hW _ hcond hsz hL hsh _
  exact contract H enc W base args ds gs before hval hW hsz hL hsh

theorem said : Rows.TablesKeepsSaid :=
  OpenClaim.holds_of_cond 7 Tryz.f7 rfl rfl rfl rfl rfl rfl rfl ⟨rfl,rfl,rfl,rfl,rfl⟩ rfl rfl rfl rfl rfl (by kernel_rfl) Tryz.func7 (by kernel_rfl)
    (of_decide_eq_true (by kernel_rfl)) (by unfold Func.isWrapper;first | (rw [if_pos (by decide +kernel)];kernel_rfl) | (rw [if_neg (by decide +kernel)];exact ⟨rfl,rfl⟩))
    (fun os started H enc _ F=>by rw [OpenClaim.pre_eq_preRow];exact lifted os started H enc F)

/-- No parameter wants a stand-in; the program's own looks are off. -/
theorem plain (f : FuncId) (fn : Func) (hf : Tryz.pinned.checked.prog.funcNamed "hornbook/hornbooklaw13.TablesKeeps" = some f) (hfn : Tryz.pinned.checked.prog.funcs[f]? = some fn) :
    true = Tryz.pinned.checked.prog.looks [] ∧ ∀ (j : Nat) t,fn.params[j]? = some t → Tryz.pinned.checked.prog.wantsStandIn t = false:=by
  obtain rfl : f = 7 := Option.some.inj ((show Tryz.prog.funcNamed "hornbook/hornbooklaw13.TablesKeeps" = some 7 by kernel_rfl).symm.trans hf) |>.symm
  obtain rfl : fn = Tryz.f7:=(Option.some.inj (Tryz.func7.symm.trans hfn)).symm
  refine ⟨by kernel_rfl,fun j t ht=>?_⟩
  rw [Tryz.params7] at ht
  have hm:=Array.mem_of_getElem? ht
  have hall : (#[9,9].all fun t=>Tryz.prog.wantsStandIn t == false) = true:=by kernel_rfl
  have:=(Array.all_eq_true_iff_forall_mem.1 hall) t hm
  exact (show Tryz.prog.wantsStandIn t = false by simpa using this)

theorem proved : Rows.TablesKeepsCardSaid :=
  Claim7.holds_tied_plain_at .later [] _ _ _ _ said (fun _ h=>by cases h) (by kernel_rfl) (fun _ h=>by cases h) tablesKeeps_row_tie rfl ⟨rfl,rfl⟩ (by kernel_rfl) rfl plain (by kernel_rfl)
#print axioms proved
end Go.Proofs.YtfkblpjfknfgbaaGreatDoor.tablesKeeps
