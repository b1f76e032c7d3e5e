/-
 Parts of the proof: AC12, AC13, AR6, AR7, AR8, AR9.
-/
import Derived.Test.YtfkblpjfknfgbaaGreatDoorRows
import Derived.Test.YtfkblpjfknfgbaaGreatDoorS10
import Derived.Test.YtfkblpjfknfgbaaGreatDoorS8
import Derived.Test.YtfkblpjfknfgbaaGreatDoorS6
set_option linter.unusedVariables false
set_option linter.unusedSimpArgs false
set_option maxHeartbeats 8000000
set_option maxRecDepth 100000
open Go.Maps Go.RowKit
open Go.Lib (hid cell_of_heap frozen_of_heap byteCells)
open Go.World (block_lt_of_cell?)
namespace Go.Proofs.YtfkblpjfknfgbaaGreatDoor
theorem shown_all (s:ByteArray) (w:World) (yes no res:List UInt8) (hle:yes.length≤256) (hnle:no.length≤256) (hmk:(mkS no).size≤256) (hmk2:(mkS yes).size≤256)
  (HBtrue:Hid (∀W,Calls Tryz.prog 245 #[.agg #[.string s],.bool true] W fun e w'=>∃v,e=.returned v∧Own W w' 5 1 v yes.length (byteCells yes)))
  (HBfalse:Hid (∀W,Calls Tryz.prog 245 #[.agg #[.string s],.bool false] W fun e w'=>∃v,e=.returned v∧Own W w' 5 1 v no.length (byteCells no)))
  (HE1:Hid (((no.length:Int)==0)=true)) (HS:Hid (res=[46])) :
  Calls Tryz.prog 244 #[.agg #[.string s]] w fun e w'=>e=.returned (.string (mkS res))∧Below w.heap.size w w':=by
 go_enter Tryz.func244,Tryz.ntmps244
 go_wp2_with (first | (have q1:=HO1.out;clear q1;go_at_call 245;refine (HBfalse.out _).mono ?_;rintro e w3 ⟨u,rfl,ho⟩;have HO2:=hid (HO1.out.trans (ho.below.mono HO1.out.size));have HX3:=hid ((ho.below.block _ (block_lt HX2.out)).trans HX2.out);have d0:w3.cell? ⟨w.heap.size,0,none⟩=some (.string s):=(by rw [cell_of_heap HX3.out];rfl);have HY3:=hid (HY.out.call ho.below);have HN3:=hid ho;have e1:=HE1.out;obtain⟨B,bp,rfl⟩:=bel_len ho;skip;clear ho) | (go_at_call 245;refine (HBtrue.out _).mono ?_;rintro e w2 ⟨v,rfl,ho⟩;have HO1:=hid (start_below ho.below);have HX2:=hid ((ho.below.block _ (by simp)).trans (heap_alloc_new w _));have c0:w2.cell? ⟨w.heap.size,0,none⟩=some (.string s):=(by rw [cell_of_heap HX2.out];rfl);have HY:=hid ho;obtain⟨A,cp,rfl⟩:=bel_len ho;clear ho))
 go_ret
 exact⟨ret_str (by rw [HS.out];rfl),HO2.out⟩
theorem shown_one46 (s:ByteArray) (w:World) (yes no res:List UInt8) (hle:yes.length≤256) (hnle:no.length≤256) (hmk:(mkS no).size≤256) (hmk2:(mkS yes).size≤256)
  (HBtrue:Hid (∀W,Calls Tryz.prog 245 #[.agg #[.string s],.bool true] W fun e w'=>∃v,e=.returned v∧Own W w' 5 1 v yes.length (byteCells yes)))
  (HBfalse:Hid (∀W,Calls Tryz.prog 245 #[.agg #[.string s],.bool false] W fun e w'=>∃v,e=.returned v∧Own W w' 5 1 v no.length (byteCells no)))
  (HE1:Hid (((no.length:Int)==0)=false)) (HL1:Hid (yes.length=1)) (HX1:Hid (yes=[46])) (HS:Hid (res=[91,46,93])) :
  Calls Tryz.prog 244 #[.agg #[.string s]] w fun e w'=>e=.returned (.string (mkS res))∧Below w.heap.size w w':=by
 have H0:Hid (0 < yes.length):=hid (by rw [HL1.out];decide)
 go_enter Tryz.func244,Tryz.ntmps244
 go_wp2_with (first | (have q1:=HO1.out;clear q1;go_at_call 245;refine (HBfalse.out _).mono ?_;rintro e w3 ⟨u,rfl,ho⟩;have HO2:=hid (HO1.out.trans (ho.below.mono HO1.out.size));have HX3:=hid ((ho.below.block _ (block_lt HX2.out)).trans HX2.out);have d0:w3.cell? ⟨w.heap.size,0,none⟩=some (.string s):=(by rw [cell_of_heap HX3.out];rfl);have HY3:=hid (HY.out.call ho.below);have HN3:=hid ho;have e1:=HE1.out;obtain⟨B,bp,rfl⟩:=bel_len ho;have e2:((yes.length:Int)==1)=true:=(by rw [HL1.out];rfl);have cell:=bel_one HY3.out HL1.out HX1.out;clear ho) | (go_at_call 245;refine (HBtrue.out _).mono ?_;rintro e w2 ⟨v,rfl,ho⟩;have HO1:=hid (start_below ho.below);have HX2:=hid ((ho.below.block _ (by simp)).trans (heap_alloc_new w _));have c0:w2.cell? ⟨w.heap.size,0,none⟩=some (.string s):=(by rw [cell_of_heap HX2.out];rfl);have HY:=hid ho;obtain⟨g,cp,rfl⟩:=bel_at ho (Nat.pos_iff_ne_zero.1 H0.out);have h0:0 < yes.length:=H0.out;clear ho))
 go_ret
 exact⟨ret_str (by rw [HS.out];rfl),HO2.out⟩
theorem shown_one91 (s:ByteArray) (w:World) (yes no res:List UInt8) (hle:yes.length≤256) (hnle:no.length≤256) (hmk:(mkS no).size≤256) (hmk2:(mkS yes).size≤256)
  (HBtrue:Hid (∀W,Calls Tryz.prog 245 #[.agg #[.string s],.bool true] W fun e w'=>∃v,e=.returned v∧Own W w' 5 1 v yes.length (byteCells yes)))
  (HBfalse:Hid (∀W,Calls Tryz.prog 245 #[.agg #[.string s],.bool false] W fun e w'=>∃v,e=.returned v∧Own W w' 5 1 v no.length (byteCells no)))
  (HE1:Hid (((no.length:Int)==0)=false)) (HL1:Hid (yes.length=1)) (HX1:Hid (yes=[91])) (HS:Hid (res=[91,91,93])) :
  Calls Tryz.prog 244 #[.agg #[.string s]] w fun e w'=>e=.returned (.string (mkS res))∧Below w.heap.size w w':=by
 have H0:Hid (0 < yes.length):=hid (by rw [HL1.out];decide)
 go_enter Tryz.func244,Tryz.ntmps244
 go_wp2_with (first | (have q1:=HO1.out;clear q1;go_at_call 245;refine (HBfalse.out _).mono ?_;rintro e w3 ⟨u,rfl,ho⟩;have HO2:=hid (HO1.out.trans (ho.below.mono HO1.out.size));have HX3:=hid ((ho.below.block _ (block_lt HX2.out)).trans HX2.out);have d0:w3.cell? ⟨w.heap.size,0,none⟩=some (.string s):=(by rw [cell_of_heap HX3.out];rfl);have HY3:=hid (HY.out.call ho.below);have HN3:=hid ho;have e1:=HE1.out;obtain⟨B,bp,rfl⟩:=bel_len ho;have e2:((yes.length:Int)==1)=true:=(by rw [HL1.out];rfl);have cell:=bel_one HY3.out HL1.out HX1.out;clear ho) | (go_at_call 245;refine (HBtrue.out _).mono ?_;rintro e w2 ⟨v,rfl,ho⟩;have HO1:=hid (start_below ho.below);have HX2:=hid ((ho.below.block _ (by simp)).trans (heap_alloc_new w _));have c0:w2.cell? ⟨w.heap.size,0,none⟩=some (.string s):=(by rw [cell_of_heap HX2.out];rfl);have HY:=hid ho;obtain⟨g,cp,rfl⟩:=bel_at ho (Nat.pos_iff_ne_zero.1 H0.out);have h0:0 < yes.length:=H0.out;clear ho))
 go_ret
 exact⟨ret_str (by rw [HS.out];rfl),HO2.out⟩
theorem shown_one (s:ByteArray) (w:World) (yes no res:List UInt8) (hle:yes.length≤256) (hnle:no.length≤256) (hmk:(mkS no).size≤256) (hmk2:(mkS yes).size≤256)
  (HBtrue:Hid (∀W,Calls Tryz.prog 245 #[.agg #[.string s],.bool true] W fun e w'=>∃v,e=.returned v∧Own W w' 5 1 v yes.length (byteCells yes)))
  (HBfalse:Hid (∀W,Calls Tryz.prog 245 #[.agg #[.string s],.bool false] W fun e w'=>∃v,e=.returned v∧Own W w' 5 1 v no.length (byteCells no)))
  (HE1:Hid (((no.length:Int)==0)=false)) (x:UInt8) (HL1:Hid (yes.length=1)) (HX1:Hid (yes=[x])) (e3:((x.toNat:Int)==46)=false) (e4:((x.toNat:Int)==91)=false) (HS:Hid (res=yes)) :
  Calls Tryz.prog 244 #[.agg #[.string s]] w fun e w'=>e=.returned (.string (mkS res))∧Below w.heap.size w w':=by
 have H0:Hid (0 < yes.length):=hid (by rw [HL1.out];decide)
 go_enter Tryz.func244,Tryz.ntmps244
 go_wp2_with (first | (have q1:=HO1.out;clear q1;go_at_call 245;refine (HBfalse.out _).mono ?_;rintro e w3 ⟨u,rfl,ho⟩;have HO2:=hid (HO1.out.trans (ho.below.mono HO1.out.size));have HX3:=hid ((ho.below.block _ (block_lt HX2.out)).trans HX2.out);have d0:w3.cell? ⟨w.heap.size,0,none⟩=some (.string s):=(by rw [cell_of_heap HX3.out];rfl);have HY3:=hid (HY.out.call ho.below);have HN3:=hid ho;have e1:=HE1.out;obtain⟨B,bp,rfl⟩:=bel_len ho;have e2:((yes.length:Int)==1)=true:=(by rw [HL1.out];rfl);have cell:=bel_one HY3.out HL1.out HX1.out;have hcv:=bel_conv HY3.out;clear ho) | (go_at_call 245;refine (HBtrue.out _).mono ?_;rintro e w2 ⟨v,rfl,ho⟩;have HO1:=hid (start_below ho.below);have HX2:=hid ((ho.below.block _ (by simp)).trans (heap_alloc_new w _));have c0:w2.cell? ⟨w.heap.size,0,none⟩=some (.string s):=(by rw [cell_of_heap HX2.out];rfl);have HY:=hid ho;obtain⟨g,cp,rfl⟩:=bel_at ho (Nat.pos_iff_ne_zero.1 H0.out);have h0:0 < yes.length:=H0.out;clear ho))
 go_ret
 exact⟨ret_str (by rw [HS.out]),HO2.out⟩
theorem shown_not (s:ByteArray) (w:World) (yes no res:List UInt8) (hle:yes.length≤256) (hnle:no.length≤256) (hmk:(mkS no).size≤256) (hmk2:(mkS yes).size≤256)
  (HBtrue:Hid (∀W,Calls Tryz.prog 245 #[.agg #[.string s],.bool true] W fun e w'=>∃v,e=.returned v∧Own W w' 5 1 v yes.length (byteCells yes)))
  (HBfalse:Hid (∀W,Calls Tryz.prog 245 #[.agg #[.string s],.bool false] W fun e w'=>∃v,e=.returned v∧Own W w' 5 1 v no.length (byteCells no)))
  (HE1:Hid (((no.length:Int)==0)=false)) (HL1:Hid (((yes.length:Int)==1)=false)) (HH:Hid (∀W,Calls Tryz.prog 246 #[.agg #[.string s],.int .u8 93] W fun e w'=>e=.returned (.bool true)∧Below W.heap.size W w')) (HS:Hid (res=[91,94]++no++[93])) :
  Calls Tryz.prog 244 #[.agg #[.string s]] w fun e w'=>e=.returned (.string (mkS res))∧Below w.heap.size w w':=by
 go_enter Tryz.func244,Tryz.ntmps244
 go_wp2_with (first | (have q1:=HO1.out;clear q1;go_at_call 245;refine (HBfalse.out _).mono ?_;rintro e w3 ⟨u,rfl,ho⟩;have HO2:=hid (HO1.out.trans (ho.below.mono HO1.out.size));have HX3:=hid ((ho.below.block _ (block_lt HX2.out)).trans HX2.out);have d0:w3.cell? ⟨w.heap.size,0,none⟩=some (.string s):=(by rw [cell_of_heap HX3.out];rfl);have HY3:=hid (HY.out.call ho.below);have HN3:=hid ho;have e1:=HE1.out;obtain⟨B,bp,rfl⟩:=bel_len ho;have e2:=HL1.out;clear ho) | (go_at_call 246;refine (HH.out _).mono ?_;rintro e w4 ⟨rfl,hb⟩;have HO3:=hid (HO2.out.trans (hb.mono HO2.out.size));have HY4:=hid (HY3.out.call hb);have HN4:=hid (HN3.out.call hb);have hcv:=bel_conv HN4.out;skip;clear hb) | (go_at_call 245;refine (HBtrue.out _).mono ?_;rintro e w2 ⟨v,rfl,ho⟩;have HO1:=hid (start_below ho.below);have HX2:=hid ((ho.below.block _ (by simp)).trans (heap_alloc_new w _));have c0:w2.cell? ⟨w.heap.size,0,none⟩=some (.string s):=(by rw [cell_of_heap HX2.out];rfl);have HY:=hid ho;obtain⟨A,cp,rfl⟩:=bel_len ho;clear ho))
 go_ret
 exact⟨ret_str (by rw [HS.out,show (⟨#[91,94]⟩:ByteArray)=mkS [91,94] from rfl,show (⟨#[93]⟩:ByteArray)=mkS [93] from rfl,mk_app,mk_app]),HO3.out⟩
theorem keep_hat (l:List UInt8) (k:Nat) (hk:k < l.length):((l.take (k+1)).filter (fun b=>b.toNat != 94))=(l.take k).filter (fun b=>b.toNat != 94)++(if l[k].toNat=94 then [] else [l[k]]):=by
 rw [List.take_succ_eq_append_getElem hk,List.filter_append]
 congr 1
 by_cases h:l[k].toNat=94<;>simp [h]
theorem seen_hat (l:List UInt8) (k:Nat) (hk:k < l.length):(l.take (k+1)).contains 94=((l.take k).contains 94||decide (l[k].toNat=94)):=by
 rw [List.take_succ_eq_append_getElem hk,Bool.eq_iff_iff,List.contains_iff_mem,List.mem_append,List.mem_singleton,Bool.or_eq_true,List.contains_iff_mem,decide_eq_true_iff]
 refine or_congr Iff.rfl ⟨fun e=>by rw [←e];rfl,fun e=>?_⟩
 rw [←UInt8.toNat_inj];exact e.symm
theorem filter_len (l:List UInt8) (k:Nat):((l.take k).filter (fun b=>b.toNat != 94)).length≤k:=Nat.le_trans (List.length_filter_le _ _) (by simp;omega)
theorem shown_list (s:ByteArray) (w:World) (yes no res:List UInt8) (hle:yes.length≤256) (hnle:no.length≤256) (hmk:(mkS no).size≤256) (hmk2:(mkS yes).size≤256)
  (HBtrue:Hid (∀W,Calls Tryz.prog 245 #[.agg #[.string s],.bool true] W fun e w'=>∃v,e=.returned v∧Own W w' 5 1 v yes.length (byteCells yes)))
  (HBfalse:Hid (∀W,Calls Tryz.prog 245 #[.agg #[.string s],.bool false] W fun e w'=>∃v,e=.returned v∧Own W w' 5 1 v no.length (byteCells no)))
  (HE1:Hid (((no.length:Int)==0)=false)) (HL1:Hid (((yes.length:Int)==1)=false)) (HH:Hid (∀W,Calls Tryz.prog 246 #[.agg #[.string s],.int .u8 93] W fun e w'=>e=.returned (.bool false)∧Below W.heap.size W w')) (HS:Hid (res=[91]++yes.filter (fun b=>b.toNat != 94)++(if yes.contains 94=true then [94] else [])++[93])) :
  Calls Tryz.prog 244 #[.agg #[.string s]] w fun e w'=>e=.returned (.string (mkS res))∧Below w.heap.size w w':=by
 obtain⟨i0,hi,hz0,hz1,hz2⟩:=info_parts byte_info
 go_enter Tryz.func244,Tryz.ntmps244
 go_wp2_with (first | (have q1:=HO1.out;clear q1;go_at_call 245;refine (HBfalse.out _).mono ?_;rintro e w3 ⟨u,rfl,ho⟩;have HO2:=hid (HO1.out.trans (ho.below.mono HO1.out.size));have HX3:=hid ((ho.below.block _ (block_lt HX2.out)).trans HX2.out);have d0:w3.cell? ⟨w.heap.size,0,none⟩=some (.string s):=(by rw [cell_of_heap HX3.out];rfl);have HY3:=hid (HY.out.call ho.below);have HN3:=hid ho;have e1:=HE1.out;obtain⟨B,bp,rfl⟩:=bel_len ho;have e2:=HL1.out;clear ho) | (go_at_call 246;refine (HH.out _).mono ?_;rintro e w4 ⟨rfl,hb⟩;have HO3:=hid (HO2.out.trans (hb.mono HO2.out.size));have HY4:=hid (HY3.out.call hb);have HN4:=hid (HN3.out.call hb);have hcv:=bel_conv HN4.out;skip;clear hb) | (go_at_call 245;refine (HBtrue.out _).mono ?_;rintro e w2 ⟨v,rfl,ho⟩;have HO1:=hid (start_below ho.below);have HX2:=hid ((ho.below.block _ (by simp)).trans (heap_alloc_new w _));have c0:w2.cell? ⟨w.heap.size,0,none⟩=some (.string s):=(by rw [cell_of_heap HX2.out];rfl);have HY:=hid ho;obtain⟨A,cp,rfl⟩:=bel_len ho;clear ho))
 obtain⟨w5,hw5⟩:∃W,w4=W:=⟨_,rfl⟩
 subst hw5
 obtain⟨-,A2,cp2,hv,-,hs⟩:=Rd.of_own HY4.out.own
 injection hv with hA _ hcp
 subst hA hcp
 have HS5:=hid hs
 clear hs hcv
 go_loopw [6,7,8] (fun v h i wr=>∃k:Nat,k≤yes.length∧i=.int .i64 k∧h=.bool ((yes.take k).contains 94)∧Hid (Own w4 wr 5 1 v ((yes.take k).filter (fun b=>b.toNat != 94)).length (byteCells ((yes.take k).filter (fun b=>b.toNat != 94))))) (fun _ _ i _=>yes.length - (intOf i).toNat)
 case atStart=>exact⟨0,Nat.zero_le _,rfl,rfl,Own.empty _ _ _⟩
 case round =>
 obtain⟨k,hk,rfl,rfl,HO⟩:=hrel
 have HFl:=hid (filter_len yes k)
 by_cases hlt:k < yes.length
 ·have HK:=hid (keep_hat yes k hlt)
  have HSn:=hid (seen_hat yes k hlt)
  obtain⟨b,off,rfl,hc⟩:=HS5.out.resolve_left (by omega)
  have hcell0:=hc k (.int .u8 (yes[k].toNat:Int)) (by simp [byteCells,hlt])
  have hcell:=(HO.out.below.cell (block_lt_of_cell? _ _ hcell0)).trans hcell0
  clear hc hcell0
  obtain⟨f,hf⟩:∃f,(yes.take k).filter (fun b=>b.toNat != 94)=f:=⟨_,rfl⟩
  obtain⟨q,hq⟩:∃q,(yes.take k).contains 94=q:=⟨_,rfl⟩
  rw [hf] at HO HK HFl
  rw [hq] at HSn ⊢
  clear hf hq
  by_cases h94:yes[k].toNat=94
  ·have e5:((yes[k].toNat:Int)==94)=true:=by rw [h94];rfl
   rw [if_pos h94,List.append_nil] at HK
   rw [decide_eq_true h94,Bool.or_true] at HSn
   clear h94
   go_wp2_with fail
   go_roundw
   case rel=>exact⟨k+1,by omega,by go_num,by rw [HSn.out],by rw [HK.out];exact HO⟩
   case measure=>simp [intOf];omega
  have e5:((yes[k].toNat:Int)==94)=false:=by rw [beq_eq_false_iff_ne];omega
  rw [if_neg h94] at HK
  rw [decide_eq_false h94,Bool.or_false] at HSn
  clear h94
  go_wp2_with (at_builtin;refine wpList_push1 rfl _ _ 213 rfl w4.heap.size 5 i0 (.int .u8 0) 1 Tryz.underlying213 hi hz0 hz1 hz2 rfl _ _ _ rfl HO.out.own _ rfl rfl (by have:=HFl.out;unfold maxLen;omega) (by have:=HFl.out;omega) HO.out.size ?_;intro g8 cp8 w8 hown hg;have HP8:=hid (HO.out.push hown hg);  clear hown hg)
  go_roundw
  case rel =>
   refine⟨k+1,by omega,by go_num,by rw [HSn.out],?_⟩
   have:=HP8.out
   rw [HK.out,←bytes_snoc,List.length_append]
   exact this
  case measure=>simp [intOf];omega
 obtain rfl:k=yes.length:=by omega
 rw [List.take_length] at HO HFl ⊢
 obtain⟨r,hr⟩:∃r,yes.filter (fun b=>b.toNat != 94)=r:=⟨_,rfl⟩
 rw [hr] at HO HFl HS
 have hmk3:(mkS r).size≤256:=by rw [mkS_size];exact Nat.le_trans HFl.out hle
 have hmk4:(mkS (r++[94])).size≤257:=by rw [mkS_size];have:=HFl.out;simp;omega
 have hrl:r.length≤256:=Nat.le_trans HFl.out hle
 clear hr
 cases hq:yes.contains 94
 ·rw [hq] at HS
  rw [if_neg (by simp),List.append_nil] at HS
  obtain⟨C,dp,rfl⟩:=bel_len HO.out
  have hcv2:=bel_conv HO.out
  clear hq
  go_wp2_with fail
  go_ret
  exact⟨ret_str (by rw [HS.out,show (⟨#[91]⟩:ByteArray)=mkS [91] from rfl,show (⟨#[93]⟩:ByteArray)=mkS [93] from rfl,mk_app,mk_app]),HO3.out.trans (HO.out.below.mono HO3.out.size)⟩
 rw [hq] at HS
 rw [if_pos rfl] at HS
 clear hq
 go_wp2_with (at_builtin;refine wpList_push1 rfl _ _ 213 rfl w4.heap.size 5 i0 (.int .u8 0) 1 Tryz.underlying213 hi hz0 hz1 hz2 rfl _ _ _ rfl HO.out.own _ rfl rfl (by have:=HFl.out;unfold maxLen;omega) (by have:=HFl.out;omega) HO.out.size ?_;intro g8 cp8 w8 hown hg;have HP8:=hid (HO.out.push hown hg);have hcv8:=bel_conv8 HP8.out rfl;clear hown hg)
 go_ret
 exact⟨ret_str (by rw [HS.out,show (⟨#[91]⟩:ByteArray)=mkS [91] from rfl,show (⟨#[93]⟩:ByteArray)=mkS [93] from rfl,mk_app,mk_app];simp),HO3.out.trans (HP8.out.below.mono HO3.out.size)⟩
theorem all_mem (b:UInt8) (h:b∈([93]:List UInt8)):b∈all256:=by
 simp at h;subst h;decide +kernel
theorem not93 {p:UInt8→Bool} {l:List UInt8} (h:all256.filter p=l) (hl:(93:UInt8)∉l):p 93=false:=by
 rcases hp:p 93 with _ | _
 ·rfl
 exact absurd (by rw [←h,List.mem_filter];exact⟨all_mem 93 (by simp),hp⟩) hl
theorem so_Shown (t:List UInt8) (w:World) (ht:okT t) :
  Calls Tryz.prog 244 #[.agg #[.string (mkS t)]] w fun e w'=>e=.returned (.string (mkS (shownB t)))∧Below w.heap.size w w':=by
 have hy:∀W,Calls Tryz.prog 245 #[.agg #[.string (mkS t)],.bool true] W fun e w'=>∃v,e=.returned v∧Own W w' 5 1 v (all256.filter (admB t)).length (byteCells (all256.filter (admB t))):=fun W=>so_admitted t true _ W ht (fun b=>by simp)
 have hn:∀W,Calls Tryz.prog 245 #[.agg #[.string (mkS t)],.bool false] W fun e w'=>∃v,e=.returned v∧Own W w' 5 1 v (all256.filter (fun b=>!admB t b)).length (byteCells (all256.filter (fun b=>!admB t b))):=fun W=>so_admitted t false _ W ht (fun b=>by cases admB t b<;>rfl)
 have hh:∀W,Calls Tryz.prog 246 #[.agg #[.string (mkS t)],.int .u8 93] W fun e w'=>e=.returned (.bool (admB t 93))∧Below W.heap.size W w':=fun W=>so_Admits t 93 W ht
 have hs:shownB t=if all256.filter (fun b=>!admB t b)=[] then [46] else if (all256.filter (admB t)).length=1∧all256.filter (admB t)≠[46]∧all256.filter (admB t)≠[91] then all256.filter (admB t) else if admB t 93=true then [91,94]++all256.filter (fun b=>!admB t b)++[93] else [91]++(all256.filter (admB t)).filter (fun b=>b.toNat != 94)++(if (all256.filter (admB t)).contains 94=true then [94] else [])++[93]:=rfl
 have hno93:∀l,all256.filter (admB t)=l→(93:UInt8)∉l→admB t 93=false:=fun l=>not93
 have hle:(all256.filter (admB t)).length≤256:=by rw [←all_len];exact List.length_filter_le _ _
 have hnle:(all256.filter (fun b=>!admB t b)).length≤256:=by rw [←all_len];exact List.length_filter_le _ _
 generalize all256.filter (admB t)=yes at hy hs hno93 hle
 generalize all256.filter (fun b=>!admB t b)=no at hn hs hnle
 generalize shownB t=res at hs ⊢
 generalize admB t 93=q at hh hs hno93
 generalize mkS t=s at hy hn hh ⊢
 have hmk:(mkS no).size≤256:=by rw [mkS_size];exact hnle
 have hmk2:(mkS yes).size≤256:=by rw [mkS_size];exact hle
 by_cases c1:no=[]
 ·rw [if_pos c1] at hs
  exact shown_all s w yes no res hle hnle hmk hmk2 (hid hy) (hid hn) (hid (by rw [c1];rfl)) (hid hs)
 rw [if_neg c1] at hs
 have HE1:Hid (((no.length:Int)==0)=false):=hid (by
  rw [beq_eq_false_iff_ne];intro e
  exact c1 (List.eq_nil_of_length_eq_zero (by omega)))
 by_cases c2:yes.length=1
 ·obtain⟨x,hx⟩:=List.length_eq_one_iff.1 c2
  by_cases c3:x.toNat=46
  ·have hx2:yes=[46]:=by rw [hx];congr 1;rw [←UInt8.toNat_inj];exact c3
   have hq:=hno93 _ hx2 (by decide)
   rw [if_neg (fun h=>h.2.1 hx2),hq,if_neg (by simp),hx2] at hs
   exact shown_one46 s w yes no res hle hnle hmk hmk2 (hid hy) (hid hn) HE1 (hid c2) (hid hx2) (hid (by rw [hs];rfl))
  by_cases c4:x.toNat=91
  ·have hx2:yes=[91]:=by rw [hx];congr 1;rw [←UInt8.toNat_inj];exact c4
   have hq:=hno93 _ hx2 (by decide)
   rw [if_neg (fun h=>h.2.2 hx2),hq,if_neg (by simp),hx2] at hs
   exact shown_one91 s w yes no res hle hnle hmk hmk2 (hid hy) (hid hn) HE1 (hid c2) (hid hx2) (hid (by rw [hs];rfl))
  rw [if_pos ⟨c2,fun e=>c3 (by rw [hx] at e;simp at e;rw [e];rfl),fun e=>c4 (by rw [hx] at e;simp at e;rw [e];rfl)⟩] at hs
  exact shown_one s w yes no res hle hnle hmk hmk2 (hid hy) (hid hn) HE1 x (hid c2) (hid hx) (by rw [beq_eq_false_iff_ne];omega) (by rw [beq_eq_false_iff_ne];omega) (hid hs)
 rw [if_neg (fun h=>c2 h.1)] at hs
 have HL1:Hid (((yes.length:Int)==1)=false):=hid (by rw [beq_eq_false_iff_ne];omega)
 cases q with
 | true=>exact shown_not s w yes no res hle hnle hmk hmk2 (hid hy) (hid hn) HE1 HL1 (hid hh) (hid hs)
 | false =>
  rw [if_neg (by simp)] at hs
  exact shown_list s w yes no res hle hnle hmk hmk2 (hid hy) (hid hn) HE1 HL1 (hid hh) (hid hs)
theorem strM_get (ts:List (List UInt8)) (k:Nat) (hk:k < ts.length):(strV (ts.map mkS))[k]?=some (.string (mkS ts[k])):=by
 simp [strV,hk]
theorem so_refShow (v:Value) (ts:List (List UInt8)) (w:World) (h:Rd w 1 v ts.length (strV (ts.map mkS))) (hok:∀t∈ts,okT t) (hn:ts.length≤4096) :
  Calls Tryz.prog 236 #[v] w fun e w'=>e=.returned (.string (mkS (condShow ts)))∧Below w.heap.size w w':=by
 obtain⟨-,A,cp,rfl,hcap,hs⟩:=h
 have HS:=hid hs
 have HK:=hid hok
 clear hs hok
 by_cases h0:ts=[]
 ·have HC:Hid (condShow ts=[46]):=hid (by rw [condShow,if_pos h0])
  have hl:ts.length=0:=by rw [h0];rfl
  have e0:((ts.length:Int)==0)=true:=by rw [hl];rfl
  clear h0 hl
  go_enter Tryz.func236,Tryz.ntmps236
  go_wp2_with fail
  go_ret
  exact⟨ret_str (by rw [HC.out];rfl),Below.refl _ _⟩
 have HC:Hid (condShow ts=ts.flatMap shownB):=hid (by rw [condShow,if_neg h0])
 have hl:ts.length≠0:=fun e=>h0 (List.eq_nil_of_length_eq_zero e)
 have e0:((ts.length:Int)==0)=false:=by rw [beq_eq_false_iff_ne];omega
 clear h0
 obtain⟨b,off,rfl,hc⟩:=HS.out.resolve_left hl
 have HCl:=hid hc
 clear hc HS
 go_enter Tryz.func236,Tryz.ntmps236
 go_wp2_with fail
 go_loopw [3,4,5] (fun s i _ wr=>∃k:Nat,k≤ts.length∧i=.int .i64 k∧s=.string (mkS ((ts.take k).flatMap shownB))∧((ts.take k).flatMap shownB).length≤260*k∧Hid (Below w.heap.size w wr)) (fun _ i _ _=>ts.length - (intOf i).toNat)
 case atStart=>exact⟨0,Nat.zero_le _,rfl,rfl,Nat.zero_le _,Below.refl _ _⟩
 case round =>
 obtain⟨k,hk,rfl,rfl,hlen,HB⟩:=hrel
 by_cases hlt:k < ts.length
 ·have hcell0:=HCl.out k _ (strM_get ts k hlt)
  have hcell:=(HB.out.cell (block_lt_of_cell? w _ hcell0)).trans hcell0
  clear hcell0
  have HST:=hid (show_step ts k hlt)
  have HF:=hid (fun W=>so_Shown ts[k] W (HK.out _ (List.getElem_mem hlt)))
  obtain⟨s1,hs1⟩:∃y,(ts.take k).flatMap shownB=y:=⟨_,rfl⟩
  rw [shownB_eq] at HF
  obtain⟨s2,hs2⟩:∃y,shownP (admB ts[k])=y:=⟨_,rfl⟩
  have hl2:s2.length≤260:=by rw [←hs2];exact shown_len _
  rw [hs1,hs2] at HST
  rw [hs2] at HF
  rw [hs1] at hlen ⊢
  obtain⟨sx,hsx⟩:∃y,mkS ts[k]=y:=⟨_,rfl⟩
  rw [hsx] at HF hcell
  have hz1:(mkS s1).size≤260*k:=by rw [mkS_size];exact hlen
  have hz2:(mkS s2).size≤260:=by rw [mkS_size];exact hl2
  clear hs2 hs1 hsx
  go_wp2_with (go_at_call 244;refine (HF.out _).mono ?_;rintro e w2 ⟨rfl,hb2⟩;have HB2:=hid (HB.out.trans (hb2.mono HB.out.size));clear hb2)
  go_roundw
  case rel=>exact⟨k+1,by omega,by go_num,by rw [HST.out,←mk_app],by rw [HST.out];simp;omega,HB2⟩
  case measure=>simp [intOf];omega
 obtain rfl:k=ts.length:=by omega
 have HT:Hid ((ts.take ts.length).flatMap shownB=ts.flatMap shownB):=hid (by rw [List.take_length])
 go_wp2_with fail
 go_ret
 exact⟨ret_str (by rw [HC.out,HT.out]),HB.out⟩
def qx (c:Cl) (strip add cond:ByteArray) (nv:Value) (line:Int):Array Value:=#[.int .i64 c.kind,.int .i64 c.flag,.bool c.cross,.string strip,.string add,.string cond,nv,.int .i64 line]
structure XQ (w W:World) (xb:Nat) (c:Cl) (strip add cond:ByteArray) (nv:Value) (line:Int):Prop where
 kept:Kept [xb] w W
 x:W.heap[xb]?=some (.cells (qx c strip add cond nv line) 41 (0,0))
section
variable {w W W':World} {xb:Nat} {c:Cl} {strip add cond s:ByteArray} {nv u:Value} {line:Int}
theorem XQ.later (h:XQ w W xb c strip add cond nv line) (hb:Below W.heap.size W W'):XQ w W' xb c strip add cond nv line:=⟨h.kept.trans (Kept.of_below hb),(hb.block _ (block_lt h.x)).trans h.x⟩
theorem XQ.setStrip (h:XQ w W xb c strip add cond nv line):XQ w (W.setCell ⟨xb,3,none⟩ (.string s)) xb c s add cond nv line:=⟨h.kept.set _ _ _ (.inl (by simp)),heap_setCell_same _ _ _ _ _ _ h.x⟩
theorem XQ.setAdd (h:XQ w W xb c strip add cond nv line):XQ w (W.setCell ⟨xb,4,none⟩ (.string s)) xb c strip s cond nv line:=⟨h.kept.set _ _ _ (.inl (by simp)),heap_setCell_same _ _ _ _ _ _ h.x⟩
theorem XQ.setCond (h:XQ w W xb c strip add cond nv line):XQ w (W.setCell ⟨xb,5,none⟩ (.string s)) xb c strip add s nv line:=⟨h.kept.set _ _ _ (.inl (by simp)),heap_setCell_same _ _ _ _ _ _ h.x⟩
theorem XQ.setNext (h:XQ w W xb c strip add cond nv line):XQ w (W.setCell ⟨xb,6,none⟩ u) xb c strip add cond u line:=⟨h.kept.set _ _ _ (.inl (by simp)),heap_setCell_same _ _ _ _ _ _ h.x⟩
theorem XQ.cell (h:XQ w W xb c strip add cond nv line):W.cell? ⟨xb,0,none⟩=some (.int .i64 c.kind)∧W.cell? ⟨xb,3,none⟩=some (.string strip)∧W.cell? ⟨xb,4,none⟩=some (.string add)∧W.cell? ⟨xb,5,none⟩=some (.string cond)∧W.cell? ⟨xb,6,none⟩=some nv:=by
 refine⟨?_,?_,?_,?_,?_⟩<;>(rw [cell_of_heap h.x];rfl)
theorem XQ.fz (h:XQ w W xb c strip add cond nv line) (j:Nat):W.frozen? ⟨xb,j,none⟩=false:=frozen_of_heap h.x j
end
structure QX (w0 w:World) (L:List Nat) (rr rf:Nat) (v:Qs) (E:Int) (all:List Row) (a:Nat) (S:Sx) (xb:Nat):Prop where
 qm:QM w0 w L rr rf v E all a S
 inL:xb∈L
 ne:∀g,v.rls.ownBlock=some g→g≠xb
 ty:TyB w xb 41
theorem QX.turn {w0 w W:World} {L:List Nat} {rr rf a:Nat} {v:Qs} {E:Int} {all:List Row} {S:Sx} {xb:Nat} (h:QX w0 w L rr rf v E all a S xb) (hk:Kept [xb] w W):QM w0 W L rr rf v E all a S:=by
 have hX:∀y∈[xb],TyB w y 41:=by intro y hy;simp at hy;subst hy;exact h.ty
 have r:=h.qm.rest hk (by intro y hy;simp at hy;subst hy;exact h.inL) (fun _ h=>h) (fun y hy=>⟨.inl hy,Nat.lt_of_lt_of_le (h.qm.hl y hy).2 hk.size⟩)
 exact⟨r.base,r.hl,r.rrL,r.rfL,r.rdr (ty_out hX h.qm.tyR (by decide)),r.file (ty_out hX h.qm.tyF (by decide)),r.rows,r.heads (fun g hg=>ty_out hX (h.qm.ty_heads g hg) (by decide)),r.reps (fun g hg=>ty_out hX (h.qm.ty_reps g hg) (by decide)),
  r.als (fun g hg=>ty_out hX (h.qm.ty_als g hg) (by decide)),r.cls (fun g hg=>ty_out hX (h.qm.ty_cls g hg) (by decide)),r.rls (fun g hg hm=>h.ne g hg (by simpa using hm))⟩
def RuleQ (L:List Nat) (xb:Nat) (c:Cl) (line:Int) (R:Except Int Rl) (w:World) (e:Ending) (w':World):Prop:=Kept [xb] w w'∧match R with
 | .error k=>k≠0∧e=.returned (.int .i64 k)∧∃strip add cond nv next,w'.heap[xb]?=some (.cells (qx c strip add cond nv line) 41 (0,0))∧IO w' L nv next
 | .ok r=>e=.returned (.int .i64 0)∧∃nv,w'.heap[xb]?=some (.cells (qx c r.strip r.add r.cond nv line) 41 (0,0))∧IO w' L nv r.next
theorem RuleQ.bad {L:List Nat} {xb:Nat} {c:Cl} {line:Int} {R:Except Int Rl} {k:Int} {w w':World} {strip add cond:ByteArray} {nv:Value} {next:List Int} (hR:R=.error k) (hk:k≠0) (hb:XQ w w' xb c strip add cond nv line) (hn:IO w' L nv next):RuleQ L xb c line R w (.returned (.int .i64 k)) w':=by
 subst hR;exact⟨hb.kept,hk,rfl,_,_,_,_,_,hb.x,hn⟩
theorem so_qrule (w0:World) (L:List Nat) (rr rf a:Nat) (v:Qs) (E:Int) (all:List Row) (S:Sx) (xb:Nat) (c:Cl) (line:Int) (fv:Value) (row:List ByteArray) (w:World) (h:QX w0 w L rr rf v E all a S xb) (hx:w.heap[xb]?=some (.cells (qx c ⟨#[]⟩ ⟨#[]⟩ ⟨#[]⟩ (.slice none 0 0) line) 41 (0,0)))
  (hr:RowF1 w0 fv row) (hlen:¬(row.length≠4∧row.length≠5)) (hal:S.fl.als.length≤65536) (hck:c.kind=1∨c.kind=2) :
  Calls Tryz.prog 210 #[.pointer (some ⟨rf,0,none⟩),.pointer (some ⟨xb,0,none⟩),fv] w (RuleQ L xb c line (ruleR S.fl c line row) w):=by
 have HX0:Hid (XQ w w xb c ⟨#[]⟩ ⟨#[]⟩ ⟨#[]⟩ (.slice none 0 0) line):=hid ⟨Kept.refl _ _,hx⟩
 have HQ:=hid (fun W (hk:Kept [xb] w W)=>h.turn hk)
 have HInL:=hid h.inL
 have HSz:=hid (fieldAt_le hr.each)
 obtain⟨g,o,cp,rfl,hcp,hcells⟩:=hr.cells (by omega)
 have HD:Hid (∀j,j < row.length→∀W,Kept [xb] w W→W.cell? ⟨g,o+j,none⟩=some (.string (fieldAt row j))):=hid (fun j hj W hk=>field_in (hcells j hj) (h.turn hk).base)
 obtain⟨n,hn⟩:∃n,row.length=n:=⟨_,rfl⟩
 rw [hn] at hcp HD hlen ⊢
 have hn':n=4∨n=5:=by omega
 have hlen2:¬(row.length≠4∧row.length≠5):=by rw [hn];omega
 have HLn:=hid hlen2
 have HHn:=hid hn
 clear hcells h hx hlen hlen2 hr hn
 have HP:=hid (so_qpiece (fieldAt row 2) true w (Nat.le_trans (HSz.out 2) (by decide)))
 unfold PieceQ at HP
 cases hp:pieceR true (fieldAt row 2) with
 | error e =>
  have HRe:Hid (ruleR S.fl c line row=.error e):=hid (rule_strip HLn.out hp)
  rw [hp] at HP
  clear hp
  have d2:=HD.out 2 (by omega) w (Kept.refl _ _)
  rcases hn' with rfl | rfl
  all_goals
   go_enter Tryz.func210,Tryz.ntmps210
   go_wp2_with (go_at_call 209;refine HP.out.mono ?_;rintro e1 w1 ⟨hb1,he1,t1,rfl⟩;have HB1:=hid hb1;have HE1:=hid he1;have he2:(e != 0)=true:=by { simpa using he1 };clear hb1 he1)
   go_ret
   exact .bad HRe.out HE1.out (HX0.out.later HB1.out) (IO.nil_ _ _)
 | ok strip =>
  have HRe:Hid (ruleR S.fl c line row=ruleA S.fl c line row strip):=hid (rule_ok HLn.out hp)
  rw [hp] at HP
  clear hp
  have d2:=HD.out 2 (by omega) w (Kept.refl _ _)
  rcases hn' with rfl | rfl
  all_goals
   go_enter Tryz.func210,Tryz.ntmps210
   go_upto_region 5 with (go_at_call 209;refine HP.out.mono ?_;rintro e1 w1 ⟨hb1,rfl⟩;have HX1:=hid (HX0.out.later hb1);obtain⟨k0,k3,k4,k5,k6⟩:=HX1.out.cell;have z3:=HX1.out.fz 3;clear hb1)
   have HX2:=hid (HX1.out.setStrip (s:=strip))
   have d3:=HD.out 3 (by omega) _ HX2.out.kept
   have HW:=hid (so_rwread (fieldAt row 3) (w1.setCell ⟨xb,3,none⟩ (.string strip)) (Nat.le_trans (HSz.out 3) (by decide)))
   clear k0 k3 k4 k5 k6 z3
   rcases hw:wordR (fieldAt row 3).data.toList with ⟨wd,rest,cut,ew⟩
   rw [hw] at HW
   unfold wordV at HW
   dsimp only at HW
   by_cases hew:ew=0
   rotate_left
   ·have HRz:Hid (ruleR S.fl c line row=.error ew):=hid (by rw [HRe.out,ruleA,hw];dsimp only;rw [if_pos hew])
    have hE0:(ew != 0)=true:=by simpa using hew
    have HEw:=hid hew
    clear hw hew
    go_wp2_with (go_at_call 143;refine HW.out.mono ?_;rintro e4 w4 ⟨rfl,hb4⟩;have HX4:=hid (HX2.out.later hb4);clear hb4)
    go_ret
    exact .bad HRz.out HEw.out HX4.out (IO.nil_ _ _)
   subst hew
   have HRw:Hid (ruleR S.fl c line row=match addR wd with
    | .error e=>.error e
    | .ok add=>ruleB S.fl c line row strip add rest cut):=hid (by rw [HRe.out,ruleA,hw];rfl)
   obtain⟨Bz,hBz⟩:∃B,((mkS wd).toList==[48])=B:=⟨_,rfl⟩
   have hwl:=(wordR_len (fieldAt row 3).data.toList).1
   have hwl2:=(wordR_len (fieldAt row 3).data.toList).2
   rw [hw,len_toList] at hwl hwl2
   have HSw:=hid (show (mkS wd).size≤140737488355328 by rw [mkS_size];exact Nat.le_trans hwl (Nat.le_trans (HSz.out 3) (by decide)))
   have HSr:=hid (show (mkS rest).size≤4194304 by rw [mkS_size];exact Nat.le_trans hwl2 (Nat.le_trans (HSz.out 3) (by decide)))
   clear hwl hwl2 hw
   go_upto_region 8 with (go_at_call 143;refine HW.out.mono ?_;rintro e4 w4 ⟨rfl,hb4⟩;have HX4:=hid (HX2.out.later hb4);clear hb4)
   go_upto_if 42 with fail
   have HFt:=hid (so_qfit (mkS wd) w4 HSw.out)
   cases ha:addR wd with
   | error e =>
    have HRf:Hid (ruleR S.fl c line row=.error e):=hid (by rw [HRw.out,ha])
    have hz:mkS wd≠zeroS:=fun h=>by rw [addR,if_pos h] at ha;cases ha
    have hBf:Bz=false:=by
     rw [←hBz,beq_eq_false_iff_ne]
     intro h3
     rw [Lib.toList_data] at h3
     have h4:wd=[48]:=h3
     exact hz (by rw [h4];rfl)
    subst hBf
    have hfe:fitE (mkS wd)=e∧e≠0:=by
     rw [addR,if_neg hz] at ha
     by_cases hf:fitE (mkS wd)≠0
     ·rw [if_pos hf] at ha;cases ha;exact⟨rfl,hf⟩
     rw [if_neg hf] at ha;cases ha
    rw [hfe.1] at HFt
    have HE0:=hid hfe.2
    have hE1:(e != 0)=true:=by simpa using hfe.2
    clear hz hfe ha
    go_wp2_with (go_at_call 234;refine HFt.out.mono ?_;rintro e5 w5 ⟨rfl,rfl⟩)
    go_ret
    exact .bad HRf.out HE0.out HX4.out (IO.nil_ _ _)
   | ok add =>
    have HRb:Hid (ruleR S.fl c line row=match nextR S.fl c.kind rest cut with
     | .error e=>.error e
     | .ok next=>ruleC c line row strip add next):=hid (by rw [HRw.out,ha];rfl)
    have HAd:=hid ha
    clear ha
    go_cut [] from 43 to 51 (fun W=>Hid (XQ w W xb c strip add ⟨#[]⟩ (.slice none 0 0) line))
    case first =>
     cases Bz
     ·have hz:mkS wd≠zeroS:=fun e=>by
       rw [e,Lib.toList_data] at hBz
       exact absurd hBz (by decide)
      have hadd:add=mkS wd∧fitE (mkS wd)=0:=by
       have h:=HAd.out
       rw [addR,if_neg hz] at h
       by_cases hf:fitE (mkS wd)≠0
       ·rw [if_pos hf] at h;cases h
       rw [if_neg hf] at h;cases h;exact⟨rfl,by omega⟩
      obtain⟨rfl,hfit⟩:=hadd
      rw [hfit] at HFt
      obtain⟨k0,k3,k4,k5,k6⟩:=HX4.out.cell
      have z4:=HX4.out.fz 4
      clear hz hfit
      go_wp2_with (go_at_call 234;refine HFt.out.mono ?_;rintro e5 w5 ⟨rfl,rfl⟩)
      all_goals go_meet
      all_goals exact hid HX4.out.setAdd
     have hz:mkS wd=zeroS:=by
      have h3:(mkS wd).toList=[48]:=by simpa using hBz
      rw [Lib.toList_data] at h3
      have h4:wd=[48]:=h3
      rw [h4];rfl
     have hadd:add=⟨#[]⟩:=by
      have h:=HAd.out
      rw [addR,if_pos hz] at h
      cases h;rfl
     subst hadd
     clear hz
     go_wp2_with fail
     all_goals go_meet
     all_goals exact HX4
    case rest =>
    have HX7:=hcut
    clear hcut
    have HQm:=hid (HQ.out _ HX7.out.kept)
    have HFS:=hid (so_qFlags L rf S.fl (mkS rest) wc HQm.out.flF (fun x hx=>(HQm.out.hl x hx).2) hal HSr.out)
    obtain⟨k0,k3,k4,k5,k6⟩:=HX7.out.cell
    have z6:=HX7.out.fz 6
    cases hnx:nextR S.fl c.kind rest cut with
    | error e =>
     have HRf:Hid (ruleR S.fl c line row=.error e):=hid (by rw [HRb.out,hnx])
     cases cut
     ·rw [nextR,if_neg (by simp)] at hnx;cases hnx
     rw [nextR,if_pos rfl] at hnx
     by_cases hk2:c.kind=2
     ·have hfl:(flagsR S.fl (mkS rest)).2=e∧e≠0:=by
       rw [if_neg (by omega)] at hnx
       by_cases h:(flagsR S.fl (mkS rest)).2≠0
       ·rw [if_pos h] at hnx;cases hnx;exact⟨rfl,h⟩
       rw [if_neg h] at hnx;cases hnx
      have ek:(c.kind==1)=false:=by rw [hk2];rfl
      unfold FlgQ at HFS
      rw [hfl.1] at HFS
      have HE0:=hid hfl.2
      have hE1:(e != 0)=true:=by simpa using hfl.2
      clear hfl hk2 hnx
      go_wp2_with (go_at_call 144;refine HFS.out.mono ?_;rintro e6 w6 ⟨v6,rfl,hv6,hb6⟩;have HV6:=hid hv6;have HX8:=hid (HX7.out.later hb6);obtain⟨p6,c6,rfl,-⟩:=hv6;obtain⟨-,-,-,-,q6⟩:=HX8.out.cell;have y6:=HX8.out.fz 6;clear hb6)
      go_ret
      exact .bad HRf.out HE0.out HX8.out.setNext (HV6.out.keep ⟨set_kept' HInL.out,fun _ h=>.inl h⟩)
     have he:e=118:=by rw [if_pos hk2] at hnx;cases hnx;rfl
     subst he
     have ek:(c.kind==1)=true:=by rw [beq_iff_eq];omega
     clear hk2 hnx
     go_wp2_with fail
     go_ret
     exact .bad HRf.out (by decide) HX7.out (IO.nil_ _ _)
    | ok next =>
     have HRc:Hid (ruleR S.fl c line row=ruleC c line row strip add next):=hid (by rw [HRb.out,hnx])
     have hcc:cut=false∨(cut=true∧(c.kind==1)=false):=by
      cases cut
      ·exact .inl rfl
      refine .inr ⟨rfl,?_⟩
      rw [nextR,if_pos rfl] at hnx
      by_cases h:c.kind≠2
      ·rw [if_pos h] at hnx;cases hnx
      rw [beq_eq_false_iff_ne];omega
     go_upto_region 13 with fail
     go_cut [59] from 52 to 58 (fun p W=>p=.bool false∧W=wc)
     case first =>
      rcases hcc with rfl | ⟨rfl,ek⟩
      ·go_wp2_with fail
       all_goals go_meet
       all_goals exact⟨rfl,rfl⟩
      go_wp2_with fail
      all_goals go_meet
      all_goals exact⟨rfl,rfl⟩
     case rest =>
     obtain⟨rfl,rfl⟩:=hcut
     go_upto_if 60 with fail
     go_cut [] from 62 to 72 (fun W=>∃nv,Hid (XQ w W xb c strip add ⟨#[]⟩ nv line)∧Hid (IO W L nv next))
     case first =>
      cases cut
      ·have hnn:next=[]:=by
        unfold nextR at hnx
        rw [if_neg (by simp)] at hnx
        cases hnx;rfl
       subst hnn
       go_wp2_with fail
       all_goals go_meet
       all_goals exact⟨_,HX7,hid (IO.nil_ _ _)⟩
      have hfl:(flagsR S.fl (mkS rest)).2=0∧next=(flagsR S.fl (mkS rest)).1:=by
       unfold nextR at hnx
       rw [if_pos rfl] at hnx
       by_cases hk:c.kind≠2
       ·rw [if_pos hk] at hnx;cases hnx
       rw [if_neg hk] at hnx
       by_cases h:(flagsR S.fl (mkS rest)).2≠0
       ·rw [if_pos h] at hnx;cases hnx
       rw [if_neg h] at hnx
       cases hnx
       exact⟨by omega,rfl⟩
      unfold FlgQ at HFS
      rw [hfl.1,←hfl.2] at HFS
      clear hfl hnx
      go_wp2_with (go_at_call 144;refine HFS.out.mono ?_;rintro e6 w6 ⟨v6,rfl,hv6,hb6⟩;have HV6:=hid hv6;have HX8:=hid (HX7.out.later hb6);obtain⟨p6,c6,rfl,-⟩:=hv6;obtain⟨-,-,-,-,q6⟩:=HX8.out.cell;have y6:=HX8.out.fz 6;clear hb6)
      all_goals go_meet
      all_goals exact⟨_,hid HX8.out.setNext,hid (HV6.out.keep ⟨set_kept' HInL.out,fun _ h=>.inl h⟩)⟩
     case rest =>
     obtain⟨nv,HX9,HNv⟩:=hcut
     clear hnx hcc k0 k3 k4 k5 k6 z6 HFS HQm
     obtain⟨p9,c9,hq9,-⟩:=HNv.out
     subst hq9
     obtain⟨-,-,-,k5,-⟩:=HX9.out.cell
     have z5:=HX9.out.fz 5
     go_upto_region 20 with fail
     have HX10:=hid (HX9.out.setCond (s:=⟨#[46]⟩))
     have HN10:Hid (IO (wc.setCell ⟨xb,5,none⟩ (.string ⟨#[46]⟩)) L (.slice p9 next.length c9) next):=hid (HNv.out.keep ⟨set_kept' HInL.out,fun _ h=>.inl h⟩)
     clear k5 z5
     first
      | (have hn4:row.length=4:=HHn.out
         have HRz:Hid (ruleR S.fl c line row=.ok ⟨c.kind,c.flag,c.cross,strip,add,⟨#[46]⟩,next,line⟩):=hid (by rw [HRc.out,ruleC,condOf,if_neg (by omega)])
         clear hn4
         go_wp2_with fail
         go_ret
         unfold RuleQ
         rw [HRz.out]
         exact⟨HX10.out.kept,rfl,_,HX10.out.x,HN10.out⟩)
      | (have hn5:row.length=5:=HHn.out
         have d4:=HD.out 4 (by omega) _ HX10.out.kept
         have hs4:=HSz.out 4
         have HBy:=hid (Bytes02_any (fieldAt row 4) (wc.setCell ⟨xb,5,none⟩ (.string ⟨#[46]⟩)) (Nat.le_trans hs4 (by decide)))
         cases hf:fitAll (fieldAt row 4)
         ·have HRz:Hid (ruleR S.fl c line row=.error 21):=hid (by rw [HRc.out,ruleC,condOf,if_pos hn5,if_pos hf])
          rw [hf] at HBy
          clear hf hn5
          go_wp2_with (go_at_call 139;refine HBy.out.mono ?_;rintro e8 w8 ⟨rfl,rfl⟩)
          go_ret
          exact .bad HRz.out (by decide) HX10.out HN10.out
         rw [hf] at HBy
         have HRy:Hid (ruleR S.fl c line row=match condR (fieldAt row 4).data.toList with
          | .error e=>.error e
          | .ok ts=>.ok ⟨c.kind,c.flag,c.cross,strip,add,mkS (condShow ts),next,line⟩):=hid (by rw [HRc.out,ruleC,condOf,if_pos hn5,if_neg (by rw [hf];simp)];cases condR (fieldAt row 4).data.toList<;>rfl)
         have HCd:=hid (so_refRead (fieldAt row 4) (wc.setCell ⟨xb,5,none⟩ (.string ⟨#[46]⟩)))
         unfold CondQ at HCd
         clear hf hn5
         cases hc:condR (fieldAt row 4).data.toList with
         | error e =>
          have HRz:Hid (ruleR S.fl c line row=.error e):=hid (by rw [HRy.out,hc])
          rw [hc] at HCd
          have hce:=condR_err hc
          have hE1:(e != 0)=true:=by rw [bne,hce];rfl
          have HE0:Hid (e≠0):=hid (by simpa using hce)
          clear hc hce
          go_wp2_with (first | (go_at_call 139;refine HBy.out.mono ?_;rintro e8 w8 ⟨rfl,rfl⟩) | (go_at_call 235;refine HCd.out.mono ?_;rintro e8 w8 ⟨rfl,hb8⟩;have HX11:=hid (HX10.out.later hb8);have HN11:=hid (HN10.out.keep (Go2.of_below hb8));clear hb8))
          go_ret
          exact .bad HRz.out HE0.out HX11.out HN11.out
         | ok ts =>
          have HRz:Hid (ruleR S.fl c line row=.ok ⟨c.kind,c.flag,c.cross,strip,add,mkS (condShow ts),next,line⟩):=hid (by rw [HRy.out,hc])
          rw [hc] at HCd
          have HTs:=hid (condR_len hc)
          clear hc
          go_wp2_with (first
           | (go_at_call 139;refine HBy.out.mono ?_;rintro e8 w8 ⟨rfl,rfl⟩)
           | (go_at_call 235;refine HCd.out.mono ?_;rintro e8 w8 ⟨hok,v8,rfl,ho8⟩;have HX11:=hid (HX10.out.later (Below.mono ho8.below (Nat.le_refl _)));have HN11:=hid (HN10.out.keep (Go2.of_below (Below.mono ho8.below (Nat.le_refl _))));have HOk:=hid hok;have HRd8:=hid (Rd.of_own ho8.own);obtain⟨A8,cp8,rfl⟩:=own_slice ho8.own;clear ho8 hok)
           | (go_at_call 236;refine (so_refShow _ ts _ HRd8.out HOk.out (Nat.le_trans HTs.out (by decide))).mono ?_;rintro e9 w12 ⟨rfl,hb12⟩;have HX12:=hid (HX11.out.later hb12);have HN12:=hid (HN11.out.keep (Go2.of_below hb12));obtain⟨-,-,-,k5,-⟩:=HX12.out.cell;have z5:=HX12.out.fz 5;clear hb12))
          go_ret
          unfold RuleQ
          rw [HRz.out]
          exact⟨HX12.out.setCond.kept,rfl,_,HX12.out.setCond.x,HN12.out.keep ⟨set_kept' HInL.out,fun _ h=>.inl h⟩⟩)
theorem wpList_pushL {P:Program} {ops:Array Oper} {rest:List Oper} {o:Oper} {a:Act} {Q:Exit→Act→World→Prop} {w:World} (hgd:o.guard=none) (s x:Operand) (t:TypeId)
  (ho:o.op=.call { callee:=.builtin .append,args:=#[s,x],argTypes:=#[t,t] })
  (base:Nat) (e:TypeId) (i:TypeInfo) (z:Value) (size bytes:Nat) (ht:P.underlying t=some (.slice e)) (hi:P.info? e=some i) (hz:i.zero=some z)
  (hsize:i.size=size) (hby:i.bytes=bytes) (hzs:z.cells.size=size) (hsz:0 < size)
  (v:Value) (n:Nat) (xs:List Value) (hs:a.eval s=v) (hown:w.ownsRow base e size v n xs)
  (us:Array Value) (hus:us.size=size) (h1:∀u∈us.toList,u.oneCell'=true) (hx:a.eval x=.slice (some ⟨w.heap.size,0,none⟩) 1 1)
  (h63:n+1≤maxLen) (hbytes:(n+1)*bytes≤140737488355328) (hbase:base≤w.heap.size)
  (h:∀g cap w',w'.ownsRow base e size (.slice (some ⟨g,0,none⟩) (n+1) cap) (n+1) (xs++us.toList)→w.grownBy w' v.ownBlock→LocP w w' v (.slice (some ⟨g,0,none⟩) (n+1) cap) →
   wpList P ops Q rest (a.put o.dst (.slice (some ⟨g,0,none⟩) (n+1) cap)) w'):wpList P ops Q (o::rest) a (w.alloc (.cells us e)):=by
 refine wpList_plain hgd fun K hK=>?_
 obtain⟨v',w',hrun,h2,h3,h4⟩:=run_append_src (P:=P) (w.alloc (.cells us e)) base t o.type e i z size bytes ht hi hz hsize hby hzs hsz v n xs (hown.alloc _) (some ⟨w.heap.size,0,none⟩) 1 1 us.toList (by simp [hus])
  (.inr ⟨_,rfl,by
   intro j u hj
   rw [row_addr,cell_of_row (w.alloc (.cells us e)) w.heap.size j us e (0,0) (heap_alloc_new w _)]
   simpa using hj⟩) h1 h63 hbytes (by simp;omega)
 obtain⟨g,cap,rfl⟩:∃g cap,v'=.slice (some ⟨g,0,none⟩) (n+1) cap:=by
  rcases h2.2 with ⟨_,h0⟩ | ⟨g,cap,cur,hv,_⟩
  ·omega
  exact⟨g,cap,hv⟩
 unfold Oper.wp execOp
 simp only [ho,resolve,invoke,builtin,Sem.run_bind,Sem.run_pure,Result.andThen_ok,List.map_toArray,List.map_cons,List.map_nil,hs,hx,hrun]
 refine hK _ _ (h g cap w' h2 (grown_of_alloc h3) ?_)
 rcases h4 with h4 | h4
 ·exact .inl h4
 refine .inr ⟨g,rfl,?_,(h2.lt g rfl).2⟩
 have:g=(w.alloc (.cells us e)).heap.size:=by simpa [Value.ownBlock] using h4
 rw [this,World.size_alloc];omega
theorem qrep_info:(Tryz.prog.info? 297).map (fun i=>(i.zero,i.size,i.bytes))=some (some (.agg #[.string ByteArray.empty,.string ByteArray.empty]),2,32):=by kernel_rfl
theorem qals_info:(Tryz.prog.info? 39).map (fun i=>(i.zero,i.size,i.bytes))=some (some (.slice none 0 0),1,24):=by kernel_rfl
theorem qcls_info:(Tryz.prog.info? 192).map (fun i=>(i.zero,i.size,i.bytes))=some (some (.agg #[.int .i64 0,.int .i64 0,.bool false,.int .i64 0,.int .i64 0]),5,40):=by kernel_rfl
theorem qrls_info:(Tryz.prog.info? 41).map (fun i=>(i.zero,i.size,i.bytes))=some (some (.agg #[.int .i64 0,.int .i64 0,.bool false,.string ByteArray.empty,.string ByteArray.empty,.string ByteArray.empty,.slice none 0 0,.int .i64 0]),8,104):=by kernel_rfl
def InnQ (w0:World) (L:List Nat) (rr rf:Nat) (E:Int) (all:List Row) (kh k:Nat) (S:Sx) (R:Except Int Fl) (w:World) (e:Ending) (w':World):Prop:=∃L',Go2 L w L' w'∧match R with
 | .ok F=>e=.returned (.int .i64 0)∧RQ w0 w' L' rr rf E all kh k { S with fl:=F }
 | .error c=>c≠0∧e=.returned (.int .i64 c)∧w'.cell? ⟨rr,5,none⟩=some (.int .i64 S.line)
theorem InnQ.bad {w0:World} {L L':List Nat} {rr rf:Nat} {E:Int} {all:List Row} {kh k:Nat} {S:Sx} {R:Except Int Fl} {c:Int} {w w':World} (hR:R=.error c) (hc:c≠0) (hg:Go2 L w L' w') (hl:w'.cell? ⟨rr,5,none⟩=some (.int .i64 S.line)):InnQ w0 L rr rf E all kh k S R w (.returned (.int .i64 c)) w':=by
 subst hR;exact⟨L',hg,hc,rfl,hl⟩
theorem InnQ.fine {w0:World} {L L':List Nat} {rr rf a:Nat} {v:Qs} {E:Int} {all:List Row} {kh k:Nat} {S:Sx} {R:Except Int Fl} {F:Fl} {w w':World} (hR:R=.ok F) (hg:Go2 L w L' w') (hb:Bd kh k { S with fl:=F }) (hp:PosR all a S) (hm:QM w0 w' L' rr rf v E all a { S with fl:=F }):InnQ w0 L rr rf E all kh k S R w (.returned (.int .i64 0)) w':=by
 subst hR;exact⟨L',hg,rfl,hb,v,a,hp,hm⟩
theorem so_qrep (w0:World) (L:List Nat) (rr rf:Nat) (E:Int) (all:List Row) (kh k:Nat) (S:Sx) (fv:Value) (row:List ByteArray) (w:World) (h:RQ w0 w L rr rf E all (kh+1) (k+1) S) (hr:RowF1 w0 fv row) (hk:fieldAt row 0=kREP) (hpos:0 < row.length) :
  Calls Tryz.prog 180 #[.pointer (some ⟨rr,0,none⟩),fv] w (InnQ w0 L rr rf E all kh k S (repR_ S.fl S.line row) w):=by
 obtain⟨i0,hi,hz0,hz1,hz2⟩:=info_parts qrep_info
 obtain⟨hbd,v,a,hpa,hm⟩:=h
 have HSz:=hid (fieldAt_le hr.each)
 obtain⟨g,o,cp,rfl,hcp,hcells⟩:=hr.cells hpos
 have HD:Hid (∀j,j < row.length→∀W,Below w.heap.size w W→W.cell? ⟨g,o+j,none⟩=some (.string (fieldAt row j))):=hid (fun j hj W hb=>field_in (hcells j hj) (hm.below hb).base)
 have d0:=HD.out 0 hpos w (Below.refl _ _)
 rw [Nat.add_zero,hk] at d0
 have c0:=hm.r0
 have HM:=hid hm
 have HB:=hid hbd
 have HPa:=hid hpa
 have hcl:row.length≤65536:=hr.len
 clear hcells hm hbd hpa hr hk
 by_cases h3:row.length=3
 ·have HRp:Hid (repR_ S.fl S.line row=match pieceR false (fieldAt row 1) with
   | .error c=>.error c
   | .ok a=>match pieceR true (fieldAt row 2) with
     | .error c=>.error c
     | .ok b=>.ok { S.fl with reps:=S.fl.reps++[(a,b)] }):=hid (by rw [repR_,if_neg (by simp [h3])];rfl)
  have d1:=HD.out 1 (by omega) w (Below.refl _ _)
  have HP1:=hid (so_qpiece (fieldAt row 1) false w (Nat.le_trans (HSz.out 1) (by decide)))
  unfold PieceQ at HP1
  cases hp1:pieceR false (fieldAt row 1) with
  | error c1 =>
   have HRe:Hid (repR_ S.fl S.line row=.error c1):=hid (by rw [HRp.out,hp1])
   rw [hp1] at HP1
   rw [h3] at hcp hcl ⊢
   clear hp1 h3
   go_enter Tryz.func180,Tryz.ntmps180
   go_wp2_with (go_at_call 209;refine HP1.out.mono ?_;rintro e1 w1 ⟨hb1,he1,t1,rfl⟩;have HB1:=hid hb1;have HE1:=hid he1;have he2:(c1 != 0)=true:=by { simpa using he1 };clear hb1 he1)
   go_ret
   exact .bad HRe.out HE1.out (Go2.of_below HB1.out) (HM.out.below HB1.out).r5
  | ok x =>
   rw [hp1] at HP1
   have HP2:Hid (∀W,Calls Tryz.prog 209 #[.string (fieldAt row 2),.bool true] W (PieceQ (pieceR true (fieldAt row 2)) W)):=hid (fun W=>so_qpiece (fieldAt row 2) true W (Nat.le_trans (HSz.out 2) (by decide)))
   have HD2:=hid (HD.out 2 (by omega))
   have hRp2:=HRp.out
   rw [hp1] at hRp2
   obtain⟨R2,hR2⟩:∃R,pieceR true (fieldAt row 2)=R:=⟨_,rfl⟩
   dsimp only at hRp2
   rw [hR2] at HP2 hRp2
   have HR2:=hid hRp2
   obtain⟨A3,cp3,hv3⟩:=own_slice HM.out.reps.1
   have HV3:=hid hv3
   have HM1:Hid (∀W y,Below w.heap.size w W→∀W9 g9 cap9,W9.ownsRow 0 297 2 (.slice (some ⟨g9,0,none⟩) (S.fl.reps.length+1) cap9) (S.fl.reps.length+1) (repCells S.fl.reps++[.string x,.string y])→W.grownBy W9 (Value.slice A3 S.fl.reps.length cp3).ownBlock→LocP W W9 (.slice A3 S.fl.reps.length cp3) (.slice (some ⟨g9,0,none⟩) (S.fl.reps.length+1) cap9) →
     ∃L',Go2 L w L' (W9.setCell ⟨rf,9,none⟩ (.slice (some ⟨g9,0,none⟩) (S.fl.reps.length+1) cap9))∧QM w0 (W9.setCell ⟨rf,9,none⟩ (.slice (some ⟨g9,0,none⟩) (S.fl.reps.length+1) cap9)) L' rr rf { v with reps:=.slice (some ⟨g9,0,none⟩) (S.fl.reps.length+1) cap9 } E all a { S with fl:={ S.fl with reps:=S.fl.reps++[(x,y)] } }):=hid (fun W y hW W9 g9 cap9 hown hg hloc=>by
    rw [←HV3.out] at hg hloc
    obtain⟨L',hG,hM⟩:=(HM.out.below hW).push_reps x y hg hloc hown
    exact⟨L',(Go2.of_below hW).trans hG,hM⟩)
   have HFg:Hid (∀W,Below w.heap.size w W→∀W9,W.grownBy W9 (Value.slice A3 S.fl.reps.length cp3).ownBlock→W9.heap[rf]?=some (.cells (qfile v S.fl) 48 (0,0))):=hid (fun W hW W9 hg=>by
    rw [←HV3.out] at hg
    exact (HM.out.below hW).file_grown hg (HM.out.below hW).ty_reps (by decide))
   have HO9:Hid (∀W,Below w.heap.size w W→W.ownsRow 0 297 2 (.slice A3 S.fl.reps.length cp3) S.fl.reps.length (repCells S.fl.reps)):=hid (fun W hW=>by
    rw [←HV3.out];exact (HM.out.below hW).reps.1)
   have HC9:Hid (∀W,Below w.heap.size w W→W.cell? ⟨rf,9,none⟩=some (.slice A3 S.fl.reps.length cp3)):=hid (fun W hW=>by
    rw [(HM.out.below hW).fc 9,←HV3.out];rfl)
   have hrl:S.fl.reps.length≤65536:=by have:=HB.out.reps;omega
   rw [h3] at hcp hcl ⊢
   clear hp1 h3 hv3 hRp2 hR2
   unfold PieceQ at HP2
   cases R2 with
   | error c2 =>
    go_enter Tryz.func180,Tryz.ntmps180
    go_upto_region 9 with (go_at_call 209;refine HP1.out.mono ?_;rintro e1 w1 ⟨hb1,rfl⟩;have HB1:=hid hb1;have d2:=HD2.out w1 hb1;clear hb1)
    go_upto_region 10 with (go_at_call 209;refine (HP2.out _).mono ?_;rintro e2 w2 ⟨hb2,he2,t2,rfl⟩;have HB2:=hid (HB1.out.trans (hb2.mono HB1.out.size));have HE2:=hid he2;have c9:=HC9.out _ HB2.out;clear hb2 he2)
    go_wp2_with (at_builtin;refine wpList_pushL rfl _ _ 43 rfl 0 297 i0 _ 2 32 Tryz.underlying43 hi hz0 hz1 hz2 rfl (by decide) (.slice A3 S.fl.reps.length cp3) S.fl.reps.length (repCells S.fl.reps) rfl (HO9.out _ HB2.out) #[.string x,.string t2] rfl (by intro u hu;simp at hu;rcases hu with rfl | rfl<;>rfl) rfl (by unfold maxLen;omega) (by omega) (Nat.zero_le _) ?_;intro g9 cap9 w9 hown hg hloc;have HX9:=hid (HM1.out _ t2 HB2.out _ _ _ hown hg hloc);have hf9:=HFg.out _ HB2.out _ hg;have q9:w9.cell? ⟨rf,9,none⟩=some v.reps:=by { rw [cell_of_heap hf9];rfl };have z9:=frozen_of_heap hf9 9;clear hown hg hloc hf9)
    go_ret
    obtain⟨L',hG,hM⟩:=HX9.out
    exact .bad HR2.out HE2.out hG hM.r5
   | ok y =>
    go_enter Tryz.func180,Tryz.ntmps180
    go_upto_region 9 with (go_at_call 209;refine HP1.out.mono ?_;rintro e1 w1 ⟨hb1,rfl⟩;have HB1:=hid hb1;have d2:=HD2.out w1 hb1;clear hb1)
    go_upto_region 10 with (go_at_call 209;refine (HP2.out _).mono ?_;rintro e2 w2 ⟨hb2,rfl⟩;have HB2:=hid (HB1.out.trans (hb2.mono HB1.out.size));have c9:=HC9.out _ HB2.out;clear hb2)
    go_wp2_with (at_builtin;refine wpList_pushL rfl _ _ 43 rfl 0 297 i0 _ 2 32 Tryz.underlying43 hi hz0 hz1 hz2 rfl (by decide) (.slice A3 S.fl.reps.length cp3) S.fl.reps.length (repCells S.fl.reps) rfl (HO9.out _ HB2.out) #[.string x,.string y] rfl (by intro u hu;simp at hu;rcases hu with rfl | rfl<;>rfl) rfl (by unfold maxLen;omega) (by omega) (Nat.zero_le _) ?_;intro g9 cap9 w9 hown hg hloc;have HX9:=hid (HM1.out _ y HB2.out _ _ _ hown hg hloc);have hf9:=HFg.out _ HB2.out _ hg;have q9:w9.cell? ⟨rf,9,none⟩=some v.reps:=by { rw [cell_of_heap hf9];rfl };have z9:=frozen_of_heap hf9 9;clear hown hg hloc hf9)
    go_ret
    obtain⟨L',hG,hM⟩:=HX9.out
    exact .fine HR2.out hG (HB.out.pushReps x y) HPa.out hM
 have HRe:Hid (repR_ S.fl S.line row=.error 111):=hid (by rw [repR_,if_pos h3])
 have q3:((row.length:Int)==3)=false:=by rw [beq_eq_false_iff_ne];omega
 go_enter Tryz.func180,Tryz.ntmps180
 go_wp2_with fail
 go_ret
 exact .bad HRe.out (by decide) (Go2.refl _ _) HM.out.r5
theorem so_qals (w0:World) (L:List Nat) (rr rf:Nat) (E:Int) (all:List Row) (kh k:Nat) (S:Sx) (fv:Value) (row:List ByteArray) (w:World) (h:RQ w0 w L rr rf E all (kh+1) (k+1) S) (hr:RowF1 w0 fv row) (hk:fieldAt row 0=kAF) (hpos:0 < row.length) :
  Calls Tryz.prog 180 #[.pointer (some ⟨rr,0,none⟩),fv] w (InnQ w0 L rr rf E all kh k S (aliasR S.fl S.line row) w):=by
 obtain⟨i0,hi,hz0,hz1,hz2⟩:=info_parts qals_info
 obtain⟨hbd,v,a,hpa,hm⟩:=h
 have HSz:=hid (fieldAt_le hr.each)
 obtain⟨g,o,cp,rfl,hcp,hcells⟩:=hr.cells hpos
 have HD:Hid (∀j,j < row.length→∀W,Below w.heap.size w W→W.cell? ⟨g,o+j,none⟩=some (.string (fieldAt row j))):=hid (fun j hj W hb=>field_in (hcells j hj) (hm.below hb).base)
 have d0:=HD.out 0 hpos w (Below.refl _ _)
 rw [Nat.add_zero,hk] at d0
 have c0:=hm.r0
 have HM:=hid hm
 have HB:=hid hbd
 have HPa:=hid hpa
 have hcl:row.length≤65536:=hr.len
 clear hcells hm hbd hpa hr hk
 by_cases h2:row.length=2
 ·have HRp:Hid (aliasR S.fl S.line row=if (readF S.fl.kind (fieldAt row 1).data.toList).2≠0 then .error (readF S.fl.kind (fieldAt row 1).data.toList).2 else .ok { S.fl with als:=S.fl.als++[(readF S.fl.kind (fieldAt row 1).data.toList).1] }):=hid (by rw [aliasR,if_neg (by simp [h2])])
  have HS:Hid (∀W,Below w.heap.size w W→W.cell? ⟨rf,0,none⟩=some (.int .i64 S.fl.kind)∧W.cell? ⟨g,o+1,none⟩=some (.string (fieldAt row 1))):=hid (fun W hW=>⟨(HM.out.below hW).fc 0,HD.out 1 (by omega) W hW⟩)
  have HRd:=hid (so_rReadO S.fl.kind (fieldAt row 1) w.drew (Nat.le_trans (HSz.out 1) (by decide)))
  obtain⟨⟨az,ae⟩,hA⟩:∃r,readF S.fl.kind (fieldAt row 1).data.toList=r:=⟨_,rfl⟩
  rw [hA] at HRd HRp
  dsimp only at HRd HRp
  have HAl:=hid hA
  obtain⟨us0,ho0,hul0,-⟩:=HM.out.als
  obtain⟨A3,cp3,hv3⟩:=own_slice ho0.1
  have HV3:=hid hv3
  have HU:Hid (∀W,Below w.heap.size w W→W.ownsRow 0 39 1 (.slice A3 S.fl.als.length cp3) S.fl.als.length us0):=hid (fun W hW=>by
   have e1:=(ho0.keep (Kept.of_below (E:=[]) hW) (by simp) (fun _ h=>h)).1
   rw [HV3.out] at e1
   exact e1)
  have HC9:Hid (∀W,Below w.heap.size w W→W.cell? ⟨rf,10,none⟩=some (.slice A3 S.fl.als.length cp3)):=hid (fun W hW=>by
   rw [(HM.out.below hW).fc 10,←HV3.out];rfl)
  have HPu:Hid (∀W,Below w.heap.size w W→∀u,IO W L u az→∀W9 g9 cap9,W9.ownsRow 0 39 1 (.slice (some ⟨g9,0,none⟩) (S.fl.als.length+1) cap9) (S.fl.als.length+1) (us0++[u])→W.grownBy W9 (Value.slice A3 S.fl.als.length cp3).ownBlock→LocP W W9 (.slice A3 S.fl.als.length cp3) (.slice (some ⟨g9,0,none⟩) (S.fl.als.length+1) cap9) →
    ∃L',Go2 L w L' (W9.setCell ⟨rf,10,none⟩ (.slice (some ⟨g9,0,none⟩) (S.fl.als.length+1) cap9))∧QM w0 (W9.setCell ⟨rf,10,none⟩ (.slice (some ⟨g9,0,none⟩) (S.fl.als.length+1) cap9)) L' rr rf { v with als:=.slice (some ⟨g9,0,none⟩) (S.fl.als.length+1) cap9 } E all a { S with fl:={ S.fl with als:=S.fl.als++[az] } }):=hid (fun W hW u hu W9 g9 cap9 hown hg hloc=>by
   rw [←HV3.out] at hg hloc
   obtain⟨L',hG,hM⟩:=(HM.out.below hW).push_als u az hu hg hloc (fun us hus=>by
    have e0:=HU.out _ hW
    rw [HV3.out] at hus
    have:=own_uniq e0 hus
    subst this
    exact hown)
   exact⟨L',(Go2.of_below hW).trans hG,hM⟩)
  have HFg:Hid (∀W,Below w.heap.size w W→∀W9,W.grownBy W9 (Value.slice A3 S.fl.als.length cp3).ownBlock→W9.heap[rf]?=some (.cells (qfile v S.fl) 48 (0,0))):=hid (fun W hW W9 hg=>by
   rw [←HV3.out] at hg
   exact (HM.out.below hW).file_grown hg (HM.out.below hW).ty_als (by decide))
  have hal:S.fl.als.length≤65536:=by have:=HB.out.als;omega
  rw [h2] at hcp hcl ⊢
  clear hA h2 hv3 ho0 hul0
  go_enter Tryz.func180,Tryz.ntmps180
  go_upto_region 15 with fail
  refine wp_region_held_drew (S:=fun W'=>W'.cell? ⟨rf,0,none⟩=some (.int .i64 S.fl.kind)∧W'.cell? ⟨g,o+1,none⟩=some (.string (fieldAt row 1))) (by kernel_rfl) ?_ (fun hHeld=>?_)
  ·exact HS.out _ drew_below
  refine tkA 0 (some 62) hHeld ?_;try simp only [put_norm]
  refine tkA 1 (some 63) hHeld ?_;try simp only [put_norm]
  refine tkA 2 (some 64) hHeld ?_;try simp only [put_norm]
  refine tkA 3 (some 65) hHeld ?_;try simp only [put_norm]
  refine tkA 4 (some 66) hHeld ?_;try simp only [put_norm]
  refine tkA 5 (some 67) hHeld ?_;try simp only [put_norm]
  refine tkA 6 (some 68) hHeld ?_;try simp only [put_norm]
  refine rdy1 7 (fun K hK=>?_)
  go_simp
  refine HRd.out.mono ?_
  rintro e w3 ⟨u,rfl,ho3,hb3⟩
  have HB3:Hid (Below w.heap.size w w3):=hid (drew_below.trans hb3)
  have HIO:=hid (IO.of_own (L:=L) ho3 (fun x hx=>(HM.out.hl x hx).2))
  clear ho3 hb3
  refine hK.out _ _ ?_ (fun hHeld=>?_)
  ·exact HS.out _ HB3.out
  clear hK K
  refine tkA 8 (some 61) hHeld ?_;try simp only [put_norm]
  refine tkA 9 (some 70) hHeld ?_;try simp only [put_norm]
  refine tkA 10 (some 71) hHeld ?_;try simp only [put_norm]
  refine tkA 11 (some 9) hHeld ?_;try simp only [put_norm]
  refine tkA 12 (some 10) hHeld ?_;try simp only [put_norm]
  refine wpAnyH_done (by kernel_rfl) ?_ _
  have c9:=HC9.out _ HB3.out
  obtain⟨pu,cu,rfl⟩:∃p c,u=.slice p az.length c:=by
   obtain⟨p,c,h1,-⟩:=HIO.out
   exact⟨p,c,h1⟩
  go_wp2_with (at_builtin;refine wpList_pushL rfl _ _ 44 rfl 0 39 i0 _ 1 24 Tryz.underlying44 hi hz0 hz1 hz2 rfl (by decide) (.slice A3 S.fl.als.length cp3) S.fl.als.length us0 rfl (HU.out _ HB3.out) #[.slice pu az.length cu] rfl (by intro x hx;simp at hx;subst hx;rfl) rfl (by unfold maxLen;omega) (by omega) (Nat.zero_le _) ?_;intro g9 cap9 w9 hown hg hloc;have HX9:=hid (HPu.out _ HB3.out _ HIO.out _ _ _ hown hg hloc);have hf9:=HFg.out _ HB3.out _ hg;have q9:w9.cell? ⟨rf,10,none⟩=some v.als:=by { rw [cell_of_heap hf9];rfl };have z9:=frozen_of_heap hf9 10;clear hown hg hloc hf9)
  go_ret
  obtain⟨L',hG,hM⟩:=HX9.out
  by_cases hae:ae=0
  ·subst hae
   have hR:=HRp.out
   rw [if_neg (by simp)] at hR
   have hc:=readF_canon S.fl.kind (fieldAt row 1).data.toList
   have hl:=readF_bd S.fl.kind (fieldAt row 1).data.toList
   rw [HAl.out] at hc hl
   exact .fine hR hG (HB.out.pushAls az hc hl) HPa.out hM
  have hR:=HRp.out
  rw [if_pos hae] at hR
  exact .bad hR hae hG hM.r5
 have HRe:Hid (aliasR S.fl S.line row=.error 111):=hid (by rw [aliasR,if_pos h2])
 have q3:((row.length:Int)==2)=false:=by rw [beq_eq_false_iff_ne];omega
 go_enter Tryz.func180,Tryz.ntmps180
 go_wp2_with fail
 go_ret
 exact .bad HRe.out (by decide) (Go2.refl _ _) HM.out.r5
theorem qcls_last {cs:List Cl} {c:Cl} (h:cs.getLast?=some c):∃m,cs.length=m+1∧(qcls cs)[m*5]?=some (.int .i64 c.flag)∧(qcls cs)[m*5+1]?=some (.int .i64 c.kind)∧(qcls cs)[m*5+2]?=some (.bool c.cross)∧(qcls cs)[m*5+3]?=some (.int .i64 c.first)∧(qcls cs)[m*5+4]?=some (.int .i64 c.count):=by
 have hne:cs≠[]:=by rintro rfl;simp at h
 have hl:0 < cs.length:=List.length_pos_iff.2 hne
 have hc:cs[cs.length - 1]=c:=by
  rw [List.getLast?_eq_getElem?,List.getElem?_eq_getElem (by omega)] at h
  injection h
 refine⟨cs.length - 1,by omega,?_⟩
 have:=qcls_at cs (cs.length - 1) (by omega)
 rwa [hc] at this
theorem ruleR_same {F:Fl} {c:Cl} {line:Int} {row:List ByteArray} {r:Rl} (h:ruleR F c line row=.ok r):∃strip add cond next,r=⟨c.kind,c.flag,c.cross,strip,add,cond,next,line⟩:=by
 unfold ruleR at h
 split at h
 ·cases h
 split at h
 ·cases h
 split at h
 split at h
 ·cases h
 split at h
 ·cases h
 split at h
 ·cases h
 split at h
 ·cases h
 cases h
 exact⟨_,_,_,_,rfl⟩
def RuleC (R:Except Int Rl) (code:Int) (r:Rl):Prop:=match R with
 | .error k=>k≠0∧code=k
 | .ok r'=>code=0∧r'=r
def qrl (r:Rl) (nv:Value):Array Value:=#[.int .i64 r.kind,.int .i64 r.flag,.bool r.cross,.string r.strip,.string r.add,.string r.cond,nv,.int .i64 r.line]
theorem RuleQ.one {L:List Nat} {xb:Nat} {c:Cl} {line:Int} {R:Except Int Rl} {w w':World} {e:Ending} (h:RuleQ L xb c line R w e w') (hs:∀r,R=.ok r→∃strip add cond next,r=⟨c.kind,c.flag,c.cross,strip,add,cond,next,line⟩) :
  Kept [xb] w w'∧∃code r nv,e=.returned (.int .i64 code)∧w'.heap[xb]?=some (.cells (qrl r nv) 41 (0,0))∧IO w' L nv r.next∧RuleC R code r:=by
 unfold RuleQ at h
 cases R with
 | error k =>
  obtain⟨h1,h2,h3,strip,add,cond,nv,next,h4,h5⟩:=h
  exact⟨h1,k,⟨c.kind,c.flag,c.cross,strip,add,cond,next,line⟩,nv,h3,h4,h5,h2,rfl⟩
 | ok r =>
  obtain⟨h1,h2,nv,h4,h5⟩:=h
  obtain⟨strip,add,cond,next,rfl⟩:=hs r rfl
  exact⟨h1,0,⟨c.kind,c.flag,c.cross,strip,add,cond,next,line⟩,nv,h2,h4,h5,rfl,rfl⟩
theorem QM.rls_push {w0 w:World} {L:List Nat} {rr rf a:Nat} {v:Qs} {E:Int} {all:List Row} {S:Sx} (h:QM w0 w L rr rf v E all a S) (r:Rl) (nv:Value) (hio:IO w L nv r.next) :
  ∃us A3 cp3,(∀W,Below w.heap.size w W→W.cell? ⟨rf,12,none⟩=some (.slice A3 S.fl.rls.length cp3)∧W.ownsRow 0 41 8 (.slice A3 S.fl.rls.length cp3) S.fl.rls.length us) ∧
   (∀W,Below w.heap.size w W→∀W9,W.grownBy W9 (Value.slice A3 S.fl.rls.length cp3).ownBlock→W9.cell? ⟨rf,12,none⟩=some (.slice A3 S.fl.rls.length cp3)∧W9.frozen? ⟨rf,12,none⟩=false) ∧
   (∀W,Below w.heap.size w W→∀W9 g9 cap9,W9.ownsRow 0 41 8 (.slice (some ⟨g9,0,none⟩) (S.fl.rls.length+1) cap9) (S.fl.rls.length+1) (us++(qrl r nv).toList)→W.grownBy W9 (Value.slice A3 S.fl.rls.length cp3).ownBlock→LocP W W9 (.slice A3 S.fl.rls.length cp3) (.slice (some ⟨g9,0,none⟩) (S.fl.rls.length+1) cap9) →
    ∃L',Go2 L w L' (W9.setCell ⟨rf,12,none⟩ (.slice (some ⟨g9,0,none⟩) (S.fl.rls.length+1) cap9))∧QM w0 (W9.setCell ⟨rf,12,none⟩ (.slice (some ⟨g9,0,none⟩) (S.fl.rls.length+1) cap9)) L' rr rf { v with rls:=.slice (some ⟨g9,0,none⟩) (S.fl.rls.length+1) cap9 } E all a { S with fl:={ S.fl with rls:=S.fl.rls++[r] } }):=by
 obtain⟨rs,hrs,ho,-⟩:=h.rls
 have hln (qs:List (Rl×Value)) (h:qs.map (·.1)=S.fl.rls):qs.length=S.fl.rls.length:=by rw [←h,List.length_map]
 rw [hln rs hrs] at ho
 obtain⟨A3,cp3,hv⟩:=own_slice ho.1
 have HU (W:World) (hW:Below w.heap.size w W):W.ownsRow 0 41 8 (.slice A3 S.fl.rls.length cp3) S.fl.rls.length (qrls rs):=by
  have e1:=(ho.keep (Kept.of_below (E:=[]) hW) (by simp) (fun _ h=>h)).1
  rwa [hv] at e1
 refine⟨qrls rs,A3,cp3,fun W hW=>⟨?_,HU W hW⟩,fun W hW W9 hg=>?_,fun W hW W9 g9 cap9 hown hg hloc=>?_⟩
 ·rw [(h.below hW).fc 12,←hv];rfl
 ·rw [←hv] at hg
  have hf:=(h.below hW).file_grown hg (h.below hW).ty_rls (by decide)
  exact⟨by rw [cell_of_heap hf,←hv];rfl,frozen_of_heap hf 12⟩
 rw [←hv] at hg hloc
 obtain⟨L',hG,hM⟩:=(h.below hW).push_rls r nv (hio.keep (Go2.of_below hW)) hg hloc (fun qs hqs hq=>by
  rw [hln qs hqs] at hq ⊢
  have e0:=HU W hW
  rw [hv] at hq
  rw [←own_uniq e0 hq]
  exact hown)
 exact⟨L',(Go2.of_below hW).trans hG,hM⟩
theorem toList_inj' {a b:ByteArray} (h:a.toList=b.data.toList):a=b:=by
 rw [Lib.toList_data] at h
 exact ByteArray.ext (Array.toList_inj.1 h)
theorem so_qrl (w0:World) (L:List Nat) (rr rf:Nat) (E:Int) (all:List Row) (kh k:Nat) (S:Sx) (c:Cl) (fv:Value) (row:List ByteArray) (w:World) (h:RQ w0 w L rr rf E all (kh+1) (k+1) S) (hr:RowF1 w0 fv row) (hk1:fieldAt row 0≠kREP) (hk2:fieldAt row 0≠kAF) (hpos:0 < row.length) (hla:S.fl.cls.getLast?=some c) (hck:c.kind=1∨c.kind=2) :
  Calls Tryz.prog 180 #[.pointer (some ⟨rr,0,none⟩),fv] w (InnQ w0 L rr rf E all kh k S (ruleIn c S.fl S.line row) w):=by
 obtain⟨i0,hi,hz0,hz1,hz2⟩:=info_parts qrls_info
 obtain⟨hbd,v,a,hpa,hm⟩:=h
 have HSz:=hid (fieldAt_le hr.each)
 have HRow:=hid hr
 obtain⟨g,o,cp,rfl,hcp,hcells⟩:=hr.cells hpos
 have d0:=field_in (hcells 0 hpos) hm.base
 rw [Nat.add_zero] at d0
 have e1:((fieldAt row 0).toList==[82,69,80])=false:=by rw [beq_eq_false_iff_ne];intro e;exact hk1 (toList_inj' e)
 have e2:((fieldAt row 0).toList==[65,70])=false:=by rw [beq_eq_false_iff_ne];intro e;exact hk2 (toList_inj' e)
 have c0:=hm.r0
 have HM:=hid hm
 have HB:=hid hbd
 have HPa:=hid hpa
 have hcl:row.length≤65536:=hr.len
 clear hcells hm hbd hpa hr hk1 hk2
 by_cases hlen:row.length≠4∧row.length≠5
 ·have HRe:Hid (ruleIn c S.fl S.line row=.error 111):=hid (by rw [ruleIn,ruleR,if_pos hlen])
  have q4:((row.length:Int) != 4)=true:=by rw [bne_iff_ne];omega
  have q5:((row.length:Int) != 5)=true:=by rw [bne_iff_ne];omega
  go_enter Tryz.func180,Tryz.ntmps180
  go_wp2_with fail
  go_ret
  exact .bad HRe.out (by decide) (Go2.refl _ _) HM.out.r5
 have HL:=hid hlen
 have hq:row.length=4∨row.length=5:=by omega
 obtain⟨m,hm1,q0,q1,q2,q3,q4⟩:=qcls_last hla
 have hrd:=Rd.of_own HM.out.cls.1
 obtain⟨-,Ac,cpc,hvc,hcapc,hcc⟩:=hrd
 obtain⟨gc,oc,rfl,hcd⟩:=hcc.resolve_left (by omega)
 have HS:Hid (∀W,Below w.heap.size w W→W.cell? ⟨rf,11,none⟩=some (.slice (some ⟨gc,oc,none⟩) (m+1) cpc)∧W.cell? ⟨gc,oc+m*5,none⟩=some (.int .i64 c.flag)∧W.cell? ⟨gc,oc+m*5+1,none⟩=some (.int .i64 c.kind)∧W.cell? ⟨gc,oc+m*5+2,none⟩=some (.bool c.cross)∧W.cell? ⟨gc,oc+m*5+3,none⟩=some (.int .i64 c.first)∧W.cell? ⟨gc,oc+m*5+4,none⟩=some (.int .i64 c.count)):=hid (fun W hW=>by
  have e (j:Nat) (u:Value) (h:(qcls S.fl.cls)[m*5+j]?=some u):W.cell? ⟨gc,oc+m*5+j,none⟩=some u:=by
   have h1:=hcd _ _ h
   rw [←Nat.add_assoc] at h1
   exact (hW.cell (p:=⟨gc,oc+m*5+j,none⟩) (block_lt_of_cell? _ _ h1)).trans h1
  refine⟨?_,e 0 _ q0,e 1 _ q1,e 2 _ q2,e 3 _ q3,e 4 _ q4⟩
  rw [(HM.out.below hW).fc 11,←hm1,←hvc];rfl)
 have hcm:m+1≤cpc:=by omega
 have hmb:m+1≤65536:=by have:=HB.out.cls;omega
 have hwm:IntKind.i64.wrap (m:Int)=(m:Int):=by rw [IntKind.wrap_i64];omega
 have hm0:(0:Int)≤(m:Int):=by omega
 have hm2:(m:Int) < (m:Int)+1:=by omega
 clear hcd hcc hvc hcapc q0 q1 q2 q3 q4 hlen hla hm1
 have HHn:Hid (row.length=row.length):=hid rfl
 obtain⟨n,hn⟩:∃n,row.length=n:=⟨_,rfl⟩
 rw [hn] at hcp hq ⊢
 have HN:=hid hn
 clear hn HHn
 rcases hq with rfl | rfl
 all_goals
  go_enter Tryz.func180,Tryz.ntmps180
  go_upto_region 20 with fail
  refine wp_region_held_drew (S:=fun W=>W.cell? ⟨rf,11,none⟩=some (.slice (some ⟨gc,oc,none⟩) (m+1) cpc)∧W.cell? ⟨gc,oc+m*5,none⟩=some (.int .i64 c.flag)∧W.cell? ⟨gc,oc+m*5+1,none⟩=some (.int .i64 c.kind)∧W.cell? ⟨gc,oc+m*5+2,none⟩=some (.bool c.cross)∧W.cell? ⟨gc,oc+m*5+3,none⟩=some (.int .i64 c.first)∧W.cell? ⟨gc,oc+m*5+4,none⟩=some (.int .i64 c.count)) (by kernel_rfl) ?_ (fun hHeld=>?_)
  ·exact HS.out _ drew_below
  refine tkA 0 (some 91) hHeld ?_;try simp only [put_norm]
  refine tkA 1 (some 92) hHeld ?_;try simp only [put_norm]
  refine tkA 2 (some 93) hHeld ?_;try simp only [put_norm]
  refine tkA 3 (some 94) hHeld ?_;try simp only [put_norm]
  refine tkA 4 (some 95) hHeld ?_;try simp only [put_norm]
  refine tkA 5 (some 96) hHeld ?_;try simp only [put_norm]
  refine tkA 6 (some 97) hHeld ?_;try simp only [put_norm]
  refine tkA 7 (some 98) hHeld ?_;try simp only [put_norm]
  refine tkA 8 (some 99) hHeld ?_;try simp only [put_norm]
  refine tkA 9 (some 100) hHeld ?_;try simp only [put_norm]
  refine tkA 10 (some 101) hHeld ?_;try simp only [put_norm]
  refine tkA 11 (some 102) hHeld ?_;try simp only [put_norm]
  refine rdy1 12 (fun K hK=>?_)
  go_simp
  refine hK.out _ _ ?_ (fun hHeld=>?_)
  ·first | exact HS.out _ drew_below | exact HS.out _ (drew_below.alloc (Nat.le_refl _) _)
  clear hK K
  refine rdy1 13 (fun K hK=>?_)
  go_simp
  refine hK.out _ _ ?_ (fun hHeld=>?_)
  ·first | exact HS.out _ drew_below | exact HS.out _ (drew_below.alloc (Nat.le_refl _) _)
  clear hK K
  refine wpAnyH_done (by kernel_rfl) ?_ _
  have HB1:Hid (Below w.heap.size w (w.alloc (.cells #[.int .i64 c.flag,.int .i64 c.kind,.bool c.cross,.int .i64 c.first,.int .i64 c.count] 192)).drew):=hid ((Below.refl _ _).alloc (Nat.le_refl _) _).drew
  have HX1:Hid ((w.alloc (.cells #[.int .i64 c.flag,.int .i64 c.kind,.bool c.cross,.int .i64 c.first,.int .i64 c.count] 192)).drew.heap[w.heap.size]?=some (.cells #[.int .i64 c.flag,.int .i64 c.kind,.bool c.cross,.int .i64 c.first,.int .i64 c.count] 192 (0,0))):=hid (heap_alloc_new w _)
  generalize hw1:(w.alloc (.cells #[.int .i64 c.flag,.int .i64 c.kind,.bool c.cross,.int .i64 c.first,.int .i64 c.count] 192)).drew=w1 at HB1 HX1 ⊢
  clear hw1
  generalize w.heap.size=b1 at HX1 ⊢
  have HM1:=hid (HM.out.below HB1.out)
  have HS1:Hid (∀W,Below w1.heap.size w1 W→W.cell? ⟨b1,0,none⟩=some (.int .i64 c.flag)∧W.cell? ⟨b1,1,none⟩=some (.int .i64 c.kind)∧W.cell? ⟨b1,2,none⟩=some (.bool c.cross)∧W.cell? ⟨rr,5,none⟩=some (.int .i64 S.line)):=hid (fun W hW=>by
   have hx:=(hW.block _ (block_lt HX1.out)).trans HX1.out
   exact⟨by rw [cell_of_heap hx];rfl,by rw [cell_of_heap hx];rfl,by rw [cell_of_heap hx];rfl,(HM1.out.below hW).r5⟩)
  go_wp2_with fail
  refine wp_region_held_drew (S:=fun W=>W.cell? ⟨b1,0,none⟩=some (.int .i64 c.flag)∧W.cell? ⟨b1,1,none⟩=some (.int .i64 c.kind)∧W.cell? ⟨b1,2,none⟩=some (.bool c.cross)∧W.cell? ⟨rr,5,none⟩=some (.int .i64 S.line)) (by kernel_rfl) ?_ (fun hHeld=>?_)
  ·exact HS1.out _ drew_below
  refine tkA 0 (some 103) hHeld ?_;try simp only [put_norm]
  refine tkA 1 (some 104) hHeld ?_;try simp only [put_norm]
  refine tkA 2 (some 105) hHeld ?_;try simp only [put_norm]
  refine tkA 3 (some 106) hHeld ?_;try simp only [put_norm]
  refine tkA 4 (some 107) hHeld ?_;try simp only [put_norm]
  refine tkA 5 (some 108) hHeld ?_;try simp only [put_norm]
  refine tkA 6 (some 109) hHeld ?_;try simp only [put_norm]
  refine tkA 7 (some 110) hHeld ?_;try simp only [put_norm]
  refine tkA 8 (some 111) hHeld ?_;try simp only [put_norm]
  refine tkA 9 (some 112) hHeld ?_;try simp only [put_norm]
  refine tkA 10 (some 113) hHeld ?_;try simp only [put_norm]
  refine rdy1 11 (fun K hK=>?_)
  go_simp
  refine hK.out _ _ ?_ (fun hHeld=>?_)
  ·first | exact HS1.out _ drew_below | exact HS1.out _ (drew_below.alloc (Nat.le_refl _) _)
  clear hK K
  refine rdy1 12 (fun K hK=>?_)
  go_simp
  refine hK.out _ _ ?_ (fun hHeld=>?_)
  ·first | exact HS1.out _ drew_below | exact HS1.out _ (drew_below.alloc (Nat.le_refl _) _)
  clear hK K
  refine wpAnyH_done (by kernel_rfl) ?_ _
  have HL1:Hid (∀x∈L,x < w1.heap.size):=hid (fun x hx=>(HM1.out.hl x hx).2)
  have HB2:Hid (Below w1.heap.size w1 (w1.alloc (.cells (qx c ⟨#[]⟩ ⟨#[]⟩ ⟨#[]⟩ (.slice none 0 0) S.line) 41)).drew):=hid ((Below.refl _ _).alloc (Nat.le_refl _) _).drew
  have HX2:Hid ((w1.alloc (.cells (qx c ⟨#[]⟩ ⟨#[]⟩ ⟨#[]⟩ (.slice none 0 0) S.line) 41)).drew.heap[w1.heap.size]?=some (.cells (qx c ⟨#[]⟩ ⟨#[]⟩ ⟨#[]⟩ (.slice none 0 0) S.line) 41 (0,0))):=hid (heap_alloc_new w1 _)
  have hqx:#[Value.int .i64 c.kind,.int .i64 c.flag,.bool c.cross,.string ⟨#[]⟩,.string ⟨#[]⟩,.string ⟨#[]⟩,.slice none 0 0,.int .i64 S.line]=qx c ⟨#[]⟩ ⟨#[]⟩ ⟨#[]⟩ (.slice none 0 0) S.line:=rfl
  rw [hqx]
  generalize hw2:(w1.alloc (.cells (qx c ⟨#[]⟩ ⟨#[]⟩ ⟨#[]⟩ (.slice none 0 0) S.line) 41)).drew=w2 at HB2 HX2 ⊢
  clear hw2 hqx
  have HQX:Hid (QX w0 w2 (w1.heap.size::L) rr rf v E all a S w1.heap.size):=hid ⟨(HM1.out.rest (X:=[]) (Kept.of_below HB2.out) (by simp) (fun x hx=>List.mem_cons_of_mem _ hx) (fun x hx=>by
   rcases List.mem_cons.1 hx with rfl | h1
   ·exact⟨.inr (Nat.le_refl _),block_lt HX2.out⟩
   exact⟨.inl h1,Nat.lt_of_lt_of_le (HL1.out x h1) HB2.out.size⟩)).all_,List.mem_cons_self,fun g hg=>by
   obtain⟨cur,fr,hx⟩:=HM1.out.ty_rls g hg
   exact Nat.ne_of_lt (block_lt hx),⟨_,_,HX2.out⟩⟩
  have HG2:Hid (Go2 L w (w1.heap.size::L) w2):=hid ((Go2.of_below (L:=L) HB1.out).trans ⟨Kept.of_below HB2.out,fun x hx=>by
   rcases List.mem_cons.1 hx with rfl | h1
   ·exact .inr (Nat.le_refl _)
   exact .inl h1⟩)
  generalize w1.heap.size=xb at HQX HG2 HX2 ⊢
  generalize (xb::L)=L2 at HQX HG2 ⊢
  have HRl:=hid (so_qrule w0 L2 rr rf a v E all S xb c S.line _ row w2 HQX.out HX2.out (by have:=HRow.out;rwa [HN.out] at this) (by rw [HN.out];omega) (by have:=HB.out.als;omega) hck)
  clear HB2 HL1 HS1 HX1 HM1 HS
  go_upto_region 23 with (go_at_call 210;refine HRl.out.mono ?_;intro e3 w3 h3;obtain⟨hk3,code,r,nv,rfl,hx3,hio3,hrc3⟩:=h3.one (fun _ h=>ruleR_same h);have HM3:=hid (HQX.out.turn hk3);have HG3:Hid (Go2 L w L2 w3):=hid (HG2.out.trans ⟨hk3.mono (by intro y hy;simp at hy;subst hy;exact HQX.out.inL),fun _ h=>.inl h⟩);have HX3:=hid hx3;have HI3:=hid hio3;have HC3:=hid hrc3;clear h3 hk3 hx3 hio3 hrc3)
  obtain⟨us,A3,cp3,hc12,hf12,hpu⟩:=HM3.out.rls_push r nv HI3.out
  have HC12:=hid hc12
  have HF12:=hid hf12
  have HPu:=hid hpu
  have c12:=(hc12 w3 (Below.refl _ _)).1
  have hrf3:=block_lt_of_cell? _ _ c12
  have hxb3:=block_lt HX3.out
  obtain⟨⟨x0,x1,x2,x3⟩,x4,x5,x6,x7⟩:(w3.cell? ⟨xb,0,none⟩=some (.int .i64 r.kind)∧w3.cell? ⟨xb,1,none⟩=some (.int .i64 r.flag)∧w3.cell? ⟨xb,2,none⟩=some (.bool r.cross)∧w3.cell? ⟨xb,3,none⟩=some (.string r.strip))∧w3.cell? ⟨xb,4,none⟩=some (.string r.add)∧w3.cell? ⟨xb,5,none⟩=some (.string r.cond)∧w3.cell? ⟨xb,6,none⟩=some nv∧w3.cell? ⟨xb,7,none⟩=some (.int .i64 r.line):=by
   refine⟨⟨?_,?_,?_,?_⟩,?_,?_,?_,?_⟩<;>(rw [cell_of_heap HX3.out];rfl)
  have HEnd:Hid (∀w',(∃L' v',Go2 L2 w3 L' w'∧QM w0 w' L' rr rf v' E all a { S with fl:={ S.fl with rls:=S.fl.rls++[r] } })→InnQ w0 L rr rf E all kh k S (ruleIn c S.fl S.line row) w (.returned (.int .i64 code)) w'):=hid (fun w' ⟨L',v',hG,hM⟩=>by
   have hc:=HC3.out
   unfold RuleC at hc
   cases hR:ruleR S.fl c S.line row with
   | error e =>
    rw [hR] at hc
    obtain⟨h1,rfl⟩:=hc
    exact .bad (by rw [ruleIn,hR]) h1 (HG3.out.trans hG) hM.r5
   | ok r' =>
    rw [hR] at hc
    obtain⟨rfl,rfl⟩:=hc
    have hR2:ruleIn c S.fl S.line row=.ok { S.fl with rls:=S.fl.rls++[r'] }:=by rw [ruleIn,hR]
    rw [hR2]
    exact⟨L',HG3.out.trans hG,rfl,HB.out.pushRls r' (ruleR_next hR HB.out.sets).1,v',a,HPa.out,hM⟩)
  obtain⟨pn,cn,rfl⟩:∃p c,nv=.slice p r.next.length c:=by
   obtain⟨p,c,h1,-⟩:=HI3.out
   exact⟨p,c,h1⟩
  have hrl:S.fl.rls.length≤65536:=by have:=HB.out.rls;omega
  clear hc12 hf12 hpu HI3 HC3 HX3 HRl HQX HX2
  refine wp_region_held_drew (S:=fun _=>True) (by kernel_rfl) ?_ (fun hHeld=>?_)
  ·trivial
  refine tkA 0 (some 117) hHeld ?_;try simp only [put_norm]
  refine tkA 1 (some 118) hHeld ?_;try simp only [put_norm]
  refine tkA 2 (some 119) hHeld ?_;try simp only [put_norm]
  refine tkA 3 (some 120) hHeld ?_;try simp only [put_norm]
  refine wpAnyH_ready (rs:=[4,5]) (by kernel_rfl) (by simp) ?_
  refine AllReadyH.cons rfl (fun K hK=>?_) ?_
  ·go_simp
   refine hK.out _ _ ?_ (fun hHeld=>?_)
   ·trivial
   clear hK K
   refine rdy1 5 (fun K hK=>?_)
   go_simp
   refine hK.out _ _ ?_ (fun hHeld=>?_)
   ·trivial
   clear hK K
   refine rdy1 6 (fun K hK=>?_)
   go_simp
   refine hK.out _ _ ?_ (fun hHeld=>?_)
   ·trivial
   clear hK K
   refine rdy1 7 (fun K hK=>?_)
   refine step_pushL (w:=w3.drew) (by rfl) _ _ 46 (by rfl) 0 41 i0 _ 8 104 Tryz.underlying46 hi hz0 hz1 hz2 rfl (by decide) (.slice A3 S.fl.rls.length cp3) S.fl.rls.length us (by rfl) (HC12.out _ drew_below).2 (qrl r (.slice pn r.next.length cn)) (by rfl) (by intro x hx;simp [qrl] at hx;rcases hx with rfl | rfl | rfl | rfl | rfl | rfl | rfl | rfl<;>rfl) (by rfl) (by unfold maxLen;omega) (by omega) (Nat.zero_le _) ?_
   intro gg cc w9 hown hg9 hloc
   have HX9:=hid (HPu.out _ drew_below _ _ _ hown hg9 hloc)
   obtain⟨c9'',z9⟩:=HF12.out _ drew_below _ hg9
   clear hown hg9 hloc
   refine hK.out _ _ ?_ (fun hHeld=>?_)
   ·trivial
   clear hK K
   refine tkA 8 (some 125) hHeld ?_;try simp only [put_norm]
   refine tkA 9 (some 126) hHeld ?_;try simp only [put_norm]
   refine rdy1 10 (fun K hK=>?_)
   go_simp
   refine hK.out _ _ ?_ (fun hHeld=>?_)
   ·trivial
   clear hK K
   refine wpAnyH_done (by kernel_rfl) ?_ _
   go_wp2_with fail
   go_ret
   obtain⟨L',hG,hM⟩:=HX9.out
   exact HEnd.out _ ⟨L',_,hG,hM⟩
  refine AllReadyH.cons rfl (fun K hK=>?_) ?_
  ·go_simp
   refine hK.out _ _ ?_ (fun hHeld=>?_)
   ·trivial
   clear hK K
   refine wpAnyH_ready (rs:=[4,6]) (by kernel_rfl) (by simp) ?_
   refine AllReadyH.cons rfl (fun K hK=>?_) ?_
   ·go_simp
    refine hK.out _ _ ?_ (fun hHeld=>?_)
    ·trivial
    clear hK K
    refine rdy1 6 (fun K hK=>?_)
    go_simp
    refine hK.out _ _ ?_ (fun hHeld=>?_)
    ·trivial
    clear hK K
    refine rdy1 7 (fun K hK=>?_)
    refine step_pushL (w:=w3.drew) (by rfl) _ _ 46 (by rfl) 0 41 i0 _ 8 104 Tryz.underlying46 hi hz0 hz1 hz2 rfl (by decide) (.slice A3 S.fl.rls.length cp3) S.fl.rls.length us (by rfl) (HC12.out _ drew_below).2 (qrl r (.slice pn r.next.length cn)) (by rfl) (by intro x hx;simp [qrl] at hx;rcases hx with rfl | rfl | rfl | rfl | rfl | rfl | rfl | rfl<;>rfl) (by rfl) (by unfold maxLen;omega) (by omega) (Nat.zero_le _) ?_
    intro gg cc w9 hown hg9 hloc
    have HX9:=hid (HPu.out _ drew_below _ _ _ hown hg9 hloc)
    obtain⟨c9'',z9⟩:=HF12.out _ drew_below _ hg9
    clear hown hg9 hloc
    refine hK.out _ _ ?_ (fun hHeld=>?_)
    ·trivial
    clear hK K
    refine tkA 8 (some 125) hHeld ?_;try simp only [put_norm]
    refine tkA 9 (some 126) hHeld ?_;try simp only [put_norm]
    refine rdy1 10 (fun K hK=>?_)
    go_simp
    refine hK.out _ _ ?_ (fun hHeld=>?_)
    ·trivial
    clear hK K
    refine wpAnyH_done (by kernel_rfl) ?_ _
    go_wp2_with fail
    go_ret
    obtain⟨L',hG,hM⟩:=HX9.out
    exact HEnd.out _ ⟨L',_,hG,hM⟩
   refine AllReadyH.cons rfl (fun K hK=>?_) ?_
   ·go_simp
    refine hK.out _ _ ?_ (fun hHeld=>?_)
    ·trivial
    clear hK K
    refine rdy1 4 (fun K hK=>?_)
    go_simp
    refine hK.out _ _ ?_ (fun hHeld=>?_)
    ·trivial
    clear hK K
    refine rdy1 7 (fun K hK=>?_)
    refine step_pushL (w:=w3.drew) (by rfl) _ _ 46 (by rfl) 0 41 i0 _ 8 104 Tryz.underlying46 hi hz0 hz1 hz2 rfl (by decide) (.slice A3 S.fl.rls.length cp3) S.fl.rls.length us (by rfl) (HC12.out _ drew_below).2 (qrl r (.slice pn r.next.length cn)) (by rfl) (by intro x hx;simp [qrl] at hx;rcases hx with rfl | rfl | rfl | rfl | rfl | rfl | rfl | rfl<;>rfl) (by rfl) (by unfold maxLen;omega) (by omega) (Nat.zero_le _) ?_
    intro gg cc w9 hown hg9 hloc
    have HX9:=hid (HPu.out _ drew_below _ _ _ hown hg9 hloc)
    obtain⟨c9'',z9⟩:=HF12.out _ drew_below _ hg9
    clear hown hg9 hloc
    refine hK.out _ _ ?_ (fun hHeld=>?_)
    ·trivial
    clear hK K
    refine tkA 8 (some 125) hHeld ?_;try simp only [put_norm]
    refine tkA 9 (some 126) hHeld ?_;try simp only [put_norm]
    refine rdy1 10 (fun K hK=>?_)
    go_simp
    refine hK.out _ _ ?_ (fun hHeld=>?_)
    ·trivial
    clear hK K
    refine wpAnyH_done (by kernel_rfl) ?_ _
    go_wp2_with fail
    go_ret
    obtain⟨L',hG,hM⟩:=HX9.out
    exact HEnd.out _ ⟨L',_,hG,hM⟩
   exact AllReadyH.nil
  exact AllReadyH.nil
end Go.Proofs.YtfkblpjfknfgbaaGreatDoor
