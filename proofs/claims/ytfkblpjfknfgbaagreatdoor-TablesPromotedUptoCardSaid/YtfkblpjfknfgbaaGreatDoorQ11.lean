import Derived.Test.YtfkblpjfknfgbaaGreatDoorRows
import Derived.Test.YtfkblpjfknfgbaaGreatDoorQ10
import Derived.Test.YtfkblpjfknfgbaaGreatDoorQ8
import Derived.Test.YtfkblpjfknfgbaaGreatDoorQ6
set_option linter.unusedVariables false
set_option linter.unusedSimpArgs false
set_option maxHeartbeats 8000000
set_option maxRecDepth 100000
open Go.Maps Go.RowKit
open Go.Lib (hid cell_of_heap frozen_of_heap byteCells)
open Go.World (block_lt_of_cell?)
namespace Go.Proofs.YtfkblpjfknfgbaaGreatDoor
theorem Jv (s:ByteArray) (w:World) (yes no res:List UInt8) (hle:yes.length≤256) (qK:no.length≤256) (hmk:(mkS no).size≤256) (gU:(mkS yes).size≤256)
  (kY:Hid (∀W,Calls Tryz.prog 245 #[.agg #[.string s],.bool true] W fun e w'=>∃v,e=.returned v∧Own W w' 5 1 v yes.length (byteCells yes)))
  (jd:Hid (∀W,Calls Tryz.prog 245 #[.agg #[.string s],.bool false] W fun e w'=>∃v,e=.returned v∧Own W w' 5 1 v no.length (byteCells no)))
  (jP:Hid (((no.length:Int)==0)=true)) (HS:Hid (res=[46])) :
  Calls Tryz.prog 244 #[.agg #[.string s]] w fun e w'=>e=.returned (.string (mkS res))∧Below w.heap.size w w':=by
 go_enter Tryz.func244,Tryz.ntmps244
 go_wp2_with (first | (have q1:=jq.o;clear q1;go_at_call 245;refine (jd.o _).mono ?_;rintro e w3 ⟨u,rfl,ho⟩;have fG:=hid (jq.o.trans (ho.below.mono jq.o.size));have ku:=hid ((ho.below.block _ (block_lt dL.o)).trans dL.o);have d0:w3.cell? ⟨w.heap.size,0,none⟩=some (.string s):=(by rw [cell_of_heap ku.o];rfl);have Fe:=hid (HY.o.call ho.below);have LK:=hid ho;have e1:=jP.o;obtain⟨B,bp,rfl⟩:=ig ho;skip;clear ho) | (go_at_call 245;refine (kY.o _).mono ?_;rintro e w2 ⟨v,rfl,ho⟩;have jq:=hid (bg ho.below);have dL:=hid ((ho.below.block _ (by simp)).trans (heap_alloc_new w _));have c0:w2.cell? ⟨w.heap.size,0,none⟩=some (.string s):=(by rw [cell_of_heap dL.o];rfl);have HY:=hid ho;obtain⟨A,cp,rfl⟩:=ig ho;clear ho))
 go_ret
 exact⟨cZ (by rw [HS.o];rfl),fG.o⟩
theorem Dt (s:ByteArray) (w:World) (yes no res:List UInt8) (hle:yes.length≤256) (qK:no.length≤256) (hmk:(mkS no).size≤256) (gU:(mkS yes).size≤256)
  (kY:Hid (∀W,Calls Tryz.prog 245 #[.agg #[.string s],.bool true] W fun e w'=>∃v,e=.returned v∧Own W w' 5 1 v yes.length (byteCells yes)))
  (jd:Hid (∀W,Calls Tryz.prog 245 #[.agg #[.string s],.bool false] W fun e w'=>∃v,e=.returned v∧Own W w' 5 1 v no.length (byteCells no)))
  (jP:Hid (((no.length:Int)==0)=false)) (iB:Hid (yes.length=1)) (fV:Hid (yes=[46])) (HS:Hid (res=[91,46,93])) :
  Calls Tryz.prog 244 #[.agg #[.string s]] w fun e w'=>e=.returned (.string (mkS res))∧Below w.heap.size w w':=by
 have H0:Hid (0 < yes.length):=hid (by rw [iB.o];decide)
 go_enter Tryz.func244,Tryz.ntmps244
 go_wp2_with (first | (have q1:=jq.o;clear q1;go_at_call 245;refine (jd.o _).mono ?_;rintro e w3 ⟨u,rfl,ho⟩;have fG:=hid (jq.o.trans (ho.below.mono jq.o.size));have ku:=hid ((ho.below.block _ (block_lt dL.o)).trans dL.o);have d0:w3.cell? ⟨w.heap.size,0,none⟩=some (.string s):=(by rw [cell_of_heap ku.o];rfl);have Fe:=hid (HY.o.call ho.below);have LK:=hid ho;have e1:=jP.o;obtain⟨B,bp,rfl⟩:=ig ho;have e2:((yes.length:Int)==1)=true:=(by rw [iB.o];rfl);have cell:=jQ Fe.o iB.o fV.o;clear ho) | (go_at_call 245;refine (kY.o _).mono ?_;rintro e w2 ⟨v,rfl,ho⟩;have jq:=hid (bg ho.below);have dL:=hid ((ho.below.block _ (by simp)).trans (heap_alloc_new w _));have c0:w2.cell? ⟨w.heap.size,0,none⟩=some (.string s):=(by rw [cell_of_heap dL.o];rfl);have HY:=hid ho;obtain⟨g,cp,rfl⟩:=kZ ho (Nat.pos_iff_ne_zero.1 H0.o);have h0:0 < yes.length:=H0.o;clear ho))
 go_ret
 exact⟨cZ (by rw [HS.o];rfl),fG.o⟩
theorem Du (s:ByteArray) (w:World) (yes no res:List UInt8) (hle:yes.length≤256) (qK:no.length≤256) (hmk:(mkS no).size≤256) (gU:(mkS yes).size≤256)
  (kY:Hid (∀W,Calls Tryz.prog 245 #[.agg #[.string s],.bool true] W fun e w'=>∃v,e=.returned v∧Own W w' 5 1 v yes.length (byteCells yes)))
  (jd:Hid (∀W,Calls Tryz.prog 245 #[.agg #[.string s],.bool false] W fun e w'=>∃v,e=.returned v∧Own W w' 5 1 v no.length (byteCells no)))
  (jP:Hid (((no.length:Int)==0)=false)) (iB:Hid (yes.length=1)) (fV:Hid (yes=[91])) (HS:Hid (res=[91,91,93])) :
  Calls Tryz.prog 244 #[.agg #[.string s]] w fun e w'=>e=.returned (.string (mkS res))∧Below w.heap.size w w':=by
 have H0:Hid (0 < yes.length):=hid (by rw [iB.o];decide)
 go_enter Tryz.func244,Tryz.ntmps244
 go_wp2_with (first | (have q1:=jq.o;clear q1;go_at_call 245;refine (jd.o _).mono ?_;rintro e w3 ⟨u,rfl,ho⟩;have fG:=hid (jq.o.trans (ho.below.mono jq.o.size));have ku:=hid ((ho.below.block _ (block_lt dL.o)).trans dL.o);have d0:w3.cell? ⟨w.heap.size,0,none⟩=some (.string s):=(by rw [cell_of_heap ku.o];rfl);have Fe:=hid (HY.o.call ho.below);have LK:=hid ho;have e1:=jP.o;obtain⟨B,bp,rfl⟩:=ig ho;have e2:((yes.length:Int)==1)=true:=(by rw [iB.o];rfl);have cell:=jQ Fe.o iB.o fV.o;clear ho) | (go_at_call 245;refine (kY.o _).mono ?_;rintro e w2 ⟨v,rfl,ho⟩;have jq:=hid (bg ho.below);have dL:=hid ((ho.below.block _ (by simp)).trans (heap_alloc_new w _));have c0:w2.cell? ⟨w.heap.size,0,none⟩=some (.string s):=(by rw [cell_of_heap dL.o];rfl);have HY:=hid ho;obtain⟨g,cp,rfl⟩:=kZ ho (Nat.pos_iff_ne_zero.1 H0.o);have h0:0 < yes.length:=H0.o;clear ho))
 go_ret
 exact⟨cZ (by rw [HS.o];rfl),fG.o⟩
theorem Jw (s:ByteArray) (w:World) (yes no res:List UInt8) (hle:yes.length≤256) (qK:no.length≤256) (hmk:(mkS no).size≤256) (gU:(mkS yes).size≤256)
  (kY:Hid (∀W,Calls Tryz.prog 245 #[.agg #[.string s],.bool true] W fun e w'=>∃v,e=.returned v∧Own W w' 5 1 v yes.length (byteCells yes)))
  (jd:Hid (∀W,Calls Tryz.prog 245 #[.agg #[.string s],.bool false] W fun e w'=>∃v,e=.returned v∧Own W w' 5 1 v no.length (byteCells no)))
  (jP:Hid (((no.length:Int)==0)=false)) (x:UInt8) (iB:Hid (yes.length=1)) (fV:Hid (yes=[x])) (e3:((x.toNat:Int)==46)=false) (e4:((x.toNat:Int)==91)=false) (HS:Hid (res=yes)) :
  Calls Tryz.prog 244 #[.agg #[.string s]] w fun e w'=>e=.returned (.string (mkS res))∧Below w.heap.size w w':=by
 have H0:Hid (0 < yes.length):=hid (by rw [iB.o];decide)
 go_enter Tryz.func244,Tryz.ntmps244
 go_wp2_with (first | (have q1:=jq.o;clear q1;go_at_call 245;refine (jd.o _).mono ?_;rintro e w3 ⟨u,rfl,ho⟩;have fG:=hid (jq.o.trans (ho.below.mono jq.o.size));have ku:=hid ((ho.below.block _ (block_lt dL.o)).trans dL.o);have d0:w3.cell? ⟨w.heap.size,0,none⟩=some (.string s):=(by rw [cell_of_heap ku.o];rfl);have Fe:=hid (HY.o.call ho.below);have LK:=hid ho;have e1:=jP.o;obtain⟨B,bp,rfl⟩:=ig ho;have e2:((yes.length:Int)==1)=true:=(by rw [iB.o];rfl);have cell:=jQ Fe.o iB.o fV.o;have hcv:=dB Fe.o;clear ho) | (go_at_call 245;refine (kY.o _).mono ?_;rintro e w2 ⟨v,rfl,ho⟩;have jq:=hid (bg ho.below);have dL:=hid ((ho.below.block _ (by simp)).trans (heap_alloc_new w _));have c0:w2.cell? ⟨w.heap.size,0,none⟩=some (.string s):=(by rw [cell_of_heap dL.o];rfl);have HY:=hid ho;obtain⟨g,cp,rfl⟩:=kZ ho (Nat.pos_iff_ne_zero.1 H0.o);have h0:0 < yes.length:=H0.o;clear ho))
 go_ret
 exact⟨cZ (by rw [HS.o]),fG.o⟩
theorem Jy (s:ByteArray) (w:World) (yes no res:List UInt8) (hle:yes.length≤256) (qK:no.length≤256) (hmk:(mkS no).size≤256) (gU:(mkS yes).size≤256)
  (kY:Hid (∀W,Calls Tryz.prog 245 #[.agg #[.string s],.bool true] W fun e w'=>∃v,e=.returned v∧Own W w' 5 1 v yes.length (byteCells yes)))
  (jd:Hid (∀W,Calls Tryz.prog 245 #[.agg #[.string s],.bool false] W fun e w'=>∃v,e=.returned v∧Own W w' 5 1 v no.length (byteCells no)))
  (jP:Hid (((no.length:Int)==0)=false)) (iB:Hid (((yes.length:Int)==1)=false)) (HH:Hid (∀W,Calls Tryz.prog 246 #[.agg #[.string s],.int .u8 93] W fun e w'=>e=.returned (.bool true)∧Below W.heap.size W w')) (HS:Hid (res=[91,94]++no++[93])) :
  Calls Tryz.prog 244 #[.agg #[.string s]] w fun e w'=>e=.returned (.string (mkS res))∧Below w.heap.size w w':=by
 go_enter Tryz.func244,Tryz.ntmps244
 go_wp2_with (first | (have q1:=jq.o;clear q1;go_at_call 245;refine (jd.o _).mono ?_;rintro e w3 ⟨u,rfl,ho⟩;have fG:=hid (jq.o.trans (ho.below.mono jq.o.size));have ku:=hid ((ho.below.block _ (block_lt dL.o)).trans dL.o);have d0:w3.cell? ⟨w.heap.size,0,none⟩=some (.string s):=(by rw [cell_of_heap ku.o];rfl);have Fe:=hid (HY.o.call ho.below);have LK:=hid ho;have e1:=jP.o;obtain⟨B,bp,rfl⟩:=ig ho;have e2:=iB.o;clear ho) | (go_at_call 246;refine (HH.o _).mono ?_;rintro e w4 ⟨rfl,hb⟩;have lK:=hid (fG.o.trans (hb.mono fG.o.size));have HY4:=hid (Fe.o.call hb);have Jz:=hid (LK.o.call hb);have hcv:=dB Jz.o;skip;clear hb) | (go_at_call 245;refine (kY.o _).mono ?_;rintro e w2 ⟨v,rfl,ho⟩;have jq:=hid (bg ho.below);have dL:=hid ((ho.below.block _ (by simp)).trans (heap_alloc_new w _));have c0:w2.cell? ⟨w.heap.size,0,none⟩=some (.string s):=(by rw [cell_of_heap dL.o];rfl);have HY:=hid ho;obtain⟨A,cp,rfl⟩:=ig ho;clear ho))
 go_ret
 exact⟨cZ (by rw [HS.o,show (⟨#[91,94]⟩:ByteArray)=mkS [91,94] from rfl,show (⟨#[93]⟩:ByteArray)=mkS [93] from rfl,dD,dD]),lK.o⟩
theorem LU (l:List UInt8) (k:Nat) (hk:k < l.length):((l.take (k+1)).filter (fun b=>b.toNat != 94))=(l.take k).filter (fun b=>b.toNat != 94)++(if l[k].toNat=94 then [] else [l[k]]):=by
 rw [List.take_succ_eq_append_getElem hk,List.filter_append]
 congr 1
 by_cases h:l[k].toNat=94<;>simp [h]
theorem LV (l:List UInt8) (k:Nat) (hk:k < l.length):(l.take (k+1)).contains 94=((l.take k).contains 94||decide (l[k].toNat=94)):=by
 rw [List.take_succ_eq_append_getElem hk,Bool.eq_iff_iff,List.contains_iff_mem,List.mem_append,List.mem_singleton,Bool.or_eq_true,List.contains_iff_mem,decide_eq_true_iff]
 refine or_congr Iff.rfl ⟨fun e=>by rw [←e];rfl,fun e=>?_⟩
 rw [←UInt8.toNat_inj];exact e.symm
theorem FP (l:List UInt8) (k:Nat):((l.take k).filter (fun b=>b.toNat != 94)).length≤k:=Nat.le_trans (List.length_filter_le _ _) (by simp;omega)
theorem FQ (s:ByteArray) (w:World) (yes no res:List UInt8) (hle:yes.length≤256) (qK:no.length≤256) (hmk:(mkS no).size≤256) (gU:(mkS yes).size≤256)
  (kY:Hid (∀W,Calls Tryz.prog 245 #[.agg #[.string s],.bool true] W fun e w'=>∃v,e=.returned v∧Own W w' 5 1 v yes.length (byteCells yes)))
  (jd:Hid (∀W,Calls Tryz.prog 245 #[.agg #[.string s],.bool false] W fun e w'=>∃v,e=.returned v∧Own W w' 5 1 v no.length (byteCells no)))
  (jP:Hid (((no.length:Int)==0)=false)) (iB:Hid (((yes.length:Int)==1)=false)) (HH:Hid (∀W,Calls Tryz.prog 246 #[.agg #[.string s],.int .u8 93] W fun e w'=>e=.returned (.bool false)∧Below W.heap.size W w')) (HS:Hid (res=[91]++yes.filter (fun b=>b.toNat != 94)++(if yes.contains 94=true then [94] else [])++[93])) :
  Calls Tryz.prog 244 #[.agg #[.string s]] w fun e w'=>e=.returned (.string (mkS res))∧Below w.heap.size w w':=by
 obtain⟨i0,hi,hz0,hz1,hz2⟩:=info_parts fE
 go_enter Tryz.func244,Tryz.ntmps244
 go_wp2_with (first | (have q1:=jq.o;clear q1;go_at_call 245;refine (jd.o _).mono ?_;rintro e w3 ⟨u,rfl,ho⟩;have fG:=hid (jq.o.trans (ho.below.mono jq.o.size));have ku:=hid ((ho.below.block _ (block_lt dL.o)).trans dL.o);have d0:w3.cell? ⟨w.heap.size,0,none⟩=some (.string s):=(by rw [cell_of_heap ku.o];rfl);have Fe:=hid (HY.o.call ho.below);have LK:=hid ho;have e1:=jP.o;obtain⟨B,bp,rfl⟩:=ig ho;have e2:=iB.o;clear ho) | (go_at_call 246;refine (HH.o _).mono ?_;rintro e w4 ⟨rfl,hb⟩;have lK:=hid (fG.o.trans (hb.mono fG.o.size));have HY4:=hid (Fe.o.call hb);have Jz:=hid (LK.o.call hb);have hcv:=dB Jz.o;skip;clear hb) | (go_at_call 245;refine (kY.o _).mono ?_;rintro e w2 ⟨v,rfl,ho⟩;have jq:=hid (bg ho.below);have dL:=hid ((ho.below.block _ (by simp)).trans (heap_alloc_new w _));have c0:w2.cell? ⟨w.heap.size,0,none⟩=some (.string s):=(by rw [cell_of_heap dL.o];rfl);have HY:=hid ho;obtain⟨A,cp,rfl⟩:=ig ho;clear ho))
 obtain⟨w5,Ui⟩:∃W,w4=W:=⟨_,rfl⟩
 subst Ui
 obtain⟨-,A2,cp2,hv,-,hs⟩:=Rd.aN HY4.o.own
 injection hv with hA _ hcp
 subst hA hcp
 have HS5:=hid hs;clear hs hcv
 go_loopw [6,7,8] (fun v h i wr=>∃k:Nat,k≤yes.length∧i=.int .i64 k∧h=.bool ((yes.take k).contains 94)∧Hid (Own w4 wr 5 1 v ((yes.take k).filter (fun b=>b.toNat != 94)).length (byteCells ((yes.take k).filter (fun b=>b.toNat != 94))))) (fun _ _ i _=>yes.length - (intOf i).toNat)
 case atStart=>exact⟨0,Nat.zero_le _,rfl,rfl,Own.empty _ _ _⟩
 case round =>
 obtain⟨k,hk,rfl,rfl,HO⟩:=hrel
 have vg:=hid (FP yes k)
 by_cases hlt:k < yes.length
 ·have HK:=hid (LU yes k hlt)
  have OI:=hid (LV yes k hlt)
  obtain⟨b,off,rfl,hc⟩:=HS5.o.resolve_left (by omega)
  have hcell0:=hc k (.int .u8 (yes[k].toNat:Int)) (by simp [byteCells,hlt])
  have hcell:=(HO.o.below.cell (block_lt_of_cell? _ _ hcell0)).trans hcell0;clear hc hcell0
  obtain⟨f,hf⟩:∃f,(yes.take k).filter (fun b=>b.toNat != 94)=f:=⟨_,rfl⟩
  obtain⟨q,hq⟩:∃q,(yes.take k).contains 94=q:=⟨_,rfl⟩;rw [hf] at HO HK vg;rw [hq] at OI ⊢;clear hf hq
  by_cases Ju:yes[k].toNat=94
  ·have e5:((yes[k].toNat:Int)==94)=true:=by rw [Ju];rfl
   rw [if_pos Ju,List.append_nil] at HK;rw [decide_eq_true Ju,Bool.or_true] at OI;clear Ju
   go_wp2_with fail
   go_roundw
   case rel=>exact⟨k+1,by omega,by go_num,by rw [OI.o],by rw [HK.o];exact HO⟩
   case measure=>simp [intOf];omega
  have e5:((yes[k].toNat:Int)==94)=false:=by rw [beq_eq_false_iff_ne];omega
  rw [if_neg Ju] at HK;rw [decide_eq_false Ju,Bool.or_false] at OI;clear Ju
  go_wp2_with (at_builtin;refine aB rfl _ _ 213 rfl w4.heap.size 5 i0 (.int .u8 0) 1 Tryz.underlying213 hi hz0 hz1 hz2 rfl _ _ _ rfl HO.o.own _ rfl rfl (by have:=vg.o;unfold maxLen;omega) (by have:=vg.o;omega) HO.o.size ?_;intro g8 LW w8 hown hg;have Xg:=hid (HO.o.push hown hg);  clear hown hg)
  go_roundw
  case rel =>
   refine⟨k+1,by omega,by go_num,by rw [OI.o],?_⟩
   have:=Xg.o
   rw [HK.o,←eD,List.length_append]
   exact this
  case measure=>simp [intOf];omega
 obtain rfl:k=yes.length:=by omega
 rw [List.take_length] at HO vg ⊢
 obtain⟨r,hr⟩:∃r,yes.filter (fun b=>b.toNat != 94)=r:=⟨_,rfl⟩
 rw [hr] at HO vg HS
 have R4:(mkS r).size≤256:=by rw [aG];exact Nat.le_trans vg.o hle
 have abA:(mkS (r++[94])).size≤257:=by rw [aG];have:=vg.o;simp;omega
 have hrl:r.length≤256:=Nat.le_trans vg.o hle;clear hr
 cases hq:yes.contains 94
 ·rw [hq] at HS
  rw [if_neg (by simp),List.append_nil] at HS
  obtain⟨C,dp,rfl⟩:=ig HO.o;have abB:=dB HO.o;clear hq
  go_wp2_with fail
  go_ret
  exact⟨cZ (by rw [HS.o,show (⟨#[91]⟩:ByteArray)=mkS [91] from rfl,show (⟨#[93]⟩:ByteArray)=mkS [93] from rfl,dD,dD]),lK.o.trans (HO.o.below.mono lK.o.size)⟩
 rw [hq] at HS;rw [if_pos rfl] at HS;clear hq
 go_wp2_with (at_builtin;refine aB rfl _ _ 213 rfl w4.heap.size 5 i0 (.int .u8 0) 1 Tryz.underlying213 hi hz0 hz1 hz2 rfl _ _ _ rfl HO.o.own _ rfl rfl (by have:=vg.o;unfold maxLen;omega) (by have:=vg.o;omega) HO.o.size ?_;intro g8 LW w8 hown hg;have Xg:=hid (HO.o.push hown hg);have R5:=qp Xg.o rfl;clear hown hg)
 go_ret
 exact⟨cZ (by rw [HS.o,show (⟨#[91]⟩:ByteArray)=mkS [91] from rfl,show (⟨#[93]⟩:ByteArray)=mkS [93] from rfl,dD,dD];simp),lK.o.trans (Xg.o.below.mono lK.o.size)⟩
theorem Pj (b:UInt8) (h:b∈([93]:List UInt8)):b∈aS:=by
 simp at h;subst h;decide +kernel
theorem U2 {p:UInt8→Bool} {l:List UInt8} (h:aS.filter p=l) (hl:(93:UInt8)∉l):p 93=false:=by
 rcases hp:p 93 with _ | _
 ·rfl
 exact absurd (by rw [←h,List.mem_filter];exact⟨Pj 93 (by simp),hp⟩) hl
theorem LX (t:List UInt8) (w:World) (ht:La t) :
  Calls Tryz.prog 244 #[.agg #[.string (mkS t)]] w fun e w'=>e=.returned (.string (mkS (fJ t)))∧Below w.heap.size w w':=by
 have hy:∀W,Calls Tryz.prog 245 #[.agg #[.string (mkS t)],.bool true] W fun e w'=>∃v,e=.returned v∧Own W w' 5 1 v (aS.filter (cO t)).length (byteCells (aS.filter (cO t))):=fun W=>uZ t true _ W ht (fun b=>by simp)
 have hn:∀W,Calls Tryz.prog 245 #[.agg #[.string (mkS t)],.bool false] W fun e w'=>∃v,e=.returned v∧Own W w' 5 1 v (aS.filter (fun b=>!cO t b)).length (byteCells (aS.filter (fun b=>!cO t b))):=fun W=>uZ t false _ W ht (fun b=>by cases cO t b<;>rfl)
 have hh:∀W,Calls Tryz.prog 246 #[.agg #[.string (mkS t)],.int .u8 93] W fun e w'=>e=.returned (.bool (cO t 93))∧Below W.heap.size W w':=fun W=>zW t 93 W ht
 have hs:fJ t=if aS.filter (fun b=>!cO t b)=[] then [46] else if (aS.filter (cO t)).length=1∧aS.filter (cO t)≠[46]∧aS.filter (cO t)≠[91] then aS.filter (cO t) else if cO t 93=true then [91,94]++aS.filter (fun b=>!cO t b)++[93] else [91]++(aS.filter (cO t)).filter (fun b=>b.toNat != 94)++(if (aS.filter (cO t)).contains 94=true then [94] else [])++[93]:=rfl
 have Im:∀l,aS.filter (cO t)=l→(93:UInt8)∉l→cO t 93=false:=fun l=>U2
 have hle:(aS.filter (cO t)).length≤256:=by rw [←jO];exact List.length_filter_le _ _
 have qK:(aS.filter (fun b=>!cO t b)).length≤256:=by rw [←jO];exact List.length_filter_le _ _
 generalize aS.filter (cO t)=yes at hy hs Im hle
 generalize aS.filter (fun b=>!cO t b)=no at hn hs qK
 generalize fJ t=res at hs ⊢
 generalize cO t 93=q at hh hs Im
 generalize mkS t=s at hy hn hh ⊢
 have hmk:(mkS no).size≤256:=by rw [aG];exact qK
 have gU:(mkS yes).size≤256:=by rw [aG];exact hle
 by_cases c1:no=[]
 ·rw [if_pos c1] at hs
  exact Jv s w yes no res hle qK hmk gU (hid hy) (hid hn) (hid (by rw [c1];rfl)) (hid hs)
 rw [if_neg c1] at hs
 have jP:Hid (((no.length:Int)==0)=false):=hid (by
  rw [beq_eq_false_iff_ne];intro e
  exact c1 (List.eq_nil_of_length_eq_zero (by omega)))
 by_cases c2:yes.length=1
 ·obtain⟨x,hx⟩:=List.length_eq_one_iff.1 c2
  by_cases c3:x.toNat=46
  ·have hx2:yes=[46]:=by rw [hx];congr 1;rw [←UInt8.toNat_inj];exact c3
   have hq:=Im _ hx2 (by decide)
   rw [if_neg (fun h=>h.2.1 hx2),hq,if_neg (by simp),hx2] at hs
   exact Dt s w yes no res hle qK hmk gU (hid hy) (hid hn) jP (hid c2) (hid hx2) (hid (by rw [hs];rfl))
  by_cases c4:x.toNat=91
  ·have hx2:yes=[91]:=by rw [hx];congr 1;rw [←UInt8.toNat_inj];exact c4
   have hq:=Im _ hx2 (by decide)
   rw [if_neg (fun h=>h.2.2 hx2),hq,if_neg (by simp),hx2] at hs
   exact Du s w yes no res hle qK hmk gU (hid hy) (hid hn) jP (hid c2) (hid hx2) (hid (by rw [hs];rfl))
  rw [if_pos ⟨c2,fun e=>c3 (by rw [hx] at e;simp at e;rw [e];rfl),fun e=>c4 (by rw [hx] at e;simp at e;rw [e];rfl)⟩] at hs
  exact Jw s w yes no res hle qK hmk gU (hid hy) (hid hn) jP x (hid c2) (hid hx) (by rw [beq_eq_false_iff_ne];omega) (by rw [beq_eq_false_iff_ne];omega) (hid hs)
 rw [if_neg (fun h=>c2 h.1)] at hs
 have iB:Hid (((yes.length:Int)==1)=false):=hid (by rw [beq_eq_false_iff_ne];omega)
 cases q with
 | true=>exact Jy s w yes no res hle qK hmk gU (hid hy) (hid hn) jP iB (hid hh) (hid hs)
 | false =>
  rw [if_neg (by simp)] at hs
  exact FQ s w yes no res hle qK hmk gU (hid hy) (hid hn) jP iB (hid hh) (hid hs)
theorem LY (ts:List (List UInt8)) (k:Nat) (hk:k < ts.length):(bn (ts.map mkS))[k]?=some (.string (mkS ts[k])):=by
 simp [bn,hk]
theorem FR (v:Value) (ts:List (List UInt8)) (w:World) (h:Rd w 1 v ts.length (bn (ts.map mkS))) (hok:∀t∈ts,La t) (hn:ts.length≤4096) :
  Calls Tryz.prog 236 #[v] w fun e w'=>e=.returned (.string (mkS (dF ts)))∧Below w.heap.size w w':=by
 obtain⟨-,A,cp,rfl,hcap,hs⟩:=h
 have HS:=hid hs;have HK:=hid hok;clear hs hok
 by_cases h0:ts=[]
 ·have HC:Hid (dF ts=[46]):=hid (by rw [dF,if_pos h0])
  have hl:ts.length=0:=by rw [h0];rfl
  have e0:((ts.length:Int)==0)=true:=by rw [hl];rfl
  clear h0 hl
  go_enter Tryz.func236,Tryz.ntmps236
  go_wp2_with fail
  go_ret
  exact⟨cZ (by rw [HC.o];rfl),Below.refl _ _⟩
 have HC:Hid (dF ts=ts.flatMap fJ):=hid (by rw [dF,if_neg h0])
 have hl:ts.length≠0:=fun e=>h0 (List.eq_nil_of_length_eq_zero e)
 have e0:((ts.length:Int)==0)=false:=by rw [beq_eq_false_iff_ne];omega
 clear h0;obtain⟨b,off,rfl,hc⟩:=HS.o.resolve_left hl;have oF:=hid hc;clear hc HS
 go_enter Tryz.func236,Tryz.ntmps236
 go_wp2_with fail
 go_loopw [3,4,5] (fun s i _ wr=>∃k:Nat,k≤ts.length∧i=.int .i64 k∧s=.string (mkS ((ts.take k).flatMap fJ))∧((ts.take k).flatMap fJ).length≤260*k∧Hid (Below w.heap.size w wr)) (fun _ i _ _=>ts.length - (intOf i).toNat)
 case atStart=>exact⟨0,Nat.zero_le _,rfl,rfl,Nat.zero_le _,Below.refl _ _⟩
 case round =>
 obtain⟨k,hk,rfl,rfl,hlen,HB⟩:=hrel
 by_cases hlt:k < ts.length
 ·have hcell0:=oF.o k _ (LY ts k hlt)
  have hcell:=(HB.o.cell (block_lt_of_cell? w _ hcell0)).trans hcell0;clear hcell0;have HST:=hid (zY ts k hlt)
  have HF:=hid (fun W=>LX ts[k] W (HK.o _ (List.getElem_mem hlt)))
  obtain⟨s1,hs1⟩:∃y,(ts.take k).flatMap fJ=y:=⟨_,rfl⟩;rw [zZ] at HF;obtain⟨s2,hs2⟩:∃y,nH (cO ts[k])=y:=⟨_,rfl⟩
  have hl2:s2.length≤260:=by rw [←hs2];exact z_ _
  rw [hs1,hs2] at HST;rw [hs2] at HF;rw [hs1] at hlen ⊢;obtain⟨sx,hsx⟩:∃y,mkS ts[k]=y:=⟨_,rfl⟩;rw [hsx] at HF hcell
  have hz1:(mkS s1).size≤260*k:=by rw [aG];exact hlen
  have hz2:(mkS s2).size≤260:=by rw [aG];exact hl2
  clear hs2 hs1 hsx
  go_wp2_with (go_at_call 244;refine (HF.o _).mono ?_;rintro e w2 ⟨rfl,hb2⟩;have HB2:=hid (HB.o.trans (hb2.mono HB.o.size));clear hb2)
  go_roundw
  case rel=>exact⟨k+1,by omega,by go_num,by rw [HST.o,←dD],by rw [HST.o];simp;omega,HB2⟩
  case measure=>simp [intOf];omega
 obtain rfl:k=ts.length:=by omega
 have HT:Hid ((ts.take ts.length).flatMap fJ=ts.flatMap fJ):=hid (by rw [List.take_length])
 go_wp2_with fail
 go_ret
 exact⟨cZ (by rw [HC.o,HT.o]),HB.o⟩
def qx (c:Cl) (strip add cond:ByteArray) (nv:Value) (line:Int):Array Value:=#[.int .i64 c.kind,.int .i64 c.flag,.bool c.cross,.string strip,.string add,.string cond,nv,.int .i64 line]
structure XQ (w W:World) (xb:Nat) (c:Cl) (strip add cond:ByteArray) (nv:Value) (line:Int):Prop where
 kept:Kept [xb] w W
 x:W.heap[xb]?=some (.cells (qx c strip add cond nv line) 41 (0,0))
section
variable {w W W':World} {xb:Nat} {c:Cl} {strip add cond s:ByteArray} {nv u:Value} {line:Int}
theorem XQ.later (h:XQ w W xb c strip add cond nv line) (hb:Below W.heap.size W W'):XQ w W' xb c strip add cond nv line:=⟨h.kept.trans (Kept.of_below hb),(hb.block _ (block_lt h.x)).trans h.x⟩
theorem XQ.xE (h:XQ w W xb c strip add cond nv line):XQ w (W.setCell ⟨xb,3,none⟩ (.string s)) xb c s add cond nv line:=⟨h.kept.set _ _ _ (.inl (by simp)),heap_setCell_same _ _ _ _ _ _ h.x⟩
theorem XQ.FT (h:XQ w W xb c strip add cond nv line):XQ w (W.setCell ⟨xb,4,none⟩ (.string s)) xb c strip s cond nv line:=⟨h.kept.set _ _ _ (.inl (by simp)),heap_setCell_same _ _ _ _ _ _ h.x⟩
theorem XQ.sO (h:XQ w W xb c strip add cond nv line):XQ w (W.setCell ⟨xb,5,none⟩ (.string s)) xb c strip add s nv line:=⟨h.kept.set _ _ _ (.inl (by simp)),heap_setCell_same _ _ _ _ _ _ h.x⟩
theorem XQ.wG (h:XQ w W xb c strip add cond nv line):XQ w (W.setCell ⟨xb,6,none⟩ u) xb c strip add cond u line:=⟨h.kept.set _ _ _ (.inl (by simp)),heap_setCell_same _ _ _ _ _ _ h.x⟩
theorem XQ.cell (h:XQ w W xb c strip add cond nv line):W.cell? ⟨xb,0,none⟩=some (.int .i64 c.kind)∧W.cell? ⟨xb,3,none⟩=some (.string strip)∧W.cell? ⟨xb,4,none⟩=some (.string add)∧W.cell? ⟨xb,5,none⟩=some (.string cond)∧W.cell? ⟨xb,6,none⟩=some nv:=by
 refine⟨?_,?_,?_,?_,?_⟩<;>(rw [cell_of_heap h.x];rfl)
theorem XQ.fz (h:XQ w W xb c strip add cond nv line) (j:Nat):W.frozen? ⟨xb,j,none⟩=false:=frozen_of_heap h.x j
end
structure QX (w0 w:World) (L:List Nat) (rr rf:Nat) (v:Qs) (E:Int) (all:List Row) (a:Nat) (S:Sx) (xb:Nat):Prop where
 qm:QM w0 w L rr rf v E all a S
 FH:xb∈L
 ne:∀g,v.rls.ownBlock=some g→g≠xb
 ty:mG w xb 41
theorem QX.turn {w0 w W:World} {L:List Nat} {rr rf a:Nat} {v:Qs} {E:Int} {all:List Row} {S:Sx} {xb:Nat} (h:QX w0 w L rr rf v E all a S xb) (hk:Kept [xb] w W):QM w0 W L rr rf v E all a S:=by
 have hX:∀y∈[xb],mG w y 41:=by intro y hy;simp at hy;subst hy;exact h.ty
 have r:=h.qm.rest hk (by intro y hy;simp at hy;subst hy;exact h.FH) (fun _ h=>h) (fun y hy=>⟨.inl hy,Nat.lt_of_lt_of_le (h.qm.hl y hy).2 hk.size⟩)
 exact⟨r.base,r.hl,r.CK,r.wm,r.lT (bW hX h.qm.wu (by decide)),r.file (bW hX h.qm.yY (by decide)),r.rows,r.heads (fun g hg=>bW hX (h.qm.jV g hg) (by decide)),r.au (fun g hg=>bW hX (h.qm.bY g hg) (by decide)),
  r.aI (fun g hg=>bW hX (h.qm.eP g hg) (by decide)),r.cls (fun g hg=>bW hX (h.qm.eu g hg) (by decide)),r.rls (fun g hg hm=>h.ne g hg (by simpa using hm))⟩
def vk (L:List Nat) (xb:Nat) (c:Cl) (line:Int) (R:Except Int Rl) (w:World) (e:Ending) (w':World):Prop:=Kept [xb] w w'∧match R with
 | .error k=>k≠0∧e=.returned (.int .i64 k)∧∃strip add cond nv next,w'.heap[xb]?=some (.cells (qx c strip add cond nv line) 41 (0,0))∧IO w' L nv next
 | .ok r=>e=.returned (.int .i64 0)∧∃nv,w'.heap[xb]?=some (.cells (qx c r.strip r.add r.cond nv line) 41 (0,0))∧IO w' L nv r.next
theorem vk.bad {L:List Nat} {xb:Nat} {c:Cl} {line:Int} {R:Except Int Rl} {k:Int} {w w':World} {strip add cond:ByteArray} {nv:Value} {next:List Int} (hR:R=.error k) (hk:k≠0) (hb:XQ w w' xb c strip add cond nv line) (hn:IO w' L nv next):vk L xb c line R w (.returned (.int .i64 k)) w':=by
 subst hR;exact⟨hb.kept,hk,rfl,_,_,_,_,_,hb.x,hn⟩
theorem LZ (w0:World) (L:List Nat) (rr rf a:Nat) (v:Qs) (E:Int) (all:List Row) (S:Sx) (xb:Nat) (c:Cl) (line:Int) (fv:Value) (row:List ByteArray) (w:World) (h:QX w0 w L rr rf v E all a S xb) (hx:w.heap[xb]?=some (.cells (qx c ⟨#[]⟩ ⟨#[]⟩ ⟨#[]⟩ (.slice none 0 0) line) 41 (0,0)))
  (hr:b_ w0 fv row) (hlen:¬(row.length≠4∧row.length≠5)) (hal:S.fl.aI.length≤65536) (hck:c.kind=1∨c.kind=2) :
  Calls Tryz.prog 210 #[.pointer (some ⟨rf,0,none⟩),.pointer (some ⟨xb,0,none⟩),fv] w (vk L xb c line (bK S.fl c line row) w):=by
 have HX0:Hid (XQ w w xb c ⟨#[]⟩ ⟨#[]⟩ ⟨#[]⟩ (.slice none 0 0) line):=hid ⟨Kept.refl _ _,hx⟩
 have HQ:=hid (fun W (hk:Kept [xb] w W)=>h.turn hk)
 have Pk:=hid h.FH;have o7:=hid (aL hr.each)
 obtain⟨g,o,cp,rfl,hcp,hcells⟩:=hr.cells (by omega)
 have HD:Hid (∀j,j < row.length→∀W,Kept [xb] w W→W.cell? ⟨g,o+j,none⟩=some (.string (fieldAt row j))):=hid (fun j hj W hk=>aD (hcells j hj) (h.turn hk).base)
 obtain⟨n,hn⟩:∃n,row.length=n:=⟨_,rfl⟩;rw [hn] at hcp HD hlen ⊢
 have hn':n=4∨n=5:=by omega
 have jA:¬(row.length≠4∧row.length≠5):=by rw [hn];omega
 have OJ:=hid jA;have R6:=hid hn;clear hcells h hx hlen jA hr hn
 have HP:=hid (uz (fieldAt row 2) true w (Nat.le_trans (o7.o 2) (by decide)))
 unfold nC at HP
 cases hp:bL true (fieldAt row 2) with
 | error e =>
  have bF:Hid (bK S.fl c line row=.error e):=hid (xG OJ.o hp)
  rw [hp] at HP;clear hp
  have d2:=HD.o 2 (by omega) w (Kept.refl _ _)
  rcases hn' with rfl | rfl
  all_goals
   go_enter Tryz.func210,Tryz.ntmps210
   go_wp2_with (go_at_call 209;refine HP.o.mono ?_;rintro e1 w1 ⟨hb1,he1,t1,rfl⟩;have HB1:=hid hb1;have jP:=hid he1;have he2:(e != 0)=true:=by { simpa using he1 };clear hb1 he1)
   go_ret
   exact .bad bF.o jP.o (HX0.o.later HB1.o) (IO.fP _ _)
 | ok strip =>
  have bF:Hid (bK S.fl c line row=Ab S.fl c line row strip):=hid (Io OJ.o hp)
  rw [hp] at HP;clear hp
  have d2:=HD.o 2 (by omega) w (Kept.refl _ _)
  rcases hn' with rfl | rfl
  all_goals
   go_enter Tryz.func210,Tryz.ntmps210
   go_upto_region 5 with (go_at_call 209;refine HP.o.mono ?_;rintro e1 w1 ⟨hb1,rfl⟩;have fV:=hid (HX0.o.later hb1);obtain⟨k0,k3,k4,k5,k6⟩:=fV.o.cell;have z3:=fV.o.fz 3;clear hb1)
   have dL:=hid (fV.o.xE (s:=strip))
   have d3:=HD.o 3 (by omega) _ dL.o.kept
   have HW:=hid (uy (fieldAt row 3) (w1.setCell ⟨xb,3,none⟩ (.string strip)) (Nat.le_trans (o7.o 3) (by decide)))
   clear k0 k3 k4 k5 k6 z3;rcases hw:eB (fieldAt row 3).data.toList with ⟨wd,rest,cut,ew⟩;rw [hw] at HW;unfold jY at HW;dsimp only at HW
   by_cases OL:ew=0
   rotate_left
   ·have BK:Hid (bK S.fl c line row=.error ew):=hid (by rw [bF.o,Ab,hw];dsimp only;rw [if_pos OL])
    have hE0:(ew != 0)=true:=by simpa using OL
    have HEw:=hid OL;clear hw OL
    go_wp2_with (go_at_call 143;refine HW.o.mono ?_;rintro e4 w4 ⟨rfl,hb4⟩;have Dv:=hid (dL.o.later hb4);clear hb4)
    go_ret
    exact .bad BK.o HEw.o Dv.o (IO.fP _ _)
   subst OL
   have sP:Hid (bK S.fl c line row=match o8 wd with
    | .error e=>.error e
    | .ok add=>Q7 S.fl c line row strip add rest cut):=hid (by rw [bF.o,Ab,hw];rfl)
   obtain⟨Bz,Ad⟩:∃B,((mkS wd).toList==[48])=B:=⟨_,rfl⟩;have hwl:=(iM (fieldAt row 3).data.toList).1;have R7:=(iM (fieldAt row 3).data.toList).2;rw [hw,ak] at hwl R7
   have HSw:=hid (show (mkS wd).size≤140737488355328 by rw [aG];exact Nat.le_trans hwl (Nat.le_trans (o7.o 3) (by decide)))
   have JA:=hid (show (mkS rest).size≤4194304 by rw [aG];exact Nat.le_trans R7 (Nat.le_trans (o7.o 3) (by decide)))
   clear hwl R7 hw
   go_upto_region 8 with (go_at_call 143;refine HW.o.mono ?_;rintro e4 w4 ⟨rfl,hb4⟩;have Dv:=hid (dL.o.later hb4);clear hb4)
   go_upto_if 42 with fail
   have Lb:=hid (Il (mkS wd) w4 HSw.o)
   cases ha:o8 wd with
   | error e =>
    have Di:Hid (bK S.fl c line row=.error e):=hid (by rw [sP.o,ha])
    have hz:mkS wd≠jZ:=fun h=>by rw [o8,if_pos h] at ha;cases ha
    have Yf:Bz=false:=by
     rw [←Ad,beq_eq_false_iff_ne]
     intro h3
     rw [Lib.toList_data] at h3;have h4:wd=[48]:=h3
     exact hz (by rw [h4];rfl)
    subst Yf
    have hfe:jX (mkS wd)=e∧e≠0:=by
     rw [o8,if_neg hz] at ha
     by_cases hf:jX (mkS wd)≠0
     ·rw [if_pos hf] at ha;cases ha;exact⟨rfl,hf⟩
     rw [if_neg hf] at ha;cases ha
    rw [hfe.1] at Lb;have Dw:=hid hfe.2
    have hE1:(e != 0)=true:=by simpa using hfe.2
    clear hz hfe ha
    go_wp2_with (go_at_call 234;refine Lb.o.mono ?_;rintro e5 w5 ⟨rfl,rfl⟩)
    go_ret
    exact .bad Di.o Dw.o Dv.o (IO.fP _ _)
   | ok add =>
    have U3:Hid (bK S.fl c line row=match nextR S.fl c.kind rest cut with
     | .error e=>.error e
     | .ok next=>qX c line row strip add next):=hid (by rw [sP.o,ha];rfl)
    have U4:=hid ha;clear ha
    go_cut [] from 43 to 51 (fun W=>Hid (XQ w W xb c strip add ⟨#[]⟩ (.slice none 0 0) line))
    case first =>
     cases Bz
     ·have hz:mkS wd≠jZ:=fun e=>by
       rw [e,Lib.toList_data] at Ad
       exact absurd Ad (by decide)
      have hadd:add=mkS wd∧jX (mkS wd)=0:=by
       have h:=U4.o
       rw [o8,if_neg hz] at h
       by_cases hf:jX (mkS wd)≠0
       ·rw [if_pos hf] at h;cases h
       rw [if_neg hf] at h;cases h;exact⟨rfl,by omega⟩
      obtain⟨rfl,hfit⟩:=hadd;rw [hfit] at Lb;obtain⟨k0,k3,k4,k5,k6⟩:=Dv.o.cell;have z4:=Dv.o.fz 4;clear hz hfit
      go_wp2_with (go_at_call 234;refine Lb.o.mono ?_;rintro e5 w5 ⟨rfl,rfl⟩)
      all_goals go_meet
      all_goals exact hid Dv.o.FT
     have hz:mkS wd=jZ:=by
      have h3:(mkS wd).toList=[48]:=by simpa using Ad
      rw [Lib.toList_data] at h3;have h4:wd=[48]:=h3;rw [h4];rfl
     have hadd:add=⟨#[]⟩:=by
      have h:=U4.o
      rw [o8,if_pos hz] at h
      cases h;rfl
     subst hadd
     clear hz
     go_wp2_with fail
     all_goals go_meet
     all_goals exact Dv
    case rest =>
    have sQ:=hcut
    clear hcut;have Yg:=hid (HQ.o _ sQ.o.kept)
    have L6:=hid (zS L rf S.fl (mkS rest) wc Yg.o.flF (fun x hx=>(Yg.o.hl x hx).2) hal JA.o)
    obtain⟨k0,k3,k4,k5,k6⟩:=sQ.o.cell;have z6:=sQ.o.fz 6
    cases hnx:nextR S.fl c.kind rest cut with
    | error e =>
     have Di:Hid (bK S.fl c line row=.error e):=hid (by rw [U3.o,hnx])
     cases cut
     ·rw [nextR,if_neg (by simp)] at hnx;cases hnx
     rw [nextR,if_pos rfl] at hnx
     by_cases hk2:c.kind=2
     ·have hfl:(aQ S.fl (mkS rest)).2=e∧e≠0:=by
       rw [if_neg (by omega)] at hnx
       by_cases h:(aQ S.fl (mkS rest)).2≠0
       ·rw [if_pos h] at hnx;cases hnx;exact⟨rfl,h⟩
       rw [if_neg h] at hnx;cases hnx
      have ek:(c.kind==1)=false:=by rw [hk2];rfl
      unfold FI at L6;rw [hfl.1] at L6;have Dw:=hid hfl.2
      have hE1:(e != 0)=true:=by simpa using hfl.2
      clear hfl hk2 hnx
      go_wp2_with (go_at_call 144;refine L6.o.mono ?_;rintro e6 w6 ⟨v6,rfl,hv6,hb6⟩;have U5:=hid hv6;have Dx:=hid (sQ.o.later hb6);obtain⟨p6,c6,rfl,-⟩:=hv6;obtain⟨-,-,-,-,q6⟩:=Dx.o.cell;have y6:=Dx.o.fz 6;clear hb6)
      go_ret
      exact .bad Di.o Dw.o Dx.o.wG (U5.o.keep ⟨bC Pk.o,fun _ h=>.inl h⟩)
     have he:e=118:=by rw [if_pos hk2] at hnx;cases hnx;rfl
     subst he
     have ek:(c.kind==1)=true:=by rw [beq_iff_eq];omega
     clear hk2 hnx
     go_wp2_with fail
     go_ret
     exact .bad Di.o (by decide) sQ.o (IO.fP _ _)
    | ok next =>
     have R8:Hid (bK S.fl c line row=qX c line row strip add next):=hid (by rw [U3.o,hnx])
     have hcc:cut=false∨(cut=true∧(c.kind==1)=false):=by
      cases cut
      ·exact .inl rfl
      refine .inr ⟨rfl,?_⟩
      rw [nextR,if_pos rfl] at hnx
      by_cases h:c.kind≠2
      ·rw [if_pos h] at hnx;cases hnx
      rw [beq_eq_false_iff_ne];omega
     go_upto_region 13 with fail
     go_cut [59] from 52 to 58 (fun p W=>p=.bool false∧W=wc)
     case first =>
      rcases hcc with rfl | ⟨rfl,ek⟩
      ·go_wp2_with fail
       all_goals go_meet
       all_goals exact⟨rfl,rfl⟩
      go_wp2_with fail
      all_goals go_meet
      all_goals exact⟨rfl,rfl⟩
     case rest =>
     obtain⟨rfl,rfl⟩:=hcut
     go_upto_if 60 with fail
     go_cut [] from 62 to 72 (fun W=>∃nv,Hid (XQ w W xb c strip add ⟨#[]⟩ nv line)∧Hid (IO W L nv next))
     case first =>
      cases cut
      ·have hnn:next=[]:=by
        unfold nextR at hnx
        rw [if_neg (by simp)] at hnx
        cases hnx;rfl
       subst hnn
       go_wp2_with fail
       all_goals go_meet
       all_goals exact⟨_,sQ,hid (IO.fP _ _)⟩
      have hfl:(aQ S.fl (mkS rest)).2=0∧next=(aQ S.fl (mkS rest)).1:=by
       unfold nextR at hnx
       rw [if_pos rfl] at hnx
       by_cases hk:c.kind≠2
       ·rw [if_pos hk] at hnx;cases hnx
       rw [if_neg hk] at hnx
       by_cases h:(aQ S.fl (mkS rest)).2≠0
       ·rw [if_pos h] at hnx;cases hnx
       rw [if_neg h] at hnx
       cases hnx
       exact⟨by omega,rfl⟩
      unfold FI at L6;rw [hfl.1,←hfl.2] at L6;clear hfl hnx
      go_wp2_with (go_at_call 144;refine L6.o.mono ?_;rintro e6 w6 ⟨v6,rfl,hv6,hb6⟩;have U5:=hid hv6;have Dx:=hid (sQ.o.later hb6);obtain⟨p6,c6,rfl,-⟩:=hv6;obtain⟨-,-,-,-,q6⟩:=Dx.o.cell;have y6:=Dx.o.fz 6;clear hb6)
      all_goals go_meet
      all_goals exact⟨_,hid Dx.o.wG,hid (U5.o.keep ⟨bC Pk.o,fun _ h=>.inl h⟩)⟩
     case rest =>
     obtain⟨nv,vQ,Uj⟩:=hcut
     clear hnx hcc k0 k3 k4 k5 k6 z6 L6 Yg;obtain⟨p9,c9,Yh,-⟩:=Uj.o
     subst Yh
     obtain⟨-,-,-,k5,-⟩:=vQ.o.cell;have z5:=vQ.o.fz 5
     go_upto_region 20 with fail
     have zn:=hid (vQ.o.sO (s:=⟨#[46]⟩))
     have JB:Hid (IO (wc.setCell ⟨xb,5,none⟩ (.string ⟨#[46]⟩)) L (.slice p9 next.length c9) next):=hid (Uj.o.keep ⟨bC Pk.o,fun _ h=>.inl h⟩)
     clear k5 z5
     first
      | (have Yi:row.length=4:=R6.o
         have BK:Hid (bK S.fl c line row=.ok ⟨c.kind,c.flag,c.cross,strip,add,⟨#[46]⟩,next,line⟩):=hid (by rw [R8.o,qX,je,if_neg (by omega)])
         clear Yi
         go_wp2_with fail
         go_ret
         unfold vk;rw [BK.o]
         exact⟨zn.o.kept,rfl,_,zn.o.x,JB.o⟩)
      | (have L8:row.length=5:=R6.o
         have d4:=HD.o 4 (by omega) _ zn.o.kept
         have hs4:=o7.o 4
         have sS:=hid (gQ (fieldAt row 4) (wc.setCell ⟨xb,5,none⟩ (.string ⟨#[46]⟩)) (Nat.le_trans hs4 (by decide)))
         cases hf:fitAll (fieldAt row 4)
         ·have BK:Hid (bK S.fl c line row=.error 21):=hid (by rw [R8.o,qX,je,if_pos L8,if_pos hf])
          rw [hf] at sS;clear hf L8
          go_wp2_with (go_at_call 139;refine sS.o.mono ?_;rintro e8 w8 ⟨rfl,rfl⟩)
          go_ret
          exact .bad BK.o (by decide) zn.o JB.o
         rw [hf] at sS
         have U6:Hid (bK S.fl c line row=match gT (fieldAt row 4).data.toList with
          | .error e=>.error e
          | .ok ts=>.ok ⟨c.kind,c.flag,c.cross,strip,add,mkS (dF ts),next,line⟩):=hid (by rw [R8.o,qX,je,if_pos L8,if_neg (by rw [hf];simp)];cases gT (fieldAt row 4).data.toList<;>rfl)
         have L_:=hid (FM (fieldAt row 4) (wc.setCell ⟨xb,5,none⟩ (.string ⟨#[46]⟩)));unfold uW at L_;clear hf L8
         cases hc:gT (fieldAt row 4).data.toList with
         | error e =>
          have BK:Hid (bK S.fl c line row=.error e):=hid (by rw [U6.o,hc])
          rw [hc] at L_;have hce:=uF hc
          have hE1:(e != 0)=true:=by rw [bne,hce];rfl
          have Dw:Hid (e≠0):=hid (by simpa using hce)
          clear hc hce
          go_wp2_with (first | (go_at_call 139;refine sS.o.mono ?_;rintro e8 w8 ⟨rfl,rfl⟩) | (go_at_call 235;refine L_.o.mono ?_;rintro e8 w8 ⟨rfl,mQ⟩;have BL:=hid (zn.o.later mQ);have Ma:=hid (JB.o.keep (aZ.of_below mQ));clear mQ))
          go_ret
          exact .bad BK.o Dw.o BL.o Ma.o
         | ok ts =>
          have BK:Hid (bK S.fl c line row=.ok ⟨c.kind,c.flag,c.cross,strip,add,mkS (dF ts),next,line⟩):=hid (by rw [U6.o,hc])
          rw [hc] at L_;have Yj:=hid (Ah hc);clear hc
          go_wp2_with (first
           | (go_at_call 139;refine sS.o.mono ?_;rintro e8 w8 ⟨rfl,rfl⟩)
           | (go_at_call 235;refine L_.o.mono ?_;rintro e8 w8 ⟨hok,v8,rfl,U7⟩;have BL:=hid (zn.o.later (Below.mono U7.below (Nat.le_refl _)));have Ma:=hid (JB.o.keep (aZ.of_below (Below.mono U7.below (Nat.le_refl _))));have jr:=hid hok;have Yk:=hid (Rd.aN U7.own);obtain⟨A8,LW,rfl⟩:=aF U7.own;clear U7 hok)
           | (go_at_call 236;refine (FR _ ts _ Yk.o jr.o (Nat.le_trans Yj.o (by decide))).mono ?_;rintro e9 zo ⟨rfl,FU⟩;have zq:=hid (BL.o.later FU);have R_:=hid (Ma.o.keep (aZ.of_below FU));obtain⟨-,-,-,k5,-⟩:=zq.o.cell;have z5:=zq.o.fz 5;clear FU))
          go_ret
          unfold vk;rw [BK.o]
          exact⟨zq.o.sO.kept,rfl,_,zq.o.sO.x,R_.o.keep ⟨bC Pk.o,fun _ h=>.inl h⟩⟩)
theorem kN {P:Program} {ops:Array Oper} {rest:List Oper} {o:Oper} {a:Act} {Q:Exit→Act→World→Prop} {w:World} (hgd:o.guard=none) (s x:Operand) (t:TypeId)
  (ho:o.op=.call { callee:=.builtin .append,args:=#[s,x],argTypes:=#[t,t] })
  (base:Nat) (e:TypeId) (i:TypeInfo) (z:Value) (size bytes:Nat) (ht:P.underlying t=some (.slice e)) (hi:P.info? e=some i) (hz:i.zero=some z)
  (hsize:i.size=size) (hby:i.bytes=bytes) (hzs:z.cells.size=size) (hsz:0 < size)
  (v:Value) (n:Nat) (xs:List Value) (hs:a.eval s=v) (hown:w.ownsRow base e size v n xs)
  (us:Array Value) (zL:us.size=size) (h1:∀u∈us.toList,u.oneCell'=true) (hx:a.eval x=.slice (some ⟨w.heap.size,0,none⟩) 1 1)
  (h63:n+1≤maxLen) (hbytes:(n+1)*bytes≤140737488355328) (hbase:base≤w.heap.size)
  (h:∀g cap w',w'.ownsRow base e size (.slice (some ⟨g,0,none⟩) (n+1) cap) (n+1) (xs++us.toList)→w.grownBy w' v.ownBlock→n_ w w' v (.slice (some ⟨g,0,none⟩) (n+1) cap) →
   wpList P ops Q rest (a.put o.dst (.slice (some ⟨g,0,none⟩) (n+1) cap)) w'):wpList P ops Q (o::rest) a (w.alloc (.cells us e)):=by
 refine wpList_plain hgd fun K hK=>?_
 obtain⟨v',w',hrun,h2,h3,h4⟩:=eF (P:=P) (w.alloc (.cells us e)) base t o.type e i z size bytes ht hi hz hsize hby hzs hsz v n xs (hown.alloc _) (some ⟨w.heap.size,0,none⟩) 1 1 us.toList (by simp [zL])
  (.inr ⟨_,rfl,by
   intro j u hj
   rw [gJ,cell_of_row (w.alloc (.cells us e)) w.heap.size j us e (0,0) (heap_alloc_new w _)]
   simpa using hj⟩) h1 h63 hbytes (by simp;omega)
 obtain⟨g,cap,rfl⟩:∃g cap,v'=.slice (some ⟨g,0,none⟩) (n+1) cap:=by
  rcases h2.2 with ⟨_,h0⟩ | ⟨g,cap,cur,hv,_⟩
  ·omega
  exact⟨g,cap,hv⟩
 unfold Oper.wp execOp;simp only [ho,resolve,invoke,builtin,Sem.run_bind,Sem.run_pure,Result.andThen_ok,List.map_toArray,List.map_cons,List.map_nil,hs,hx,hrun]
 refine hK _ _ (h g cap w' h2 (kU h3) ?_)
 rcases h4 with h4 | h4
 ·exact .inl h4
 refine .inr ⟨g,rfl,?_,(h2.lt g rfl).2⟩
 have:g=(w.alloc (.cells us e)).heap.size:=by simpa [Value.ownBlock] using h4
 rw [this,World.size_alloc];omega
theorem JC:(Tryz.prog.info? 297).map (fun i=>(i.zero,i.size,i.bytes))=some (some (.agg #[.string ByteArray.empty,.string ByteArray.empty]),2,32):=by kernel_rfl
theorem JD:(Tryz.prog.info? 39).map (fun i=>(i.zero,i.size,i.bytes))=some (some (.slice none 0 0),1,24):=by kernel_rfl
theorem JE:(Tryz.prog.info? 192).map (fun i=>(i.zero,i.size,i.bytes))=some (some (.agg #[.int .i64 0,.int .i64 0,.bool false,.int .i64 0,.int .i64 0]),5,40):=by kernel_rfl
theorem JF:(Tryz.prog.info? 41).map (fun i=>(i.zero,i.size,i.bytes))=some (some (.agg #[.int .i64 0,.int .i64 0,.bool false,.string ByteArray.empty,.string ByteArray.empty,.string ByteArray.empty,.slice none 0 0,.int .i64 0]),8,104):=by kernel_rfl
def zu (w0:World) (L:List Nat) (rr rf:Nat) (E:Int) (all:List Row) (kh k:Nat) (S:Sx) (R:Except Int Fl) (w:World) (e:Ending) (w':World):Prop:=∃L',aZ L w L' w'∧match R with
 | .ok F=>e=.returned (.int .i64 0)∧RQ w0 w' L' rr rf E all kh k { S with fl:=F }
 | .error c=>c≠0∧e=.returned (.int .i64 c)∧w'.cell? ⟨rr,5,none⟩=some (.int .i64 S.line)
theorem zu.bad {w0:World} {L L':List Nat} {rr rf:Nat} {E:Int} {all:List Row} {kh k:Nat} {S:Sx} {R:Except Int Fl} {c:Int} {w w':World} (hR:R=.error c) (hc:c≠0) (hg:aZ L w L' w') (hl:w'.cell? ⟨rr,5,none⟩=some (.int .i64 S.line)):zu w0 L rr rf E all kh k S R w (.returned (.int .i64 c)) w':=by
 subst hR;exact⟨L',hg,hc,rfl,hl⟩
theorem zu.fine {w0:World} {L L':List Nat} {rr rf a:Nat} {v:Qs} {E:Int} {all:List Row} {kh k:Nat} {S:Sx} {R:Except Int Fl} {F:Fl} {w w':World} (hR:R=.ok F) (hg:aZ L w L' w') (hb:Bd kh k { S with fl:=F }) (hp:Dh all a S) (hm:QM w0 w' L' rr rf v E all a { S with fl:=F }):zu w0 L rr rf E all kh k S R w (.returned (.int .i64 0)) w':=by
 subst hR;exact⟨L',hg,rfl,hb,v,a,hp,hm⟩
theorem Pm (w0:World) (L:List Nat) (rr rf:Nat) (E:Int) (all:List Row) (kh k:Nat) (S:Sx) (fv:Value) (row:List ByteArray) (w:World) (h:RQ w0 w L rr rf E all (kh+1) (k+1) S) (hr:b_ w0 fv row) (hk:fieldAt row 0=mR) (hpos:0 < row.length) :
  Calls Tryz.prog 180 #[.pointer (some ⟨rr,0,none⟩),fv] w (zu w0 L rr rf E all kh k S (gV S.fl S.line row) w):=by
 obtain⟨i0,hi,hz0,hz1,hz2⟩:=info_parts JC
 obtain⟨hbd,v,a,hpa,hm⟩:=h;have o7:=hid (aL hr.each);obtain⟨g,o,cp,rfl,hcp,hcells⟩:=hr.cells hpos
 have HD:Hid (∀j,j < row.length→∀W,Below w.heap.size w W→W.cell? ⟨g,o+j,none⟩=some (.string (fieldAt row j))):=hid (fun j hj W hb=>aD (hcells j hj) (hm.below hb).base)
 have d0:=HD.o 0 hpos w (Below.refl _ _);rw [Nat.add_zero,hk] at d0;have c0:=hm.r0;have HM:=hid hm;have HB:=hid hbd;have vo:=hid hpa;have hcl:row.length≤65536:=hr.len;clear hcells hm hbd hpa hr hk
 by_cases h3:row.length=3
 ·have BM:Hid (gV S.fl S.line row=match bL false (fieldAt row 1) with
   | .error c=>.error c
   | .ok a=>match bL true (fieldAt row 2) with
     | .error c=>.error c
     | .ok b=>.ok { S.fl with au:=S.fl.au++[(a,b)] }):=hid (by rw [gV,if_neg (by simp [h3])];rfl)
  have d1:=HD.o 1 (by omega) w (Below.refl _ _)
  have CO:=hid (uz (fieldAt row 1) false w (Nat.le_trans (o7.o 1) (by decide)))
  unfold nC at CO
  cases hp1:bL false (fieldAt row 1) with
  | error c1 =>
   have bF:Hid (gV S.fl S.line row=.error c1):=hid (by rw [BM.o,hp1])
   rw [hp1] at CO;rw [h3] at hcp hcl ⊢;clear hp1 h3
   go_enter Tryz.func180,Tryz.ntmps180
   go_wp2_with (go_at_call 209;refine CO.o.mono ?_;rintro e1 w1 ⟨hb1,he1,t1,rfl⟩;have HB1:=hid hb1;have jP:=hid he1;have he2:(c1 != 0)=true:=by { simpa using he1 };clear hb1 he1)
   go_ret
   exact .bad bF.o jP.o (aZ.of_below HB1.o) (HM.o.below HB1.o).r5
  | ok x =>
   rw [hp1] at CO
   have Ip:Hid (∀W,Calls Tryz.prog 209 #[.string (fieldAt row 2),.bool true] W (nC (bL true (fieldAt row 2)) W)):=hid (fun W=>uz (fieldAt row 2) true W (Nat.le_trans (o7.o 2) (by decide)))
   have HD2:=hid (HD.o 2 (by omega))
   have Mc:=BM.o;rw [hp1] at Mc;obtain⟨R2,hR2⟩:∃R,bL true (fieldAt row 2)=R:=⟨_,rfl⟩;dsimp only at Mc;rw [hR2] at Ip Mc;have HR2:=hid Mc;obtain⟨A3,gW,hv3⟩:=aF HM.o.au.1;have j3:=hid hv3
   have iA:Hid (∀W y,Below w.heap.size w W→∀W9 g9 gG,W9.ownsRow 0 297 2 (.slice (some ⟨g9,0,none⟩) (S.fl.au.length+1) gG) (S.fl.au.length+1) (bB S.fl.au++[.string x,.string y])→W.grownBy W9 (Value.slice A3 S.fl.au.length gW).ownBlock→n_ W W9 (.slice A3 S.fl.au.length gW) (.slice (some ⟨g9,0,none⟩) (S.fl.au.length+1) gG) →
     ∃L',aZ L w L' (W9.setCell ⟨rf,9,none⟩ (.slice (some ⟨g9,0,none⟩) (S.fl.au.length+1) gG))∧QM w0 (W9.setCell ⟨rf,9,none⟩ (.slice (some ⟨g9,0,none⟩) (S.fl.au.length+1) gG)) L' rr rf { v with au:=.slice (some ⟨g9,0,none⟩) (S.fl.au.length+1) gG } E all a { S with fl:={ S.fl with au:=S.fl.au++[(x,y)] } }):=hid (fun W y hW W9 g9 gG hown hg hloc=>by
    rw [←j3.o] at hg hloc
    obtain⟨L',hG,hM⟩:=(HM.o.below hW).mO x y hg hloc hown
    exact⟨L',(aZ.of_below hW).trans hG,hM⟩)
   have BN:Hid (∀W,Below w.heap.size w W→∀W9,W.grownBy W9 (Value.slice A3 S.fl.au.length gW).ownBlock→W9.heap[rf]?=some (.cells (mM v S.fl) 48 (0,0))):=hid (fun W hW W9 hg=>by
    rw [←j3.o] at hg
    exact (HM.o.below hW).bX hg (HM.o.below hW).bY (by decide))
   have HO9:Hid (∀W,Below w.heap.size w W→W.ownsRow 0 297 2 (.slice A3 S.fl.au.length gW) S.fl.au.length (bB S.fl.au)):=hid (fun W hW=>by
    rw [←j3.o];exact (HM.o.below hW).au.1)
   have Xh:Hid (∀W,Below w.heap.size w W→W.cell? ⟨rf,9,none⟩=some (.slice A3 S.fl.au.length gW)):=hid (fun W hW=>by
    rw [(HM.o.below hW).fc 9,←j3.o];rfl)
   have hrl:S.fl.au.length≤65536:=by have:=HB.o.au;omega
   rw [h3] at hcp hcl ⊢;clear hp1 h3 hv3 Mc hR2;unfold nC at Ip
   cases R2 with
   | error c2 =>
    go_enter Tryz.func180,Tryz.ntmps180
    go_upto_region 9 with (go_at_call 209;refine CO.o.mono ?_;rintro e1 w1 ⟨hb1,rfl⟩;have HB1:=hid hb1;have d2:=HD2.o w1 hb1;clear hb1)
    go_upto_region 10 with (go_at_call 209;refine (Ip.o _).mono ?_;rintro e2 w2 ⟨hb2,he2,t2,rfl⟩;have HB2:=hid (HB1.o.trans (hb2.mono HB1.o.size));have HE2:=hid he2;have c9:=Xh.o _ HB2.o;clear hb2 he2)
    go_wp2_with (at_builtin;refine kN rfl _ _ 43 rfl 0 297 i0 _ 2 32 Tryz.underlying43 hi hz0 hz1 hz2 rfl (by decide) (.slice A3 S.fl.au.length gW) S.fl.au.length (bB S.fl.au) rfl (HO9.o _ HB2.o) #[.string x,.string t2] rfl (by intro u hu;simp at hu;rcases hu with rfl | rfl<;>rfl) rfl (by unfold maxLen;omega) (by omega) (Nat.zero_le _) ?_;intro g9 gG w9 hown hg hloc;have vQ:=hid (iA.o _ t2 HB2.o _ _ _ hown hg hloc);have jD:=BN.o _ HB2.o _ hg;have q9:w9.cell? ⟨rf,9,none⟩=some v.au:=by { rw [cell_of_heap jD];rfl };have z9:=frozen_of_heap jD 9;clear hown hg hloc jD)
    go_ret
    obtain⟨L',hG,hM⟩:=vQ.o
    exact .bad HR2.o HE2.o hG hM.r5
   | ok y =>
    go_enter Tryz.func180,Tryz.ntmps180
    go_upto_region 9 with (go_at_call 209;refine CO.o.mono ?_;rintro e1 w1 ⟨hb1,rfl⟩;have HB1:=hid hb1;have d2:=HD2.o w1 hb1;clear hb1)
    go_upto_region 10 with (go_at_call 209;refine (Ip.o _).mono ?_;rintro e2 w2 ⟨hb2,rfl⟩;have HB2:=hid (HB1.o.trans (hb2.mono HB1.o.size));have c9:=Xh.o _ HB2.o;clear hb2)
    go_wp2_with (at_builtin;refine kN rfl _ _ 43 rfl 0 297 i0 _ 2 32 Tryz.underlying43 hi hz0 hz1 hz2 rfl (by decide) (.slice A3 S.fl.au.length gW) S.fl.au.length (bB S.fl.au) rfl (HO9.o _ HB2.o) #[.string x,.string y] rfl (by intro u hu;simp at hu;rcases hu with rfl | rfl<;>rfl) rfl (by unfold maxLen;omega) (by omega) (Nat.zero_le _) ?_;intro g9 gG w9 hown hg hloc;have vQ:=hid (iA.o _ y HB2.o _ _ _ hown hg hloc);have jD:=BN.o _ HB2.o _ hg;have q9:w9.cell? ⟨rf,9,none⟩=some v.au:=by { rw [cell_of_heap jD];rfl };have z9:=frozen_of_heap jD 9;clear hown hg hloc jD)
    go_ret
    obtain⟨L',hG,hM⟩:=vQ.o
    exact .fine HR2.o hG (HB.o.sU x y) vo.o hM
 have bF:Hid (gV S.fl S.line row=.error 111):=hid (by rw [gV,if_pos h3])
 have q3:((row.length:Int)==3)=false:=by rw [beq_eq_false_iff_ne];omega
 go_enter Tryz.func180,Tryz.ntmps180
 go_wp2_with fail
 go_ret
 exact .bad bF.o (by decide) (aZ.refl _ _) HM.o.r5
theorem Pn (w0:World) (L:List Nat) (rr rf:Nat) (E:Int) (all:List Row) (kh k:Nat) (S:Sx) (fv:Value) (row:List ByteArray) (w:World) (h:RQ w0 w L rr rf E all (kh+1) (k+1) S) (hr:b_ w0 fv row) (hk:fieldAt row 0=wH) (hpos:0 < row.length) :
  Calls Tryz.prog 180 #[.pointer (some ⟨rr,0,none⟩),fv] w (zu w0 L rr rf E all kh k S (eT S.fl S.line row) w):=by
 obtain⟨i0,hi,hz0,hz1,hz2⟩:=info_parts JD
 obtain⟨hbd,v,a,hpa,hm⟩:=h;have o7:=hid (aL hr.each);obtain⟨g,o,cp,rfl,hcp,hcells⟩:=hr.cells hpos
 have HD:Hid (∀j,j < row.length→∀W,Below w.heap.size w W→W.cell? ⟨g,o+j,none⟩=some (.string (fieldAt row j))):=hid (fun j hj W hb=>aD (hcells j hj) (hm.below hb).base)
 have d0:=HD.o 0 hpos w (Below.refl _ _);rw [Nat.add_zero,hk] at d0;have c0:=hm.r0;have HM:=hid hm;have HB:=hid hbd;have vo:=hid hpa;have hcl:row.length≤65536:=hr.len;clear hcells hm hbd hpa hr hk
 by_cases h2:row.length=2
 ·have BM:Hid (eT S.fl S.line row=if (bS S.fl.kind (fieldAt row 1).data.toList).2≠0 then .error (bS S.fl.kind (fieldAt row 1).data.toList).2 else .ok { S.fl with aI:=S.fl.aI++[(bS S.fl.kind (fieldAt row 1).data.toList).1] }):=hid (by rw [eT,if_neg (by simp [h2])])
  have HS:Hid (∀W,Below w.heap.size w W→W.cell? ⟨rf,0,none⟩=some (.int .i64 S.fl.kind)∧W.cell? ⟨g,o+1,none⟩=some (.string (fieldAt row 1))):=hid (fun W hW=>⟨(HM.o.below hW).fc 0,HD.o 1 (by omega) W hW⟩)
  have t_:=hid (zT S.fl.kind (fieldAt row 1) w.drew (Nat.le_trans (o7.o 1) (by decide)))
  obtain⟨⟨az,ae⟩,hA⟩:∃r,bS S.fl.kind (fieldAt row 1).data.toList=r:=⟨_,rfl⟩;rw [hA] at t_ BM;dsimp only at t_ BM;have Md:=hid hA;obtain⟨Yl,ho0,Ym,-⟩:=HM.o.aI;obtain⟨A3,gW,hv3⟩:=aF ho0.1;have j3:=hid hv3
  have HU:Hid (∀W,Below w.heap.size w W→W.ownsRow 0 39 1 (.slice A3 S.fl.aI.length gW) S.fl.aI.length Yl):=hid (fun W hW=>by
   have e1:=(ho0.keep (Kept.of_below (E:=[]) hW) (by simp) (fun _ h=>h)).1
   rw [j3.o] at e1
   exact e1)
  have Xh:Hid (∀W,Below w.heap.size w W→W.cell? ⟨rf,10,none⟩=some (.slice A3 S.fl.aI.length gW)):=hid (fun W hW=>by
   rw [(HM.o.below hW).fc 10,←j3.o];rfl)
  have Lc:Hid (∀W,Below w.heap.size w W→∀u,IO W L u az→∀W9 g9 gG,W9.ownsRow 0 39 1 (.slice (some ⟨g9,0,none⟩) (S.fl.aI.length+1) gG) (S.fl.aI.length+1) (Yl++[u])→W.grownBy W9 (Value.slice A3 S.fl.aI.length gW).ownBlock→n_ W W9 (.slice A3 S.fl.aI.length gW) (.slice (some ⟨g9,0,none⟩) (S.fl.aI.length+1) gG) →
    ∃L',aZ L w L' (W9.setCell ⟨rf,10,none⟩ (.slice (some ⟨g9,0,none⟩) (S.fl.aI.length+1) gG))∧QM w0 (W9.setCell ⟨rf,10,none⟩ (.slice (some ⟨g9,0,none⟩) (S.fl.aI.length+1) gG)) L' rr rf { v with aI:=.slice (some ⟨g9,0,none⟩) (S.fl.aI.length+1) gG } E all a { S with fl:={ S.fl with aI:=S.fl.aI++[az] } }):=hid (fun W hW u hu W9 g9 gG hown hg hloc=>by
   rw [←j3.o] at hg hloc
   obtain⟨L',hG,hM⟩:=(HM.o.below hW).sK u az hu hg hloc (fun us zL=>by
    have e0:=HU.o _ hW
    rw [j3.o] at zL
    have:=lg e0 zL
    subst this
    exact hown)
   exact⟨L',(aZ.of_below hW).trans hG,hM⟩)
  have BN:Hid (∀W,Below w.heap.size w W→∀W9,W.grownBy W9 (Value.slice A3 S.fl.aI.length gW).ownBlock→W9.heap[rf]?=some (.cells (mM v S.fl) 48 (0,0))):=hid (fun W hW W9 hg=>by
   rw [←j3.o] at hg
   exact (HM.o.below hW).bX hg (HM.o.below hW).eP (by decide))
  have hal:S.fl.aI.length≤65536:=by have:=HB.o.aI;omega
  rw [h2] at hcp hcl ⊢;clear hA h2 hv3 ho0 Ym
  go_enter Tryz.func180,Tryz.ntmps180
  go_upto_region 15 with fail
  refine wp_region_held_drew (S:=fun W'=>W'.cell? ⟨rf,0,none⟩=some (.int .i64 S.fl.kind)∧W'.cell? ⟨g,o+1,none⟩=some (.string (fieldAt row 1))) (by kernel_rfl) ?_ (fun hHeld=>?_)
  ·exact HS.o _ ah
  refine aA 0 (some 62) hHeld ?_;try simp only [aj]
  refine aA 1 (some 63) hHeld ?_;try simp only [aj]
  refine aA 2 (some 64) hHeld ?_;try simp only [aj]
  refine aA 3 (some 65) hHeld ?_;try simp only [aj]
  refine aA 4 (some 66) hHeld ?_;try simp only [aj]
  refine aA 5 (some 67) hHeld ?_;try simp only [aj]
  refine aA 6 (some 68) hHeld ?_;try simp only [aj]
  refine aP 7 (fun K hK=>?_)
  go_simp
  refine t_.o.mono ?_
  rintro e w3 ⟨u,rfl,ho3,hb3⟩
  have HB3:Hid (Below w.heap.size w w3):=hid (ah.trans hb3)
  have U0:=hid (IO.aN (L:=L) ho3 (fun x hx=>(HM.o.hl x hx).2))
  clear ho3 hb3
  refine hK.out _ _ ?_ (fun hHeld=>?_)
  ·exact HS.o _ HB3.o
  clear hK K
  refine aA 8 (some 61) hHeld ?_;try simp only [aj]
  refine aA 9 (some 70) hHeld ?_;try simp only [aj]
  refine aA 10 (some 71) hHeld ?_;try simp only [aj]
  refine aA 11 (some 9) hHeld ?_;try simp only [aj]
  refine aA 12 (some 10) hHeld ?_;try simp only [aj]
  refine wpAnyH_done (by kernel_rfl) ?_ _
  have c9:=Xh.o _ HB3.o
  obtain⟨pu,cu,rfl⟩:∃p c,u=.slice p az.length c:=by
   obtain⟨p,c,h1,-⟩:=U0.o
   exact⟨p,c,h1⟩
  go_wp2_with (at_builtin;refine kN rfl _ _ 44 rfl 0 39 i0 _ 1 24 Tryz.underlying44 hi hz0 hz1 hz2 rfl (by decide) (.slice A3 S.fl.aI.length gW) S.fl.aI.length Yl rfl (HU.o _ HB3.o) #[.slice pu az.length cu] rfl (by intro x hx;simp at hx;subst hx;rfl) rfl (by unfold maxLen;omega) (by omega) (Nat.zero_le _) ?_;intro g9 gG w9 hown hg hloc;have vQ:=hid (Lc.o _ HB3.o _ U0.o _ _ _ hown hg hloc);have jD:=BN.o _ HB3.o _ hg;have q9:w9.cell? ⟨rf,10,none⟩=some v.aI:=by { rw [cell_of_heap jD];rfl };have z9:=frozen_of_heap jD 10;clear hown hg hloc jD)
  go_ret
  obtain⟨L',hG,hM⟩:=vQ.o
  by_cases hae:ae=0
  ·subst hae
   have hR:=BM.o
   rw [if_neg (by simp)] at hR
   have hc:=o9 S.fl.kind (fieldAt row 1).data.toList;have hl:=xH S.fl.kind (fieldAt row 1).data.toList;rw [Md.o] at hc hl
   exact .fine hR hG (HB.o.BO az hc hl) vo.o hM
  have hR:=BM.o;rw [if_pos hae] at hR
  exact .bad hR hae hG hM.r5
 have bF:Hid (eT S.fl S.line row=.error 111):=hid (by rw [eT,if_pos h2])
 have q3:((row.length:Int)==2)=false:=by rw [beq_eq_false_iff_ne];omega
 go_enter Tryz.func180,Tryz.ntmps180
 go_wp2_with fail
 go_ret
 exact .bad bF.o (by decide) (aZ.refl _ _) HM.o.r5
theorem JG {cs:List Cl} {c:Cl} (h:cs.getLast?=some c):∃m,cs.length=m+1∧(iT cs)[m*5]?=some (.int .i64 c.flag)∧(iT cs)[m*5+1]?=some (.int .i64 c.kind)∧(iT cs)[m*5+2]?=some (.bool c.cross)∧(iT cs)[m*5+3]?=some (.int .i64 c.first)∧(iT cs)[m*5+4]?=some (.int .i64 c.count):=by
 have hne:cs≠[]:=by rintro rfl;simp at h
 have hl:0 < cs.length:=List.length_pos_iff.2 hne
 have hc:cs[cs.length - 1]=c:=by
  rw [List.getLast?_eq_getElem?,List.getElem?_eq_getElem (by omega)] at h
  injection h
 refine⟨cs.length - 1,by omega,?_⟩
 have:=BJ cs (cs.length - 1) (by omega)
 rwa [hc] at this
theorem FV {F:Fl} {c:Cl} {line:Int} {row:List ByteArray} {r:Rl} (h:bK F c line row=.ok r):∃strip add cond next,r=⟨c.kind,c.flag,c.cross,strip,add,cond,next,line⟩:=by
 unfold bK at h
 split at h
 ·cases h
 split at h
 ·cases h
 split at h
 split at h
 ·cases h
 split at h
 ·cases h
 split at h
 ·cases h
 split at h
 ·cases h
 cases h
 exact⟨_,_,_,_,rfl⟩
def Q8 (R:Except Int Rl) (code:Int) (r:Rl):Prop:=match R with
 | .error k=>k≠0∧code=k
 | .ok r'=>code=0∧r'=r
def Q9 (r:Rl) (nv:Value):Array Value:=#[.int .i64 r.kind,.int .i64 r.flag,.bool r.cross,.string r.strip,.string r.add,.string r.cond,nv,.int .i64 r.line]
theorem vk.one {L:List Nat} {xb:Nat} {c:Cl} {line:Int} {R:Except Int Rl} {w w':World} {e:Ending} (h:vk L xb c line R w e w') (hs:∀r,R=.ok r→∃strip add cond next,r=⟨c.kind,c.flag,c.cross,strip,add,cond,next,line⟩) :
  Kept [xb] w w'∧∃code r nv,e=.returned (.int .i64 code)∧w'.heap[xb]?=some (.cells (Q9 r nv) 41 (0,0))∧IO w' L nv r.next∧Q8 R code r:=by
 unfold vk at h
 cases R with
 | error k =>
  obtain⟨h1,h2,h3,strip,add,cond,nv,next,h4,h5⟩:=h
  exact⟨h1,k,⟨c.kind,c.flag,c.cross,strip,add,cond,next,line⟩,nv,h3,h4,h5,h2,rfl⟩
 | ok r =>
  obtain⟨h1,h2,nv,h4,h5⟩:=h
  obtain⟨strip,add,cond,next,rfl⟩:=hs r rfl
  exact⟨h1,0,⟨c.kind,c.flag,c.cross,strip,add,cond,next,line⟩,nv,h2,h4,h5,rfl,rfl⟩
theorem QM.Me {w0 w:World} {L:List Nat} {rr rf a:Nat} {v:Qs} {E:Int} {all:List Row} {S:Sx} (h:QM w0 w L rr rf v E all a S) (r:Rl) (nv:Value) (Jp:IO w L nv r.next) :
  ∃us A3 gW,(∀W,Below w.heap.size w W→W.cell? ⟨rf,12,none⟩=some (.slice A3 S.fl.rls.length gW)∧W.ownsRow 0 41 8 (.slice A3 S.fl.rls.length gW) S.fl.rls.length us) ∧
   (∀W,Below w.heap.size w W→∀W9,W.grownBy W9 (Value.slice A3 S.fl.rls.length gW).ownBlock→W9.cell? ⟨rf,12,none⟩=some (.slice A3 S.fl.rls.length gW)∧W9.frozen? ⟨rf,12,none⟩=false) ∧
   (∀W,Below w.heap.size w W→∀W9 g9 gG,W9.ownsRow 0 41 8 (.slice (some ⟨g9,0,none⟩) (S.fl.rls.length+1) gG) (S.fl.rls.length+1) (us++(Q9 r nv).toList)→W.grownBy W9 (Value.slice A3 S.fl.rls.length gW).ownBlock→n_ W W9 (.slice A3 S.fl.rls.length gW) (.slice (some ⟨g9,0,none⟩) (S.fl.rls.length+1) gG) →
    ∃L',aZ L w L' (W9.setCell ⟨rf,12,none⟩ (.slice (some ⟨g9,0,none⟩) (S.fl.rls.length+1) gG))∧QM w0 (W9.setCell ⟨rf,12,none⟩ (.slice (some ⟨g9,0,none⟩) (S.fl.rls.length+1) gG)) L' rr rf { v with rls:=.slice (some ⟨g9,0,none⟩) (S.fl.rls.length+1) gG } E all a { S with fl:={ S.fl with rls:=S.fl.rls++[r] } }):=by
 obtain⟨rs,hrs,ho,-⟩:=h.rls
 have hln (qs:List (Rl×Value)) (h:qs.map (·.1)=S.fl.rls):qs.length=S.fl.rls.length:=by rw [←h,List.length_map]
 rw [hln rs hrs] at ho;obtain⟨A3,gW,hv⟩:=aF ho.1
 have HU (W:World) (hW:Below w.heap.size w W):W.ownsRow 0 41 8 (.slice A3 S.fl.rls.length gW) S.fl.rls.length (jH rs):=by
  have e1:=(ho.keep (Kept.of_below (E:=[]) hW) (by simp) (fun _ h=>h)).1
  rwa [hv] at e1
 refine⟨jH rs,A3,gW,fun W hW=>⟨?_,HU W hW⟩,fun W hW W9 hg=>?_,fun W hW W9 g9 gG hown hg hloc=>?_⟩
 ·rw [(h.below hW).fc 12,←hv];rfl
 ·rw [←hv] at hg
  have hf:=(h.below hW).bX hg (h.below hW).dQ (by decide)
  exact⟨by rw [cell_of_heap hf,←hv];rfl,frozen_of_heap hf 12⟩
 rw [←hv] at hg hloc
 obtain⟨L',hG,hM⟩:=(h.below hW).oZ r nv (Jp.keep (aZ.of_below hW)) hg hloc (fun qs hqs hq=>by
  rw [hln qs hqs] at hq ⊢
  have e0:=HU W hW;rw [hv] at hq;rw [←lg e0 hq]
  exact hown)
 exact⟨L',(aZ.of_below hW).trans hG,hM⟩
theorem dG {a b:ByteArray} (h:a.toList=b.data.toList):a=b:=by
 rw [Lib.toList_data] at h
 exact ByteArray.ext (Array.toList_inj.1 h)
theorem Sb (w0:World) (L:List Nat) (rr rf:Nat) (E:Int) (all:List Row) (kh k:Nat) (S:Sx) (c:Cl) (fv:Value) (row:List ByteArray) (w:World) (h:RQ w0 w L rr rf E all (kh+1) (k+1) S) (hr:b_ w0 fv row) (hk1:fieldAt row 0≠mR) (hk2:fieldAt row 0≠wH) (hpos:0 < row.length) (hla:S.fl.cls.getLast?=some c) (hck:c.kind=1∨c.kind=2) :
  Calls Tryz.prog 180 #[.pointer (some ⟨rr,0,none⟩),fv] w (zu w0 L rr rf E all kh k S (bZ c S.fl S.line row) w):=by
 obtain⟨i0,hi,hz0,hz1,hz2⟩:=info_parts JF
 obtain⟨hbd,v,a,hpa,hm⟩:=h;have o7:=hid (aL hr.each);have qL:=hid hr;obtain⟨g,o,cp,rfl,hcp,hcells⟩:=hr.cells hpos;have d0:=aD (hcells 0 hpos) hm.base;rw [Nat.add_zero] at d0
 have e1:((fieldAt row 0).toList==[82,69,80])=false:=by rw [beq_eq_false_iff_ne];intro e;exact hk1 (dG e)
 have e2:((fieldAt row 0).toList==[65,70])=false:=by rw [beq_eq_false_iff_ne];intro e;exact hk2 (dG e)
 have c0:=hm.r0;have HM:=hid hm;have HB:=hid hbd;have vo:=hid hpa;have hcl:row.length≤65536:=hr.len;clear hcells hm hbd hpa hr hk1 hk2
 by_cases hlen:row.length≠4∧row.length≠5
 ·have bF:Hid (bZ c S.fl S.line row=.error 111):=hid (by rw [bZ,bK,if_pos hlen])
  have q4:((row.length:Int) != 4)=true:=by rw [bne_iff_ne];omega
  have q5:((row.length:Int) != 5)=true:=by rw [bne_iff_ne];omega
  go_enter Tryz.func180,Tryz.ntmps180
  go_wp2_with fail
  go_ret
  exact .bad bF.o (by decide) (aZ.refl _ _) HM.o.r5
 have HL:=hid hlen
 have hq:row.length=4∨row.length=5:=by omega
 obtain⟨m,hm1,q0,q1,q2,q3,q4⟩:=JG hla;have hrd:=Rd.aN HM.o.cls.1;obtain⟨-,Ac,Yn,hvc,U8,hcc⟩:=hrd
 obtain⟨gc,oc,rfl,hcd⟩:=hcc.resolve_left (by omega)
 have HS:Hid (∀W,Below w.heap.size w W→W.cell? ⟨rf,11,none⟩=some (.slice (some ⟨gc,oc,none⟩) (m+1) Yn)∧W.cell? ⟨gc,oc+m*5,none⟩=some (.int .i64 c.flag)∧W.cell? ⟨gc,oc+m*5+1,none⟩=some (.int .i64 c.kind)∧W.cell? ⟨gc,oc+m*5+2,none⟩=some (.bool c.cross)∧W.cell? ⟨gc,oc+m*5+3,none⟩=some (.int .i64 c.first)∧W.cell? ⟨gc,oc+m*5+4,none⟩=some (.int .i64 c.count)):=hid (fun W hW=>by
  have e (j:Nat) (u:Value) (h:(iT S.fl.cls)[m*5+j]?=some u):W.cell? ⟨gc,oc+m*5+j,none⟩=some u:=by
   have h1:=hcd _ _ h
   rw [←Nat.add_assoc] at h1
   exact (hW.cell (p:=⟨gc,oc+m*5+j,none⟩) (block_lt_of_cell? _ _ h1)).trans h1
  refine⟨?_,e 0 _ q0,e 1 _ q1,e 2 _ q2,e 3 _ q3,e 4 _ q4⟩
  rw [(HM.o.below hW).fc 11,←hm1,←hvc];rfl)
 have hcm:m+1≤Yn:=by omega
 have hmb:m+1≤65536:=by have:=HB.o.cls;omega
 have hwm:IntKind.i64.wrap (m:Int)=(m:Int):=by rw [IntKind.wrap_i64];omega
 have hm0:(0:Int)≤(m:Int):=by omega
 have hm2:(m:Int) < (m:Int)+1:=by omega
 clear hcd hcc hvc U8 q0 q1 q2 q3 q4 hlen hla hm1;have R6:Hid (row.length=row.length):=hid rfl;obtain⟨n,hn⟩:∃n,row.length=n:=⟨_,rfl⟩;rw [hn] at hcp hq ⊢;have HN:=hid hn;clear hn R6
 rcases hq with rfl | rfl
 all_goals
  go_enter Tryz.func180,Tryz.ntmps180
  go_upto_region 20 with fail
  refine wp_region_held_drew (S:=fun W=>W.cell? ⟨rf,11,none⟩=some (.slice (some ⟨gc,oc,none⟩) (m+1) Yn)∧W.cell? ⟨gc,oc+m*5,none⟩=some (.int .i64 c.flag)∧W.cell? ⟨gc,oc+m*5+1,none⟩=some (.int .i64 c.kind)∧W.cell? ⟨gc,oc+m*5+2,none⟩=some (.bool c.cross)∧W.cell? ⟨gc,oc+m*5+3,none⟩=some (.int .i64 c.first)∧W.cell? ⟨gc,oc+m*5+4,none⟩=some (.int .i64 c.count)) (by kernel_rfl) ?_ (fun hHeld=>?_)
  ·exact HS.o _ ah
  refine aA 0 (some 91) hHeld ?_;try simp only [aj]
  refine aA 1 (some 92) hHeld ?_;try simp only [aj]
  refine aA 2 (some 93) hHeld ?_;try simp only [aj]
  refine aA 3 (some 94) hHeld ?_;try simp only [aj]
  refine aA 4 (some 95) hHeld ?_;try simp only [aj]
  refine aA 5 (some 96) hHeld ?_;try simp only [aj]
  refine aA 6 (some 97) hHeld ?_;try simp only [aj]
  refine aA 7 (some 98) hHeld ?_;try simp only [aj]
  refine aA 8 (some 99) hHeld ?_;try simp only [aj]
  refine aA 9 (some 100) hHeld ?_;try simp only [aj]
  refine aA 10 (some 101) hHeld ?_;try simp only [aj]
  refine aA 11 (some 102) hHeld ?_;try simp only [aj]
  refine aP 12 (fun K hK=>?_)
  go_simp
  refine hK.out _ _ ?_ (fun hHeld=>?_)
  ·first | exact HS.o _ ah | exact HS.o _ (ah.alloc (Nat.le_refl _) _)
  clear hK K
  refine aP 13 (fun K hK=>?_)
  go_simp
  refine hK.out _ _ ?_ (fun hHeld=>?_)
  ·first | exact HS.o _ ah | exact HS.o _ (ah.alloc (Nat.le_refl _) _)
  clear hK K
  refine wpAnyH_done (by kernel_rfl) ?_ _
  have HB1:Hid (Below w.heap.size w (w.alloc (.cells #[.int .i64 c.flag,.int .i64 c.kind,.bool c.cross,.int .i64 c.first,.int .i64 c.count] 192)).drew):=hid ((Below.refl _ _).alloc (Nat.le_refl _) _).drew;have fV:Hid ((w.alloc (.cells #[.int .i64 c.flag,.int .i64 c.kind,.bool c.cross,.int .i64 c.first,.int .i64 c.count] 192)).drew.heap[w.heap.size]?=some (.cells #[.int .i64 c.flag,.int .i64 c.kind,.bool c.cross,.int .i64 c.first,.int .i64 c.count] 192 (0,0))):=hid (heap_alloc_new w _)
  generalize hw1:(w.alloc (.cells #[.int .i64 c.flag,.int .i64 c.kind,.bool c.cross,.int .i64 c.first,.int .i64 c.count] 192)).drew=w1 at HB1 fV ⊢
  clear hw1
  generalize w.heap.size=b1 at fV ⊢
  have iA:=hid (HM.o.below HB1.o)
  have Ld:Hid (∀W,Below w1.heap.size w1 W→W.cell? ⟨b1,0,none⟩=some (.int .i64 c.flag)∧W.cell? ⟨b1,1,none⟩=some (.int .i64 c.kind)∧W.cell? ⟨b1,2,none⟩=some (.bool c.cross)∧W.cell? ⟨rr,5,none⟩=some (.int .i64 S.line)):=hid (fun W hW=>by
   have hx:=(hW.block _ (block_lt fV.o)).trans fV.o
   exact⟨by rw [cell_of_heap hx];rfl,by rw [cell_of_heap hx];rfl,by rw [cell_of_heap hx];rfl,(iA.o.below hW).r5⟩)
  go_wp2_with fail
  refine wp_region_held_drew (S:=fun W=>W.cell? ⟨b1,0,none⟩=some (.int .i64 c.flag)∧W.cell? ⟨b1,1,none⟩=some (.int .i64 c.kind)∧W.cell? ⟨b1,2,none⟩=some (.bool c.cross)∧W.cell? ⟨rr,5,none⟩=some (.int .i64 S.line)) (by kernel_rfl) ?_ (fun hHeld=>?_)
  ·exact Ld.o _ ah
  refine aA 0 (some 103) hHeld ?_;try simp only [aj]
  refine aA 1 (some 104) hHeld ?_;try simp only [aj]
  refine aA 2 (some 105) hHeld ?_;try simp only [aj]
  refine aA 3 (some 106) hHeld ?_;try simp only [aj]
  refine aA 4 (some 107) hHeld ?_;try simp only [aj]
  refine aA 5 (some 108) hHeld ?_;try simp only [aj]
  refine aA 6 (some 109) hHeld ?_;try simp only [aj]
  refine aA 7 (some 110) hHeld ?_;try simp only [aj]
  refine aA 8 (some 111) hHeld ?_;try simp only [aj]
  refine aA 9 (some 112) hHeld ?_;try simp only [aj]
  refine aA 10 (some 113) hHeld ?_;try simp only [aj]
  refine aP 11 (fun K hK=>?_)
  go_simp
  refine hK.out _ _ ?_ (fun hHeld=>?_)
  ·first | exact Ld.o _ ah | exact Ld.o _ (ah.alloc (Nat.le_refl _) _)
  clear hK K
  refine aP 12 (fun K hK=>?_)
  go_simp
  refine hK.out _ _ ?_ (fun hHeld=>?_)
  ·first | exact Ld.o _ ah | exact Ld.o _ (ah.alloc (Nat.le_refl _) _)
  clear hK K
  refine wpAnyH_done (by kernel_rfl) ?_ _
  have iB:Hid (∀x∈L,x < w1.heap.size):=hid (fun x hx=>(iA.o.hl x hx).2)
  have HB2:Hid (Below w1.heap.size w1 (w1.alloc (.cells (qx c ⟨#[]⟩ ⟨#[]⟩ ⟨#[]⟩ (.slice none 0 0) S.line) 41)).drew):=hid ((Below.refl _ _).alloc (Nat.le_refl _) _).drew;have dL:Hid ((w1.alloc (.cells (qx c ⟨#[]⟩ ⟨#[]⟩ ⟨#[]⟩ (.slice none 0 0) S.line) 41)).drew.heap[w1.heap.size]?=some (.cells (qx c ⟨#[]⟩ ⟨#[]⟩ ⟨#[]⟩ (.slice none 0 0) S.line) 41 (0,0))):=hid (heap_alloc_new w1 _);have hqx:#[Value.int .i64 c.kind,.int .i64 c.flag,.bool c.cross,.string ⟨#[]⟩,.string ⟨#[]⟩,.string ⟨#[]⟩,.slice none 0 0,.int .i64 S.line]=qx c ⟨#[]⟩ ⟨#[]⟩ ⟨#[]⟩ (.slice none 0 0) S.line:=rfl;rw [hqx]
  generalize hw2:(w1.alloc (.cells (qx c ⟨#[]⟩ ⟨#[]⟩ ⟨#[]⟩ (.slice none 0 0) S.line) 41)).drew=w2 at HB2 dL ⊢
  clear hw2 hqx
  have Uk:Hid (QX w0 w2 (w1.heap.size::L) rr rf v E all a S w1.heap.size):=hid ⟨(iA.o.rest (X:=[]) (Kept.of_below HB2.o) (by simp) (fun x hx=>List.mem_cons_of_mem _ hx) (fun x hx=>by
   rcases List.mem_cons.1 hx with rfl | h1
   ·exact⟨.inr (Nat.le_refl _),block_lt dL.o⟩
   exact⟨.inl h1,Nat.lt_of_lt_of_le (iB.o x h1) HB2.o.size⟩)).UZ,List.mem_cons_self,fun g hg=>by
   obtain⟨cur,fr,hx⟩:=iA.o.dQ g hg
   exact Nat.ne_of_lt (block_lt hx),⟨_,_,dL.o⟩⟩
  have HG2:Hid (aZ L w (w1.heap.size::L) w2):=hid ((aZ.of_below (L:=L) HB1.o).trans ⟨Kept.of_below HB2.o,fun x hx=>by
   rcases List.mem_cons.1 hx with rfl | h1
   ·exact .inr (Nat.le_refl _)
   exact .inl h1⟩)
  generalize w1.heap.size=xb at Uk HG2 dL ⊢
  generalize (xb::L)=L2 at Uk HG2 ⊢
  have Iq:=hid (LZ w0 L2 rr rf a v E all S xb c S.line _ row w2 Uk.o dL.o (by have:=qL.o;rwa [HN.o] at this) (by rw [HN.o];omega) (by have:=HB.o.aI;omega) hck)
  clear HB2 iB Ld fV iA HS
  go_upto_region 23 with (go_at_call 210;refine Iq.o.mono ?_;intro e3 w3 h3;obtain⟨hk3,code,r,nv,rfl,hx3,U9,U_⟩:=h3.one (fun _ h=>FV h);have zw:=hid (Uk.o.turn hk3);have HG3:Hid (aZ L w L2 w3):=hid (HG2.o.trans ⟨hk3.mono (by intro y hy;simp at hy;subst hy;exact Uk.o.FH),fun _ h=>.inl h⟩);have ku:=hid hx3;have HI3:=hid U9;have Le:=hid U_;clear h3 hk3 hx3 U9 U_)
  obtain⟨us,A3,gW,Sc,Va,hpu⟩:=zw.o.Me r nv HI3.o;have Sd:=hid Sc;have Sg:=hid Va;have Lc:=hid hpu;have c12:=(Sc w3 (Below.refl _ _)).1;have abF:=block_lt_of_cell? _ _ c12;have abG:=block_lt ku.o
  obtain⟨⟨x0,x1,x2,x3⟩,x4,x5,x6,x7⟩:(w3.cell? ⟨xb,0,none⟩=some (.int .i64 r.kind)∧w3.cell? ⟨xb,1,none⟩=some (.int .i64 r.flag)∧w3.cell? ⟨xb,2,none⟩=some (.bool r.cross)∧w3.cell? ⟨xb,3,none⟩=some (.string r.strip))∧w3.cell? ⟨xb,4,none⟩=some (.string r.add)∧w3.cell? ⟨xb,5,none⟩=some (.string r.cond)∧w3.cell? ⟨xb,6,none⟩=some nv∧w3.cell? ⟨xb,7,none⟩=some (.int .i64 r.line):=by
   refine⟨⟨?_,?_,?_,?_⟩,?_,?_,?_,?_⟩<;>(rw [cell_of_heap ku.o];rfl)
  have Si:Hid (∀w',(∃L' v',aZ L2 w3 L' w'∧QM w0 w' L' rr rf v' E all a { S with fl:={ S.fl with rls:=S.fl.rls++[r] } })→zu w0 L rr rf E all kh k S (bZ c S.fl S.line row) w (.returned (.int .i64 code)) w'):=hid (fun w' ⟨L',v',hG,hM⟩=>by
   have hc:=Le.o
   unfold Q8 at hc
   cases hR:bK S.fl c S.line row with
   | error e =>
    rw [hR] at hc
    obtain⟨h1,rfl⟩:=hc
    exact .bad (by rw [bZ,hR]) h1 (HG3.o.trans hG) hM.r5
   | ok r' =>
    rw [hR] at hc
    obtain⟨rfl,rfl⟩:=hc
    have hR2:bZ c S.fl S.line row=.ok { S.fl with rls:=S.fl.rls++[r'] }:=by rw [bZ,hR]
    rw [hR2]
    exact⟨L',HG3.o.trans hG,rfl,HB.o.Ir r' (xI hR HB.o.sets).1,v',a,vo.o,hM⟩)
  obtain⟨pn,cn,rfl⟩:∃p c,nv=.slice p r.next.length c:=by
   obtain⟨p,c,h1,-⟩:=HI3.o
   exact⟨p,c,h1⟩
  have hrl:S.fl.rls.length≤65536:=by have:=HB.o.rls;omega
  clear Sc Va hpu HI3 Le ku Iq Uk dL
  refine wp_region_held_drew (S:=fun _=>True) (by kernel_rfl) ?_ (fun hHeld=>?_)
  ·trivial
  refine aA 0 (some 117) hHeld ?_;try simp only [aj]
  refine aA 1 (some 118) hHeld ?_;try simp only [aj]
  refine aA 2 (some 119) hHeld ?_;try simp only [aj]
  refine aA 3 (some 120) hHeld ?_;try simp only [aj]
  refine wpAnyH_ready (rs:=[4,5]) (by kernel_rfl) (by simp) ?_
  refine AllReadyH.cons rfl (fun K hK=>?_) ?_
  ·go_simp
   refine hK.out _ _ ?_ (fun hHeld=>?_)
   ·trivial
   clear hK K
   refine aP 5 (fun K hK=>?_)
   go_simp
   refine hK.out _ _ ?_ (fun hHeld=>?_)
   ·trivial
   clear hK K
   refine aP 6 (fun K hK=>?_)
   go_simp
   refine hK.out _ _ ?_ (fun hHeld=>?_)
   ·trivial
   clear hK K
   refine aP 7 (fun K hK=>?_)
   refine aW (w:=w3.drew) (by rfl) _ _ 46 (by rfl) 0 41 i0 _ 8 104 Tryz.underlying46 hi hz0 hz1 hz2 rfl (by decide) (.slice A3 S.fl.rls.length gW) S.fl.rls.length us (by rfl) (Sd.o _ ah).2 (Q9 r (.slice pn r.next.length cn)) (by rfl) (by intro x hx;simp [Q9] at hx;rcases hx with rfl | rfl | rfl | rfl | rfl | rfl | rfl | rfl<;>rfl) (by rfl) (by unfold maxLen;omega) (by omega) (Nat.zero_le _) ?_
   intro gg cc w9 hown bM hloc
   have vQ:=hid (Lc.o _ ah _ _ _ hown bM hloc);obtain⟨nI,z9⟩:=Sg.o _ ah _ bM;clear hown bM hloc
   refine hK.out _ _ ?_ (fun hHeld=>?_)
   ·trivial
   clear hK K
   refine aA 8 (some 125) hHeld ?_;try simp only [aj]
   refine aA 9 (some 126) hHeld ?_;try simp only [aj]
   refine aP 10 (fun K hK=>?_)
   go_simp
   refine hK.out _ _ ?_ (fun hHeld=>?_)
   ·trivial
   clear hK K
   refine wpAnyH_done (by kernel_rfl) ?_ _
   go_wp2_with fail
   go_ret
   obtain⟨L',hG,hM⟩:=vQ.o
   exact Si.o _ ⟨L',_,hG,hM⟩
  refine AllReadyH.cons rfl (fun K hK=>?_) ?_
  ·go_simp
   refine hK.out _ _ ?_ (fun hHeld=>?_)
   ·trivial
   clear hK K
   refine wpAnyH_ready (rs:=[4,6]) (by kernel_rfl) (by simp) ?_
   refine AllReadyH.cons rfl (fun K hK=>?_) ?_
   ·go_simp
    refine hK.out _ _ ?_ (fun hHeld=>?_)
    ·trivial
    clear hK K
    refine aP 6 (fun K hK=>?_)
    go_simp
    refine hK.out _ _ ?_ (fun hHeld=>?_)
    ·trivial
    clear hK K
    refine aP 7 (fun K hK=>?_)
    refine aW (w:=w3.drew) (by rfl) _ _ 46 (by rfl) 0 41 i0 _ 8 104 Tryz.underlying46 hi hz0 hz1 hz2 rfl (by decide) (.slice A3 S.fl.rls.length gW) S.fl.rls.length us (by rfl) (Sd.o _ ah).2 (Q9 r (.slice pn r.next.length cn)) (by rfl) (by intro x hx;simp [Q9] at hx;rcases hx with rfl | rfl | rfl | rfl | rfl | rfl | rfl | rfl<;>rfl) (by rfl) (by unfold maxLen;omega) (by omega) (Nat.zero_le _) ?_
    intro gg cc w9 hown bM hloc
    have vQ:=hid (Lc.o _ ah _ _ _ hown bM hloc);obtain⟨nI,z9⟩:=Sg.o _ ah _ bM;clear hown bM hloc
    refine hK.out _ _ ?_ (fun hHeld=>?_)
    ·trivial
    clear hK K
    refine aA 8 (some 125) hHeld ?_;try simp only [aj]
    refine aA 9 (some 126) hHeld ?_;try simp only [aj]
    refine aP 10 (fun K hK=>?_)
    go_simp
    refine hK.out _ _ ?_ (fun hHeld=>?_)
    ·trivial
    clear hK K
    refine wpAnyH_done (by kernel_rfl) ?_ _
    go_wp2_with fail
    go_ret
    obtain⟨L',hG,hM⟩:=vQ.o
    exact Si.o _ ⟨L',_,hG,hM⟩
   refine AllReadyH.cons rfl (fun K hK=>?_) ?_
   ·go_simp
    refine hK.out _ _ ?_ (fun hHeld=>?_)
    ·trivial
    clear hK K
    refine aP 4 (fun K hK=>?_)
    go_simp
    refine hK.out _ _ ?_ (fun hHeld=>?_)
    ·trivial
    clear hK K
    refine aP 7 (fun K hK=>?_)
    refine aW (w:=w3.drew) (by rfl) _ _ 46 (by rfl) 0 41 i0 _ 8 104 Tryz.underlying46 hi hz0 hz1 hz2 rfl (by decide) (.slice A3 S.fl.rls.length gW) S.fl.rls.length us (by rfl) (Sd.o _ ah).2 (Q9 r (.slice pn r.next.length cn)) (by rfl) (by intro x hx;simp [Q9] at hx;rcases hx with rfl | rfl | rfl | rfl | rfl | rfl | rfl | rfl<;>rfl) (by rfl) (by unfold maxLen;omega) (by omega) (Nat.zero_le _) ?_
    intro gg cc w9 hown bM hloc
    have vQ:=hid (Lc.o _ ah _ _ _ hown bM hloc);obtain⟨nI,z9⟩:=Sg.o _ ah _ bM;clear hown bM hloc
    refine hK.out _ _ ?_ (fun hHeld=>?_)
    ·trivial
    clear hK K
    refine aA 8 (some 125) hHeld ?_;try simp only [aj]
    refine aA 9 (some 126) hHeld ?_;try simp only [aj]
    refine aP 10 (fun K hK=>?_)
    go_simp
    refine hK.out _ _ ?_ (fun hHeld=>?_)
    ·trivial
    clear hK K
    refine wpAnyH_done (by kernel_rfl) ?_ _
    go_wp2_with fail
    go_ret
    obtain⟨L',hG,hM⟩:=vQ.o
    exact Si.o _ ⟨L',_,hG,hM⟩
   exact AllReadyH.nil
  exact AllReadyH.nil
end Go.Proofs.YtfkblpjfknfgbaaGreatDoor
