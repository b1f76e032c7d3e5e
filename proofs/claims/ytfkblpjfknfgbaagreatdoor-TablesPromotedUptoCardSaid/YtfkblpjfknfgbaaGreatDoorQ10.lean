import Derived.Test.YtfkblpjfknfgbaaGreatDoorRows
import Derived.Test.YtfkblpjfknfgbaaGreatDoorQ4
import Derived.Test.YtfkblpjfknfgbaaGreatDoorQ9
import Derived.Test.YtfkblpjfknfgbaaGreatDoorQ8
import Derived.Test.YtfkblpjfknfgbaaGreatDoorQ5
import Derived.Test.YtfkblpjfknfgbaaGreatDoorQ1
import Derived.Test.YtfkblpjfknfgbaaGreatDoorQ7
set_option linter.unusedVariables false
set_option linter.unusedSimpArgs false
set_option maxHeartbeats 8000000
set_option maxRecDepth 100000
open Go.Maps Go.RowKit
open Go.Lib (hid cell_of_heap frozen_of_heap byteCells)
open Go.World (block_lt_of_cell?)
namespace Go.Proofs.YtfkblpjfknfgbaaGreatDoor
theorem FB:(Tryz.prog.info? 187).map (fun i=>(i.zero,i.size,i.bytes))=some (some (.agg #[.int .i64 0,.slice none 0 0]),2,32):=by kernel_rfl
theorem oU:∀(n:Nat) (t:List UInt8),∀l∈bJ n t,l.length≤t.length
 | 0,t,l,hl=>by simp [bJ] at hl
 | n+1,t,l,hl=>by
   simp only [bJ] at hl
   split at hl
   ·cases hl
   ·rename_i ht
    rcases List.mem_cons.1 hl with rfl | h
    ·exact Nat.le_trans (Da _) (rE t)
    ·have h1:=oU n _ l h
     have h2:=FC t ht
     omega
theorem BI (t:List UInt8):∀l∈aV t,l.length≤t.length:=fun l hl=>Nat.le_trans (oU _ _ l hl) (lS t)
theorem qV:∀(n:Nat) (L:List (List UInt8)) (l:List UInt8),numbered n (L++[l])=numbered n L++[(((n+L.length:Nat):Int),mkS l)]
 | n,[],l=>by simp [numbered]
 | n,a::L,l=>by
   rw [List.cons_append,numbered,qV (n+1) L l,numbered,List.cons_append,List.length_cons]
   congr 3
   congr 1
   congr 1
   omega
def rF (L:List (List UInt8)):List (Int×List ByteArray):=rowsOf (numbered 1 L)
theorem Db (L:List (List UInt8)) (l:List UInt8) (h:l.length≤65536):rF (L++[l])=rF L++rowOf ((L.length:Int)+1) (mkS l):=by
 unfold rF
 rw [qV,uV]
 have e:clamp (mkS l)=mkS l:=by unfold clamp;rw [if_pos (by rw [aG];exact h)]
 have e2:((1+L.length:Nat):Int)=(L.length:Int)+1:=by omega
 show rowsOf (numbered 1 L)++rowOf ((1+L.length:Nat):Int) (clamp (mkS l))=_
 rw [e,e2]
theorem zi {W W':World} {n₀ e n:Nat} {v:Value} {rs:List nT} {xs:List Value} (h:gK W rs) (hrow:W.ownsRow n₀ e 2 v n xs) (hes:9≠e) (hg:W.grownBy W' v.ownBlock):gK W' rs:=fun r hr =>
 (h r hr).kept hg (fun k ek=>by
  rcases hrow.2 with ⟨rfl,_⟩ | ⟨g,cap,cur,rfl,_,hgb,_⟩
  ·simp [Value.ownBlock] at ek
  ·obtain rfl:g=k:=by simpa [Value.ownBlock] using ek
   exact⟨_,hgb,by rintro c f e';injection e' with _ h;exact hes h.symm⟩)
theorem qH.push {W W':World} {n₀ e e' n m:Nat} {v u:Value} {xs ys:List Value} (h:qH W e' u m ys) (hrow:W.ownsRow n₀ e 2 v n xs) (hes:e'≠e) (hg:W.grownBy W' v.ownBlock):qH W' e' u m ys :=
 h.kept hg (fun k ek=>by
  rcases hrow.2 with ⟨rfl,_⟩ | ⟨g,cap,cur,rfl,_,hgb,_⟩
  ·simp [Value.ownBlock] at ek
  ·obtain rfl:g=k:=by simpa [Value.ownBlock] using ek
   exact⟨_,hgb,by rintro c f e';injection e' with _ h;exact hes h.symm⟩)
theorem qH.cell {W:World} {e n:Nat} {v:Value} {xs:List Value} (h:qH W e v n xs) (hn:n≠0):∃g cap,v=.slice (some ⟨g,0,none⟩) n cap∧n≤cap∧∀(j:Nat) (u:Value),xs[j]?=some u→W.cell? ⟨g,j,none⟩=some u:=by
 obtain⟨h1,A,cap,rfl,hc,h2⟩:=h
 obtain⟨g,cur,fr,rfl,hb,h3⟩:=h2.resolve_left hn
 exact⟨g,cap,rfl,hc,fun j u hj=>by rw [cell_of_row W g j cur e fr hb];exact h3 j u hj⟩
theorem wY (s:ByteArray) (w:World) :
  Calls Tryz.prog 97 #[.string s] w fun e W'=>∃v rs,e=.returned (.tuple #[v,.int .i64 (jB s)]) ∧
   Own w W' 187 2 v rs.length (bq rs)∧gK W' rs∧dP rs=rowsOf (aC s.data.toList):=by
 by_cases hbig:65536 < s.size
 ·have HE:Hid (aC s.data.toList=[]):=hid (by rw [aC,if_pos (by rw [ak];omega)])
  have HC:Hid (jB s=10):=hid (if_pos hbig)
  go_enter Tryz.func97,Tryz.ntmps97
  go_wp2_with fail
  go_ret2
  exact⟨.slice none 0 0,[],by rw [HC.o];rfl,Own.fP _ _ _,(by intro r hr;cases hr),by rw [HE.o];rfl⟩
 have HC:Hid (jB s=0):=hid (if_neg hbig)
 have HE:Hid (rowsOf (aC s.data.toList)=rF (aV s.data.toList)):=hid (by rw [aC,if_neg (by rw [ak];omega)];rfl)
 obtain⟨i0,hi,hz0,hz1,hz2⟩:=info_parts FB;obtain⟨j0,hj,hy0,hy1,hy2⟩:=info_parts jU
 have hll:(aV s.data.toList).length≤65536:=by
  have:=qW s.data.toList.length (unmarked s.data.toList)
  rw [ak] at this;unfold aV;rw [ak];omega
 have hle:∀l∈aV s.data.toList,l.length≤65536:=fun l hl=>by
  have:=BI _ l hl
  rw [ak] at this;omega
 obtain⟨L,hL⟩:∃L,L=aV s.data.toList:=⟨_,rfl⟩;rw [←hL] at hll hle;have HLe:=hid hle;have HL:=hid hL;clear hle hL
 go_enter Tryz.func97,Tryz.ntmps97
 go_wp2_with fail
 refine (oV s _ (by omega)).mono ?_
 rw [←HL.o]
 rintro e w2 ⟨v2,rfl,o2⟩
 obtain⟨AL,cL,rfl⟩:=aF o2.own;have O2:=hid o2;have RL:=hid (qH.aN o2.own);clear o2
 go_wp2_with fail
 go_loopw [4,6] (fun v i wr=>∃(k:Nat) (rs:List nT),k≤L.length∧i=.int .i64 k∧rs.length≤k∧Own w wr 187 2 v rs.length (bq rs)∧gK wr rs∧dP rs=rF (L.take k) ∧
  qH wr 9 (.slice AL L.length cL) L.length (bn (L.map mkS))) (fun _ i _=>L.length - (intOf i).toNat)
 case atStart=>exact⟨0,[],Nat.zero_le _,rfl,Nat.le_refl _,⟨O2.out.below,World.ownsRow_nil _ _ _ _⟩,(by intro r hr;cases hr),rfl,RL.out⟩
 case round =>
 obtain⟨k,rs,hk,rfl,hrk,ho,hrd,hab,hrl⟩:=hrel
 have HO:=hid ho;have t_:=hid hrd;have X_:=hid hab;have Fb:=hid hrl;clear ho hrd hab hrl
 by_cases hlt:k < L.length
 ·have hl2:=HLe.o L[k] (List.getElem_mem _)
  obtain⟨g,cap,he,hcg,hcell⟩:=Fb.o.cell (by omega)
  injection he with he1 he2 rG
  subst he1 rG
  have hc:=hcell k (.string (mkS L[k])) (by simp [bn,hlt])
  have FD:Hid (rF (L.take (k+1))=rF (L.take k)++rowOf ((k:Int)+1) (mkS L[k])):=hid (by
   rw [List.take_succ_eq_append_getElem hlt,Db _ _ hl2,List.length_take,show min k L.length=k by omega])
  clear hcell
  go_wp2_with fail
  refine (BF (mkS L[k]) _ (by rw [aG];omega)).mono ?_
  have hfl:=wO (mkS L[k]);have hfp:=wZ (mkS L[k]);rw [aG] at hfl
  generalize hfs:aH (mkS L[k])=fs at hfl hfp
  rintro e w3 ⟨vf,rfl,of⟩
  obtain⟨Af,cf,rfl⟩:=aF of.own
  have RU:Hid (rowOf ((k:Int)+1) (mkS L[k])=if mK fs=[] then [] else [((k:Int)+1,mK fs)]):=hid (by rw [rowOf,hfs])
  have Z9:Hid (∀q (h:q < fs.length),∃gf,Af=some ⟨gf,0,none⟩∧w3.cell? ⟨gf,q,none⟩=some (.string fs[q])):=hid (fun q h=>by
   obtain⟨gf,cf',he,_,hcc⟩:=(qH.aN of.own).cell (by omega)
   injection he with he1
   exact⟨gf,he1,hcc q _ (iX _ _ h)⟩)
  have HB3:=hid of.below;have Z_:=hid hfp;clear of hfp hfs
  go_wp2_with fail
  obtain⟨wo,hwo⟩:∃wo:World,wo=wr:=⟨_,rfl⟩;rw [←hwo] at HO t_ Fb HB3;clear hwo hc
  go_loopw [7,9] (fun kv j wq=>∃q:Nat,q≤fs.length∧j=.int .i64 q∧Own w3 wq 9 1 kv q (bn (fs.take q))∧∀f∈fs.take q,sharp f=false) (fun _ j _=>fs.length - (intOf j).toNat)
  case atStart=>exact⟨0,Nat.zero_le _,rfl,Own.fP _ _ _,(by simp)⟩
  case round =>
  obtain⟨q,hq,rfl,hko,hsh⟩:=hrel
  have O7:=hid hko;have LA:=hid hsh;clear hko hsh
  have hgo:(q < fs.length∧∃h:q < fs.length,sharp fs[q]=false)∨(∃h:q < fs.length,sharp fs[q]=true)∨q=fs.length:=by
   by_cases h:q < fs.length
   ·cases hs:sharp fs[q]
    ·exact .inl ⟨h,h,hs⟩
    exact .inr (.inl ⟨h,hs⟩)
   exact .inr (.inr (by omega))
  rcases hgo with ⟨_,RV,hs⟩ | hstop
  ·obtain⟨gf,rfl,hc0⟩:=Z9.o q RV
   have hcf:=(O7.o.below.cell (block_lt_of_cell? _ _ hc0)).trans hc0;have hpos:=Z_.o fs[q] (List.getElem_mem _)
   have t35:((fs[q][0].toNat:Int) != 35)=true:=by
    have:=w_ fs[q] hpos
    rw [hs] at this;simp at this;simp;omega
   have HN:Hid (∀f∈fs.take (q+1),sharp f=false):=hid fun f hf=>by
    rw [List.take_succ_eq_append_getElem RV] at hf
    rcases List.mem_append.1 hf with h | h
    ·exact LA.o f h
    rw [List.mem_singleton.1 h];exact hs
   have HT:Hid (fs.take (q+1)=fs.take q++[fs[q]]):=hid (List.take_succ_eq_append_getElem RV);clear hs hc0
   go_wp2_with (at_builtin;refine aB rfl _ _ 110 rfl w3.heap.size 9 j0 (.string ByteArray.empty) 16 Tryz.underlying110 hj hy0 hy1 hy2 rfl _ q _ rfl O7.o.own _ rfl rfl (by unfold maxLen;omega) (by omega) O7.o.size ?_;intro gg cap2 w5 hown hg5;have Ya:=hid (O7.o.push hown hg5);clear hown hg5)
   go_roundw
   case rel =>
    refine⟨q+1,by omega,by go_num,?_,HN.o⟩
    have h5:=Ya.o;rw [fQ,←HT.o] at h5
    exact h5
   case measure=>simp [intOf]<;>omega
  have HK:Hid (mK fs=fs.take q):=hid (by
   rcases hstop with ⟨h,hs⟩ | h
   ·exact zQ _ q h LA.o hs
   rw [h,List.take_length];exact Dc _ (by intro f hf;exact LA.o f (by rw [h,List.take_length];exact hf)))
  have RY:(q < fs.length∧∃gf,Af=some ⟨gf,0,none⟩∧∃f,0 < f.size∧wr.cell? ⟨gf,q,none⟩=some (.string f)∧∃h:0 < f.size,((f[0].toNat:Int) != 35)=false)∨¬q < fs.length:=by
   rcases hstop with ⟨h,hs⟩ | h
   ·obtain⟨gf,e,hc0⟩:=Z9.o q h
    have hpos:=Z_.o fs[q] (List.getElem_mem _)
    refine .inl ⟨h,gf,e,fs[q],hpos,(O7.o.below.cell (block_lt_of_cell? _ _ hc0)).trans hc0,hpos,?_⟩
    have:=w_ fs[q] hpos
    rw [hs] at this;simp at this;simp;omega
   exact .inr (by omega)
  have LB:Hid (Below wo.heap.size wo wr):=hid (HB3.o.trans (O7.o.below.mono HB3.o.size));have fG:=hid (HO.o.call LB.o)
  have O8:Hid (gK wr rs):=hid fun r hr=>(t_.o r hr).keep LB.o
  have UW:=hid (Fb.o.keep LB.o);clear hstop
  rcases RY with ⟨RV,gf,rfl,f,_,hcf,hpos,t35⟩ | RV
  all_goals
   by_cases hq0:0 < q
   ·have xg:Hid (rowOf ((k:Int)+1) (mkS L[k])=[((k:Int)+1,fs.take q)]):=hid (by
     rw [RU.o,HK.o,if_neg]
     intro h
     have:=congrArg List.length h
     rw [List.length_take,List.length_nil] at this
     omega)
    obtain⟨gk,ck,hkv,_⟩:=Df O7.o.own (by omega)
    subst hkv
    go_wp2_with (at_builtin;refine oI rfl _ _ 181 rfl w.heap.size 187 i0 (.agg #[.int .i64 0,.slice none 0 0]) 2 32 Tryz.underlying181 hi hz0 hz1 hz2 rfl (by decide) _ rs.length _ rfl fG.o.own #[.int .i64 ((k:Int)+1),.slice (some ⟨gk,0,none⟩) q ck] rfl (by simp [Value.oneCell']) rfl (by unfold maxLen;omega) (by omega) fG.o.size ?_;intro gg cap2 w5 hown hg5;have UY:=hid (fG.o.push hown hg5);have Yb:=hid (zi O8.o fG.o.own (by decide) hg5);have Yc:=hid (UW.o.push fG.o.own (by decide) hg5);have HN5:=hid ((qH.aN O7.o.own).push fG.o.own (by decide) hg5);clear hown hg5)
    go_roundw
    case rel =>
     refine⟨k+1,rs++[((k:Int)+1,.slice (some ⟨gk,0,none⟩) q ck,fs.take q)],by omega,by go_num,by simp;omega,?_,?_,?_,Yc.o⟩
     ·have:=UY.o
      simpa [bq] using this
     ·intro r hr
      rcases List.mem_append.1 hr with h | h
      ·exact Yb.o r h
      rw [List.mem_singleton.1 h]
      have hlt2:(fs.take q).length=q:=by rw [List.length_take];omega
      show qH w5 9 _ (fs.take q).length _
      rw [hlt2];exact HN5.o
     rw [FD.o,xg.o,←X_.o];simp [dP]
    case measure=>simp [intOf]<;>omega
   have xg:Hid (rowOf ((k:Int)+1) (mkS L[k])=[]):=hid (by
    rw [RU.o,HK.o,show q=0 by omega];simp)
   obtain⟨A7,c7,hkv⟩:=aF O7.o.own
   subst hkv
   go_wp2_with fail
   go_roundw
   case rel=>exact⟨k+1,rs,by omega,by go_num,by omega,fG.o,O8.o,by rw [FD.o,xg.o,X_.o];simp,UW.o⟩
   case measure=>simp [intOf]<;>omega
 obtain rfl:k=L.length:=by omega
 go_wp2_with fail
 go_ret2
 exact⟨_,rs,by rw [HC.o];rfl,HO.o,t_.o,by rw [X_.o,HE.o,List.take_length,HL.o]⟩
def IO (w:World) (L:List Nat) (v:Value) (zs:List Int):Prop :=
 ∃(p:Option Addr) (c:Nat),v=.slice p zs.length c∧zs.length≤c∧(zs.length=0∨∃b off,p=some ⟨b,off,none⟩∧b∉L∧∀j,j < zs.length→w.cell? ⟨b,off+j,none⟩=some (.int .i64 (zs.getD j 0)))
theorem IO.is {w:World} {L:List Nat} {v:Value} {zs:List Int} (h:IO w L v zs):IS w v zs:=by
 obtain⟨p,c,hv,hc,h⟩:=h
 exact⟨p,c,hv,hc,h.imp id (fun ⟨b,off,hp,_,h2⟩=>⟨b,off,hp,h2⟩)⟩
theorem IO.keep {w w':World} {L L':List Nat} {v:Value} {zs:List Int} (h:IO w L v zs) (hg:aZ L w L' w'):IO w' L' v zs:=by
 obtain⟨p,c,hv,hc,h⟩:=h
 rcases Nat.eq_zero_or_pos zs.length with h0 | h0
 ·exact⟨p,c,hv,hc,.inl h0⟩
 obtain⟨b,off,hp,hb,h2⟩:=h.resolve_left (by omega)
 have hlt:=block_lt_of_cell? w _ (h2 0 h0)
 exact⟨p,c,hv,hc,.inr ⟨b,off,hp,fun hm=>by
  rcases hg.2 b hm with h3 | h3
  ·exact hb h3
  exact absurd hlt (by simpa using h3),fun j hj=>(hg.1.cell (p:=⟨b,off+j,none⟩) hlt hb).trans (h2 j hj)⟩⟩
theorem IO.aN {w w':World} {L:List Nat} {e:Nat} {v:Value} {zs:List Int} (h:w'.ownsRow w.heap.size e 1 v zs.length (zs.map (Value.int .i64))) (hL:∀x∈L,x < w.heap.size):IO w' L v zs:=by
 obtain⟨p,c,hv,hc,h2⟩:=IS.aN h
 refine⟨p,c,hv,hc,?_⟩
 rcases Nat.eq_zero_or_pos zs.length with h0 | h0
 ·exact .inl h0
 obtain⟨b,off,hp,h3⟩:=h2.resolve_left (by omega)
 refine .inr ⟨b,off,hp,fun hm=>?_,h3⟩
 rcases h.2 with ⟨-,h00⟩ | ⟨g,cap,cur,hv',hb,_⟩
 ·omega
 rw [hv] at hv'
 injection hv' with e1
 rw [hp] at e1
 injection e1 with e1
 injection e1 with e1
 have:=hL b hm
 omega
theorem IO.fP (w:World) (L:List Nat):IO w L (.slice none 0 0) []:=⟨none,0,rfl,Nat.le_refl _,.inl rfl⟩
structure Qs where
 rows:Value
 au:Value
 aI:Value
 cls:Value
 rls:Value
 heads:Value
def iT (cs:List Cl):List Value:=cs.flatMap fun c=>[.int .i64 c.flag,.int .i64 c.kind,.bool c.cross,.int .i64 c.first,.int .i64 c.count]
def jH (rs:List (Rl×Value)):List Value:=rs.flatMap fun r=>[.int .i64 r.1.kind,.int .i64 r.1.flag,.bool r.1.cross,.string r.1.strip,.string r.1.add,.string r.1.cond,r.2,.int .i64 r.1.line]
def mM (v:Qs) (F:Fl):Array Value:=#[.int .i64 F.kind,.string F.charset,.string F.qI,.int .i64 F.s0,.int .i64 F.s1,.int .i64 F.s2,.int .i64 F.s3,.int .i64 F.s4,.int .i64 F.least,v.au,v.aI,v.cls,v.rls]
def LC (rf:Nat) (v:Qs) (E:Int) (a:Nat) (S:Sx):Array Value:=#[.pointer (some ⟨rf,0,none⟩),v.rows,.int .i64 a,.int .i64 E,v.heads,.int .i64 S.line]
structure QM (w0 w:World) (L:List Nat) (rr rf:Nat) (v:Qs) (E:Int) (all:List Row) (a:Nat) (S:Sx):Prop where
 base:Below w0.heap.size w0 w
 hl:∀x∈L,w0.heap.size≤x∧x < w.heap.size
 CK:rr∈L
 wm:rf∈L
 lT:w.heap[rr]?=some (.cells (LC rf v E a S) 186 (0,0))
 file:w.heap[rf]?=some (.cells (mM v S.fl) 48 (0,0))
 rows:gB w0 v.rows all
 heads:eX w L 9 1 v.heads S.heads.length (bn S.heads)
 au:eX w L 297 2 v.au S.fl.au.length (bB S.fl.au)
 aI:∃us:List Value,eX w L 39 1 v.aI S.fl.aI.length us∧us.length=S.fl.aI.length∧∀(k:Nat) u b,us[k]?=some u→S.fl.aI[k]?=some b→IO w L u b
 cls:eX w L 192 5 v.cls S.fl.cls.length (iT S.fl.cls)
 rls:∃rs:List (Rl×Value),rs.map (·.1)=S.fl.rls∧eX w L 41 8 v.rls rs.length (jH rs)∧∀r∈rs,IO w L r.2 r.1.next
def Dh (all:List Row) (a:Nat) (S:Sx):Prop:=a+S.rows.length=all.length∧all.drop a=S.rows
def RQ (w0 w:World) (L:List Nat) (rr rf:Nat) (E:Int) (all:List Row) (kh k:Nat) (S:Sx):Prop:=Bd kh k S∧∃v a,Dh all a S∧QM w0 w L rr rf v E all a S
section
variable {w0 w w':World} {L L' X:List Nat} {rr rf a:Nat} {v:Qs} {E:Int} {all:List Row} {S:Sx}
structure LD (w0 w':World) (L' X:List Nat) (rr rf:Nat) (v:Qs) (E:Int) (all:List Row) (a:Nat) (S:Sx):Prop where
 base:Below w0.heap.size w0 w'
 hl:∀x∈L',w0.heap.size≤x∧x < w'.heap.size
 CK:rr∈L'
 wm:rf∈L'
 lT:rr∉X→w'.heap[rr]?=some (.cells (LC rf v E a S) 186 (0,0))
 file:rf∉X→w'.heap[rf]?=some (.cells (mM v S.fl) 48 (0,0))
 rows:gB w0 v.rows all
 heads:(∀g,v.heads.ownBlock=some g→g∉X)→eX w' L' 9 1 v.heads S.heads.length (bn S.heads)
 au:(∀g,v.au.ownBlock=some g→g∉X)→eX w' L' 297 2 v.au S.fl.au.length (bB S.fl.au)
 aI:(∀g,v.aI.ownBlock=some g→g∉X)→∃us:List Value,eX w' L' 39 1 v.aI S.fl.aI.length us∧us.length=S.fl.aI.length∧∀(k:Nat) u b,us[k]?=some u→S.fl.aI[k]?=some b→IO w' L' u b
 cls:(∀g,v.cls.ownBlock=some g→g∉X)→eX w' L' 192 5 v.cls S.fl.cls.length (iT S.fl.cls)
 rls:(∀g,v.rls.ownBlock=some g→g∉X)→∃rs:List (Rl×Value),rs.map (·.1)=S.fl.rls∧eX w' L' 41 8 v.rls rs.length (jH rs)∧∀r∈rs,IO w' L' r.2 r.1.next
theorem QM.rest (h:QM w0 w L rr rf v E all a S) (hk:Kept X w w') (hX:∀x∈X,x∈L) (hL:∀x∈L,x∈L') (hL':∀x∈L',(x∈L∨w.heap.size≤x)∧x < w'.heap.size):LD w0 w' L' X rr rf v E all a S:=by
 have hg:aZ L w L' w':=⟨hk.mono hX,fun x hx=>(hL' x hx).1⟩
 refine⟨h.base.trans (hk.below h.base.size (fun x hx=>(h.hl x (hX x hx)).1)),fun x hx=>⟨?_,(hL' x hx).2⟩,hL _ h.CK,hL _ h.wm,fun hx=>hk.at h.lT hx,fun hx=>hk.at h.file hx,h.rows,fun hx=>h.heads.keep hk hx hL,
  fun hx=>h.au.keep hk hx hL,fun hx=>?_,fun hx=>h.cls.keep hk hx hL,fun hx=>?_⟩
 ·rcases (hL' x hx).1 with h1 | h1
  ·exact (h.hl x h1).1
  exact Nat.le_trans h.base.size h1
 ·obtain⟨us,h1,h2,h3⟩:=h.aI
  exact⟨us,h1.keep hk hx hL,h2,fun k u a hu ha=>(h3 k u a hu ha).keep hg⟩
 obtain⟨rs,h1,h2,h3⟩:=h.rls
 exact⟨rs,h1,h2.keep hk hx hL,fun r hr=>(h3 r hr).keep hg⟩
theorem LD.UZ (h:LD w0 w' L' [] rr rf v E all a S):QM w0 w' L' rr rf v E all a S :=
 ⟨h.base,h.hl,h.CK,h.wm,h.lT (by simp),h.file (by simp),h.rows,h.heads (by simp),h.au (by simp),h.aI (by simp),h.cls (by simp),h.rls (by simp)⟩
theorem QM.below (h:QM w0 w L rr rf v E all a S) (hb:Below w.heap.size w w'):QM w0 w' L rr rf v E all a S :=
 (h.rest (Kept.of_below (E:=[]) hb) (by simp) (fun _ h=>h) (fun x hx=>⟨.inl hx,Nat.lt_of_lt_of_le (h.hl x hx).2 hb.size⟩)).UZ
theorem QM.wu (h:QM w0 w L rr rf v E all a S):mG w rr 186:=⟨_,_,h.lT⟩
theorem QM.yY (h:QM w0 w L rr rf v E all a S):mG w rf 48:=⟨_,_,h.file⟩
theorem QM.jV (h:QM w0 w L rr rf v E all a S) (g:Nat) (hg:v.heads.ownBlock=some g):mG w g 9:=h.heads.ty g hg
theorem QM.bY (h:QM w0 w L rr rf v E all a S) (g:Nat) (hg:v.au.ownBlock=some g):mG w g 297:=h.au.ty g hg
theorem QM.eP (h:QM w0 w L rr rf v E all a S) (g:Nat) (hg:v.aI.ownBlock=some g):mG w g 39:=by obtain⟨us,h1,_⟩:=h.aI;exact h1.ty g hg
theorem QM.eu (h:QM w0 w L rr rf v E all a S) (g:Nat) (hg:v.cls.ownBlock=some g):mG w g 192:=h.cls.ty g hg
theorem QM.dQ (h:QM w0 w L rr rf v E all a S) (g:Nat) (hg:v.rls.ownBlock=some g):mG w g 41:=by obtain⟨us,_,h1,_⟩:=h.rls;exact h1.ty g hg
theorem QM.r0 (h:QM w0 w L rr rf v E all a S):w.cell? ⟨rr,0,none⟩=some (.pointer (some ⟨rf,0,none⟩)):=by rw [cell_of_heap h.lT];rfl
theorem QM.r1 (h:QM w0 w L rr rf v E all a S):w.cell? ⟨rr,1,none⟩=some v.rows:=by rw [cell_of_heap h.lT];rfl
theorem QM.r2 (h:QM w0 w L rr rf v E all a S):w.cell? ⟨rr,2,none⟩=some (.int .i64 (a:Int)):=by rw [cell_of_heap h.lT];rfl
theorem QM.r3 (h:QM w0 w L rr rf v E all a S):w.cell? ⟨rr,3,none⟩=some (.int .i64 E):=by rw [cell_of_heap h.lT];rfl
theorem QM.r4 (h:QM w0 w L rr rf v E all a S):w.cell? ⟨rr,4,none⟩=some v.heads:=by rw [cell_of_heap h.lT];rfl
theorem QM.r5 (h:QM w0 w L rr rf v E all a S):w.cell? ⟨rr,5,none⟩=some (.int .i64 S.line):=by rw [cell_of_heap h.lT];rfl
theorem QM.rz (h:QM w0 w L rr rf v E all a S) (j:Nat):w.frozen? ⟨rr,j,none⟩=false:=frozen_of_heap h.lT j
theorem QM.fz (h:QM w0 w L rr rf v E all a S) (j:Nat):w.frozen? ⟨rf,j,none⟩=false:=frozen_of_heap h.file j
theorem QM.fc (h:QM w0 w L rr rf v E all a S) (j:Nat):w.cell? ⟨rf,j,none⟩=(mM v S.fl)[j]?:=cell_of_heap h.file j
theorem QM.oW {S':Sx} {a':Nat} (h:QM w0 w L rr rf v E all a S) (j:Nat) (x:Value) (harr:(LC rf v E a S).setIfInBounds j x=LC rf v E a' S') (hf:S'.fl=S.fl) (hh:S'.heads=S.heads):QM w0 (w.setCell ⟨rr,j,none⟩ x) L rr rf v E all a' S':=by
 have hX:∀y∈[rr],mG w y 186:=by intro y hy;simp at hy;subst hy;exact h.wu
 have r:=h.rest (dn w rr j x) (by intro y hy;simp at hy;subst hy;exact h.CK) (fun _ h=>h) (fun y hy=>⟨.inl hy,by rw [jW];exact (h.hl y hy).2⟩)
 refine⟨r.base,r.hl,r.CK,r.wm,?_,?_,r.rows,?_,?_,?_,?_,?_⟩
 ·rw [←harr];exact heap_setCell_same _ rr j _ _ _ h.lT
 ·rw [hf];exact r.file (bW hX h.yY (by decide))
 ·rw [hh];exact r.heads (fun g hg=>bW hX (h.jV g hg) (by decide))
 ·rw [hf];exact r.au (fun g hg=>bW hX (h.bY g hg) (by decide))
 ·rw [hf];exact r.aI (fun g hg=>bW hX (h.eP g hg) (by decide))
 ·rw [hf];exact r.cls (fun g hg=>bW hX (h.eu g hg) (by decide))
 rw [hf];exact r.rls (fun g hg=>bW hX (h.dQ g hg) (by decide))
theorem QM.lU (h:QM w0 w L rr rf v E all a S) (l:Int):QM w0 (w.setCell ⟨rr,5,none⟩ (.int .i64 l)) L rr rf v E all a { S with line:=l }:=h.oW 5 _ (by rfl) rfl rfl
theorem QM.setAt (h:QM w0 w L rr rf v E all a S) (a':Nat) (rows:List Row):QM w0 (w.setCell ⟨rr,2,none⟩ (.int .i64 (a':Int))) L rr rf v E all a' { S with rows:=rows }:=h.oW 2 _ (by rfl) rfl rfl
theorem QM.qJ {F':Fl} (h:QM w0 w L rr rf v E all a S) (j:Nat) (x:Value) (harr:(mM v S.fl).setIfInBounds j x=mM v F') (h1:F'.au=S.fl.au) (h2:F'.aI=S.fl.aI) (h3:F'.cls=S.fl.cls) (h4:F'.rls=S.fl.rls) :
  QM w0 (w.setCell ⟨rf,j,none⟩ x) L rr rf v E all a { S with fl:=F' }:=by
 have hX:∀y∈[rf],mG w y 48:=by intro y hy;simp at hy;subst hy;exact h.yY
 have r:=h.rest (dn w rf j x) (by intro y hy;simp at hy;subst hy;exact h.wm) (fun _ h=>h) (fun y hy=>⟨.inl hy,by rw [jW];exact (h.hl y hy).2⟩)
 refine⟨r.base,r.hl,r.CK,r.wm,r.lT (bW hX h.wu (by decide)),?_,r.rows,r.heads (fun g hg=>bW hX (h.jV g hg) (by decide)),?_,?_,?_,?_⟩
 ·show _=some (Obj.cells (mM v F') _ _)
  rw [←harr];exact heap_setCell_same _ rf j _ _ _ h.file
 ·show eX _ _ _ _ _ F'.au.length (bB F'.au)
  rw [h1];exact r.au (fun g hg=>bW hX (h.bY g hg) (by decide))
 ·have:=r.aI (fun g hg=>bW hX (h.eP g hg) (by decide))
  simpa only [h2] using this
 ·show eX _ _ _ _ _ F'.cls.length (iT F'.cls)
  rw [h3];exact r.cls (fun g hg=>bW hX (h.eu g hg) (by decide))
 have:=r.rls (fun g hg=>bW hX (h.dQ g hg) (by decide))
 simpa only [h4] using this
end
section
variable {w0 w w1:World} {L:List Nat} {rr rf a:Nat} {v:Qs} {E:Int} {all:List Row} {S:Sx} {v':Value} {r:Option Nat}
theorem QM.FE (h:QM w0 w L rr rf v E all a S) (s:ByteArray) (hg:w.grownBy w1 v.heads.ownBlock) (hloc:n_ w w1 v.heads v') (hown:w1.ownsRow 0 9 1 v' (S.heads.length+1) (bn S.heads++[.string s])) :
  ∃L',aZ L w L' (w1.setCell ⟨rr,4,none⟩ v')∧QM w0 (w1.setCell ⟨rr,4,none⟩ v') L' rr rf { v with heads:=v' } E all a { S with heads:=S.heads++[s] }:=by
 have p:=fU h.heads (fun x hx=>(h.hl x hx).2) hg hown hloc rr 186 h.CK h.wu (by decide) 4 v'
 have r:=h.rest p.kept p.FH p.sub p.sup
 exact⟨_,p.go,r.base,r.hl,r.CK,r.wm,by have:=p.cell _ h.lT;exact this,r.file (p.out h.yY (by decide) (by decide)),r.rows,by have:=p.own;rw [show bn S.heads++[Value.string s]=bn (S.heads++[s]) by simp [bn]] at this;simpa using this,r.au (fun g hg=>p.out (h.bY g hg) (by decide) (by decide)),r.aI (fun g hg=>p.out (h.eP g hg) (by decide) (by decide)),r.cls (fun g hg=>p.out (h.eu g hg) (by decide) (by decide)),r.rls (fun g hg=>p.out (h.dQ g hg) (by decide) (by decide))⟩
theorem QM.mO (h:QM w0 w L rr rf v E all a S) (x y:ByteArray) (hg:w.grownBy w1 v.au.ownBlock) (hloc:n_ w w1 v.au v') (hown:w1.ownsRow 0 297 2 v' (S.fl.au.length+1) (bB S.fl.au++[.string x,.string y])) :
  ∃L',aZ L w L' (w1.setCell ⟨rf,9,none⟩ v')∧QM w0 (w1.setCell ⟨rf,9,none⟩ v') L' rr rf { v with au:=v' } E all a { S with fl:={ S.fl with au:=S.fl.au++[(x,y)] } }:=by
 have p:=fU h.au (fun x hx=>(h.hl x hx).2) hg hown hloc rf 48 h.wm h.yY (by decide) 9 v'
 have r:=h.rest p.kept p.FH p.sub p.sup
 exact⟨_,p.go,r.base,r.hl,r.CK,r.wm,r.lT (p.out h.wu (by decide) (by decide)),by have:=p.cell _ h.file;exact this,r.rows,r.heads (fun g hg=>p.out (h.jV g hg) (by decide) (by decide)),by have:=p.own;rw [show bB S.fl.au++[Value.string x,.string y]=bB (S.fl.au++[(x,y)]) by simp [bB]] at this;simpa using this,r.aI (fun g hg=>p.out (h.eP g hg) (by decide) (by decide)),r.cls (fun g hg=>p.out (h.eu g hg) (by decide) (by decide)),r.rls (fun g hg=>p.out (h.dQ g hg) (by decide) (by decide))⟩
theorem QM.sJ (h:QM w0 w L rr rf v E all a S) (c:Cl) (hg:w.grownBy w1 v.cls.ownBlock) (hloc:n_ w w1 v.cls v') (hown:w1.ownsRow 0 192 5 v' (S.fl.cls.length+1) (iT S.fl.cls++[.int .i64 c.flag,.int .i64 c.kind,.bool c.cross,.int .i64 c.first,.int .i64 c.count])) :
  ∃L',aZ L w L' (w1.setCell ⟨rf,11,none⟩ v')∧QM w0 (w1.setCell ⟨rf,11,none⟩ v') L' rr rf { v with cls:=v' } E all a { S with fl:={ S.fl with cls:=S.fl.cls++[c] } }:=by
 have p:=fU h.cls (fun x hx=>(h.hl x hx).2) hg hown hloc rf 48 h.wm h.yY (by decide) 11 v'
 have r:=h.rest p.kept p.FH p.sub p.sup
 exact⟨_,p.go,r.base,r.hl,r.CK,r.wm,r.lT (p.out h.wu (by decide) (by decide)),by have:=p.cell _ h.file;exact this,r.rows,r.heads (fun g hg=>p.out (h.jV g hg) (by decide) (by decide)),r.au (fun g hg=>p.out (h.bY g hg) (by decide) (by decide)),r.aI (fun g hg=>p.out (h.eP g hg) (by decide) (by decide)),by have:=p.own;rw [show iT S.fl.cls++[Value.int .i64 c.flag,.int .i64 c.kind,.bool c.cross,.int .i64 c.first,.int .i64 c.count]=iT (S.fl.cls++[c]) by simp [iT]] at this;simpa using this,r.rls (fun g hg=>p.out (h.dQ g hg) (by decide) (by decide))⟩
theorem QM.sK (h:QM w0 w L rr rf v E all a S) (u:Value) (b:List Int) (hu:IO w L u b) (hg:w.grownBy w1 v.aI.ownBlock) (hloc:n_ w w1 v.aI v') (hown:∀us,w.ownsRow 0 39 1 v.aI S.fl.aI.length us→w1.ownsRow 0 39 1 v' (S.fl.aI.length+1) (us++[u])) :
  ∃L',aZ L w L' (w1.setCell ⟨rf,10,none⟩ v')∧QM w0 (w1.setCell ⟨rf,10,none⟩ v') L' rr rf { v with aI:=v' } E all a { S with fl:={ S.fl with aI:=S.fl.aI++[b] } }:=by
 obtain⟨us,hr1,hr2,hr3⟩:=h.aI
 have hown:=hown _ hr1.1
 have p:=fU hr1 (fun x hx=>(h.hl x hx).2) hg hown hloc rf 48 h.wm h.yY (by decide) 10 v'
 have r:=h.rest p.kept p.FH p.sub p.sup
 exact⟨_,p.go,r.base,r.hl,r.CK,r.wm,r.lT (p.out h.wu (by decide) (by decide)),by have:=p.cell _ h.file;exact this,r.rows,r.heads (fun g hg=>p.out (h.jV g hg) (by decide) (by decide)),r.au (fun g hg=>p.out (h.bY g hg) (by decide) (by decide)),⟨us++[u],by simpa using p.own,by simp [hr2],fun k x y hx hy=>by
  by_cases hk:k < us.length
  ·rw [List.getElem?_append_left hk] at hx;rw [List.getElem?_append_left (by omega)] at hy;exact (hr3 k x y hx hy).keep p.go
  rw [List.getElem?_append_right (by omega)] at hx hy
  rw [hr2] at hx
  rcases hd:k - S.fl.aI.length with _ | d
  ·rw [hd] at hx hy;simp at hx hy;subst hx hy;exact hu.keep p.go
  rw [hd] at hx;simp at hx⟩,r.cls (fun g hg=>p.out (h.eu g hg) (by decide) (by decide)),r.rls (fun g hg=>p.out (h.dQ g hg) (by decide) (by decide))⟩
theorem QM.oZ (h:QM w0 w L rr rf v E all a S) (r0:Rl) (u:Value) (hu:IO w L u r0.next) (hg:w.grownBy w1 v.rls.ownBlock) (hloc:n_ w w1 v.rls v') (hown:∀rs:List (Rl×Value),rs.map (·.1)=S.fl.rls→w.ownsRow 0 41 8 v.rls rs.length (jH rs)→w1.ownsRow 0 41 8 v' (rs.length+1) (jH rs++jH [(r0,u)])) :
  ∃L',aZ L w L' (w1.setCell ⟨rf,12,none⟩ v')∧QM w0 (w1.setCell ⟨rf,12,none⟩ v') L' rr rf { v with rls:=v' } E all a { S with fl:={ S.fl with rls:=S.fl.rls++[r0] } }:=by
 obtain⟨rs,hr0,hr1,hr3⟩:=h.rls
 have hown:=hown _ hr0 hr1.1
 have p:=fU hr1 (fun x hx=>(h.hl x hx).2) hg hown hloc rf 48 h.wm h.yY (by decide) 12 v'
 have r:=h.rest p.kept p.FH p.sub p.sup
 exact⟨_,p.go,r.base,r.hl,r.CK,r.wm,r.lT (p.out h.wu (by decide) (by decide)),by have:=p.cell _ h.file;exact this,r.rows,r.heads (fun g hg=>p.out (h.jV g hg) (by decide) (by decide)),r.au (fun g hg=>p.out (h.bY g hg) (by decide) (by decide)),r.aI (fun g hg=>p.out (h.eP g hg) (by decide) (by decide)),r.cls (fun g hg=>p.out (h.eu g hg) (by decide) (by decide)),⟨rs++[(r0,u)],by simp [hr0],by have:=p.own;rw [show jH rs++jH [(r0,u)]=jH (rs++[(r0,u)]) by simp [jH]] at this;simpa using this,fun q hq=>by
  rcases List.mem_append.1 hq with h1 | h1
  ·exact (hr3 q h1).keep p.go
  simp at h1;subst h1;exact hu.keep p.go⟩⟩
theorem QM.bX {e:Nat} (h:QM w0 w L rr rf v E all a S) (hg:w.grownBy w1 r) (hr:∀g,r=some g→mG w g e) (hne:48≠e):w1.heap[rf]?=some (.cells (mM v S.fl) 48 (0,0)) :=
 (hg.block rf (h.hl _ h.wm).2 (fun e1=>h.yY.ne (hr _ e1.symm) hne rfl)).trans h.file
theorem QM.dx {e:Nat} (h:QM w0 w L rr rf v E all a S) (hg:w.grownBy w1 r) (hr:∀g,r=some g→mG w g e) (hne:186≠e):w1.heap[rr]?=some (.cells (LC rf v E a S) 186 (0,0)) :=
 (hg.block rr (h.hl _ h.CK).2 (fun e1=>h.wu.ne (hr _ e1.symm) hne rfl)).trans h.lT
theorem QM.kX (h:QM w0 w L rr rf v E all a S) (hg:w.grownBy w1 r) (hr:∀g,r=some g→g∈L):Below w0.heap.size w0 w1 :=
 h.base.grown hg h.base.size (fun g hgv=>(h.hl _ (hr g hgv)).1)
end
def Ii (s:ByteArray):Int:=if 3≤bV s∧bV s≤7 then (bV s:Int) - 3 else -1
def O9 (s:ByteArray):Int:=if bV s=13 then 0 else (gL (bV s):Nat)
theorem xk:h_ 0=⟨#[70,76,65,71]⟩∧h_ 1=⟨#[83,69,84]⟩∧h_ 2=⟨#[84,82,89]⟩∧h_ 3=⟨#[78,69,69,68,65,70,70,73,88]⟩∧h_ 4=⟨#[70,79,82,66,73,68,68,69,78,87,79,82,68]⟩∧h_ 5=⟨#[75,69,69,80,67,65,83,69]⟩∧h_ 6=⟨#[67,79,77,80,79,85,78,68,70,76,65,71]⟩∧h_ 7=⟨#[78,79,83,85,71,71,69,83,84]⟩∧h_ 8=⟨#[67,79,77,80,79,85,78,68,77,73,78]⟩∧h_ 9=⟨#[82,69,80]⟩∧h_ 10=⟨#[65,70]⟩∧h_ 11=⟨#[80,70,88]⟩∧h_ 12=⟨#[83,70,88]⟩:=⟨rfl,rfl,rfl,rfl,rfl,rfl,rfl,rfl,rfl,rfl,rfl,rfl,rfl⟩
theorem sM {s:ByteArray} (h:bV s=13):(s.toList==[70,76,65,71])=false∧(s.toList==[83,69,84])=false∧(s.toList==[84,82,89])=false∧(s.toList==[78,69,69,68,65,70,70,73,88])=false∧(s.toList==[70,79,82,66,73,68,68,69,78,87,79,82,68])=false∧(s.toList==[75,69,69,80,67,65,83,69])=false ∧
  (s.toList==[67,79,77,80,79,85,78,68,70,76,65,71])=false∧(s.toList==[78,79,83,85,71,71,69,83,84])=false∧(s.toList==[67,79,77,80,79,85,78,68,77,73,78])=false∧(s.toList==[82,69,80])=false∧(s.toList==[65,70])=false∧(s.toList==[80,70,88])=false∧(s.toList==[83,70,88])=false :=
 ⟨gM _ _ (fD s h 0 (by decide)),gM _ _ (fD s h 1 (by decide)),gM _ _ (fD s h 2 (by decide)),gM _ _ (fD s h 3 (by decide)),gM _ _ (fD s h 4 (by decide)),gM _ _ (fD s h 5 (by decide)),gM _ _ (fD s h 6 (by decide)),
  gM _ _ (fD s h 7 (by decide)),gM _ _ (fD s h 8 (by decide)),gM _ _ (fD s h 9 (by decide)),gM _ _ (fD s h 10 (by decide)),gM _ _ (fD s h 11 (by decide)),gM _ _ (fD s h 12 (by decide))⟩
theorem dA (s:ByteArray) (w:World):Calls Tryz.prog 136 #[.string s] w fun e w'=>e=.returned (.int .i64 (Ii s))∧w=w':=by
 by_cases h:bV s=13
 ·have HR:Hid (Ii s = -1):=hid (by unfold Ii;rw [if_neg (by omega)])
  obtain⟨-,-,-,h3,h4,h5,h6,h7,-⟩:=sM h;clear h
  go_enter Tryz.func136,Tryz.ntmps136
  go_wp2_with fail
  go_ret
  exact⟨by rw [HR.o];rfl,rfl⟩
 have hs:=nA s h
 have hn:bV s < 13:=by have:=qo s;omega
 obtain⟨n,hk⟩:∃n,bV s=n:=⟨_,rfl⟩
 have hq:Ii s=if 3≤n∧n≤7 then (n:Int) - 3 else -1:=by unfold Ii;rw [hk]
 rw [hq];rw [hk] at hs hn;clear h hk hq;obtain⟨k0,k1,k2,k3,k4,k5,k6,k7,k8,k9,k10,k11,k12⟩:=xk
 rcases n with _ | _ | _ | _ | _ | _ | _ | _ | _ | _ | _ | _ | _ | n
 rotate_right
 ·omega
 all_goals
  first | rw [k0] at hs | rw [k1] at hs | rw [k2] at hs | rw [k3] at hs | rw [k4] at hs | rw [k5] at hs | rw [k6] at hs | rw [k7] at hs | rw [k8] at hs | rw [k9] at hs | rw [k10] at hs | rw [k11] at hs | rw [k12] at hs
  subst hs
  clear k0 k1 k2 k3 k4 k5 k6 k7 k8 k9 k10 k11 k12
  go_enter Tryz.func136,Tryz.ntmps136
  go_wp2_with fail
  go_ret
  exact⟨rfl,rfl⟩
theorem Jl (s:ByteArray) (w:World):Calls Tryz.prog 99 #[.string s] w fun e w'=>e=.returned (.int .i64 (O9 s))∧w=w':=by
 have HS:=hid (dA s w)
 by_cases h:bV s=13
 ·have HR:Hid (O9 s=0):=hid (by unfold O9;rw [if_pos h])
  have hsp:Ii s = -1:=by unfold Ii;rw [if_neg (by omega)]
  rw [hsp] at HS;obtain⟨h0,h1,h2,-,-,-,-,-,h8,h9,h10,h11,h12⟩:=sM h;clear h hsp
  go_enter Tryz.func99,Tryz.ntmps99
  go_wp2_with (go_at_call 136;refine HS.o.mono ?_;rintro e w1 ⟨rfl,rfl⟩)
  go_ret
  exact⟨by rw [HR.o];rfl,rfl⟩
 have hs:=nA s h
 have hn:bV s < 13:=by have:=qo s;omega
 obtain⟨n,hk⟩:∃n,bV s=n:=⟨_,rfl⟩
 have hq:O9 s=((gL n:Nat):Int):=by unfold O9;rw [if_neg h,hk]
 have hq2:Ii s=if 3≤n∧n≤7 then (n:Int) - 3 else -1:=by unfold Ii;rw [hk]
 rw [hq];rw [hq2] at HS;rw [hk] at hs hn;clear h hk hq hq2;obtain⟨k0,k1,k2,k3,k4,k5,k6,k7,k8,k9,k10,k11,k12⟩:=xk
 rcases n with _ | _ | _ | _ | _ | _ | _ | _ | _ | _ | _ | _ | _ | n
 rotate_right
 ·omega
 all_goals
  first | rw [k0] at hs | rw [k1] at hs | rw [k2] at hs | rw [k3] at hs | rw [k4] at hs | rw [k5] at hs | rw [k6] at hs | rw [k7] at hs | rw [k8] at hs | rw [k9] at hs | rw [k10] at hs | rw [k11] at hs | rw [k12] at hs
  subst hs
  clear k0 k1 k2 k3 k4 k5 k6 k7 k8 k9 k10 k11 k12
  go_enter Tryz.func99,Tryz.ntmps99
  go_wp2_with (go_at_call 136;refine HS.o.mono ?_;rintro e w1 ⟨rfl,rfl⟩)
  go_ret
  exact⟨rfl,rfl⟩
theorem O_ {hs:List ByteArray} {s:ByteArray} {k:Nat} (hk:k < hs.length) (h:(hs.take k).contains s=false) (he:hs[k]≠s):(hs.take (k+1)).contains s=false:=by
 rw [List.take_add_one,List.getElem?_eq_getElem hk]
 rw [Bool.eq_false_iff] at h ⊢
 intro hc
 rw [List.contains_iff_mem,List.mem_append] at hc
 rcases hc with hc | hc
 ·exact h (by rw [List.contains_iff_mem];exact hc)
 simp at hc;exact he hc.symm
theorem zR (rr:Nat) (hv:Value) (hs:List ByteArray) (s:ByteArray) (w:World) (h4:w.cell? ⟨rr,4,none⟩=some hv) (hrd:Rd w 1 hv hs.length (bn hs)) (hn:hs.length≤65536) :
  Calls Tryz.prog 100 #[.pointer (some ⟨rr,0,none⟩),.string s] w fun e w'=>e=.returned (.bool (hs.contains s))∧w=w':=by
 obtain⟨-,A,cp,rfl,hcap,hcells⟩:=hrd
 have HC:=hid hcells;obtain⟨R,hR⟩:∃b,hs.contains s=b:=⟨_,rfl⟩;have HR:=hid hR;rw [hR];clear hcells hR
 go_enter Tryz.func100,Tryz.ntmps100
 go_wp2_with fail
 go_loop [5] (fun i=>∃k:Nat,k≤hs.length∧i=.int .i64 k∧Hid ((hs.take k).contains s=false)) (fun i=>hs.length - (intOf i).toNat)
 case atStart=>exact⟨0,Nat.zero_le _,rfl,hid rfl⟩
 case round =>
 obtain⟨k,hk,rfl,HT⟩:=hrel
 by_cases hlt:k < hs.length
 ·obtain⟨g,o,rfl,hc⟩:=HC.o.resolve_left (by omega)
  have d:=hc k _ (iX hs k hlt);clear hc
  by_cases he:hs[k]=s
  ·have Jm:Hid (R=true):=hid (by rw [←HR.o,List.contains_iff_mem,←he];exact List.getElem_mem hlt)
   rw [he] at d;clear he
   go_wp2_with fail
   go_ret
   exact⟨bE Jm.o.symm,rfl⟩
  have HN:=hid (O_ hlt HT.o he);have hne:=wF _ _ he;clear he
  go_wp2_with fail
  go_round
  case rel=>exact⟨k+1,by omega,by go_num,HN⟩
  case measure=>simp [intOf];omega
 obtain rfl:k=hs.length:=by omega
 have Di:Hid (R=false):=hid (by rw [←HR.o];have:=HT.o;rwa [List.take_of_length_le (Nat.le_refl _)] at this)
 go_wp2_with fail
 go_ret
 exact⟨bE Di.o.symm,rfl⟩
theorem BJ:∀(cs:List Cl) (k:Nat) (hk:k < cs.length),(iT cs)[k*5]?=some (.int .i64 cs[k].flag)∧(iT cs)[k*5+1]?=some (.int .i64 cs[k].kind)∧(iT cs)[k*5+2]?=some (.bool cs[k].cross)∧(iT cs)[k*5+3]?=some (.int .i64 cs[k].first)∧(iT cs)[k*5+4]?=some (.int .i64 cs[k].count)
 | [],_,hk=>absurd hk (Nat.not_lt_zero _)
 | c::r,0,_=>⟨rfl,rfl,rfl,rfl,rfl⟩
 | c::r,k+1,hk=>by
   have:=BJ r k (by simpa using hk)
   have e:iT (c::r)=[.int .i64 c.flag,.int .i64 c.kind,.bool c.cross,.int .i64 c.first,.int .i64 c.count]++iT r:=by simp [iT]
   have key:∀j,(iT (c::r))[(k+1)*5+j]?=(iT r)[k*5+j]?:=fun j=>by
    rw [e,List.getElem?_append_right (by simp;omega)]
    congr 1
    simp;omega
   exact⟨(key 0).trans this.1,(key 1).trans this.2.1,(key 2).trans this.2.2.1,(key 3).trans this.2.2.2.1,(key 4).trans this.2.2.2.2⟩
def Ij (c:Cl):Value:=.agg #[.int .i64 c.flag,.int .i64 c.kind,.bool c.cross,.int .i64 c.first,.int .i64 c.count]
def Ik (o:Option Cl):Value:=.tuple #[Ij (o.getD xq),.bool o.isSome]
def LG (w:World) (rf:Nat) (cls:List Cl):Prop:=∃cv,w.cell? ⟨rf,11,none⟩=some cv∧Rd w 5 cv cls.length (iT cls)
theorem QM.Pb {w0 w:World} {L:List Nat} {rr rf a:Nat} {v:Qs} {E:Int} {all:List Row} {S:Sx} (h:QM w0 w L rr rf v E all a S):LG w rf S.fl.cls:=⟨v.cls,h.fc 11,Rd.aN h.cls.1⟩
theorem Jo {cs:List Cl} {x:Int} {k:Nat} (hk:k < cs.length) (h:(cs.take k).find? (fun c=>c.flag==x)=none) (he:cs[k].flag≠x):(cs.take (k+1)).find? (fun c=>c.flag==x)=none:=by
 rw [List.take_add_one,List.getElem?_eq_getElem hk,List.find?_append,h]
 have:(cs[k].flag==x)=false:=by rw [beq_eq_false_iff_ne];exact he
 simp [List.find?,this]
theorem LH {cs:List Cl} {x:Int} {k:Nat} (hk:k < cs.length) (h:(cs.take k).find? (fun c=>c.flag==x)=none) (he:cs[k].flag=x):cs.find? (fun c=>c.flag==x)=some cs[k]:=by
 rw [List.find?_eq_some_iff_getElem]
 refine⟨by rw [beq_iff_eq];exact he,k,hk,rfl,fun j hj=>?_⟩
 rw [List.find?_eq_none] at h
 have:=h cs[j] (by rw [List.mem_take_iff_getElem];exact⟨j,by omega,rfl⟩)
 simpa using this
theorem xu (rf:Nat) (cls:List Cl) (x:Int) (w:World) (h:LG w rf cls) (hn:cls.length≤65536) :
  Calls Tryz.prog 102 #[.pointer (some ⟨rf,0,none⟩),.int .i64 x] w fun e w'=>e=.returned (Ik (cls.find? (fun c=>c.flag==x)))∧Below w.heap.size w w':=by
 obtain⟨cv,h11,-,A,cp,rfl,hcap,hcells⟩:=h
 have HC:=hid hcells;have hlf:rf < w.heap.size:=block_lt_of_cell? _ _ h11
 obtain⟨R,hR⟩:∃o,cls.find? (fun c=>c.flag==x)=o:=⟨_,rfl⟩
 have HR:=hid hR;rw [hR];clear hcells hR
 go_enter Tryz.func102,Tryz.ntmps102
 go_wp2_with fail
 go_loop [6] (fun i=>∃k:Nat,k≤cls.length∧i=.int .i64 k∧Hid ((cls.take k).find? (fun c=>c.flag==x)=none)) (fun i=>cls.length - (intOf i).toNat)
 case atStart=>exact⟨0,Nat.zero_le _,rfl,hid rfl⟩
 case round =>
 obtain⟨k,hk,rfl,HT⟩:=hrel
 by_cases hlt:k < cls.length
 ·obtain⟨g,o,rfl,hc⟩:=HC.o.resolve_left (by omega)
  obtain⟨q0,q1,q2,q3,q4⟩:=BJ cls k hlt;have d0:=hc _ _ q0;have d1:=hc _ _ q1;have d2:=hc _ _ q2;have d3:=hc _ _ q3;have d4:=hc _ _ q4;rw [←Nat.add_assoc] at d1 d2 d3 d4;have hgl:g < w.heap.size:=block_lt_of_cell? _ _ d0
  by_cases he:cls[k].flag=x
  ·have Jm:Hid (R=some cls[k]):=hid (by rw [←HR.o];exact LH hlt HT.o he)
   generalize cls[k]=c at *
   have hb0:(c.flag==x)=true:=by rw [beq_iff_eq];exact he
   clear hc q0 q1 q2 q3 q4 he
   go_wp2_with fail
   refine bodyPost_ret (v:=.tuple #[.agg #[.int .i64 c.flag,.int .i64 c.kind,.bool c.cross,.int .i64 c.first,.int .i64 c.count],.bool true]) (by simp [results,Tryz.results102,go_sem];try rfl) rfl ?_
   exact⟨by rw [Jm.o];rfl,(Below.refl _ _).alloc (Nat.le_refl _) _⟩
  have HN:=hid (Jo hlt HT.o he)
  generalize cls[k]=c at *
  have hb0:(c.flag==x)=false:=by rw [beq_eq_false_iff_ne];exact he
  clear hc q0 q1 q2 q3 q4 he
  go_wp2_with fail
  go_round
  case rel=>exact⟨k+1,by omega,by go_num,HN⟩
  case measure=>simp [intOf];omega
 obtain rfl:k=cls.length:=by omega
 have Di:Hid (R=none):=hid (by rw [←HR.o];have:=HT.o;rwa [List.take_of_length_le (Nat.le_refl _)] at this)
 go_wp2_with fail
 refine bodyPost_ret (v:=.tuple #[.agg #[.int .i64 0,.int .i64 0,.bool false,.int .i64 0,.int .i64 0],.bool false]) (by simp [results,Tryz.results102,go_sem];try rfl) rfl ?_
 exact⟨by rw [Di.o];rfl,(Below.refl _ _).alloc (Nat.le_refl _) _⟩
structure Pd (w:World) (rf:Nat) (F:Fl):Prop where
 sp:∀n,n < 5→w.cell? ⟨rf,3+n,none⟩=some (.int .i64 (dX F n))
 cls:LG w rf F.cls
theorem QM.Yd {w0 w:World} {L:List Nat} {rr rf a:Nat} {v:Qs} {E:Int} {all:List Row} {S:Sx} (h:QM w0 w L rr rf v E all a S):Pd w rf S.fl :=
 ⟨fun n hn=>by
  rw [h.fc (3+n)]
  rcases n with _ | _ | _ | _ | _ | n<;>first | rfl | omega,h.Pb⟩
theorem Dj (rf:Nat) (F:Fl) (x:Int) (w:World) (h:Pd w rf F) (hn:F.cls.length≤65536) :
  Calls Tryz.prog 179 #[.pointer (some ⟨rf,0,none⟩),.int .i64 x] w fun e w'=>e=.returned (.bool (aM F x))∧Below w.heap.size w w':=by
 have HD:=hid h
 obtain⟨R,hR⟩:∃b,aM F x=b:=⟨_,rfl⟩;have HR:=hid hR;rw [hR];clear hR h
 go_enter Tryz.func179,Tryz.ntmps179
 go_wp2_with fail
 go_loop [5] (fun i=>∃k:Nat,k≤5∧i=.int .i64 k∧Hid (∀j,j < k→dX F j≠x)) (fun i=>5 - (intOf i).toNat)
 case atStart=>exact⟨0,Nat.zero_le _,rfl,hid (fun j hj=>absurd hj (Nat.not_lt_zero _))⟩
 case round =>
 obtain⟨k,hk,rfl,HT⟩:=hrel
 by_cases hlt:k < 5
 ·have d:=HD.o.sp k hlt
  obtain⟨z,hz⟩:∃z,dX F k=z:=⟨_,rfl⟩;rw [hz] at d
  have hlt2:(k:Int) < 5:=by omega
  by_cases he:z=x
  ·have Jm:Hid (R=true):=hid (by rw [←HR.o,gP];exact .inl ⟨k,hlt,hz.trans he⟩)
   have hb0:(z==x)=true:=by rw [beq_iff_eq];exact he
   clear he hz
   go_wp2_with fail
   go_ret
   exact⟨bE Jm.o.symm,Below.refl _ _⟩
  have HN:Hid (∀j,j < k+1→dX F j≠x):=hid (fun j hj=>by
   by_cases e:j=k
   ·subst e;rw [hz];exact he
   exact HT.o j (by omega))
  have hb0:(z==x)=false:=by rw [beq_eq_false_iff_ne];exact he
  clear he hz
  go_wp2_with fail
  go_round
  case rel=>exact⟨k+1,by omega,by go_num,HN⟩
  case measure=>simp [intOf];omega
 obtain rfl:k=5:=by omega
 have HF:=hid (xu rf F.cls x w HD.o.cls hn)
 obtain⟨o,ho⟩:∃o,F.cls.find? (fun c=>c.flag==x)=o:=⟨_,rfl⟩
 have LJ:Hid (R=o.isSome):=hid (by
  rw [←HR.o,Bool.eq_iff_iff,gP,iF,ho]
  constructor
  ·rintro (⟨n,hn,h⟩ | h)
   ·exact absurd h (HT.o n hn)
   exact h
  exact .inr)
 rw [ho] at HF;unfold Ik Ij at HF;obtain⟨d,hd⟩:∃d,o.getD xq=d:=⟨_,rfl⟩;obtain⟨is,his⟩:∃b,o.isSome=b:=⟨_,rfl⟩;rw [hd,his] at HF;rw [his] at LJ;clear ho hd his
 go_wp2_with (go_at_call 102;refine HF.o.mono ?_;rintro e w1 ⟨rfl,hb1⟩;have HB1:=hid hb1;clear hb1)
 go_ret
 exact⟨bE LJ.o.symm,HB1.o.alloc HB1.o.size _⟩
theorem Il (s:ByteArray) (w:World) (hs:s.size≤140737488355328):Calls Tryz.prog 234 #[.string s] w fun e w'=>e=.returned (.int .i64 (jX s))∧w=w':=by
 have HB:=hid (gQ s w hs)
 obtain⟨R,hR⟩:∃r,jX s=r:=⟨_,rfl⟩;have HR:=hid hR;rw [hR];clear hR;obtain⟨b,hb⟩:∃b,fitAll s=b:=⟨_,rfl⟩;have Ud:=hid hb;rw [hb] at HB;clear hb
 by_cases h0:s.size=0
 ·have bF:Hid (R=21):=hid (by rw [←HR.o,jX,if_pos (.inl h0)])
  have e0:((s.size:Int)==0)=true:=by rw [h0];rfl
  clear h0
  go_enter Tryz.func234,Tryz.ntmps234
  go_wp2_with (go_at_call 139;refine HB.o.mono ?_;rintro e w1 ⟨rfl,rfl⟩)
  go_ret
  exact⟨jN bF.o.symm,rfl⟩
 have e0:((s.size:Int)==0)=false:=by rw [beq_eq_false_iff_ne];omega
 cases b
 ·have bF:Hid (R=21):=hid (by rw [←HR.o,jX,if_pos (.inr Ud.o)])
  clear h0
  go_enter Tryz.func234,Tryz.ntmps234
  go_wp2_with (go_at_call 139;refine HB.o.mono ?_;rintro e w1 ⟨rfl,rfl⟩)
  go_ret
  exact⟨jN bF.o.symm,rfl⟩
 by_cases h3:32 < s.size
 ·have bF:Hid (R=22):=hid (by rw [←HR.o,jX,if_neg (by rw [Ud.o];simp [h0]),if_pos h3])
  have e3:decide ((32:Int) < (s.size:Int))=true:=by rw [decide_eq_true_iff];omega
  clear h0
  go_enter Tryz.func234,Tryz.ntmps234
  go_wp2_with (go_at_call 139;refine HB.o.mono ?_;rintro e w1 ⟨rfl,rfl⟩)
  go_ret
  exact⟨jN bF.o.symm,rfl⟩
 have bF:Hid (R=0):=hid (by rw [←HR.o,jX,if_neg (by rw [Ud.o];simp [h0]),if_neg h3])
 have e3:decide ((32:Int) < (s.size:Int))=false:=by rw [decide_eq_false_iff_not];omega
 clear h0
 go_enter Tryz.func234,Tryz.ntmps234
 go_wp2_with (go_at_call 139;refine HB.o.mono ?_;rintro e w1 ⟨rfl,rfl⟩)
 go_ret
 exact⟨jN bF.o.symm,rfl⟩
theorem Dk (b:UInt8):(jC b=true∧(((b.toNat:Int) != 92)=false∨((b.toNat:Int) != 92)=true∧(((b.toNat:Int) != 47)=false∨((b.toNat:Int) != 47)=true∧((b.toNat:Int) != 35)=false))) ∨
  (jC b=false∧((b.toNat:Int) != 92)=true∧((b.toNat:Int) != 47)=true∧((b.toNat:Int) != 35)=true):=by
 unfold jC
 by_cases h1:b.toNat=92
 ·refine .inl ⟨by simp [h1],.inl ?_⟩;rw [h1];rfl
 have e1:((b.toNat:Int) != 92)=true:=by rw [bne_iff_ne];omega
 by_cases h2:b.toNat=47
 ·refine .inl ⟨by simp [h2],.inr ⟨e1,.inl ?_⟩⟩;rw [h2];rfl
 have e2:((b.toNat:Int) != 47)=true:=by rw [bne_iff_ne];omega
 by_cases h3:b.toNat=35
 ·refine .inl ⟨by simp [h3],.inr ⟨e1,.inr ⟨e2,?_⟩⟩⟩;rw [h3];rfl
 exact .inr ⟨by simp [h1,h2,h3],e1,e2,by rw [bne_iff_ne];omega⟩
theorem uy (s:ByteArray) (w:World) (hs:s.size≤1048576) :
  Calls Tryz.prog 143 #[.string s] w fun e w'=>e=.returned (jY (eB s.data.toList))∧Below w.heap.size w w':=by
 obtain⟨i0,hi,hz0,hz1,hz2⟩:=info_parts fE
 go_enter Tryz.func143,Tryz.ntmps143
 go_wp2_with fail
 go_loopw [6,7] (fun v i W=>∃(k:Nat) (acc:List UInt8),k≤s.size∧i=.int .i64 k∧Hid (zl s k acc)∧Hid (Own w W 5 1 v acc.length (byteCells acc))) (fun _ i _=>s.size - (intOf i).toNat)
 case atStart=>exact⟨0,[],Nat.zero_le _,rfl,zl.start s,Own.empty w _ _⟩
 case round =>
 obtain⟨k,acc,hk,rfl,HW,HO⟩:=hrel
 have HL:=hid HW.o.2;have hsz:=HO.o.size
 by_cases hlt:k < s.size
 ·by_cases h1:s[k].toNat=47
  ·have e1:((s[k].toNat:Int)==47)=true:=by rw [h1];rfl
   have HR:=hid (HW.o.slash hlt h1)
   have hsum:IntKind.i64.wrap ((k:Int)+1)=(k:Int)+1:=by rw [IntKind.wrap_i64];omega
   have hcv:=fun n=>bP (P:=Tryz.prog) (w:=wr.drewN n) (HO.o.drewN n).own 213 9 Tryz.underlying213 Tryz.underlying5 Tryz.underlying9
   clear h1
   go_wp2_with fail
   go_quiet (fail)
   go_wp2_with fail
   refine bodyPost_ret (v:=.tuple #[.string ⟨acc.toArray⟩,.string (s.extract (k+1) s.size),.bool true,.int .i64 0]) (by simp [results,Tryz.results143,go_sem]) rfl ?_
   rw [HR.o]
   exact⟨rfl,below_drewN HO.o.below _⟩
  have e1:((s[k].toNat:Int)==47)=false:=by rw [beq_eq_false_iff_ne];omega
  by_cases h2:s[k].toNat=92
  ·have e2:((s[k].toNat:Int)==92)=true:=by rw [h2];rfl
   by_cases h3:k+1 < s.size
   ·have e3:decide ((s.size:Int)≤(k:Int)+1)=false:=by rw [decide_eq_false_iff_not];omega
    have HL2:=hid (show jC s[k+1]=true→zl s (k+1+1) (acc++[s[k+1]]) from fun hm=>HW.o.esc hlt h2 h3 hm)
    rcases Dk s[k+1] with ⟨hm,h4 | ⟨h4,h5 | ⟨h5,h6⟩⟩⟩ | ⟨hm,h4,h5,h6⟩
    rotate_right
    ·have HR:=hid (HW.o.bad hlt h2 h3 hm)
     clear h1 h2 hm HL2
     go_wp2_with fail
     refine bodyPost_ret (v:=jY ([],[],false,20)) (by simp [results,Tryz.results143,go_sem];rfl) rfl ?_
     rw [HR.o]
     exact⟨rfl,HO.o.below⟩
    all_goals
     have HR:=hid (HL2.o hm);clear h1 h2 hm HL2
     go_wp2_with (at_builtin;refine aB rfl _ _ 213 rfl w.heap.size 5 i0 (.int .u8 0) 1 Tryz.underlying213 hi hz0 hz1 hz2 rfl _ _ _ rfl HO.o.own _ rfl rfl (by have:=HL.o;unfold maxLen;omega) (by have:=HL.o;omega) hsz ?_;intro g cap w2 hown hg;have fG:=hid (show Own w w2 5 1 (.slice (some ⟨g,0,none⟩) (acc.length+1) cap) (acc++[s[k+1]]).length (byteCells (acc++[s[k+1]])) by rw [List.length_append,←eD];exact HO.o.push hown hg);clear hown hg)
     go_roundw
     case rel=>exact⟨k+1+1,_,by omega,by go_num,HR,fG⟩
     case measure=>simp [intOf];omega
   have e3:decide ((s.size:Int)≤(k:Int)+1)=true:=by rw [decide_eq_true_iff];omega
   have HR:=hid (HW.o.last hlt h2 h3);clear h1 h2
   go_wp2_with fail
   refine bodyPost_ret (v:=jY ([],[],false,20)) (by simp [results,Tryz.results143,go_sem];rfl) rfl ?_
   rw [HR.o]
   exact⟨rfl,HO.o.below⟩
  have e2:((s[k].toNat:Int)==92)=false:=by rw [beq_eq_false_iff_ne];omega
  have HR:=hid (HW.o.more hlt h1 h2);clear h1 h2
  go_wp2_with (at_builtin;refine aB rfl _ _ 213 rfl w.heap.size 5 i0 (.int .u8 0) 1 Tryz.underlying213 hi hz0 hz1 hz2 rfl _ _ _ rfl HO.o.own _ rfl rfl (by have:=HL.o;unfold maxLen;omega) (by have:=HL.o;omega) hsz ?_;intro g cap w2 hown hg;have fG:=hid (show Own w w2 5 1 (.slice (some ⟨g,0,none⟩) (acc.length+1) cap) (acc++[s[k]]).length (byteCells (acc++[s[k]])) by rw [List.length_append,←eD];exact HO.o.push hown hg);clear hown hg)
  go_roundw
  case rel=>exact⟨k+1,_,by omega,by go_num,HR,fG⟩
  case measure=>simp [intOf];omega
 obtain rfl:k=s.size:=by omega
 have HR:=hid HW.o.done;have hcv:=bP (P:=Tryz.prog) HO.o.own 213 9 Tryz.underlying213 Tryz.underlying5 Tryz.underlying9
 go_wp2_with fail
 refine bodyPost_ret (v:=jY (acc,[],false,0)) (by simp [results,Tryz.results143,go_sem];rfl) rfl ?_
 rw [HR.o]
 exact⟨rfl,HO.o.below⟩
def nC (R:Except Int ByteArray) (w:World) (e:Ending) (w':World):Prop:=Below w.heap.size w w'∧match R with
 | .ok a=>e=.returned (.tuple #[.string a,.int .i64 0])
 | .error c=>c≠0∧∃t,e=.returned (.tuple #[.string t,.int .i64 c])
theorem nC.ok {a:ByteArray} {w w':World} (hb:Below w.heap.size w w'):nC (.ok a) w (.returned (.tuple #[.string a,.int .i64 0])) w':=⟨hb,rfl⟩
theorem nC.bad {c:Int} {t:ByteArray} {w w':World} (hc:c≠0) (hb:Below w.heap.size w w'):nC (.error c) w (.returned (.tuple #[.string t,.int .i64 c])) w':=⟨hb,hc,t,rfl⟩
theorem uz (s:ByteArray) (nn:Bool) (w:World) (hs:s.size≤1048576):Calls Tryz.prog 209 #[.string s,.bool nn] w (nC (bL nn s) w):=by
 by_cases h:nn=true∧s=jZ
 ·have HR:Hid (bL nn s=.ok ⟨#[]⟩):=hid (by unfold bL;rw [if_pos h])
  rw [HR.o];obtain⟨rfl,h2⟩:=h;have h3:s=⟨#[48]⟩:=h2;clear h2
  subst h3
  go_enter Tryz.func209,Tryz.ntmps209
  go_wp2_with fail
  go_ret2
  exact .ok (Below.refl _ _)
 have hw:=uy s w hs;have hl:=(iM s.data.toList).1;rw [ak] at hl
 have hR:bL nn s=match eB s.data.toList with
  | (w,_,cut,e)=>if e≠0 then .error e else if cut=true then .error 114 else if jX (mkS w)≠0 then .error (jX (mkS w)) else .ok (mkS w):=by unfold bL;rw [if_neg h]
 rw [hR];obtain⟨⟨W,R,C,e⟩,hq⟩:∃r,eB s.data.toList=r:=⟨_,rfl⟩;rw [hq] at hw hl ⊢;have HW:=hid hw;clear hw hq hR;unfold jY at HW;dsimp only at HW hl ⊢
 have HF:=hid (fun W'=>Il (mkS W) W' (by rw [aG];omega))
 obtain⟨fe,hfe⟩:∃r,jX (mkS W)=r:=⟨_,rfl⟩;rw [hfe] at HF ⊢;clear hfe
 have hz:nn=true→(s.toList==[48])=false:=fun hn=>gM s [48] (fun e=>h ⟨hn,e⟩)
 have HZ:=hid hz;clear h hz
 by_cases he:e=0
 ·subst he
  cases C
  ·by_cases hf:fe=0
   ·subst hf
    simp only [ne_eq,not_true_eq_false,if_false,Bool.false_eq_true]
    cases nn
    ·go_enter Tryz.func209,Tryz.ntmps209
     go_wp2_with (first | (go_at_call 143;refine HW.o.mono ?_;rintro e w1 ⟨rfl,hb1⟩;have HB1:=hid hb1;clear hb1) | (go_at_call 234;refine (HF.o _).mono ?_;rintro e w2 ⟨rfl,rfl⟩))
     go_ret2
     exact .ok HB1.o
    have hz:=HZ.o rfl
    go_enter Tryz.func209,Tryz.ntmps209
    go_wp2_with (first | (go_at_call 143;refine HW.o.mono ?_;rintro e w1 ⟨rfl,hb1⟩;have HB1:=hid hb1;clear hb1) | (go_at_call 234;refine (HF.o _).mono ?_;rintro e w2 ⟨rfl,rfl⟩))
    go_ret2
    exact .ok HB1.o
   have Pe:=hid hf
   rw [if_neg (by simp),if_neg (by simp),if_pos hf]
   clear hf
   cases nn
   ·go_enter Tryz.func209,Tryz.ntmps209
    go_wp2_with (first | (go_at_call 143;refine HW.o.mono ?_;rintro e w1 ⟨rfl,hb1⟩;have HB1:=hid hb1;clear hb1) | (go_at_call 234;refine (HF.o _).mono ?_;rintro e w2 ⟨rfl,rfl⟩))
    go_ret2
    exact .bad Pe.o HB1.o
   have hz:=HZ.o rfl
   go_enter Tryz.func209,Tryz.ntmps209
   go_wp2_with (first | (go_at_call 143;refine HW.o.mono ?_;rintro e w1 ⟨rfl,hb1⟩;have HB1:=hid hb1;clear hb1) | (go_at_call 234;refine (HF.o _).mono ?_;rintro e w2 ⟨rfl,rfl⟩))
   go_ret2
   exact .bad Pe.o HB1.o
  rw [if_neg (by simp),if_pos rfl]
  cases nn
  ·go_enter Tryz.func209,Tryz.ntmps209
   go_wp2_with (go_at_call 143;refine HW.o.mono ?_;rintro e w1 ⟨rfl,hb1⟩;have HB1:=hid hb1;clear hb1)
   go_ret2
   exact .bad (by decide) HB1.o
  have hz:=HZ.o rfl
  go_enter Tryz.func209,Tryz.ntmps209
  go_wp2_with (go_at_call 143;refine HW.o.mono ?_;rintro e w1 ⟨rfl,hb1⟩;have HB1:=hid hb1;clear hb1)
  go_ret2
  exact .bad (by decide) HB1.o
 have HE:=hid he
 have he2:(e != 0)=true:=by simpa using he
 rw [if_pos he];clear he
 cases nn
 ·go_enter Tryz.func209,Tryz.ntmps209
  go_wp2_with (go_at_call 143;refine HW.o.mono ?_;rintro e1 w1 ⟨rfl,hb1⟩;have HB1:=hid hb1;clear hb1)
  go_ret2
  exact .bad HE.o HB1.o
 have hz:=HZ.o rfl
 go_enter Tryz.func209,Tryz.ntmps209
 go_wp2_with (go_at_call 143;refine HW.o.mono ?_;rintro e1 w1 ⟨rfl,hb1⟩;have HB1:=hid hb1;clear hb1)
 go_ret2
 exact .bad HE.o HB1.o
structure Ye (w:World) (L:List Nat) (rf:Nat) (F:Fl):Prop where
 kind:w.cell? ⟨rf,0,none⟩=some (.int .i64 F.kind)
 aI:∃av us,w.cell? ⟨rf,10,none⟩=some av∧Rd w 1 av F.aI.length us∧us.length=F.aI.length∧∀(k:Nat) u b,us[k]?=some u→F.aI[k]?=some b→IO w L u b
theorem QM.flF {w0 w:World} {L:List Nat} {rr rf a:Nat} {v:Qs} {E:Int} {all:List Row} {S:Sx} (h:QM w0 w L rr rf v E all a S):Ye w L rf S.fl:=by
 obtain⟨us,h1,h2,h3⟩:=h.aI
 exact⟨h.fc 0,v.aI,us,h.fc 10,Rd.aN h1.1,h2,h3⟩
def FI (L:List Nat) (r:List Int×Int) (w:World) (e:Ending) (w':World):Prop:=∃v,e=.returned (.tuple #[v,.int .i64 r.2])∧IO w' L v r.1∧Below w.heap.size w w'
theorem zS (L:List Nat) (rf:Nat) (F:Fl) (s:ByteArray) (w:World) (h:Ye w L rf F) (hL:∀x∈L,x < w.heap.size) (hn:F.aI.length≤65536) (hs:s.size≤4194304) :
  Calls Tryz.prog 144 #[.pointer (some ⟨rf,0,none⟩),.string s] w (FI L (aQ F s) w):=by
 have hk:=h.kind
 obtain⟨av,us,ha,hrd,Q5,Jp⟩:=h.aI;obtain⟨h1,A,cp,rfl,hcap,hcells⟩:=hrd;have HC:=hid hcells;have HI:=hid Jp;have HL:=hid hL;have HU:=hid Q5;clear hcells h Jp hL h1 Q5
 by_cases h0:F.aI.length=0
 ·have e0:((F.aI.length:Int)==0)=true:=by rw [h0];rfl
  have HR:=hid (zT F.kind s w hs)
  have HX:Hid (aQ F s=bS F.kind s.data.toList):=hid (by rw [aQ,if_pos h0])
  clear h0
  go_enter Tryz.func144,Tryz.ntmps144
  go_wp2_with (go_at_call 181;refine HR.o.mono ?_;rintro e w2 ⟨v,rfl,hv,hb⟩;have HV:=hid hv;have HB:=hid hb;clear hv hb)
  go_ret2
  unfold FI;rw [HX.o]
  exact⟨v,rfl,IO.aN HV.o HL.o,HB.o⟩
 have e0:((F.aI.length:Int)==0)=false:=by rw [beq_eq_false_iff_ne];omega
 have HN:=hid (fH s F.aI.length w (by unfold maxLen;omega) (by omega) (by omega))
 obtain⟨b,off,rfl,hc⟩:=HC.o.resolve_left h0;have oF:=hid hc
 obtain⟨b0,b1⟩:=dJ s.data.toList F.aI.length (by omega)
 clear hc HC
 by_cases uD:bI s.data.toList F.aI.length≠0∨aJ s.data.toList F.aI.length=0
 ·have HX:Hid (aQ F s=([],13)):=hid (by rw [aQ,if_neg h0,if_pos uD])
  rcases dK s.data.toList F.aI.length with h | h
  ·have hv:aJ s.data.toList F.aI.length=0:=uD.resolve_left (by rw [h];simp)
   have Dl:Hid (Calls Tryz.prog 103 #[.string s,.int .i64 (F.aI.length:Int)] w fun e w'=>e=.returned (.tuple #[.int .i64 0,.int .i64 0])∧w=w'):=hid (by
    have h2:=HN.o
    unfold dw at h2
    rwa [h,hv] at h2)
   clear h hv uD b0 b1 HN h0
   go_enter Tryz.func144,Tryz.ntmps144
   go_wp2_with (go_at_call 103;refine Dl.o.mono ?_;rintro e w2 ⟨rfl,rfl⟩)
   go_ret2
   unfold FI;rw [HX.o]
   exact⟨_,rfl,IO.fP _ _,Below.refl _ _⟩
  have Dl:Hid (∃x,Calls Tryz.prog 103 #[.string s,.int .i64 (F.aI.length:Int)] w fun e w'=>e=.returned (.tuple #[.int .i64 x,.int .i64 13])∧w=w'):=hid (by
   have h2:=HN.o
   unfold dw at h2;rw [h] at h2
   exact⟨_,h2⟩)
  obtain⟨x,hx⟩:=Dl.o;have LK:=hid hx;clear h uD b0 b1 HN Dl h0 hx
  go_enter Tryz.func144,Tryz.ntmps144
  go_wp2_with (go_at_call 103;refine LK.o.mono ?_;rintro e w2 ⟨rfl,rfl⟩)
  go_ret2
  unfold FI;rw [HX.o]
  exact⟨_,rfl,IO.fP _ _,Below.refl _ _⟩
 have hE:bI s.data.toList F.aI.length=0:=by
  rcases dK s.data.toList F.aI.length with h | h
  ·exact h
  exact absurd (.inl (by rw [h];simp)) uD
 have hV:aJ s.data.toList F.aI.length≠0:=fun e=>uD (.inr e)
 obtain⟨j,hj⟩:∃j:Nat,aJ s.data.toList F.aI.length=(j:Int)+1:=⟨(aJ s.data.toList F.aI.length - 1).toNat,by omega⟩
 rw [hj] at b1
 have hjl:j < F.aI.length:=by omega
 have HX:Hid (aQ F s=(F.aI[j],0)):=hid (by
  rw [aQ,if_neg h0,if_neg uD,hj,show ((j:Int)+1 - 1).toNat=j by omega]
  simp [List.getD,hjl])
 have Dl:Hid (Calls Tryz.prog 103 #[.string s,.int .i64 (F.aI.length:Int)] w fun e w'=>e=.returned (.tuple #[.int .i64 ((j:Int)+1),.int .i64 0])∧w=w'):=hid (by
  have h2:=HN.o
  unfold dw at h2
  rwa [hE,hj] at h2)
 have Q5:=HU.o
 have hIO:=HI.o j us[j] F.aI[j] (List.getElem?_eq_getElem (by omega)) (List.getElem?_eq_getElem hjl)
 have hcell:=oF.o j us[j] (List.getElem?_eq_getElem (by omega))
 have U0:=hid hIO;obtain⟨p,c,hu,-,-⟩:=hIO;rw [hu] at hcell U0
 generalize F.aI[j]=a at *
 have hne:((j:Int)+1==0)=false:=by rw [beq_eq_false_iff_ne];omega
 have hw1:IntKind.i64.wrap ((j:Int)+1 - 1)=(j:Int):=by rw [IntKind.wrap_i64];omega
 have hj0:(0:Int)≤(j:Int):=by omega
 clear hu hE hV uD hj b0 b1 HN h0 Q5
 go_enter Tryz.func144,Tryz.ntmps144
 go_wp2_with (go_at_call 103;refine Dl.o.mono ?_;rintro e w2 ⟨rfl,rfl⟩)
 go_ret2
 unfold FI;rw [HX.o]
 exact⟨_,rfl,U0.o,Below.refl _ _⟩
def nD (R:Except Int Int) (w:World) (e:Ending) (w':World):Prop:=Below w.heap.size w w'∧match R with
 | .ok f=>e=.returned (.tuple #[.int .i64 f,.int .i64 0])
 | .error c=>c≠0∧e=.returned (.tuple #[.int .i64 0,.int .i64 c])
theorem nD.bad {c:Int} {w w':World} (hc:c≠0) (hb:Below w.heap.size w w'):nD (.error c) w (.returned (.tuple #[.int .i64 0,.int .i64 c])) w':=⟨hb,hc,rfl⟩
theorem nD.ok {f:Int} {w w':World} (hb:Below w.heap.size w w'):nD (.ok f) w (.returned (.tuple #[.int .i64 f,.int .i64 0])) w':=⟨hb,rfl⟩
theorem zU (w0:World) (L:List Nat) (rr rf a:Nat) (v:Qs) (E:Int) (all:List Row) (S:Sx) (s:ByteArray) (w:World) (h:QM w0 w L rr rf v E all a S) (hn:S.fl.cls.length≤65536) (hs:s.size≤1048576) :
  Calls Tryz.prog 137 #[.pointer (some ⟨rr,0,none⟩),.string s] w (nD (gq S.fl s) w):=by
 have hO:=O5 S.fl.kind s w (by unfold maxLen;omega)
 unfold gq;obtain⟨⟨f,e⟩,hF⟩:∃r,jv S.fl.kind s.data.toList=r:=⟨_,rfl⟩;rw [hF] at hO ⊢;dsimp only at hO ⊢;have HO:=hid hO
 have HD:Hid (∀W,Below w.heap.size w W→Calls Tryz.prog 179 #[.pointer (some ⟨rf,0,none⟩),.int .i64 f] W fun e w'=>e=.returned (.bool (aM S.fl f))∧Below W.heap.size W w'):=hid (fun W hW=>Dj rf S.fl f W ((h.below hW).Yd) hn)
 have HM:=hid h;have c0:=h.r0;have g0:w.cell? ⟨rf,0,none⟩=some (.int .i64 S.fl.kind):=h.fc 0;clear hO hF h;obtain⟨b,hb⟩:∃b,aM S.fl f=b:=⟨_,rfl⟩;rw [hb] at HD ⊢;clear hb
 by_cases he:e=0
 ·subst he
  rw [if_neg (by simp)]
  cases b
  ·rw [if_neg (by simp)]
   go_enter Tryz.func137,Tryz.ntmps137
   go_wp2_with (first
    | (go_at_call 178;refine HO.o.mono ?_;rintro e w1 ⟨rfl,n,hw⟩;have HB:Hid (Below w.heap.size w w1):=hid (by rw [hw];exact below_drewN (Below.refl _ _) n);clear hw;have c1:=(HM.o.below HB.o).r0)
    | (go_at_call 179;refine (HD.o _ HB.o).mono ?_;rintro e w2 ⟨rfl,hb2⟩;have HB2:=hid (HB.o.trans (hb2.mono HB.o.size));clear hb2))
   go_ret2
   exact .ok HB2.o
  rw [if_pos rfl]
  go_enter Tryz.func137,Tryz.ntmps137
  go_wp2_with (first
   | (go_at_call 178;refine HO.o.mono ?_;rintro e w1 ⟨rfl,n,hw⟩;have HB:Hid (Below w.heap.size w w1):=hid (by rw [hw];exact below_drewN (Below.refl _ _) n);clear hw;have c1:=(HM.o.below HB.o).r0)
   | (go_at_call 179;refine (HD.o _ HB.o).mono ?_;rintro e w2 ⟨rfl,hb2⟩;have HB2:=hid (HB.o.trans (hb2.mono HB.o.size));clear hb2))
  go_ret2
  exact .bad (by decide) HB2.o
 have HE:=hid he
 have he2:(e != 0)=true:=by simpa using he
 rw [if_pos he];clear he
 go_enter Tryz.func137,Tryz.ntmps137
 go_wp2_with (go_at_call 178;refine HO.o.mono ?_;rintro e1 w1 ⟨rfl,n,hw⟩;have HB:Hid (Below w.heap.size w w1):=hid (by rw [hw];exact below_drewN (Below.refl _ _) n);clear hw)
 go_ret2
 exact .bad HE.o HB.o
def jc (l:List UInt8) (k:Nat):Int:=match eZ (l.drop k) with
 | none=>-1
 | some n=>((k+n:Nat):Int)
theorem Dm (s:ByteArray) (k:Nat) (h:s.size≤k):jc s.data.toList k = -1:=by
 unfold jc
 rw [List.drop_of_length_le (by rw [ak];exact h)]
 rfl
theorem Dn (s:ByteArray) (k:Nat) (hk:k < s.size) (h:s[k].toNat=93):jc s.data.toList k=(k:Int):=by
 unfold jc eZ
 rw [drop_cons s k hk,List.findIdx?_cons,if_pos (by simp [h])]
 rfl
theorem sN (s:ByteArray) (k:Nat) (hk:k < s.size) (h:s[k].toNat≠93):jc s.data.toList k=jc s.data.toList (k+1):=by
 unfold jc eZ
 rw [drop_cons s k hk,List.findIdx?_cons,if_neg (by simpa using h)]
 cases List.findIdx? (fun c=>c.toNat==93) (s.data.toList.drop (k+1)) with
 | none=>rfl
 | some n=>simp only [Option.map_some];congr 1;omega
theorem xA (s:ByteArray) (k0:Nat) (w:World) (hk0:k0≤s.size) (hs:s.size≤1048576) :
  Calls Tryz.prog 243 #[.string s,.int .i64 (k0:Int)] w fun e w'=>e=.returned (.int .i64 (jc s.data.toList k0))∧w'=w:=by
 go_enter Tryz.func243,Tryz.ntmps243
 go_wp2_with fail
 go_loop [1] (fun i=>∃k:Nat,k≤s.size∧i=.int .i64 k∧Hid (jc s.data.toList k=jc s.data.toList k0)) (fun i=>s.size - (intOf i).toNat)
 case atStart=>exact⟨k0,hk0,rfl,rfl⟩
 case round =>
 obtain⟨k,hk,rfl,HC⟩:=hrel
 by_cases hlt:k < s.size
 ·by_cases he:s[k].toNat=93
  ·have e1:((s[k].toNat:Int)==93)=true:=by rw [he];rfl
   have HR:=hid (Dn s k hlt he);clear he
   go_wp2_with fail
   go_ret
   exact⟨jN (by rw [←HC.o,HR.o]),rfl⟩
  have e1:((s[k].toNat:Int)==93)=false:=by rw [beq_eq_false_iff_ne];omega
  have HR:=hid (sN s k hlt he);clear he
  go_wp2_with fail
  go_round
  case rel=>exact⟨k+1,by omega,by go_num,hid (by rw [←HR.o];exact HC.o)⟩
  case measure=>simp [intOf];omega
 have HR:=hid (Dm s k (by omega))
 have hke:k=s.size:=by omega
 subst hke
 go_wp2_with fail
 go_ret
 exact⟨jN (by rw [←HC.o,HR.o]),rfl⟩
theorem zm (s:ByteArray) (k:Nat) (b:UInt8) (hk:k < s.size):(s.data.toList.drop k).contains b=(b==s[k]||(s.data.toList.drop (k+1)).contains b):=by
 rw [drop_cons s k hk,List.contains_cons]
theorem zV (s:ByteArray) (b:UInt8) (w:World) (hs:s.size≤1048576) :
  Calls Tryz.prog 247 #[.string s,.int .u8 (b.toNat:Int)] w fun e w'=>e=.returned (.bool (s.data.toList.contains b))∧w'=w:=by
 obtain⟨r,hr⟩:∃r,s.data.toList.contains b=r:=⟨_,rfl⟩
 rw [hr];have HRR:=hid hr;clear hr
 go_enter Tryz.func247,Tryz.ntmps247
 go_wp2_with fail
 go_loop [5] (fun i=>∃k:Nat,k≤s.size∧i=.int .i64 k∧Hid ((s.data.toList.drop k).contains b=r)) (fun i=>s.size - (intOf i).toNat)
 case atStart=>exact⟨0,Nat.zero_le _,rfl,HRR.o⟩
 case round =>
 obtain⟨k,hk,rfl,HC⟩:=hrel
 by_cases hlt:k < s.size
 ·have hn:=zm s k b hlt
  by_cases he:s[k]=b
  ·have e1:((s[k].toNat:Int)==(b.toNat:Int))=true:=by rw [he];simp
   have HR:Hid ((s.data.toList.drop k).contains b=true):=hid (by rw [hn,he];simp)
   clear he hn
   go_wp2_with fail
   go_ret
   exact⟨bE (by rw [←HC.o,HR.o]),rfl⟩
  have e1:((s[k].toNat:Int)==(b.toNat:Int))=false:=by
   rw [beq_eq_false_iff_ne];intro e;exact he (by rw [←UInt8.toNat_inj];omega)
  have HR:Hid ((s.data.toList.drop k).contains b=(s.data.toList.drop (k+1)).contains b):=hid (by
   rw [hn,show (b==s[k])=false by rw [beq_eq_false_iff_ne];exact fun e=>he e.symm];rfl)
  clear he hn
  go_wp2_with fail
  go_round
  case rel=>exact⟨k+1,by omega,by go_num,hid (by rw [←HR.o];exact HC.o)⟩
  case measure=>simp [intOf];omega
 have HR:Hid ((s.data.toList.drop k).contains b=false):=hid (by rw [List.drop_of_length_le (by rw [ak];omega)];rfl)
 have hke:k=s.size:=by omega
 subst hke
 go_wp2_with fail
 go_ret
 exact⟨bE (by rw [←HC.o,HR.o]),rfl⟩
def La (t:List UInt8):Prop:=(t.length=1∨3≤t.length)∧t.length≤512
theorem LM (t:List UInt8) (b:UInt8) (h3:3≤t.length) (h:(t[1]'(by omega)).toNat=94):cO t b=!(((t.drop 2).take (t.length - 1 - 2)).contains b):=by
 rcases t with _ | ⟨a,_ | ⟨c,l⟩⟩
 ·simp at h3
 ·simp at h3
 have h':c.toNat=94:=h
 show (if c.toNat=94 then !(l.dropLast.contains b) else (c::l).dropLast.contains b)=_
 rw [if_pos h',List.dropLast_eq_take]
 simp
theorem FJ (t:List UInt8) (b:UInt8) (h3:3≤t.length) (h:(t[1]'(by omega)).toNat≠94):cO t b=((t.drop 1).take (t.length - 1 - 1)).contains b:=by
 rcases t with _ | ⟨a,_ | ⟨c,l⟩⟩
 ·simp at h3
 ·simp at h3
 have h':c.toNat≠94:=h
 show (if c.toNat=94 then !(l.dropLast.contains b) else (c::l).dropLast.contains b)=_
 rw [if_neg h',List.dropLast_eq_take]
 simp
theorem FK (t:List UInt8) (k:Nat) (hk:k < t.length):(mkS t)[k]'(by rw [aG];exact hk)=t[k]:=by
 simp [mkS,ByteArray.getElem_eq_getElem_data]
theorem RZ (c:UInt8):((mkS [c]).toList==[46])=(c.toNat==46):=by
 rw [Lib.toList_data]
 show ([c]==[46])=_
 rw [Bool.eq_iff_iff,beq_iff_eq,beq_iff_eq,List.cons.injEq,←UInt8.toNat_inj]
 simp
theorem Jq (s:ByteArray) (b:UInt8) (r:Bool) (w:World) (h5:3≤s.size) (h6:s.size≤512) (h11:1 < s.size) (e1:(((s[1]'h11).toNat:Int)==94)=true)
  (HX:Hid (∀W,Calls Tryz.prog 247 #[.string (s.extract 2 (s.size - 1)),.int .u8 (b.toNat:Int)] W fun e w'=>e=.returned (.bool r)∧w'=W)) :
  Calls Tryz.prog 246 #[.agg #[.string s],.int .u8 (b.toNat:Int)] w fun e w'=>e=.returned (.bool (!r))∧Below w.heap.size w w':=by
 have e2:((s.size:Int)==1)=false:=by rw [beq_eq_false_iff_ne];omega
 go_enter Tryz.func246,Tryz.ntmps246
 go_wp2_with (go_at_call 247;refine (HX.o _).mono ?_;rintro e w2 ⟨rfl,rfl⟩)
 go_ret
 exact⟨rfl,(Below.refl _ _).alloc (Nat.le_refl _) _⟩
theorem Jr (s:ByteArray) (b:UInt8) (r:Bool) (w:World) (h5:3≤s.size) (h6:s.size≤512) (h11:1 < s.size) (e1:(((s[1]'h11).toNat:Int)==94)=false)
  (HX:Hid (∀W,Calls Tryz.prog 247 #[.string (s.extract 1 (s.size - 1)),.int .u8 (b.toNat:Int)] W fun e w'=>e=.returned (.bool r)∧w'=W)) :
  Calls Tryz.prog 246 #[.agg #[.string s],.int .u8 (b.toNat:Int)] w fun e w'=>e=.returned (.bool r)∧Below w.heap.size w w':=by
 have e2:((s.size:Int)==1)=false:=by rw [beq_eq_false_iff_ne];omega
 go_enter Tryz.func246,Tryz.ntmps246
 go_wp2_with (go_at_call 247;refine (HX.o _).mono ?_;rintro e w2 ⟨rfl,rfl⟩)
 go_ret
 exact⟨rfl,(Below.refl _ _).alloc (Nat.le_refl _) _⟩
theorem zW (t:List UInt8) (b:UInt8) (w:World) (ht:La t) :
  Calls Tryz.prog 246 #[.agg #[.string (mkS t)],.int .u8 (b.toNat:Int)] w fun e w'=>e=.returned (.bool (cO t b))∧Below w.heap.size w w':=by
 obtain⟨h1,h2⟩:=ht
 by_cases hl:t.length=1
 ·obtain⟨c,rfl⟩:=List.length_eq_one_iff.1 hl
  have hz:(mkS [c]).size=1:=by rw [aG];rfl
  have h0:0 < (mkS [c]).size:=by omega
  have hg:(mkS [c])[0]=c:=FK [c] 0 (by simp)
  have hd:=RZ c
  generalize mkS [c]=s at hz h0 hg hd ⊢
  by_cases hc:c.toNat=46
  ·have e1:(s.toList==[46])=true:=by rw [hd];simp [hc]
   have HA:Hid (cO [c] b=true):=hid (by simp [cO,hc])
   clear hd hc
   go_enter Tryz.func246,Tryz.ntmps246
   go_wp2_with fail
   go_ret
   exact⟨bE HA.o.symm,(Below.refl _ _).alloc (Nat.le_refl _) _⟩
  have e1:(s.toList==[46])=false:=by rw [hd];simp [hc]
  have hq:((c.toNat:Int)==(b.toNat:Int))=(c==b):=by
   rw [Bool.eq_iff_iff,beq_iff_eq,beq_iff_eq,←UInt8.toNat_inj];omega
  have HA:Hid (cO [c] b=(c==b)):=hid (by simp [cO,hc])
  clear hd hc
  go_enter Tryz.func246,Tryz.ntmps246
  go_wp2_with fail
  go_ret
  exact⟨bE (by rw [HA.o]),(Below.refl _ _).alloc (Nat.le_refl _) _⟩
 have h3:3≤t.length:=by omega
 by_cases hc:(t[1]'(by omega)).toNat=94
 ·rw [LM t b h3 hc]
  have h11:1 < (mkS t).size:=by rw [aG];omega
  refine Jq (mkS t) b _ w (by rw [aG];omega) (by rw [aG];omega) h11 ?_ (hid (fun W=>?_))
  ·rw [FK t 1 (by omega)]
   rw [hc];rfl
  have:=zV (mkS ((t.drop 2).take (t.length - 1 - 2))) b W (by rw [aG];simp;omega)
  rw [iD] at this;rw [bQ,iD,aG]
  exact this
 rw [FJ t b h3 hc]
 have h11:1 < (mkS t).size:=by rw [aG];omega
 refine Jr (mkS t) b _ w (by rw [aG];omega) (by rw [aG];omega) h11 ?_ (hid (fun W=>?_))
 ·rw [FK t 1 (by omega)]
  rw [beq_eq_false_iff_ne];omega
 have:=zV (mkS ((t.drop 1).take (t.length - 1 - 1))) b W (by rw [aG];simp;omega)
 rw [iD] at this;rw [bQ,iD,aG]
 exact this
def uW (l:List UInt8) (w:World) (e:Ending) (w':World):Prop :=
 match gT l with
  | .error c=>e=.returned (.tuple #[.slice none 0 0,.int .i64 c])∧Below w.heap.size w w'
  | .ok ts=>(∀t∈ts,La t)∧∃v,e=.returned (.tuple #[v,.int .i64 0])∧Own w w' 324 1 v ts.length (bn (ts.map mkS))
theorem Js:(Tryz.prog.info? 324).map (fun i=>(i.zero,i.size,i.bytes))=some (some (.agg #[.string ⟨#[]⟩]),1,16):=by kernel_rfl
theorem FL (s:ByteArray) (k:Nat) (hk:k < s.size) (hb:s[k].toNat=91):jc s.data.toList k=match eZ (s.data.toList.drop (k+1)) with
  | none=>-1
  | some n=>((k+1+n:Nat):Int):=by
 rw [sN s k hk (by omega)]
 rfl
theorem ok_one (b:UInt8):La [b]:=⟨.inl rfl,by simp⟩
theorem Pf (b:UInt8) (l:List UInt8) (n:Nat) (hn:n < l.length) (hl:l.length≤511) (hb:¬fI l n):La (b::l.take (n+1)):=by
 have h0:n≠0:=fun e=>hb (.inl e)
 refine⟨.inr ?_,?_⟩
 ·simp;omega
 simp;omega
theorem Dp {ts:List (List UInt8)} {t:List UInt8} (h:∀u∈ts,La u) (ht:La t):∀u∈ts++[t],La u:=by
 intro u hu
 rcases List.mem_append.1 hu with hu | hu
 ·exact h u hu
 simp at hu;subst hu;exact ht
theorem Jt (s:ByteArray) (k n:Nat) (hk:k < s.size):s.extract k (k+1+n+1)=mkS (s[k]::(s.data.toList.drop (k+1)).take (n+1)):=by
 rw [bQ,drop_cons s k hk,show k+1+n+1 - k=(n+1)+1 by omega,List.take_succ_cons]
theorem LP (s:ByteArray) (k:Nat) (hk:k < s.size):s.extract k (k+1)=mkS [s[k]]:=by
 rw [bQ,drop_cons s k hk,show k+1 - k=0+1 by omega,List.take_succ_cons,List.take_zero]
theorem uE (ts:List (List UInt8)) (t:List UInt8):bn (ts.map mkS)++[.string (mkS t)]=bn ((ts++[t]).map mkS):=by
 rw [List.map_append,List.map_cons,List.map_nil,←fQ]
theorem Pg {w w':World} {v:Value} {n:Nat} {xs:List Value} (h:Own w w' 324 1 v n xs):∃A c,v=.slice A n c:=by
 rcases h.own.2 with ⟨rfl,hn⟩ | ⟨g,cap,cur,rfl,_⟩
 ·rw [hn];exact⟨none,0,rfl⟩
 exact⟨_,_,rfl⟩
theorem FM (s:ByteArray) (w:World) :
  Calls Tryz.prog 235 #[.string s] w (uW s.data.toList w):=by
 obtain⟨i0,hi,hz0,hz1,hz2⟩:=info_parts Js
 by_cases h0:s.size=0
 ·have hse:s=⟨#[]⟩:=by apply ByteArray.ext;exact Array.eq_empty_of_size_eq_zero h0
  subst hse
  go_enter Tryz.func235,Tryz.ntmps235
  go_wp2_with fail
  refine bodyPost_ret (v:=.tuple #[.slice none 0 0,.int .i64 40]) (by simp [results,Tryz.results235,go_sem];try rfl) rfl ?_
  exact⟨rfl,Below.refl _ _⟩
 have e0:((s.size:Int)==0)=false:=by rw [beq_eq_false_iff_ne];omega
 by_cases h1:512 < s.size
 ·have hgt:decide ((512:Int) < (s.size:Int))=true:=by rw [decide_eq_true_iff];omega
  have HR:Hid (gT s.data.toList=.error 40):=hid (by unfold gT;rw [if_pos (.inr (by rw [ak];omega))])
  go_enter Tryz.func235,Tryz.ntmps235
  go_wp2_with fail
  refine bodyPost_ret (v:=.tuple #[.slice none 0 0,.int .i64 40]) (by simp [results,Tryz.results235,go_sem];try rfl) rfl ?_
  unfold uW;rw [HR.o]
  exact⟨rfl,Below.refl _ _⟩
 replace h1:s.size≤512:=by omega
 have hgt:decide ((512:Int) < (s.size:Int))=false:=by rw [decide_eq_false_iff_not];omega
 by_cases h2:s.data.toList=[46]
 ·have hse:s=⟨#[46]⟩:=by
   obtain⟨⟨l⟩⟩:=s
   have:l=[46]:=h2
   rw [this]
  subst hse
  go_enter Tryz.func235,Tryz.ntmps235
  go_wp2_with fail
  refine bodyPost_ret (v:=.tuple #[.slice none 0 0,.int .i64 0]) (by simp [results,Tryz.results235,go_sem];try rfl) rfl ?_
  exact⟨(fun t ht=>by cases ht),_,rfl,Own.fP _ _ _⟩
 have hnd:(s.toList==[46])=false:=by rw [beq_eq_false_iff_ne,Lib.toList_data];exact h2
 have R3:=hid (Dq s h0 h1 h2);clear h2 h0
 go_enter Tryz.func235,Tryz.ntmps235
 go_wp2_with fail
 go_loopw [4,5] (fun v x wr=>∃(k:Nat) (ts:List (List UInt8)),k≤s.size∧x=.int .i64 k∧Hid (Ue s.data.toList k ts)∧Hid (∀t∈ts,La t)∧ts.length≤k∧Hid (Own w wr 324 1 v ts.length (bn (ts.map mkS)))) (fun _ x _=>s.size - (intOf x).toNat)
 case atStart =>
  exact⟨0,[],Nat.zero_le _,rfl,⟨by simp [iJ];cases dR s.data.toList<;>rfl,Nat.le_refl _⟩,(fun t ht=>by cases ht),Nat.le_refl _,Own.fP _ _ _⟩
 case round =>
 obtain⟨k,ts,hk,rfl,HS,HT,hlen,HO⟩:=hrel
 by_cases hlt:k < s.size
 ·have hdr:=drop_cons s k hlt
  have Q6:=hid (show iJ ts (dR (s[k]::s.data.toList.drop (k+1)))=dR s.data.toList by rw [←hdr];exact HS.o.1)
  clear hdr
  by_cases hb:s[k].toNat=91
  ·have e1:((s[k].toNat:Int)==91)=true:=by rw [hb];rfl
   have hcb:=FL s k hlt hb
   cases hc:eZ (s.data.toList.drop (k+1)) with
   | none =>
    have bF:Hid (gT s.data.toList=.error 41):=hid (by rw [R3.o,←Q6.o,uX _ _ hb hc];rfl)
    rw [hc] at hcb
    have oF:Hid (∀W,Calls Tryz.prog 243 #[.string s,.int .i64 (k:Int)] W fun e w'=>e=.returned (.int .i64 (-1))∧w'=W):=hid (fun W=>by
     have:=xA s k W hk (by omega)
     rwa [hcb] at this)
    clear hcb hc hb
    go_wp2_with (go_at_call 243;refine (oF.o _).mono ?_;rintro e w2 ⟨rfl,rfl⟩)
    refine bodyPost_ret (v:=.tuple #[.slice none 0 0,.int .i64 41]) (by simp [results,Tryz.results235,go_sem];try rfl) rfl ?_
    unfold uW;rw [bF.o]
    exact⟨rfl,HO.o.below⟩
   | some n =>
    have hn:=mP hc
    have hn2:k+1+n < s.size:=by rw [List.length_drop,ak] at hn;omega
    rw [hc] at hcb;obtain⟨j,hj⟩:∃j,k+1+n=j:=⟨_,rfl⟩;dsimp only at hcb;rw [hj] at hcb hn2
    have oF:Hid (∀W,Calls Tryz.prog 243 #[.string s,.int .i64 (k:Int)] W fun e w'=>e=.returned (.int .i64 (j:Int))∧w'=W):=hid (fun W=>by
     have:=xA s k W hk (by omega)
     rwa [hcb] at this)
    have hnn:decide ((j:Int) < 0)=false:=by rw [decide_eq_false_iff_not];omega
    have hkj:k < j:=by omega
    have Dr:s[k]=91:=by rw [←UInt8.toNat_inj];exact hb
    have zX:fI (s.data.toList.drop (k+1)) n→Hid (gT s.data.toList=.error 41):=fun hbi=>hid (by rw [R3.o,←Q6.o,xB _ _ n hb hc hbi];rfl)
    have U1:s.extract k (j+1)=mkS (91::(s.data.toList.drop (k+1)).take (n+1)):=by
     rw [←hj,←Dr];exact Jt s k n hlt
    have Uf:=hid U1
    have Ug:¬fI (s.data.toList.drop (k+1)) n→Hid (Ue s.data.toList (j+1) (ts++[91::(s.data.toList.drop (k+1)).take (n+1)])):=fun hbi=>hid ⟨by
     have h3:=Q6.o
     rw [uY _ _ n hb hc hbi,nG,List.drop_drop,Dr,show k+1+(n+1)=j+1 by omega] at h3
     exact h3,by have:=HS.o.2;simp;omega⟩
    have Uh:¬fI (s.data.toList.drop (k+1)) n→Hid (∀u∈ts++[91::(s.data.toList.drop (k+1)).take (n+1)],La u):=fun hbi=>hid (Dp HT.o (Pf 91 _ n hn (by rw [List.length_drop,ak];omega) hbi))
    clear hcb U1 Dr hb
    by_cases hn0:n=0
    ·have bF:=zX (.inl hn0)
     have e3:((j:Int)==(k:Int)+1)=true:=by rw [beq_iff_eq];omega
     clear zX Ug Uh hc hn hj hn0 Uf
     go_wp2_with (go_at_call 243;refine (oF.o _).mono ?_;rintro e w2 ⟨rfl,rfl⟩)
     refine bodyPost_ret (v:=.tuple #[.slice none 0 0,.int .i64 41]) (by simp [results,Tryz.results235,go_sem];try rfl) rfl ?_
     unfold uW;rw [bF.o]
     exact⟨rfl,HO.o.below⟩
    have e3:((j:Int)==(k:Int)+1)=false:=by rw [beq_eq_false_iff_ne];omega
    by_cases hn1:n=1
    ·have e4:((j:Int)==(k:Int)+2)=true:=by rw [beq_iff_eq];omega
     have hk1:k+1 < s.size:=by omega
     have hgd:((s.data.toList.drop (k+1)).getD 0 0)=s[k+1]:=by
      rw [drop_cons s (k+1) hk1];rfl
     by_cases Ju:s[k+1].toNat=94
     ·have bF:=zX (.inr ⟨hn1,by rw [hgd];exact Ju⟩)
      have e5:((s[k+1].toNat:Int)==94)=true:=by rw [Ju];rfl
      clear zX Ug Uh hc hn hj hn0 Uf hgd Ju hn1
      go_wp2_with (go_at_call 243;refine (oF.o _).mono ?_;rintro e w2 ⟨rfl,rfl⟩)
      refine bodyPost_ret (v:=.tuple #[.slice none 0 0,.int .i64 41]) (by simp [results,Tryz.results235,go_sem];try rfl) rfl ?_
      unfold uW;rw [bF.o]
      exact⟨rfl,HO.o.below⟩
     have hnb:¬fI (s.data.toList.drop (k+1)) n:=by
      rintro (h | ⟨_,h⟩)
      ·exact hn0 h
      rw [hgd] at h;exact Ju h
     have HS2:=Ug hnb;have HT2:=Uh hnb
     have e5:((s[k+1].toNat:Int)==94)=false:=by rw [beq_eq_false_iff_ne];omega
     clear zX Ug Uh hc hn hj hn0 hgd Ju hn1 hnb
     go_wp2_with (first | (go_at_call 243;refine (oF.o _).mono ?_;rintro e w2 ⟨rfl,rfl⟩) | (at_builtin;refine aB rfl _ _ 317 rfl w.heap.size 324 i0 (.agg #[.string ⟨#[]⟩]) 16 Tryz.underlying317 hi hz0 hz1 hz2 rfl _ _ _ rfl HO.o.own _ rfl rfl (by unfold maxLen;omega) (by omega) HO.o.size ?_;intro g cap w3 hown hg;have lK:=hid (HO.o.push hown hg);clear hown hg))
     go_roundw
     case rel =>
      refine⟨j+1,ts++[91::(s.data.toList.drop (k+1)).take (n+1)],by omega,by go_num,HS2,HT2,by simp;omega,?_⟩
      have:=lK.o
      rw [Uf.o,uE] at this;rw [List.length_append]
      exact this
     case measure=>simp [intOf];omega
    have e4:((j:Int)==(k:Int)+2)=false:=by rw [beq_eq_false_iff_ne];omega
    have hnb:¬fI (s.data.toList.drop (k+1)) n:=by
     rintro (h | ⟨h,_⟩)
     ·exact hn0 h
     exact hn1 h
    have HS2:=Ug hnb;have HT2:=Uh hnb;clear zX Ug Uh hc hn hj hn0 hn1 hnb
    go_wp2_with (first | (go_at_call 243;refine (oF.o _).mono ?_;rintro e w2 ⟨rfl,rfl⟩) | (at_builtin;refine aB rfl _ _ 317 rfl w.heap.size 324 i0 (.agg #[.string ⟨#[]⟩]) 16 Tryz.underlying317 hi hz0 hz1 hz2 rfl _ _ _ rfl HO.o.own _ rfl rfl (by unfold maxLen;omega) (by omega) HO.o.size ?_;intro g cap w3 hown hg;have lK:=hid (HO.o.push hown hg);clear hown hg))
    go_roundw
    case rel =>
     refine⟨j+1,ts++[91::(s.data.toList.drop (k+1)).take (n+1)],by omega,by go_num,HS2,HT2,by simp;omega,?_⟩
     have:=lK.o
     rw [Uf.o,uE] at this;rw [List.length_append]
     exact this
    case measure=>simp [intOf];omega
  have e1:((s[k].toNat:Int)==91)=false:=by rw [beq_eq_false_iff_ne];omega
  have HS2:Hid (Ue s.data.toList (k+1) (ts++[[s[k]]])):=hid ⟨by have h3:=Q6.o;rw [xC _ _ hb,nG] at h3;exact h3,by have:=HS.o.2;simp;omega⟩
  have Uf:=hid (LP s k hlt);have HT2:=hid (Dp HT.o (ok_one s[k]));clear hb
  go_wp2_with (at_builtin;refine aB rfl _ _ 317 rfl w.heap.size 324 i0 (.agg #[.string ⟨#[]⟩]) 16 Tryz.underlying317 hi hz0 hz1 hz2 rfl _ _ _ rfl HO.o.own _ rfl rfl (by unfold maxLen;omega) (by omega) HO.o.size ?_;intro g cap w3 hown hg;have lK:=hid (HO.o.push hown hg);clear hown hg)
  go_roundw
  case rel =>
   refine⟨k+1,ts++[[s[k]]],by omega,by go_num,HS2,HT2,by simp;omega,?_⟩
   have:=lK.o
   rw [Uf.o,uE] at this;rw [List.length_append]
   exact this
  case measure=>simp [intOf];omega
 obtain rfl:k=s.size:=by omega
 have hit:dR s.data.toList=.ok ts:=by rw [←HS.o.1,iC,xD];simp [iJ]
 have hcr:=R3.o;rw [hit] at hcr;dsimp only at hcr;obtain⟨VA,vc,rfl⟩:=Pg HO.o
 by_cases h16:16 < ts.length
 ·rw [if_pos h16] at hcr
  have bF:=hid hcr
  have LQ:decide ((16:Int) < (ts.length:Int))=true:=by rw [decide_eq_true_iff];omega
  clear hcr hit h16
  go_wp2_with fail
  refine bodyPost_ret (v:=.tuple #[.slice none 0 0,.int .i64 42]) (by simp [results,Tryz.results235,go_sem];try rfl) rfl ?_
  unfold uW;rw [bF.o]
  exact⟨rfl,HO.o.below⟩
 rw [if_neg h16] at hcr;have bF:=hid hcr
 have LQ:decide ((16:Int) < (ts.length:Int))=false:=by rw [decide_eq_false_iff_not];omega
 clear hcr hit h16
 go_wp2_with fail
 refine bodyPost_ret (v:=.tuple #[.slice VA ts.length vc,.int .i64 0]) (by simp [results,Tryz.results235,go_sem];try rfl) rfl ?_
 unfold uW;rw [bF.o]
 exact⟨HT.o,_,rfl,HO.o⟩
theorem uZ (t:List UInt8) (want:Bool) (p:UInt8→Bool) (w:World) (ht:La t) (hp:∀b,p b=(cO t b==want)) :
  Calls Tryz.prog 245 #[.agg #[.string (mkS t)],.bool want] w fun e w'=>∃v,e=.returned v∧Own w w' 5 1 v (aS.filter p).length (byteCells (aS.filter p)):=by
 obtain⟨i0,hi,hz0,hz1,hz2⟩:=info_parts fE
 have HP:=hid hp;have HT:=hid ht;clear hp ht
 have hadm:Hid (∀W b,Calls Tryz.prog 246 #[.agg #[.string (mkS t)],.int .u8 (b.toNat:Int)] W fun e w'=>e=.returned (.bool (cO t b))∧Below W.heap.size W w'):=hid (fun W b=>zW t b W HT.o)
 generalize mkS t=s at hadm ⊢
 go_enter Tryz.func245,Tryz.ntmps245
 go_wp2_with fail
 obtain⟨w1,hw1⟩:∃W,w.alloc (.cells #[.string s] 324)=W:=⟨_,rfl⟩
 have HB1:Hid (Below w.heap.size w w1):=hid (by rw [←hw1];exact (Below.refl _ _).alloc (Nat.le_refl _) _)
 have HX:Hid (w1.heap[w.heap.size]?=some (.cells #[.string s] 324 (0,0))):=hid (by rw [←hw1];exact heap_alloc_new w _)
 have HSZ:Hid (w1.heap.size=w.heap.size+1):=hid (by rw [←hw1];simp)
 rw [hw1];have hsz1:w.heap.size < w1.heap.size:=block_lt HX.o;clear hw1
 go_loopw [5,6,7] (fun v i _ wr=>∃k:Nat,k≤256∧i=.int .i64 k∧Hid (Own w1 wr 5 1 v ((aS.take k).filter p).length (byteCells ((aS.take k).filter p)))) (fun _ i _ _=>256 - (intOf i).toNat)
 case atStart =>
  refine⟨0,Nat.zero_le _,rfl,?_⟩
  have h:=Own.empty w1 5 1;rw [HSZ.o] at h
  exact h
 case round =>
 obtain⟨k,hk,rfl,HO⟩:=hrel
 have Ph:=HO.o.size
 by_cases hlt:k < 256
 ·have hbn:(UInt8.ofNat k).toNat=k:=by simp;omega
  have HH:Hid (∀W,Calls Tryz.prog 246 #[.agg #[.string s],.int .u8 (k:Int)] W fun e w'=>e=.returned (.bool (cO t (UInt8.ofNat k)))∧Below W.heap.size W w'):=hid (fun W=>by
   have:=hadm.out W (UInt8.ofNat k)
   rwa [hbn] at this)
  have hx:=(HO.o.below.block w.heap.size hsz1).trans HX.o
  have c0:wr.cell? ⟨w.heap.size,0,none⟩=some (.string s):=by rw [cell_of_heap hx];rfl
  have hwr:IntKind.u8.wrap (k:Int)=(k:Int):=by rw [IntKind.wrap_u8];omega
  have hwm:(k:Int)%256=(k:Int):=by omega
  have HT:=hid (u_ p k hlt);have vg:=hid (filter_le p k);have hpk:=HP.o (UInt8.ofNat k);clear hx hbn
  cases hq:p (UInt8.ofNat k)
  ·rw [hq] at hpk HT
   rw [if_neg (by simp),List.append_nil] at HT
   clear hq
   cases hwn:want
   all_goals
    have ha:cO t (UInt8.ofNat k)=!want:=by rw [hwn] at hpk ⊢;revert hpk;cases cO t (UInt8.ofNat k)<;>simp
    rw [ha,hwn] at HH;clear ha hpk
    subst hwn
    go_wp2_with (go_at_call 246;refine (HH.o _).mono ?_;rintro e w2 ⟨rfl,hb⟩;have fG:=hid (HO.o.call hb);clear hb)
    go_roundw
    case rel=>exact⟨k+1,by omega,by go_num,by rw [HT.o];exact fG⟩
    case measure=>simp [intOf];omega
  rw [hq] at hpk HT;rw [if_pos rfl] at HT;clear hq
  cases hwn:want
  all_goals
   have ha:cO t (UInt8.ofNat k)=want:=by rw [hwn] at hpk ⊢;revert hpk;cases cO t (UInt8.ofNat k)<;>simp
   rw [ha,hwn] at HH;clear ha hpk
   subst hwn
   go_wp2_with (first | (go_at_call 246;refine (HH.o _).mono ?_;rintro e w2 ⟨rfl,hb⟩;have fG:=hid (HO.o.call hb);clear hb) | (at_builtin;refine aB rfl _ _ 213 rfl w1.heap.size 5 i0 (.int .u8 0) 1 Tryz.underlying213 hi hz0 hz1 hz2 rfl _ _ _ rfl fG.o.own _ rfl rfl (by have:=vg.o;unfold maxLen;omega) (by have:=vg.o;omega) fG.o.size ?_;intro g cap w3 hown hg;have lK:=hid (fG.o.push hown hg);clear hown hg))
   go_roundw
   case rel =>
    refine⟨k+1,by omega,by go_num,?_⟩
    have e:(UInt8.ofNat k).toNat=k:=by simp;omega
    have:=lK.o
    rw [HT.o,←eD,List.length_append,e]
    exact this
   case measure=>simp [intOf];omega
 obtain rfl:k=256:=by omega
 have HT:Hid (aS.take 256=aS):=hid (List.take_of_length_le (by rw [jO];exact Nat.le_refl _))
 rw [HT.o] at HO
 go_wp2_with fail
 go_ret
 exact⟨_,rfl,HO.o.from_ HB1.o⟩
end Go.Proofs.YtfkblpjfknfgbaaGreatDoor
