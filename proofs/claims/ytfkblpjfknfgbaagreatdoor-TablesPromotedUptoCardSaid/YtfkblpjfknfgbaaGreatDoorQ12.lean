import Derived.BigQuiet
import Derived.Test.YtfkblpjfknfgbaaGreatDoorRows
import Derived.Test.YtfkblpjfknfgbaaGreatDoorQ11
import Derived.Test.YtfkblpjfknfgbaaGreatDoorQ1
import Derived.Test.YtfkblpjfknfgbaaGreatDoorQ9
import Derived.Test.YtfkblpjfknfgbaaGreatDoorQ4
set_option linter.unusedVariables false
set_option linter.unusedSimpArgs false
set_option maxHeartbeats 8000000
set_option maxRecDepth 100000
open Go.Maps Go.RowKit
open Go.Lib (hid cell_of_heap frozen_of_heap byteCells)
open Go.World (block_lt_of_cell?)
namespace Go.Proofs.YtfkblpjfknfgbaaGreatDoor
theorem vv:∀(rs:List nT) (k:Nat) (hk:k < rs.length),(bq rs)[k*2]?=some (.int .i64 rs[k].1)∧(bq rs)[k*2+1]?=some rs[k].2.1
 | [],_,hk=>absurd hk (Nat.not_lt_zero _)
 | c::r,0,_=>⟨rfl,rfl⟩
 | c::r,k+1,hk=>by
   have:=vv r k (by simpa using hk)
   have e:bq (c::r)=[.int .i64 c.1,c.2.1]++bq r:=by simp [bq]
   have key:∀j,(bq (c::r))[(k+1)*2+j]?=(bq r)[k*2+j]?:=fun j=>by
    rw [e,List.getElem?_append_right (by simp;omega)]
    congr 1
    simp;omega
   exact⟨(key 0).trans this.1,(key 1).trans this.2⟩
theorem FW {w0:World} {v:Value} {all:List Row} (h:gB w0 v all):∃A cap,v=.slice A all.length cap∧all.length≤cap:=by
 obtain⟨rs,ha,⟨-,A,cap,hv,hc,-⟩,-⟩:=h
 have hl:rs.length=all.length:=by rw [←ha];simp [dP]
 exact⟨A,cap,by rw [←hl];exact hv,by rw [←hl];exact hc⟩
theorem Iu {w0:World} {v:Value} {all:List Row} {a:Nat} {l:Int} {row:List ByteArray} {rest:List Row} (h:gB w0 v all) (hd:all.drop a=(l,row)::rest) :
  ∃g o cap fv,v=.slice (some ⟨g,o,none⟩) all.length cap∧a < all.length∧all.length≤cap∧w0.cell? ⟨g,o+a*2,none⟩=some (.int .i64 l)∧w0.cell? ⟨g,o+a*2+1,none⟩=some fv∧Rd w0 1 fv row.length (bn row):=by
 obtain⟨rs,ha,hr,hd2⟩:=h
 have hl:rs.length=all.length:=by rw [←ha];simp [dP]
 have hlt:a < all.length:=by
  rcases Nat.lt_or_ge a all.length with h | h
  ·exact h
  rw [List.drop_eq_nil_of_le h] at hd;cases hd
 have hx:all[a]=(l,row):=by
  rw [List.drop_eq_getElem_cons hlt] at hd
  injection hd
 have hlr:a < rs.length:=by omega
 have hxr:((rs[a]).1,(rs[a]).2.2)=(l,row):=by
  rw [←hx]
  subst ha
  simp [dP]
 injection hxr with h1 h2
 obtain⟨-,A,cap,rfl,hcap,hc⟩:=hr
 obtain⟨g,o,rfl,hc2⟩:=hc.resolve_left (by omega)
 obtain⟨q0,q1⟩:=vv rs a hlr;have e0:=hc2 _ _ q0;have e1:=hc2 _ _ q1;rw [h1] at e0;rw [←Nat.add_assoc] at e1
 refine⟨g,o,cap,_,by rw [←hl],hlt,by omega,e0,e1,?_⟩
 have:=(hd2 rs[a] (List.getElem_mem hlr)).rd
 rwa [h2] at this
theorem Dh.at_ {all:List Row} {a:Nat} {S:Sx} {x:Row} {rest:List Row} (h:Dh all a S) (hr:S.rows=x::rest):all.drop a=x::rest:=by rw [h.2,hr]
theorem Dh.next {all:List Row} {a:Nat} {S:Sx} {l:Int} {x:Row} {rest:List Row} (h:Dh all a S) (hr:S.rows=x::rest):Dh all (a+1) { S with rows:=rest,line:=l }:=by
 obtain⟨h1,h2⟩:=h
 rw [hr] at h1 h2
 refine⟨by show a+1+rest.length=_;simp at h1;omega,?_⟩
 show all.drop (a+1)=rest
 rw [←List.drop_drop,h2];rfl
def gH (w0:World) (L:List Nat) (rr rf:Nat) (E:Int) (all:List Row) (kh k:Nat) (R:RX) (w:World) (e:Ending) (w':World):Prop:=∃L',aZ L w L' w'∧match R with
 | .ok S=>e=.returned (.int .i64 0)∧RQ w0 w' L' rr rf E all kh k S
 | .error p=>p.2≠0∧e=.returned (.int .i64 p.2)∧w'.cell? ⟨rr,5,none⟩=some (.int .i64 p.1)
theorem gH.bad {w0:World} {L L':List Nat} {rr rf:Nat} {E:Int} {all:List Row} {kh k:Nat} {R:RX} {l c:Int} {w w':World} (hR:R=.error (l,c)) (hc:c≠0) (hg:aZ L w L' w') (hl:w'.cell? ⟨rr,5,none⟩=some (.int .i64 l)):gH w0 L rr rf E all kh k R w (.returned (.int .i64 c)) w':=by
 subst hR;exact⟨L',hg,hc,rfl,hl⟩
def Ul (head row:List ByteArray):Prop:=fieldAt row 0=fieldAt head 0∧(head.length=4→2≤row.length∧fieldAt row 1=fieldAt head 1)
theorem uG (w0:World) (L:List Nat) (rr rf:Nat) (E:Int) (all:List Row) (kh k:Nat) (S:Sx) (hv:Value) (head:List ByteArray) (n:Nat) (ok:List ByteArray→Bool) (inn:Fl→Int→List ByteArray→Except Int Fl) (J:Fl→Prop) (w:World)
  (h:RQ w0 w L rr rf E all kh k S) (hh:b_ w0 hv head) (Xi:head.length=2∨head.length=4) (hJ0:J S.fl) (hJ:∀F l row F',J F→inn F l row=.ok F'→J F') (hok:∀row,row≠[]→(ok row=true↔Ul head row))
  (hIn:∀(L':List Nat) (S':Sx) (fv:Value) (row:List ByteArray) (w':World),J S'.fl→RQ w0 w' L' rr rf E all (kh+1) (k+1) S'→b_ w0 fv row→ok row=true→0 < row.length→Calls Tryz.prog 180 #[.pointer (some ⟨rr,0,none⟩),fv] w' (zu w0 L' rr rf E all kh k S' (inn S'.fl S'.line row) w'))
  (hn:n≤65536) (hall:all.length≤65536):Calls Tryz.prog 141 #[.pointer (some ⟨rr,0,none⟩),hv,.int .i64 n] w (gH w0 L rr rf E all kh k (aO E ok inn n S) w):=by
 obtain⟨R,hR⟩:∃R,aO E ok inn n S=R:=⟨_,rfl⟩
 rw [hR];have HR:=hid hR;have HQ:=hid h;have HJ0:=hid hJ0;have HJ:=hid hJ;have oG:=hid hIn;have jr:=hid hok
 obtain⟨hg,ho,hcp,rfl,Vb,hcells⟩:=hh.cells (by omega)
 have D0:=hid (hcells 0 (by omega))
 have D1:=hid (hcells 1 (by omega))
 have Q_:head.length≤65536:=hh.len;obtain⟨Yi,hhn⟩:∃x,head.length=x:=⟨_,rfl⟩;rw [hhn] at Vb Q_ Xi ⊢;have HN:=hid hhn;clear hR h hJ0 hJ hIn hok hcells hh hhn
 go_enter Tryz.func141,Tryz.ntmps141
 go_wp2_with fail
 go_loopw [7,8,9] (fun x _ _ wr=>∃(m:Nat) (S':Sx) (L':List Nat),m≤n∧x=.int .i64 m∧Hid (RQ w0 wr L' rr rf E all kh k S')∧Hid (J S'.fl)∧Hid (aZ L w L' wr)∧Hid (aO E ok inn (n - m) S'=R)) (fun x _ _ _=>n - (intOf x).toNat)
 case atStart=>exact⟨0,S,L,Nat.zero_le _,rfl,HQ,HJ0,hid (aZ.refl _ _),HR⟩
 case round =>
 obtain⟨m,S',L',hm,rfl,Vd,Yo,xJ,Ai⟩:=hrel
 by_cases hlt:m < n
 ·have hnm:n - m=(n - (m+1))+1:=by omega
  obtain⟨hbd,v,a,hpa,hqm⟩:=Vd.o;have c1:=hqm.r1;have c2:=hqm.r2;have c5:=hqm.r5;have z5:=hqm.rz 5;have z2:=hqm.rz 2
  rcases hrows:S'.rows with _ | ⟨⟨l,dM⟩,rest⟩
  ·have bF:Hid (R=.error (E,116)):=hid (by rw [←Ai.o,hnm,aO,hrows])
   obtain⟨Ar,cr,Po,hcr⟩:=FW hqm.rows
   have hal:a=all.length:=by have:=hpa.1;rw [hrows] at this;simpa using this
   subst hal
   rw [Po] at c1;have c3:=hqm.r3;have HM:=hid hqm;clear hnm hrows hbd hpa hqm Po hcr c5 z5
   go_wp2_with fail
   go_quiet (fail)
   have Ra:Hid (Below wr.heap.size wr (wr.drewN nq)):=hid (below_drewN (Below.refl _ _) nq)
   generalize wr.drewN nq=wq at Ra ⊢
   clear c1 c2 c3;have Iw:=hid (HM.o.below Ra.o);have c3:=Iw.o.r3;have c5:=Iw.o.r5;have z5:=Iw.o.rz 5
   go_wp2_with fail
   go_ret
   exact .bad bF.o (by decide) ((xJ.o.trans (aZ.of_below Ra.o)).trans ⟨bC HM.o.CK,fun _ h=>.inl h⟩) (Iw.o.lU E).r5
  have qM:Hid (R=if ok dM=true then (match inn S'.fl l dM with
   | .error c=>.error (l,c)
   | .ok F=>aO E ok inn (n - (m+1)) { fl:=F,rows:=rest,heads:=S'.heads,line:=l }) else .error (l,116)):=hid (by rw [←Ai.o,hnm,aO,hrows];rfl)
  obtain⟨gr,OM,cr,fv,Po,halt,hcr,e0,e1,hrd⟩:=Iu hqm.rows (hpa.at_ hrows);have Aj:=hid (mU hbd hrows hrd)
  have hne:dM≠[]:=(hbd.row (l,dM) (by rw [hrows];simp)).1
  have hpos:0 < dM.length:=List.length_pos_iff.2 hne;have Yp:dM.length≤65536:=Aj.o.len;have Um:=jr.o dM hne;have FD:=hid (hbd.take hrows);have Yq:=hid (hpa.next (l:=l) hrows);have HM:=hid hqm;rw [Po] at c1;obtain⟨fg,fo,fc,rfl,hfc,xK⟩:=Aj.o.cells hpos;have d0:=(hqm.base.cell (block_lt_of_cell? w0 _ e0)).trans e0;have d1:=(hqm.base.cell (block_lt_of_cell? w0 _ e1)).trans e1
  have hai:(a:Int) < (all.length:Int):=by omega
  have ha0:(0:Int)≤(a:Int):=by omega
  have Un:IntKind.i64.wrap ((a:Int)+1)=((a+1:Nat):Int):=by rw [IntKind.wrap_i64];omega
  have Uo:=hid xK
  have HSQ:Hid (∀W S1,QM w0 W L' rr rf v E all a S1→W.cell? ⟨rr,1,none⟩=some (.slice (some ⟨gr,OM,none⟩) all.length cr)∧W.cell? ⟨rr,2,none⟩=some (.int .i64 (a:Int))∧W.cell? ⟨gr,OM+a*2,none⟩=some (.int .i64 l)∧W.cell? ⟨gr,OM+a*2+1,none⟩=some (.slice (some ⟨fg,fo,none⟩) dM.length fc)):=hid (fun W S1 hW=>⟨by rw [hW.r1,Po],hW.r2,(hW.base.cell (block_lt_of_cell? w0 _ e0)).trans e0,(hW.base.cell (block_lt_of_cell? w0 _ e1)).trans e1⟩)
  clear hnm hrows hbd hpa hqm Po hrd hne xK e0 e1
  have Pp:Hid (∀W,Below wr.heap.size wr W→W.cell? ⟨rr,1,none⟩=some (.slice (some ⟨gr,OM,none⟩) all.length cr)∧W.cell? ⟨rr,2,none⟩=some (.int .i64 (a:Int))∧W.cell? ⟨gr,OM+a*2,none⟩=some (.int .i64 l)∧W.cell? ⟨gr,OM+a*2+1,none⟩=some (.slice (some ⟨fg,fo,none⟩) dM.length fc)):=hid (fun W hW=>⟨(hW.cell (block_lt_of_cell? _ _ c1)).trans c1,(hW.cell (block_lt_of_cell? _ _ c2)).trans c2,(hW.cell (block_lt_of_cell? _ _ d0)).trans d0,(hW.cell (block_lt_of_cell? _ _ d1)).trans d1⟩)
  go_wp2_with fail
  go_quiet (fail)
  go_wp2_with fail
  have Ra:Hid (Below wr.heap.size wr (wr.drewN nq)):=hid (below_drewN (Below.refl _ _) nq)
  generalize wr.drewN nq=wq at Ra ⊢
  clear c1 c2 d0 d1;obtain⟨c1,c2,d0,d1⟩:=Pp.o _ Ra.o
  go_quiet (fail)
  go_wp2_with fail
  have Ak:Hid (Below wr.heap.size wr (wq.drewN nq)):=hid (below_drewN Ra.o nq)
  generalize wq.drewN nq=wx at Ak ⊢
  clear c1 c2 d0 d1 c5 z5 z2 Ra;have Rb:=hid (HM.o.below Ak.o);have c5:=Rb.o.r5;have z5:=Rb.o.rz 5
  refine wp_region_held_drew (S:=fun W=>W.cell? ⟨rr,1,none⟩=some (.slice (some ⟨gr,OM,none⟩) all.length cr)∧W.cell? ⟨rr,2,none⟩=some (.int .i64 (a:Int))∧W.cell? ⟨gr,OM+a*2,none⟩=some (.int .i64 l)∧W.cell? ⟨gr,OM+a*2+1,none⟩=some (.slice (some ⟨fg,fo,none⟩) dM.length fc)) (by kernel_rfl) ?_ (fun hHeld=>?_)
  ·exact Pp.o _ (Ak.o.trans (ah.mono Ak.o.size))
  refine aA 0 (some 43) hHeld ?_;try simp only [aj]
  refine aA 1 (some 44) hHeld ?_;try simp only [aj]
  refine aA 2 (some 45) hHeld ?_;try simp only [aj]
  refine aA 3 (some 46) hHeld ?_;try simp only [aj]
  refine aA 4 (some 47) hHeld ?_;try simp only [aj]
  refine aA 5 (some 48) hHeld ?_;try simp only [aj]
  refine aA 6 (some 49) hHeld ?_;try simp only [aj]
  refine aA 7 (some 50) hHeld ?_;try simp only [aj]
  refine aA 8 (some 51) hHeld ?_;try simp only [aj]
  refine aA 9 (some 52) hHeld ?_;try simp only [aj]
  refine aA 10 (some 53) hHeld ?_;try simp only [aj]
  refine aA 11 (some 54) hHeld ?_;try simp only [aj]
  refine aA 12 (some 55) hHeld ?_;try simp only [aj]
  refine aA 13 (some 56) hHeld ?_;try simp only [aj]
  refine aP 14 (fun K hK=>?_)
  go_simp
  refine hK.out _ _ ?_ (fun hHeld=>?_)
  ·exact HSQ.o _ _ ((Rb.o.lU l).below ah)
  clear hK K
  refine wpAnyH_done (by kernel_rfl) ?_ _
  have Mf:=hid ((Rb.o.lU l).below ah)
  have Uq:Hid (aZ L w L' (wx.setCell ⟨rr,5,none⟩ (.int .i64 l)).drew):=hid (((xJ.o.trans (aZ.of_below Ak.o)).trans ⟨bC HM.o.CK,fun _ h=>.inl h⟩).trans (aZ.of_below ah))
  generalize (wx.setCell ⟨rr,5,none⟩ (.int .i64 l)).drew=wy at Mf Uq ⊢
  clear c5 z5 Rb Ak Pp;have c2:=Mf.o.r2;have z2:=Mf.o.rz 2;have uH:Hid (QM w0 (wy.setCell ⟨rr,2,none⟩ (.int .i64 ((a:Int)+1))) L' rr rf v E all (a+1) { S' with line:=l,rows:=rest }):=hid (Mf.o.setAt (a+1) rest)
  have Rc:Hid (aZ L w L' (wy.setCell ⟨rr,2,none⟩ (.int .i64 ((a:Int)+1)))):=hid (Uq.o.trans ⟨bC HM.o.CK,fun _ h=>.inl h⟩)
  go_upto_region 10 with fail
  generalize (wy.setCell ⟨rr,2,none⟩ (.int .i64 ((a:Int)+1)))=wz at uH Rc ⊢
  clear c2 z2 Mf Uq HSQ Un
  have Pe:Hid (∀j,j < dM.length→∀W,Below wz.heap.size wz W→W.cell? ⟨fg,fo+j,none⟩=some (.string (fieldAt dM j))):=hid (fun j hj W hb=>aD (Uo.o j hj) (uH.o.below hb).base)
  have f0:=Pe.o 0 hpos wz (Below.refl _ _);have g0:=aD D0.out uH.o.base;rw [Nat.add_zero] at f0 g0
  by_cases h0:fieldAt dM 0=fieldAt head 0
  ·by_cases hok2:Ul head dM
   ·have Sj:ok dM=true:=Um.2 hok2
    rw [h0] at f0
    have Ve:Hid (∀W,Below wz.heap.size wz W→Calls Tryz.prog 180 #[.pointer (some ⟨rr,0,none⟩),.slice (some ⟨fg,fo,none⟩) dM.length fc] W (zu w0 L' rr rf E all kh k { S' with line:=l,rows:=rest } (inn S'.fl l dM) W)):=hid (fun W hW=>oG.o L' { S' with line:=l,rows:=rest } _ dM W Yo.o ⟨FD.o,v,a+1,Yq.o,uH.o.below hW⟩ Aj.o Sj hpos)
    have JH:=qM.o;rw [if_pos Sj] at JH;obtain⟨I,hI⟩:∃I,inn S'.fl l dM=I:=⟨_,rfl⟩;have HIe:=hid hI;rw [hI] at JH Ve;clear hI Sj h0
    cases I with
    | error c =>
     have bF:=hid JH
     clear JH
     rcases Xi with rfl | rfl
     ·go_quiet (fail)
      go_wp2_with fail
      go_quiet (fail)
      go_upto_region 14 with fail
      go_wp2_with (go_at_call 180;refine (Ve.o _ (below_drewN (Below.refl _ _) _)).mono ?_;rintro e5 w5 ⟨L5,hg5,hc0,rfl,hl5⟩;have Sk:=hid hl5;have FX:=hid hc0;have FY:=hid ((Rc.o.trans (aZ.of_below (below_drewN (Below.refl _ _) _))).trans hg5);have he5:(c != 0)=true:=by { simpa using hc0 };clear hl5 hg5 hc0)
      go_ret
      exact .bad bF.o FX.o FY.o Sk.o
     obtain⟨hl2,h1⟩:=hok2.2 HN.o
     have f1:=Pe.o 1 (by omega) wz (Below.refl _ _)
     have g1:=aD D1.out uH.o.base;rw [h1] at f1
     have hd2:decide ((dM.length:Int) < 2)=false:=by rw [decide_eq_false_iff_not];omega
     go_quiet (fail)
     go_wp2_with fail
     go_quiet (fail)
     go_upto_region 14 with fail
     go_wp2_with (go_at_call 180;refine (Ve.o _ (below_drewN (Below.refl _ _) _)).mono ?_;rintro e5 w5 ⟨L5,hg5,hc0,rfl,hl5⟩;have Sk:=hid hl5;have FX:=hid hc0;have FY:=hid ((Rc.o.trans (aZ.of_below (below_drewN (Below.refl _ _) _))).trans hg5);have he5:(c != 0)=true:=by { simpa using hc0 };clear hl5 hg5 hc0)
     go_ret
     exact .bad bF.o FX.o FY.o Sk.o
    | ok F =>
     have bF:=hid JH
     clear JH
     rcases Xi with rfl | rfl
     ·go_quiet (fail)
      go_wp2_with fail
      go_quiet (fail)
      go_upto_region 14 with fail
      go_wp2_with (go_at_call 180;refine (Ve.o _ (below_drewN (Below.refl _ _) _)).mono ?_;rintro e5 w5 ⟨L5,hg5,rfl,Rf⟩;have Ur:=hid Rf;have FY:=hid ((Rc.o.trans (aZ.of_below (below_drewN (Below.refl _ _) _))).trans hg5);clear hg5 Rf)
      go_roundw
      case rel=>exact⟨m+1,_,L5,by omega,by go_num,Ur,hid (HJ.o _ _ _ _ Yo.o HIe.o),FY,hid bF.o.symm⟩
      case measure=>simp [intOf];omega
     obtain⟨hl2,h1⟩:=hok2.2 HN.o
     have f1:=Pe.o 1 (by omega) wz (Below.refl _ _)
     have g1:=aD D1.out uH.o.base;rw [h1] at f1
     have hd2:decide ((dM.length:Int) < 2)=false:=by rw [decide_eq_false_iff_not];omega
     go_quiet (fail)
     go_wp2_with fail
     go_quiet (fail)
     go_upto_region 14 with fail
     go_wp2_with (go_at_call 180;refine (Ve.o _ (below_drewN (Below.refl _ _) _)).mono ?_;rintro e5 w5 ⟨L5,hg5,rfl,Rf⟩;have Ur:=hid Rf;have FY:=hid ((Rc.o.trans (aZ.of_below (below_drewN (Below.refl _ _) _))).trans hg5);clear hg5 Rf)
     go_roundw
     case rel=>exact⟨m+1,_,L5,by omega,by go_num,Ur,hid (HJ.o _ _ _ _ Yo.o HIe.o),FY,hid bF.o.symm⟩
     case measure=>simp [intOf];omega
   have bF:Hid (R=.error (l,116)):=hid (by rw [qM.o,if_neg (fun h=>hok2 (Um.1 h))])
   rw [h0] at f0
   rcases Xi with rfl | rfl
   ·exact absurd ⟨h0,fun h=>by have:=HN.o;omega⟩ hok2
   by_cases hl2:dM.length < 2
   ·have hd2:decide ((dM.length:Int) < 2)=true:=by rw [decide_eq_true_eq];omega
    clear hok2 h0 Um
    go_quiet (fail)
    go_wp2_with fail
    go_quiet (fail)
    go_wp2_with fail
    go_ret
    exact .bad bF.o (by decide) (Rc.o.trans (aZ.of_below (below_drewN (below_drewN (Below.refl _ _) _) _))) (uH.o.below (below_drewN (below_drewN (Below.refl _ _) _) _)).r5
   have hd2:decide ((dM.length:Int) < 2)=false:=by rw [decide_eq_false_iff_not];omega
   have hne1:=wF _ _ (fun h1:fieldAt dM 1=fieldAt head 1=>hok2 ⟨h0,fun _=>⟨by omega,h1⟩⟩)
   have f1:=Pe.o 1 (by omega) wz (Below.refl _ _)
   have g1:=aD D1.out uH.o.base;clear hok2 h0 Um
   go_quiet (fail)
   go_wp2_with fail
   go_quiet (fail)
   go_wp2_with fail
   go_ret
   exact .bad bF.o (by decide) (Rc.o.trans (aZ.of_below (below_drewN (below_drewN (Below.refl _ _) _) _))) (uH.o.below (below_drewN (below_drewN (Below.refl _ _) _) _)).r5
  have bF:Hid (R=.error (l,116)):=hid (by rw [qM.o,if_neg (fun h=>h0 (Um.1 h).1)])
  have hne0:=wF _ _ h0;clear h0 Um
  go_quiet (fail)
  go_wp2_with fail
  go_ret
  exact .bad bF.o (by decide) (Rc.o.trans (aZ.of_below (below_drewN (Below.refl _ _) _))) (uH.o.below (below_drewN (Below.refl _ _) _)).r5
 obtain rfl:m=n:=by omega
 have Di:Hid (R=.ok S'):=hid (by rw [←Ai.o,Nat.sub_self,aO])
 go_wp2_with fail
 go_ret
 unfold gH;rw [Di.o]
 exact⟨L',xJ.o,rfl,Vd.o⟩
theorem Am (row head:List ByteArray) (h:row≠[]) (hh:head.length=4):decide (row.take 2=[fieldAt head 0,fieldAt head 1])=true↔Ul head row:=by
 rw [decide_eq_true_eq,Ul]
 rcases row with _ | ⟨x,_ | ⟨y,r⟩⟩
 ·exact absurd rfl h
 ·simp [hh]
 simp [hh,fieldAt]
theorem gH.after {w0:World} {L L1:List Nat} {rr rf:Nat} {E:Int} {all:List Row} {kh k:Nat} {R:RX} {w w1 w':World} {e:Ending} (h:gH w0 L1 rr rf E all kh k R w1 e w') (hg:aZ L w L1 w1):gH w0 L rr rf E all kh k R w e w':=by
 obtain⟨L',h1,h2⟩:=h
 exact⟨L',hg.trans h1,h2⟩
theorem gH.code {w0:World} {L:List Nat} {rr rf:Nat} {E:Int} {all:List Row} {kh k:Nat} {R:RX} {w w':World} {e:Ending} (h:gH w0 L rr rf E all kh k R w e w'):∃z,e=.returned (.int .i64 z):=by
 obtain⟨L',h1,h2⟩:=h
 cases R with
 | ok S=>exact⟨0,h2.1⟩
 | error p=>exact⟨_,h2.2.1⟩
theorem FZ {c:Cl} {F F':Fl} {l:Int} {row:List ByteArray} (h:bZ c F l row=.ok F'):F'.cls=F.cls:=by
 unfold bZ at h
 split at h
 ·cases h
 cases h;rfl
theorem JI (w0:World) (L:List Nat) (rr rf:Nat) (E:Int) (all:List Row) (kh k:Nat) (S:Sx) (hv:Value) (head:List ByteArray) (n:Nat) (cl:Cl) (w:World) (h:RQ w0 w L rr rf E all kh k S) (hh:b_ w0 hv head) (hl:head.length=4) (hkey:fieldAt head 0=og∨fieldAt head 0=dY) (hck:cl.kind=1∨cl.kind=2) (hla:S.fl.cls.getLast?=some cl) (hn:n≤65536) (hall:all.length≤65536) :
  Calls Tryz.prog 141 #[.pointer (some ⟨rr,0,none⟩),hv,.int .i64 n] w (gH w0 L rr rf E all kh k (aO E (fun r=>decide (r.take 2=[fieldAt head 0,fieldAt head 1])) (bZ cl) n S) w) :=
 uG w0 L rr rf E all kh k S hv head n _ _ (fun F=>F.cls.getLast?=some cl) w h hh (.inr hl) hla (fun F l row F' hJ hr=>by
  show F'.cls.getLast?=some cl
  rw [FZ hr];exact hJ) (fun row hne=>Am row head hne hl) (fun L' S' fv row w' hJ hq hr hok hpos=>by
  have hne:row≠[]:=List.length_pos_iff.1 hpos
  have h0:=((Am row head hne hl).1 hok).1
  refine Sb w0 L' rr rf E all kh k S' cl fv row w' hq hr ?_ ?_ hpos hJ hck
  ·rw [h0];rcases hkey with h | h<;>rw [h]<;>decide
  ·rw [h0];rcases hkey with h | h<;>rw [h]<;>decide) hn hall
theorem Ao (w0:World) (L:List Nat) (rr rf:Nat) (E:Int) (all:List Row) (kh k:Nat) (S:Sx) (fv:Value) (row:List ByteArray) (w:World) (h:RQ w0 w L rr rf E all kh (k+1) S) (hr:b_ w0 fv row) (hl:row.length=4) (hkey:fieldAt row 0=og∨fieldAt row 0=dY) (hall:all.length≤65536) :
  Calls Tryz.prog 142 #[.pointer (some ⟨rr,0,none⟩),fv] w (gH w0 L rr rf E all kh k (fK E S row) w):=by
 obtain⟨i0,hi,hz0,hz1,hz2⟩:=info_parts JE
 obtain⟨hbd,v,a,hpa,hm⟩:=h;have o7:=hid (aL hr.each);have qL:=hid hr
 obtain⟨g,o,cp,rfl,hcp,hcells⟩:=hr.cells (by omega)
 have HD:Hid (∀j,j < 4→∀W,Below w.heap.size w W→W.cell? ⟨g,o+j,none⟩=some (.string (fieldAt row j))):=hid (fun j hj W hb=>aD (hcells j (by omega)) (hm.below hb).base)
 have HM:=hid hm;have HB:=hid hbd;have vo:=hid hpa;have Pq:=hid hkey
 have JJ:=hid (zU w0 L rr rf a v E all S (fieldAt row 1) w hm (by have:=hbd.cls;omega) (Nat.le_trans (o7.o 1) (by decide)))
 have d1:=HD.o 1 (by omega) w (Below.refl _ _)
 have xL:=hid hl;rw [hl] at hcp ⊢;clear hcells hm hbd hpa hr hkey hl
 cases hfr:gq S.fl (fieldAt row 1) with
 | error e =>
  have bF:Hid (fK E S row=.error (S.line,e)):=hid (by rw [fK,hfr])
  rw [hfr] at JJ;unfold nD at JJ;clear hfr
  go_enter Tryz.func142,Tryz.ntmps142
  go_wp2_with (go_at_call 137;refine JJ.o.mono ?_;rintro e1 w1 ⟨hb1,he1,rfl⟩;have HB1:=hid hb1;have jP:=hid he1;have he2:(e != 0)=true:=by { simpa using he1 };clear hb1 he1)
  go_ret
  exact .bad bF.o jP.o (aZ.of_below HB1.o) (HM.o.below HB1.o).r5
 | ok f =>
  have Sl:=hid (qw hfr)
  obtain⟨R,hR⟩:∃R,fK E S row=R:=⟨_,rfl⟩
  have F3:Hid (R=if fieldAt row 2≠⟨#[89]⟩∧fieldAt row 2≠⟨#[78]⟩ then .error (S.line,114)
  else if bI (fieldAt row 3).data.toList 1024≠0 then .error (S.line,13)
  else if 1024 < (S.fl.rls.length:Int)+aJ (fieldAt row 3).data.toList 1024 then .error (S.line,117)
  else aO E (fun r=>decide (r.take 2=[fieldAt row 0,fieldAt row 1])) (bZ ⟨f,if fieldAt row 0=dY then 2 else 1,decide (fieldAt row 2=⟨#[89]⟩),S.fl.rls.length,aJ (fieldAt row 3).data.toList 1024⟩)
   (aJ (fieldAt row 3).data.toList 1024).toNat { S with fl:={ S.fl with cls:=S.fl.cls++[⟨f,if fieldAt row 0=dY then 2 else 1,decide (fieldAt row 2=⟨#[89]⟩),S.fl.rls.length,aJ (fieldAt row 3).data.toList 1024⟩] } }):=hid (by rw [←hR,fK,hfr])
  rw [hR];rw [hfr] at JJ;unfold nD at JJ;clear hR hfr
  go_enter Tryz.func142,Tryz.ntmps142
  go_upto_region 4 with (go_at_call 137;refine JJ.o.mono ?_;rintro e1 w1 ⟨hb1,rfl⟩;have HB1:=hid hb1;have d2:=HD.o 2 (by omega) w1 hb1;have d3:=HD.o 3 (by omega) w1 hb1;have JK:=hid (fH (fieldAt row 3) 1024 w1 (Nat.le_trans (o7.o 3) (by unfold maxLen;omega)) (by decide) (by decide));clear hb1)
  by_cases hyn:fieldAt row 2≠⟨#[89]⟩∧fieldAt row 2≠⟨#[78]⟩
  ·have bF:Hid (R=.error (S.line,114)):=hid (by rw [F3.o,if_pos hyn])
   have y1':((fieldAt row 2).toList==[89])=false:=by rw [beq_eq_false_iff_ne];intro e;exact hyn.1 (dG e)
   have y2':((fieldAt row 2).toList==[78])=false:=by rw [beq_eq_false_iff_ne];intro e;exact hyn.2 (dG e)
   clear hyn
   go_wp2_with fail
   go_ret
   exact .bad bF.o (by decide) (aZ.of_below HB1.o) (HM.o.below HB1.o).r5
  have HR1:=F3.o;rw [if_neg hyn] at HR1;have HR1:=hid HR1
  have Yr:fieldAt row 2=⟨#[89]⟩∨fieldAt row 2=⟨#[78]⟩:=by
   by_cases h1:fieldAt row 2=⟨#[89]⟩
   ·exact .inl h1
   exact .inr (Classical.byContradiction fun h2=>hyn ⟨h1,h2⟩)
  clear hyn F3
  go_cut [29] from 20 to 29 (fun p W=>p=.bool false∧W=w1)
  case first =>
   rcases Yr with h2 | h2
   all_goals
    rw [h2] at d2
    go_wp2_with fail
   all_goals go_meet
   all_goals exact⟨rfl,rfl⟩
  case rest =>
  obtain⟨rfl,hw1⟩:=hcut
  rw [hw1];clear hw1 wc;have c0:=(HM.o.below HB1.o).r0;obtain⟨rs,hrs,ho,-⟩:=HM.o.rls;obtain⟨AR,Mg,Dy⟩:=aF ho.1
  have hlr:rs.length=S.fl.rls.length:=by rw [←hrs];simp
  rw [hlr] at Dy
  have c12:w1.cell? ⟨rf,12,none⟩=some (.slice AR S.fl.rls.length Mg):=by rw [(HM.o.below HB1.o).fc 12,←Dy];rfl
  obtain⟨fi,hfi⟩:∃n:Nat,S.fl.rls.length=n:=⟨_,rfl⟩;have HFi:=hid hfi;rw [hfi] at c12 HR1
  have Yt:fi≤65536:=by have:=HB.o.rls;omega
  clear hrs ho Dy hlr hfi
  go_upto_region 6 with fail
  rcases dK (fieldAt row 3).data.toList 1024 with hq | hq
  rotate_left
  ·have bF:Hid (R=.error (S.line,13)):=hid (by rw [HR1.o,if_pos (by rw [hq];decide)])
   have HQ:=hid hq;clear hq
   go_wp2_with (go_at_call 103;refine JK.o.mono ?_;rintro e3 w3 ⟨rG,rfl⟩;rw [dw,HQ.o] at rG;subst rG)
   go_ret
   exact .bad bF.o (by decide) (aZ.of_below HB1.o) (HM.o.below HB1.o).r5
  obtain⟨b0,b1⟩:=dJ (fieldAt row 3).data.toList 1024 (by decide)
  obtain⟨n,hn⟩:∃n:Nat,aJ (fieldAt row 3).data.toList 1024=n:=⟨_,(Int.toNat_of_nonneg b0).symm⟩;have CP:=hid hn;have HQ:=hid hq;have hr1:=HR1.o
  rw [if_neg (by rw [hq];decide),hn,Int.toNat_natCast] at hr1
  have HR2:=hid hr1
  have hn2:(n:Int)≤1024:=by rw [←hn];exact b1
  have hwr:IntKind.i64.wrap ((fi:Int)+(n:Int))=(fi:Int)+(n:Int):=by rw [IntKind.wrap_i64];omega
  clear hn hq hr1 HR1 b0 b1
  by_cases hbig:1024 < (fi:Int)+(n:Int)
  ·have bF:Hid (R=.error (S.line,117)):=hid (by rw [HR2.o,if_pos hbig])
   have hbig2:decide (1024 < (fi:Int)+(n:Int))=true:=by rw [decide_eq_true_eq];exact hbig
   go_wp2_with (go_at_call 103;refine JK.o.mono ?_;rintro e3 w3 ⟨rG,rfl⟩;rw [dw,HQ.o,CP.o] at rG;subst rG)
   go_ret
   exact .bad bF.o (by decide) (aZ.of_below HB1.o) (HM.o.below HB1.o).r5
  have hr2:=HR2.o;rw [if_neg hbig] at hr2;have HR3:=hid hr2
  have hbig2:decide (1024 < (fi:Int)+(n:Int))=false:=by rw [decide_eq_false_iff_not];exact hbig
  clear hr2 HR2
  go_upto_region 11 with (go_at_call 103;refine JK.o.mono ?_;rintro e3 w3 ⟨rG,rfl⟩;rw [dw,HQ.o,CP.o] at rG;subst rG)
  obtain⟨Kd,Sm⟩:∃k:Int,(if fieldAt row 0=dY then (2:Int) else 1)=k:=⟨_,rfl⟩
  obtain⟨cr,hcr⟩:∃b:Bool,decide (fieldAt row 2=⟨#[89]⟩)=b:=⟨_,rfl⟩;rw [Sm,hcr] at HR3;have Sn:=hid Sm;have HCr:=hid hcr
  have HS:Hid (∀W,Below w1.heap.size w1 W→W.cell? ⟨rr,0,none⟩=some (.pointer (some ⟨rf,0,none⟩))∧W.cell? ⟨rf,12,none⟩=some (.slice AR fi Mg)∧W.cell? ⟨g,o+2,none⟩=some (.string (fieldAt row 2))):=hid (fun W hW=>⟨(hW.cell (block_lt_of_cell? _ _ c0)).trans c0,(hW.cell (block_lt_of_cell? _ _ c12)).trans c12,(hW.cell (block_lt_of_cell? _ _ d2)).trans d2⟩)
  have HD0:Hid (∀W,Below w1.heap.size w1 W→W.cell? ⟨g,o,none⟩=some (.string (fieldAt row 0))):=hid (fun W hW=>by
   have:=HD.o 0 (by omega) W (HB1.o.trans (hW.mono HB1.o.size))
   rwa [Nat.add_zero] at this)
  clear Sm hcr hbig hbig2
  go_cut [8] from 51 to 65 (fun p W=>∃b,p=.pointer (some ⟨b,0,none⟩)∧Hid (Below w1.heap.size w1 W)∧Hid (w1.heap.size≤b)∧Hid (W.heap[b]?=some (.cells #[.int .i64 f,.int .i64 2,.bool cr,.int .i64 (fi:Int),.int .i64 (n:Int)] 192 (0,0))))
  case first =>
   have e2:((fieldAt row 2).toList==[89])=cr:=by
    rw [←HCr.o,Bool.eq_iff_iff,beq_iff_eq,decide_eq_true_eq]
    exact⟨fun e=>dG e,fun e=>by rw [e,Lib.toList_data]⟩
   refine wp_region_held_drew (S:=fun W=>W.cell? ⟨rr,0,none⟩=some (.pointer (some ⟨rf,0,none⟩))∧W.cell? ⟨rf,12,none⟩=some (.slice AR fi Mg)∧W.cell? ⟨g,o+2,none⟩=some (.string (fieldAt row 2))) (by kernel_rfl) ?_ (fun hHeld=>?_)
   ·exact HS.o _ ah
   refine aA 0 (some 51) hHeld ?_;try simp only [aj]
   refine aA 1 (some 52) hHeld ?_;try simp only [aj]
   refine aA 2 (some 53) hHeld ?_;try simp only [aj]
   refine aA 3 (some 54) hHeld ?_;try simp only [aj]
   refine aA 4 (some 55) hHeld ?_;try simp only [aj]
   refine aA 5 (some 56) hHeld ?_;try simp only [aj]
   refine aA 6 (some 57) hHeld ?_;try simp only [aj]
   refine aA 7 (some 58) hHeld ?_;try simp only [aj]
   refine aA 8 (some 59) hHeld ?_;try simp only [aj]
   refine aA 9 (some 60) hHeld ?_;try simp only [aj]
   refine aA 10 (some 61) hHeld ?_;try simp only [aj]
   refine aA 11 (some 62) hHeld ?_;try simp only [aj]
   refine aA 12 (some 63) hHeld ?_;try simp only [aj]
   refine aA 13 (some 64) hHeld ?_;try simp only [aj]
   refine aA 14 (some 65) hHeld ?_;try simp only [aj]
   refine aP 15 (fun K hK=>?_)
   go_simp
   refine hK.out _ _ ?_ (fun hHeld=>?_)
   ·first | exact HS.o _ ah | exact HS.o _ (ah.alloc (Nat.le_refl _) _)
   clear hK K
   refine aP 16 (fun K hK=>?_)
   go_simp
   refine hK.out _ _ ?_ (fun hHeld=>?_)
   ·first | exact HS.o _ ah | exact HS.o _ (ah.alloc (Nat.le_refl _) _)
   clear hK K
   refine wpAnyH_done (by kernel_rfl) ?_ _
   go_wp2_with fail
   all_goals go_meet
   all_goals exact⟨_,rfl,hid ((Below.refl _ _).alloc (Nat.le_refl _) _).drew,hid (Nat.le_refl _),hid (heap_alloc_new w1 _)⟩
  case rest =>
  obtain⟨b,rfl,OO,HLb,Mh⟩:=hcut
  have d0:=HD0.o _ OO.o;obtain⟨Bz,Ad⟩:∃B,((fieldAt row 0).toList==[80,70,88])=B:=⟨_,rfl⟩
  go_upto_if 69 with fail
  go_cut [] from 70 to 70 (fun W=>Hid (Below w1.heap.size w1 W)∧Hid (W.heap[b]?=some (.cells #[.int .i64 f,.int .i64 Kd,.bool cr,.int .i64 (fi:Int),.int .i64 (n:Int)] 192 (0,0))))
  case first =>
   have x1:=cell_of_heap Mh.o 1
   have z1:=frozen_of_heap Mh.o 1
   cases Bz
   ·have hk:Kd=2:=by
     rw [←Sn.o,if_pos]
     rcases Pq.o with hk | hk
     ·rw [hk,Lib.toList_data] at Ad
      exact absurd Ad (by decide)
     exact hk
    subst hk
    go_wp2_with fail
    all_goals go_meet
    all_goals exact⟨OO,Mh⟩
   have hk:Kd=1:=by
    rw [←Sn.o,if_neg]
    intro e
    rw [e,Lib.toList_data] at Ad
    exact absurd Ad (by decide)
   subst hk
   go_wp2_with fail
   all_goals go_meet
   all_goals exact⟨hid (Below.setCell OO.o (p:=⟨b,1,none⟩) HLb.o _),hid (heap_setCell_same _ _ 1 _ _ _ Mh.o)⟩
  case rest =>
  obtain⟨sj,sQ⟩:=hcut
  clear OO HLb Mh d0 Ad;have kC:=hid (HM.o.below (HB1.o.trans (sj.o.mono HB1.o.size)));have Yu:Hid (Below w.heap.size w wc):=hid (HB1.o.trans (sj.o.mono HB1.o.size))
  obtain⟨x0,x1,x2,x3,x4⟩:wc.cell? ⟨b,0,none⟩=some (.int .i64 f)∧wc.cell? ⟨b,1,none⟩=some (.int .i64 Kd)∧wc.cell? ⟨b,2,none⟩=some (.bool cr)∧wc.cell? ⟨b,3,none⟩=some (.int .i64 (fi:Int))∧wc.cell? ⟨b,4,none⟩=some (.int .i64 (n:Int)):=by
   refine⟨?_,?_,?_,?_,?_⟩<;>(rw [cell_of_heap sQ.o];rfl)
  have hbl:=block_lt sQ.o;obtain⟨A3,gW,hv3⟩:=aF kC.o.cls.1;have j3:=hid hv3
  have Mi:S.fl.cls.length≤65536:=by have:=HB.o.cls;omega
  have Sq:Hid (∀W,Below wc.heap.size wc W→W.cell? ⟨rf,11,none⟩=some (.slice A3 S.fl.cls.length gW)∧W.ownsRow 0 192 5 (.slice A3 S.fl.cls.length gW) S.fl.cls.length (iT S.fl.cls)):=hid (fun W hW=>⟨by rw [(kC.o.below hW).fc 11,←j3.o];rfl,by rw [←j3.o];exact (kC.o.below hW).cls.1⟩)
  have c7:=kC.o.r0;have c11:=(Sq.o wc (Below.refl _ _)).1;have abL:=block_lt_of_cell? _ _ c11;have abM:=block_lt_of_cell? _ _ c7
  have BN:Hid (∀W,Below wc.heap.size wc W→∀W9,W.grownBy W9 (Value.slice A3 S.fl.cls.length gW).ownBlock→W9.cell? ⟨rf,11,none⟩=some (.slice A3 S.fl.cls.length gW)∧W9.frozen? ⟨rf,11,none⟩=false):=hid (fun W hW W9 hg=>by
   rw [←j3.o] at hg
   have hf:=(kC.o.below hW).bX hg (kC.o.below hW).eu (by decide)
   exact⟨by rw [cell_of_heap hf,←j3.o];rfl,frozen_of_heap hf 11⟩)
  have Lc:Hid (∀W,Below wc.heap.size wc W→∀W9 g9 gG,W9.ownsRow 0 192 5 (.slice (some ⟨g9,0,none⟩) (S.fl.cls.length+1) gG) (S.fl.cls.length+1) (iT S.fl.cls++[.int .i64 f,.int .i64 Kd,.bool cr,.int .i64 (fi:Int),.int .i64 (n:Int)])→W.grownBy W9 (Value.slice A3 S.fl.cls.length gW).ownBlock→n_ W W9 (.slice A3 S.fl.cls.length gW) (.slice (some ⟨g9,0,none⟩) (S.fl.cls.length+1) gG) →
    ∃L',aZ L w L' (W9.setCell ⟨rf,11,none⟩ (.slice (some ⟨g9,0,none⟩) (S.fl.cls.length+1) gG))∧QM w0 (W9.setCell ⟨rf,11,none⟩ (.slice (some ⟨g9,0,none⟩) (S.fl.cls.length+1) gG)) L' rr rf { v with cls:=.slice (some ⟨g9,0,none⟩) (S.fl.cls.length+1) gG } E all a { S with fl:={ S.fl with cls:=S.fl.cls++[⟨f,Kd,cr,(fi:Int),(n:Int)⟩] } }):=hid (fun W hW W9 g9 gG hown hg hloc=>by
   rw [←j3.o] at hg hloc
   obtain⟨L',hG,hM⟩:=(kC.o.below hW).sJ ⟨f,Kd,cr,(fi:Int),(n:Int)⟩ hg hloc hown
   exact⟨L',((aZ.of_below Yu.o).trans (aZ.of_below hW)).trans hG,hM⟩)
  have Us:Hid (∀W,Below wc.heap.size wc W→∀W9,W.grownBy W9 (Value.slice A3 S.fl.cls.length gW).ownBlock→W9.cell? ⟨rr,0,none⟩=some (.pointer (some ⟨rf,0,none⟩))):=hid (fun W hW W9 hg=>by
   rw [←j3.o] at hg
   have hf:=(kC.o.below hW).dx hg (kC.o.below hW).eu (by decide)
   rw [cell_of_heap hf];rfl)
  have vg:Hid (0 < f∧f≤65535):=hid (by have:=Sl.o;omega)
  clear hv3
  go_upto_region 14 with fail
  go_cut [] from 71 to 86 (fun W=>∃L',Hid (RQ w0 W L' rr rf E all kh k { S with fl:={ S.fl with cls:=S.fl.cls++[⟨f,Kd,cr,(fi:Int),(n:Int)⟩] } })∧Hid (aZ L w L' W))
  case first =>
   refine wp_region_held_drew (S:=fun W=>W.cell? ⟨rr,0,none⟩=some (.pointer (some ⟨rf,0,none⟩))) (by kernel_rfl) ?_ (fun hHeld=>?_)
   ·exact (kC.o.below ah).r0
   refine aA 0 (some 71) hHeld ?_;try simp only [aj]
   refine aA 1 (some 72) hHeld ?_;try simp only [aj]
   refine aA 2 (some 73) hHeld ?_;try simp only [aj]
   refine aA 3 (some 74) hHeld ?_;try simp only [aj]
   refine aA 4 (some 75) hHeld ?_;try simp only [aj]
   refine aA 5 (some 76) hHeld ?_;try simp only [aj]
   refine aA 6 (some 77) hHeld ?_;try simp only [aj]
   refine aA 7 (some 78) hHeld ?_;try simp only [aj]
   refine aA 8 (some 79) hHeld ?_;try simp only [aj]
   refine aA 9 (some 80) hHeld ?_;try simp only [aj]
   refine wpAnyH_ready (rs:=[10,11]) (by kernel_rfl) (by simp) ?_
   refine AllReadyH.cons rfl (fun K hK=>?_) ?_
   ·go_simp
    refine hK.out _ _ ?_ (fun hHeld=>?_)
    ·first | exact (kC.o.below ah).r0 | exact (kC.o.below (ah.alloc (Nat.le_refl _) _)).r0 | exact dZ.o.r0
    clear hK K
    refine aP 11 (fun K hK=>?_)
    go_simp
    refine hK.out _ _ ?_ (fun hHeld=>?_)
    ·first | exact (kC.o.below ah).r0 | exact (kC.o.below (ah.alloc (Nat.le_refl _) _)).r0 | exact dZ.o.r0
    clear hK K
    refine aP 12 (fun K hK=>?_)
    go_simp
    refine hK.out _ _ ?_ (fun hHeld=>?_)
    ·first | exact (kC.o.below ah).r0 | exact (kC.o.below (ah.alloc (Nat.le_refl _) _)).r0 | exact dZ.o.r0
    clear hK K
    refine aP 13 (fun K hK=>?_)
    refine aW (w:=wc.drew) (by rfl) _ _ 45 (by rfl) 0 192 i0 _ 5 40 Tryz.underlying45 hi hz0 hz1 hz2 rfl (by decide) (.slice A3 S.fl.cls.length gW) S.fl.cls.length (iT S.fl.cls) (by rfl) (Sq.o _ ah).2 #[.int .i64 f,.int .i64 Kd,.bool cr,.int .i64 (fi:Int),.int .i64 (n:Int)] (by rfl) (by intro x hx;simp at hx;rcases hx with rfl | rfl | rfl | rfl | rfl<;>rfl) (by rfl) (by unfold maxLen;omega) (by omega) (Nat.zero_le _) ?_
    intro gg cc w9 hown bM hloc
    obtain⟨L9,kD,kK⟩:=Lc.o _ ah _ _ _ hown bM hloc;have nU:=hid kD;have dZ:=hid kK;have F4:=hid (Us.o _ ah _ bM);obtain⟨nI,z9⟩:=BN.o _ ah _ bM;clear hown bM hloc kD kK
    refine hK.out _ _ ?_ (fun hHeld=>?_)
    ·exact F4.o
    clear hK K
    refine aA 14 (some 85) hHeld ?_;try simp only [aj]
    refine aA 15 (some 86) hHeld ?_;try simp only [aj]
    refine aP 16 (fun K hK=>?_)
    go_simp
    refine hK.out _ _ ?_ (fun hHeld=>?_)
    ·first | exact (kC.o.below ah).r0 | exact (kC.o.below (ah.alloc (Nat.le_refl _) _)).r0 | exact dZ.o.r0
    clear hK K
    refine wpAnyH_done (by kernel_rfl) ?_ _
    go_wp2_with fail
    go_meet
    exact⟨L9,hid ⟨HB.o.wI ⟨f,Kd,cr,(fi:Int),(n:Int)⟩ vg.o,_,a,vo.o,dZ.o⟩,nU⟩
   refine AllReadyH.cons rfl (fun K hK=>?_) ?_
   ·go_simp
    refine hK.out _ _ ?_ (fun hHeld=>?_)
    ·first | exact (kC.o.below ah).r0 | exact (kC.o.below (ah.alloc (Nat.le_refl _) _)).r0 | exact dZ.o.r0
    clear hK K
    refine wpAnyH_ready (rs:=[10,12]) (by kernel_rfl) (by simp) ?_
    refine AllReadyH.cons rfl (fun K hK=>?_) ?_
    ·go_simp
     refine hK.out _ _ ?_ (fun hHeld=>?_)
     ·first | exact (kC.o.below ah).r0 | exact (kC.o.below (ah.alloc (Nat.le_refl _) _)).r0 | exact dZ.o.r0
     clear hK K
     refine aP 12 (fun K hK=>?_)
     go_simp
     refine hK.out _ _ ?_ (fun hHeld=>?_)
     ·first | exact (kC.o.below ah).r0 | exact (kC.o.below (ah.alloc (Nat.le_refl _) _)).r0 | exact dZ.o.r0
     clear hK K
     refine aP 13 (fun K hK=>?_)
     refine aW (w:=wc.drew) (by rfl) _ _ 45 (by rfl) 0 192 i0 _ 5 40 Tryz.underlying45 hi hz0 hz1 hz2 rfl (by decide) (.slice A3 S.fl.cls.length gW) S.fl.cls.length (iT S.fl.cls) (by rfl) (Sq.o _ ah).2 #[.int .i64 f,.int .i64 Kd,.bool cr,.int .i64 (fi:Int),.int .i64 (n:Int)] (by rfl) (by intro x hx;simp at hx;rcases hx with rfl | rfl | rfl | rfl | rfl<;>rfl) (by rfl) (by unfold maxLen;omega) (by omega) (Nat.zero_le _) ?_
     intro gg cc w9 hown bM hloc
     obtain⟨L9,kD,kK⟩:=Lc.o _ ah _ _ _ hown bM hloc;have nU:=hid kD;have dZ:=hid kK;have F4:=hid (Us.o _ ah _ bM);obtain⟨nI,z9⟩:=BN.o _ ah _ bM;clear hown bM hloc kD kK
     refine hK.out _ _ ?_ (fun hHeld=>?_)
     ·exact F4.o
     clear hK K
     refine aA 14 (some 85) hHeld ?_;try simp only [aj]
     refine aA 15 (some 86) hHeld ?_;try simp only [aj]
     refine aP 16 (fun K hK=>?_)
     go_simp
     refine hK.out _ _ ?_ (fun hHeld=>?_)
     ·first | exact (kC.o.below ah).r0 | exact (kC.o.below (ah.alloc (Nat.le_refl _) _)).r0 | exact dZ.o.r0
     clear hK K
     refine wpAnyH_done (by kernel_rfl) ?_ _
     go_wp2_with fail
     go_meet
     exact⟨L9,hid ⟨HB.o.wI ⟨f,Kd,cr,(fi:Int),(n:Int)⟩ vg.o,_,a,vo.o,dZ.o⟩,nU⟩
    refine AllReadyH.cons rfl (fun K hK=>?_) ?_
    ·go_simp
     refine hK.out _ _ ?_ (fun hHeld=>?_)
     ·first | exact (kC.o.below ah).r0 | exact (kC.o.below (ah.alloc (Nat.le_refl _) _)).r0 | exact dZ.o.r0
     clear hK K
     refine aP 10 (fun K hK=>?_)
     go_simp
     refine hK.out _ _ ?_ (fun hHeld=>?_)
     ·first | exact (kC.o.below ah).r0 | exact (kC.o.below (ah.alloc (Nat.le_refl _) _)).r0 | exact dZ.o.r0
     clear hK K
     refine aP 13 (fun K hK=>?_)
     refine aW (w:=wc.drew) (by rfl) _ _ 45 (by rfl) 0 192 i0 _ 5 40 Tryz.underlying45 hi hz0 hz1 hz2 rfl (by decide) (.slice A3 S.fl.cls.length gW) S.fl.cls.length (iT S.fl.cls) (by rfl) (Sq.o _ ah).2 #[.int .i64 f,.int .i64 Kd,.bool cr,.int .i64 (fi:Int),.int .i64 (n:Int)] (by rfl) (by intro x hx;simp at hx;rcases hx with rfl | rfl | rfl | rfl | rfl<;>rfl) (by rfl) (by unfold maxLen;omega) (by omega) (Nat.zero_le _) ?_
     intro gg cc w9 hown bM hloc
     obtain⟨L9,kD,kK⟩:=Lc.o _ ah _ _ _ hown bM hloc;have nU:=hid kD;have dZ:=hid kK;have F4:=hid (Us.o _ ah _ bM);obtain⟨nI,z9⟩:=BN.o _ ah _ bM;clear hown bM hloc kD kK
     refine hK.out _ _ ?_ (fun hHeld=>?_)
     ·exact F4.o
     clear hK K
     refine aA 14 (some 85) hHeld ?_;try simp only [aj]
     refine aA 15 (some 86) hHeld ?_;try simp only [aj]
     refine aP 16 (fun K hK=>?_)
     go_simp
     refine hK.out _ _ ?_ (fun hHeld=>?_)
     ·first | exact (kC.o.below ah).r0 | exact (kC.o.below (ah.alloc (Nat.le_refl _) _)).r0 | exact dZ.o.r0
     clear hK K
     refine wpAnyH_done (by kernel_rfl) ?_ _
     go_wp2_with fail
     go_meet
     exact⟨L9,hid ⟨HB.o.wI ⟨f,Kd,cr,(fi:Int),(n:Int)⟩ vg.o,_,a,vo.o,dZ.o⟩,nU⟩
    exact AllReadyH.nil
   exact AllReadyH.nil
  case rest =>
  obtain⟨L9,HQ9,nU⟩:=hcut
  have Ut:=hid (JI w0 L9 rr rf E all kh k _ (.slice (some ⟨g,o,none⟩) 4 cp) row n ⟨f,Kd,cr,(fi:Int),(n:Int)⟩ wc HQ9.o (by have:=qL.o;rwa [xL.o] at this) xL.o Pq.o (by
   have:=Sn.o
   show Kd=1∨Kd=2
   rw [←this];split<;>simp) (by simp) (by omega) hall)
  rw [←HR3.o] at Ut
  go_wp2_with (go_at_call 141;refine Ut.o.mono ?_;intro e9 w9 bM;obtain⟨z,hz⟩:∃z,e9=.returned (.int .i64 z):=gH.code bM;subst hz)
  go_ret
  exact bM.after nU.o
theorem gH.set {w0:World} {L:List Nat} {rr rf a:Nat} {v:Qs} {E:Int} {all:List Row} {kh k:Nat} {R:RX} {S':Sx} {w w':World} (hR:R=.ok S') (hg:aZ L w L w') (hb:Bd kh k S') (hp:Dh all a S') (hm:QM w0 w' L rr rf v E all a S'):gH w0 L rr rf E all kh k R w (.returned (.int .i64 0)) w':=by
 subst hR;exact⟨L,hg,rfl,hb,v,a,hp,hm⟩
theorem any_take_succ {hs:List ByteArray} {p:ByteArray→Bool} {k:Nat} (hk:k < hs.length) (h:(hs.take k).any p=false) (he:p hs[k]=false):(hs.take (k+1)).any p=false:=by
 rw [List.take_add_one,List.getElem?_eq_getElem hk,List.any_append,h]
 simp [he]
theorem Pt {hs:List ByteArray} {p:ByteArray→Bool} {k:Nat} (hk:k < hs.length) (he:p hs[k]=true):hs.any p=true:=List.any_eq_true.2 ⟨hs[k],List.getElem_mem hk,he⟩
theorem Mj (w0:World) (L:List Nat) (rr rf:Nat) (E:Int) (all:List Row) (kh k:Nat) (S:Sx) (fv:Value) (row:List ByteArray) (w:World) (h:RQ w0 w L rr rf E all kh (k+1) S) (hr:b_ w0 fv row) (hl:row.length=2) :
  Calls Tryz.prog 138 #[.pointer (some ⟨rr,0,none⟩),fv] w (gH w0 L rr rf E all kh k (jw S.line S (kL S (fieldAt row 1))) w):=by
 obtain⟨hbd,v,a,hpa,hm⟩:=h
 obtain⟨g,o,cp,rfl,hcp,hcells⟩:=hr.cells (by omega)
 have d1:=aD (hcells 1 (by omega)) hm.base
 have HM:=hid hm;have HB:=hid hbd;have vo:=hid hpa;obtain⟨-,A,hcap,hv,hcp2,hcc⟩:=Rd.aN hm.heads.1;have HC:=hid hcc;have c0:=hm.r0;have c4:=hm.r4;rw [hv] at c4
 have Q_:S.heads.length≤65536:=by have:=hbd.heads;omega
 obtain⟨R,hR⟩:∃R,jw S.line S (kL S (fieldAt row 1))=R:=⟨_,rfl⟩;have HR:=hid hR;rw [hR];rw [hl] at hcp ⊢;clear hcc hcells hm hbd hpa hr hR hv
 go_enter Tryz.func138,Tryz.ntmps138
 go_wp2_with fail
 go_loop [5,6] (fun i _=>∃k:Nat,k≤S.heads.length∧i=.int .i64 k∧Hid ((S.heads.take k).any (fun h=>lV (bV h))=false)) (fun i _=>S.heads.length - (intOf i).toNat)
 case atStart=>exact⟨0,Nat.zero_le _,rfl,hid rfl⟩
 case round =>
 obtain⟨m,hm,rfl,HT⟩:=hrel
 by_cases hlt:m < S.heads.length
 ·obtain⟨g2,o2,rfl,hc⟩:=HC.o.resolve_left (by omega)
  have d:=hc m _ (iX S.heads m hlt);clear hc;have lW:=hid (dA S.heads[m] w);obtain⟨x,hx⟩:∃x,S.heads[m]=x:=⟨_,rfl⟩;have HX:=hid hx;rw [hx] at d lW;clear hx;obtain⟨z,hz⟩:∃z,Ii x=z:=⟨_,rfl⟩;rw [hz] at lW;have HZ:=hid hz;clear hz
  cases nV:lV (bV x)
  ·have HN:=hid (any_take_succ (p:=fun h=>lV (bV h)) hlt HT.o (by rw [HX.o];exact nV))
   have hz1:z = -1:=by
    rw [←HZ.o,Ii,if_neg]
    intro h
    simp [lV] at nV
    omega
   subst hz1
   have n1:(x.toList==[65,70])=false:=by
    rw [beq_eq_false_iff_ne];intro e
    have:=(sV x 10 (by decide)).2 (dG (b:=⟨#[65,70]⟩) e)
    rw [this] at nV;exact absurd nV (by decide)
   have n2:(x.toList==[80,70,88])=false:=by
    rw [beq_eq_false_iff_ne];intro e
    have:=(sV x 11 (by decide)).2 (dG (b:=⟨#[80,70,88]⟩) e)
    rw [this] at nV;exact absurd nV (by decide)
   have n3:(x.toList==[83,70,88])=false:=by
    rw [beq_eq_false_iff_ne];intro e
    have:=(sV x 12 (by decide)).2 (dG (b:=⟨#[83,70,88]⟩) e)
    rw [this] at nV;exact absurd nV (by decide)
   clear nV
   go_wp2_with (go_at_call 136;refine lW.o.mono ?_;rintro e1 w1 ⟨rfl,rfl⟩)
   go_round
   case rel=>exact⟨m+1,by omega,by go_num,HN⟩
   case measure=>simp [intOf];omega
  have bF:Hid (R=.error (S.line,113)):=hid (by
   rw [←HR.o,kL,if_pos (Pt (p:=fun h=>lV (bV h)) hlt (by rw [HX.o];exact nV))];rfl)
  have hcs:(3≤bV x∧bV x≤7)∨(bV x=10∨bV x=11∨bV x=12):=by
   simp [lV] at nV
   omega
  clear nV
  rcases hcs with h37 | h10 | h10 | h10
  ·have hz1:0≤z:=by rw [←HZ.o,Ii,if_pos h37];omega
   have hz2:decide (0≤z)=true:=by simpa using hz1
   clear h37
   go_wp2_with (go_at_call 136;refine lW.o.mono ?_;rintro e1 w1 ⟨rfl,rfl⟩)
   go_ret
   exact .bad bF.o (by decide) (aZ.refl _ _) HM.o.r5
  all_goals
   have hz1:z = -1:=by rw [←HZ.o,Ii,if_neg (by omega)]
   subst hz1
   have hxk:=nA x (by omega)
   rw [h10] at hxk;simp only [xk] at hxk;rw [hxk] at d lW
   go_wp2_with (go_at_call 136;refine lW.o.mono ?_;rintro e1 w1 ⟨rfl,rfl⟩)
   go_ret
   exact .bad bF.o (by decide) (aZ.refl _ _) HM.o.r5
 obtain rfl:m=S.heads.length:=by omega
 have hno:S.heads.any (fun h=>lV (bV h))=false:=by
  have:=HT.o
  rwa [List.take_of_length_le (Nat.le_refl _)] at this
 have HR2:Hid (R=if kindOf (fieldAt row 1)=0 then .error (S.line,114) else .ok { S with fl:={ S.fl with kind:=kindOf (fieldAt row 1) } }):=hid (by
  rw [←HR.o,kL,if_neg (by rw [hno];simp)]
  split<;>rfl)
 clear hno;have g0:=HM.o.fc 0;have z0:=HM.o.fz 0
 have HSame:Hid (∀x:Int,1≤x∧x≤3→Bd kh k { S with fl:={ S.fl with kind:=x } }):=hid (fun x hx=>HB.o.mono.same _ rfl rfl rfl rfl hx HB.o.sp)
 have Sr:Hid (∀x:Int,1≤x∧x≤3→kindOf (fieldAt row 1)=x→gH w0 L rr rf E all kh k R w (.returned (.int .i64 0)) (w.setCell ⟨rf,0,none⟩ (.int .i64 x))):=hid (fun x hx hk=>by
  have hR2:=HR2.o
  rw [hk,if_neg (by omega)] at hR2
  exact .set hR2 ⟨bC HM.o.wm,fun _ h=>.inl h⟩ (HSame.o x hx) vo.o (HM.o.qJ 0 _ (by rfl) rfl rfl rfl rfl))
 change w.cell? ⟨rf,0,none⟩=some (.int .i64 S.fl.kind) at g0
 by_cases e1:fieldAt row 1=o_
 ·rw [e1] at d1
  have hk:kindOf (fieldAt row 1)=1:=by rw [kindOf,if_pos e1]
  clear e1
  go_wp2_with fail
  go_ret
  exact Sr.o 1 (by decide) hk
 by_cases e2:fieldAt row 1=vw
 ·rw [e2] at d1
  have hk:kindOf (fieldAt row 1)=2:=by rw [kindOf,if_neg e1,if_pos e2]
  clear e1 e2
  go_wp2_with fail
  go_ret
  exact Sr.o 2 (by decide) hk
 by_cases e3:fieldAt row 1=Dz
 ·rw [e3] at d1
  have hk:kindOf (fieldAt row 1)=3:=by rw [kindOf,if_neg e1,if_neg e2,if_pos e3]
  clear e1 e2 e3
  go_wp2_with fail
  go_ret
  exact Sr.o 3 (by decide) hk
 have bF:Hid (R=.error (S.line,114)):=hid (by rw [HR2.o,if_pos (by rw [kindOf,if_neg e1,if_neg e2,if_neg e3])])
 have n1:((fieldAt row 1).toList==[115,104,111,114,116])=false:=by rw [beq_eq_false_iff_ne];intro e;exact e1 (dG e)
 have n2:((fieldAt row 1).toList==[108,111,110,103])=false:=by rw [beq_eq_false_iff_ne];intro e;exact e2 (dG e)
 have n3:((fieldAt row 1).toList==[110,117,109])=false:=by rw [beq_eq_false_iff_ne];intro e;exact e3 (dG e)
 clear e1 e2 e3
 go_wp2_with fail
 go_ret
 exact .bad bF.o (by decide) (aZ.refl _ _) HM.o.r5
theorem JL {w:World} {B e n g cap:Nat} {l:List UInt8} (h:w.ownsRow B e 1 (.slice (some ⟨g,0,none⟩) n cap) n (byteCells l)) (j:Nat) (hj:j < l.length) :
  w.cell? ⟨g,j,none⟩=some (.int .u8 (l[j].toNat:Int)):=by
 have:=h.cells (g:=g) rfl j (.int .u8 (l[j].toNat:Int)) (by simp [byteCells,hj])
 rwa [gJ] at this
theorem JM (s:ByteArray) (k:Nat) (h:k < s.size):gD (s.data.toList.take (k+1))=if (gD (s.data.toList.take k)).contains s[k] then gD (s.data.toList.take k) else gD (s.data.toList.take k)++[s[k]]:=by
 rw [jF s k h];exact vB _ _ _
theorem Pv (s:ByteArray) (k:Nat):(gD (s.data.toList.take k)).length≤k:=by
 have h1:=xM [] (s.data.toList.take k)
 have h2:(s.data.toList.take k).length≤k:=List.length_take_le _ _;rw [gD];simp only [List.length_nil] at h1
 omega
theorem Mk (l:List UInt8) (q:Nat) (hq:q < l.length) (c:UInt8) (h:c∉l.take q) (hne:l[q]≠c):c∉l.take (q+1):=by
 rw [List.take_succ_eq_append_getElem hq,List.mem_append,List.mem_singleton]
 rintro (h1 | h1)
 ·exact h h1
 exact hne h1.symm
theorem BP (s:ByteArray) (w:World) (hs:s.size≤140737488355327) :
  Calls Tryz.prog 140 #[.string s] w fun e w'=>e=.returned (.tuple #[.string (bT s).1,.int .i64 (bT s).2])∧Below w.heap.size w w':=by
 obtain⟨i0,hi,hz0,hz1,hz2⟩:=info_parts fE
 by_cases h0:s.size=0
 ·have H:Hid (bT s=(⟨#[]⟩,21)):=hid (by unfold bT;rw [if_pos (.inl h0)])
  have h00:((s.size:Int)==0)=true:=by rw [beq_iff_eq];omega
  go_enter Tryz.func140,Tryz.ntmps140
  go_wp2_with (first | (go_at_call 139;refine (gQ _ _ (by omega)).mono ?_;rintro e w' ⟨rfl,rfl⟩))
  go_ret2
  exact⟨by rw [H.o];rfl,Below.refl _ _⟩
 have h00:((s.size:Int)==0)=false:=by rw [beq_eq_false_iff_ne];omega
 cases hf:fitAll s
 ·have H:Hid (bT s=(⟨#[]⟩,21)):=hid (by unfold bT;rw [if_pos (.inr hf)])
  go_enter Tryz.func140,Tryz.ntmps140
  go_wp2_with (first | (go_at_call 139;refine (gQ _ _ (by omega)).mono ?_;rintro e w' ⟨rfl,rfl⟩))
  go_ret2
  exact⟨by rw [H.o];rfl,Below.refl _ _⟩
 have H:Hid (bT s=(mkS (gD s.data.toList),0)):=hid (by
  unfold bT;rw [if_neg (by rintro (h | h);· exact h0 h
                           rw [hf] at h;cases h)])
 go_enter Tryz.func140,Tryz.ntmps140
 go_wp2_with (first | (go_at_call 139;refine (gQ _ _ (by omega)).mono ?_;rintro e w' ⟨rfl,rfl⟩))
 go_loopw [5,6,7,8] (fun v i _ _ W=>∃k g n cap:Nat,k≤s.size∧i=.int .i64 k∧v=.slice (some ⟨g,0,none⟩) n cap∧Hid (n=(gD (s.data.toList.take k)).length)∧Own w W 5 1 (.slice (some ⟨g,0,none⟩) n cap) n (byteCells (gD (s.data.toList.take k)))) (fun _ i _ _ _=>s.size - (intOf i).toNat)
 case atStart=>exact⟨0,_,0,0,Nat.zero_le _,rfl,rfl,hid rfl,Own.empty w _ _⟩
 case round =>
 obtain⟨k,g,n,cap,hk,rfl,rfl,HN,ho⟩:=hrel
 have HO:=hid ho;clear ho
 by_cases hlt:k < s.size
 ·have HK:=hid (JM s k hlt)
  have hn:=HN.o▸Pv s k;obtain⟨acc,hacc⟩:∃acc,gD (s.data.toList.take k)=acc:=⟨_,rfl⟩;rw [hacc] at HK HO HN;clear hacc
  go_wp2_with fail
  go_loopw [7,8] (fun b j W'=>∃m q:Nat,W'=wr.drewN m∧j=.int .i64 q∧q≤n∧((b=.bool false∧Hid (s[k]∉acc.take q))∨(b=.bool true∧Hid (s[k]∈acc)))) (fun _ j _=>n - (intOf j).toNat)
  case atStart=>exact⟨0,0,rfl,rfl,Nat.zero_le _,.inl ⟨rfl,hid (by simp)⟩⟩
  case round =>
  obtain⟨m,q,rfl,rfl,hq,⟨rfl,HS⟩ | ⟨rfl,HS⟩⟩:=hrel
  ·by_cases RV:q < n
   ·have Yv:q < acc.length:=by have:=HN.o;omega
    have hcell:=JL HO.o.own q Yv;obtain⟨c,hc⟩:∃c,acc[q]'Yv=c:=⟨_,rfl⟩;rw [hc] at hcell
    by_cases hcs:c=s[k]
    ·have hq2:((c.toNat:Int)==(s[k].toNat:Int))=true:=by rw [hcs];simp
     have HS2:Hid (s[k]∈acc):=hid (by rw [←hcs,←hc];exact List.getElem_mem _)
     clear hcs hc
     go_wp2_with fail
     go_quiet (fail)
     go_wp2_with fail
     go_roundw
     case rel=>exact⟨_,q+1,rfl,by go_num,by omega,.inr ⟨rfl,HS2⟩⟩
     case measure=>simp [intOf];omega
    have hq2:((c.toNat:Int)==(s[k].toNat:Int))=false:=by
     rw [beq_eq_false_iff_ne];intro e;exact hcs (UInt8.toNat_inj.1 (by omega))
    have HS2:Hid (s[k]∉acc.take (q+1)):=hid (Mk acc q Yv _ HS.o (by rw [hc];exact hcs))
    clear hcs hc
    go_wp2_with fail
    go_quiet (fail)
    go_wp2_with fail
    go_roundw
    case rel=>exact⟨_,q+1,rfl,by go_num,by omega,.inl ⟨rfl,HS2⟩⟩
    case measure=>simp [intOf];omega
   have Sv:Hid (gD (s.data.toList.take (k+1))=acc++[s[k]]):=hid (by
    rw [HK.o,if_neg]
    have h1:=HS.o
    rw [List.take_of_length_le (by have:=HN.o;omega)] at h1
    simpa using h1)
   go_wp2_with (at_builtin;refine aB rfl _ _ 213 rfl w.heap.size 5 i0 (.int .u8 0) 1 Tryz.underlying213 hi hz0 hz1 hz2 rfl _ _ _ rfl (HO.o.drewN m).own _ rfl rfl (by unfold maxLen;omega) (by omega) (HO.o.drewN m).size ?_;intro gg cap w5 hown hg5;have tZ:=hid ((HO.o.drewN m).push hown hg5);clear hown hg5)
   go_roundw
   case rel=>exact⟨k+1,gg,n+1,cap,by omega,by go_num,rfl,hid (by rw [Sv.o,HN.o];simp),by rw [Sv.o,←eD];exact tZ.o⟩
   case measure=>simp [intOf];omega
  have Sv:Hid (gD (s.data.toList.take (k+1))=acc):=hid (by rw [HK.o,if_pos (by simpa using HS.o)])
  by_cases RV:q < n
  all_goals
   go_wp2_with fail
   go_roundw
   case rel=>exact⟨k+1,g,n,cap,by omega,by go_num,rfl,hid (by rw [Sv.o,HN.o]),by rw [Sv.o];exact HO.o.drewN m⟩
   case measure=>simp [intOf];omega
 obtain rfl:k=s.size:=by omega
 have HF:Hid (gD (s.data.toList.take s.size)=gD s.data.toList):=hid (by rw [List.take_of_length_le (by simp)])
 have hcv:=bP HO.o.own 213 9 Tryz.underlying213 Tryz.underlying5 Tryz.underlying9;rw [HF.o] at hcv
 go_wp2_with fail
 go_ret2
 exact⟨by rw [H.o];rfl,HO.o.below⟩
theorem qy (row head:List ByteArray) (h:row≠[]) (hh:head.length=2):decide (row.take 1=[fieldAt head 0])=true↔Ul head row:=by
 rw [decide_eq_true_eq,Ul]
 rcases row with _ | ⟨x,r⟩
 ·exact absurd rfl h
 simp [hh,fieldAt]
theorem Ml (w0:World) (L:List Nat) (rr rf:Nat) (E:Int) (all:List Row) (kh k:Nat) (S:Sx) (hv:Value) (head:List ByteArray) (n:Nat) (w:World) (h:RQ w0 w L rr rf E all kh k S) (hh:b_ w0 hv head) (hl:head.length=2) (hk:fieldAt head 0=mR) (hn:n≤65536) (hall:all.length≤65536) :
  Calls Tryz.prog 141 #[.pointer (some ⟨rr,0,none⟩),hv,.int .i64 n] w (gH w0 L rr rf E all kh k (aO E (fun r=>decide (r.take 1=[mR])) gV n S) w) :=
 uG w0 L rr rf E all kh k S hv head n _ _ (fun _=>True) w h hh (.inl hl) trivial (fun _ _ _ _ _ _=>trivial) (fun row hne=>by rw [←hk];exact qy row head hne hl) (fun L' S' fv row w' _ hq hr hok hpos=>by
  have hne:row≠[]:=List.length_pos_iff.1 hpos
  rw [←hk] at hok;have h0:=((qy row head hne hl).1 hok).1
  exact Pm w0 L' rr rf E all kh k S' fv row w' hq hr (h0.trans hk) hpos) hn hall
theorem Mq (w0:World) (L:List Nat) (rr rf:Nat) (E:Int) (all:List Row) (kh k:Nat) (S:Sx) (hv:Value) (head:List ByteArray) (n:Nat) (w:World) (h:RQ w0 w L rr rf E all kh k S) (hh:b_ w0 hv head) (hl:head.length=2) (hk:fieldAt head 0=wH) (hn:n≤65536) (hall:all.length≤65536) :
  Calls Tryz.prog 141 #[.pointer (some ⟨rr,0,none⟩),hv,.int .i64 n] w (gH w0 L rr rf E all kh k (aO E (fun r=>decide (r.take 1=[wH])) eT n S) w) :=
 uG w0 L rr rf E all kh k S hv head n _ _ (fun _=>True) w h hh (.inl hl) trivial (fun _ _ _ _ _ _=>trivial) (fun row hne=>by rw [←hk];exact qy row head hne hl) (fun L' S' fv row w' _ hq hr hok hpos=>by
  have hne:row≠[]:=List.length_pos_iff.1 hpos
  rw [←hk] at hok;have h0:=((qy row head hne hl).1 hok).1
  exact Pn w0 L' rr rf E all kh k S' fv row w' hq hr (h0.trans hk) hpos) hn hall
theorem JN (w0:World) (L:List Nat) (rr rf:Nat) (E:Int) (all:List Row) (kh k:Nat) (S:Sx) (fv:Value) (row:List ByteArray) (w:World) (h:RQ w0 w L rr rf E all kh (k+1) S) (hr:b_ w0 fv row) (hl:row.length=2) (hk:fieldAt row 0=Iy) (hall:all.length≤65536) :
  Calls Tryz.prog 101 #[.pointer (some ⟨rr,0,none⟩),fv] w (gH w0 L rr rf E all kh k (jw S.line S (kL S (fieldAt row 1))) w):=by
 have HQ:=hid (Mj w0 L rr rf E all kh k S fv row w h hr hl)
 obtain⟨hbd,v,a,hpa,hm⟩:=h;have o7:=hid (aL hr.each);have qL:=hid hr
 obtain⟨g,o,cp,rfl,hcp,hcells⟩:=hr.cells (by omega)
 have HD:Hid (∀j,j < row.length→∀W,Below w.heap.size w W→W.cell? ⟨g,o+j,none⟩=some (.string (fieldAt row j))):=hid (fun j hj W hb=>aD (hcells j hj) (hm.below hb).base)
 have d0:=HD.o 0 (by omega) w (Below.refl _ _)
 have d1:=HD.o 1 (by omega) w (Below.refl _ _)
 rw [Nat.add_zero,hk] at d0;have c0:=hm.r0;have HM:=hid hm;have HB:=hid hbd;have vo:=hid hpa;have xL:=hid hl;have HK:=hid hk;rw [hl] at hcp HQ ⊢;clear hcells hm hbd hpa hr hl hk
 have lW:Hid (Calls Tryz.prog 136 #[.string Iy] w fun e w'=>e=.returned (.int .i64 (-1))∧w=w'):=hid (dA Iy w)
 go_enter Tryz.func101,Tryz.ntmps101
 go_wp2_with (first | (go_at_call 136;refine lW.o.mono ?_;rintro e1 w1 ⟨rfl,rfl⟩) | (go_at_call 138;refine HQ.o.mono ?_;intro e9 w9 bM;obtain⟨z,hz⟩:∃z,e9=.returned (.int .i64 z):=gH.code bM;subst hz))
 go_ret
 exact bM
theorem Mr (w0:World) (L:List Nat) (rr rf:Nat) (E:Int) (all:List Row) (kh k:Nat) (S:Sx) (fv:Value) (row:List ByteArray) (w:World) (h:RQ w0 w L rr rf E all kh (k+1) S) (hr:b_ w0 fv row) (hl:row.length=2) (hk:fieldAt row 0=Pw) (hall:all.length≤65536) :
  Calls Tryz.prog 101 #[.pointer (some ⟨rr,0,none⟩),fv] w (gH w0 L rr rf E all kh k (jw S.line S (oW S.fl (fieldAt row 1))) w):=by
 obtain⟨hbd,v,a,hpa,hm⟩:=h
 have o7:=hid (aL hr.each);have qL:=hid hr
 obtain⟨g,o,cp,rfl,hcp,hcells⟩:=hr.cells (by omega)
 have HD:Hid (∀j,j < row.length→∀W,Below w.heap.size w W→W.cell? ⟨g,o+j,none⟩=some (.string (fieldAt row j))):=hid (fun j hj W hb=>aD (hcells j hj) (hm.below hb).base)
 have d0:=HD.o 0 (by omega) w (Below.refl _ _)
 have d1:=HD.o 1 (by omega) w (Below.refl _ _)
 rw [Nat.add_zero,hk] at d0;have c0:=hm.r0;have HM:=hid hm;have HB:=hid hbd;have vo:=hid hpa;have xL:=hid hl;have HK:=hid hk
 have HD0:Hid (w0.cell? ⟨g,o+1,none⟩=some (.string (fieldAt row 1))):=hid (hcells 1 (by omega))
 rw [hl] at hcp ⊢;clear hcells hm hbd hpa hr hl hk
 have lW:Hid (Calls Tryz.prog 136 #[.string Pw] w fun e w'=>e=.returned (.int .i64 (-1))∧w=w'):=hid (dA Pw w)
 have sS:=hid (gQ (fieldAt row 1) w (Nat.le_trans (o7.o 1) (by decide)))
 cases hf:fitAll (fieldAt row 1)
 ·have bF:Hid (jw S.line S (oW S.fl (fieldAt row 1))=.error (S.line,21)):=hid (by rw [oW,if_pos hf];rfl)
  rw [hf] at sS;clear hf
  go_enter Tryz.func101,Tryz.ntmps101
  go_wp2_with (first | (go_at_call 136;refine lW.o.mono ?_;rintro e1 w1 ⟨rfl,rfl⟩) | (go_at_call 139;refine sS.o.mono ?_;rintro e8 w8 ⟨rfl,rfl⟩))
  go_ret
  exact .bad bF.o (by decide) (aZ.refl _ _) HM.o.r5
 have bF:Hid (jw S.line S (oW S.fl (fieldAt row 1))=.ok { S with fl:={ S.fl with charset:=fieldAt row 1 } }):=hid (by rw [oW,if_neg (by rw [hf];simp)];rfl)
 rw [hf] at sS;have g1:=HM.o.fc 1;have z1:=HM.o.fz 1
 change w.cell? ⟨rf,1,none⟩=some (.string S.fl.charset) at g1
 have HS:Hid (∀W,Below w.heap.size w W→W.cell? ⟨rr,0,none⟩=some (.pointer (some ⟨rf,0,none⟩))∧W.cell? ⟨g,o+1,none⟩=some (.string (fieldAt row 1))):=hid (fun W hW=>⟨(HM.o.below hW).r0,(hW.cell (block_lt_of_cell? _ _ d1)).trans d1⟩)
 have Vf:=hid ((HM.o.below (ah (w:=w))).qJ (F':={ S.fl with charset:=fieldAt row 1 }) 1 (.string (fieldAt row 1)) (by rfl) rfl rfl rfl rfl)
 clear hf
 go_enter Tryz.func101,Tryz.ntmps101
 go_upto_region 14 with (first | (go_at_call 136;refine lW.o.mono ?_;rintro e1 w1 ⟨rfl,rfl⟩) | (go_at_call 139;refine sS.o.mono ?_;rintro e8 w8 ⟨rfl,rfl⟩))
 refine wp_region_held_drew (S:=fun W=>W.cell? ⟨rr,0,none⟩=some (.pointer (some ⟨rf,0,none⟩))∧W.cell? ⟨g,o+1,none⟩=some (.string (fieldAt row 1))) (by kernel_rfl) ?_ (fun hHeld=>?_)
 ·exact HS.o _ ah
 refine aA 0 (some 59) hHeld ?_;try simp only [aj]
 refine aA 1 (some 60) hHeld ?_;try simp only [aj]
 refine aA 2 (some 61) hHeld ?_;try simp only [aj]
 refine aA 3 (some 62) hHeld ?_;try simp only [aj]
 refine aA 4 (some 63) hHeld ?_;try simp only [aj]
 refine aA 5 (some 64) hHeld ?_;try simp only [aj]
 refine aA 6 (some 65) hHeld ?_;try simp only [aj]
 refine aA 7 (some 66) hHeld ?_;try simp only [aj]
 refine aA 8 (some 67) hHeld ?_;try simp only [aj]
 refine aP 9 (fun K hK=>?_)
 go_simp
 refine hK.out _ _ ?_ (fun hHeld=>?_)
 ·exact⟨Vf.o.r0,aD (HD0.o) Vf.o.base⟩
 clear hK K
 refine wpAnyH_done (by kernel_rfl) ?_ _
 go_wp2_with fail
 go_ret
 exact .set bF.o ((aZ.of_below ah).trans ⟨bC HM.o.wm,fun _ h=>.inl h⟩) (HB.o.mono.same _ rfl rfl rfl rfl HB.o.kind HB.o.sp) vo.o Vf.o
theorem Ms (w0:World) (L:List Nat) (rr rf:Nat) (E:Int) (all:List Row) (kh k:Nat) (S:Sx) (fv:Value) (row:List ByteArray) (w:World) (h:RQ w0 w L rr rf E all kh (k+1) S) (hr:b_ w0 fv row) (hl:row.length=2) (hk:fieldAt row 0=Px) (hall:all.length≤65536) :
  Calls Tryz.prog 101 #[.pointer (some ⟨rr,0,none⟩),fv] w (gH w0 L rr rf E all kh k (jw S.line S (xO S.fl (fieldAt row 1))) w):=by
 obtain⟨hbd,v,a,hpa,hm⟩:=h
 have o7:=hid (aL hr.each);have qL:=hid hr
 obtain⟨g,o,cp,rfl,hcp,hcells⟩:=hr.cells (by omega)
 have HD:Hid (∀j,j < row.length→∀W,Below w.heap.size w W→W.cell? ⟨g,o+j,none⟩=some (.string (fieldAt row j))):=hid (fun j hj W hb=>aD (hcells j hj) (hm.below hb).base)
 have d0:=HD.o 0 (by omega) w (Below.refl _ _)
 have d1:=HD.o 1 (by omega) w (Below.refl _ _)
 rw [Nat.add_zero,hk] at d0;have c0:=hm.r0;have HM:=hid hm;have HB:=hid hbd;have vo:=hid hpa;have xL:=hid hl;have HK:=hid hk;rw [hl] at hcp ⊢;clear hcells hm hbd hpa hr hl hk
 have lW:Hid (Calls Tryz.prog 136 #[.string Px] w fun e w'=>e=.returned (.int .i64 (-1))∧w=w'):=hid (dA Px w)
 obtain⟨⟨t,c⟩,hL⟩:∃p,bT (fieldAt row 1)=p:=⟨_,rfl⟩
 have Yw:Hid (Calls Tryz.prog 140 #[.string (fieldAt row 1)] w fun e w'=>e=.returned (.tuple #[.string t,.int .i64 c])∧Below w.heap.size w w'):=hid (by
  have h:=BP (fieldAt row 1) w (Nat.le_trans (o7.o 1) (by decide))
  rw [hL] at h;exact h)
 have HF:Hid (∀W,Below w.heap.size w W→W.cell? ⟨rr,0,none⟩=some (.pointer (some ⟨rf,0,none⟩))∧W.cell? ⟨rf,2,none⟩=some (.string S.fl.qI)∧W.frozen? ⟨rf,2,none⟩=false):=hid (fun W hW=>⟨(HM.o.below hW).r0,(HM.o.below hW).fc 2,(HM.o.below hW).fz 2⟩)
 have Vg:Hid (∀W,Below w.heap.size w W→QM w0 (W.setCell ⟨rf,2,none⟩ (.string t)) L rr rf v E all a { S with fl:={ S.fl with qI:=t } }):=hid (fun W hW=>(HM.o.below hW).qJ 2 _ (by rfl) rfl rfl rfl rfl)
 by_cases hc:c=0
 ·have bF:Hid (jw S.line S (xO S.fl (fieldAt row 1))=.ok { S with fl:={ S.fl with qI:=t } }):=hid (by rw [xO,hL,if_neg (by simpa using hc)];rfl)
  subst hc
  clear hL
  go_enter Tryz.func101,Tryz.ntmps101
  go_wp2_with (first | (go_at_call 136;refine lW.o.mono ?_;rintro e1 w1 ⟨rfl,rfl⟩) | (go_at_call 140;refine Yw.o.mono ?_;rintro e8 w8 ⟨rfl,mQ⟩;have oH:=hid mQ;obtain⟨q0,q2,z2⟩:=HF.o _ mQ;clear mQ))
  go_ret
  exact .set bF.o ((aZ.of_below oH.o).trans ⟨bC HM.o.wm,fun _ h=>.inl h⟩) (HB.o.mono.same _ rfl rfl rfl rfl HB.o.kind HB.o.sp) vo.o (Vg.o _ oH.o)
 have bF:Hid (jw S.line S (xO S.fl (fieldAt row 1))=.error (S.line,c)):=hid (by rw [xO,hL,if_pos hc];rfl)
 have HC:=hid hc;clear hL hc
 go_enter Tryz.func101,Tryz.ntmps101
 go_wp2_with (first | (go_at_call 136;refine lW.o.mono ?_;rintro e1 w1 ⟨rfl,rfl⟩) | (go_at_call 140;refine Yw.o.mono ?_;rintro e8 w8 ⟨rfl,mQ⟩;have oH:=hid mQ;obtain⟨q0,q2,z2⟩:=HF.o _ mQ;clear mQ))
 go_ret
 exact .bad bF.o HC.o ((aZ.of_below oH.o).trans ⟨bC HM.o.wm,fun _ h=>.inl h⟩) (Vg.o _ oH.o).r5
theorem Mt (w0:World) (L:List Nat) (rr rf:Nat) (E:Int) (all:List Row) (kh k:Nat) (S:Sx) (fv:Value) (row:List ByteArray) (w:World) (h:RQ w0 w L rr rf E all kh (k+1) S) (hr:b_ w0 fv row) (hl:row.length=2) (hk:fieldAt row 0=Py) (hall:all.length≤65536) :
  Calls Tryz.prog 101 #[.pointer (some ⟨rr,0,none⟩),fv] w (gH w0 L rr rf E all kh k (jw S.line S (jI S.fl (fieldAt row 1))) w):=by
 obtain⟨hbd,v,a,hpa,hm⟩:=h
 have o7:=hid (aL hr.each);have qL:=hid hr
 obtain⟨g,o,cp,rfl,hcp,hcells⟩:=hr.cells (by omega)
 have HD:Hid (∀j,j < row.length→∀W,Below w.heap.size w W→W.cell? ⟨g,o+j,none⟩=some (.string (fieldAt row j))):=hid (fun j hj W hb=>aD (hcells j hj) (hm.below hb).base)
 have d0:=HD.o 0 (by omega) w (Below.refl _ _)
 have d1:=HD.o 1 (by omega) w (Below.refl _ _)
 rw [Nat.add_zero,hk] at d0;have c0:=hm.r0;have HM:=hid hm;have HB:=hid hbd;have vo:=hid hpa;have xL:=hid hl;have HK:=hid hk;rw [hl] at hcp ⊢;clear hcells hm hbd hpa hr hl hk
 have lW:Hid (Calls Tryz.prog 136 #[.string Py] w fun e w'=>e=.returned (.int .i64 (-1))∧w=w'):=hid (dA Py w)
 have JK:=hid (fH (fieldAt row 1) 64 w (Nat.le_trans (o7.o 1) (by unfold maxLen;omega)) (by decide) (by decide))
 have g8:=HM.o.fc 8;have z8:=HM.o.fz 8
 change w.cell? ⟨rf,8,none⟩=some (.int .i64 S.fl.least) at g8
 rcases dK (fieldAt row 1).data.toList 64 with hq | hq
 rotate_left
 ·have bF:Hid (jw S.line S (jI S.fl (fieldAt row 1))=.error (S.line,13)):=hid (by rw [jI,if_pos (.inl (by rw [hq];decide))];rfl)
  have HQ:=hid hq;clear hq
  go_enter Tryz.func101,Tryz.ntmps101
  go_wp2_with (first | (go_at_call 136;refine lW.o.mono ?_;rintro e1 w1 ⟨rfl,rfl⟩) | (go_at_call 103;refine JK.o.mono ?_;rintro e3 w3 ⟨rG,rfl⟩;rw [dw,HQ.o] at rG;subst rG))
  go_ret
  exact .bad bF.o (by decide) (aZ.refl _ _) HM.o.r5
 obtain⟨b0,b1⟩:=dJ (fieldAt row 1).data.toList 64 (by decide)
 obtain⟨n,hn⟩:∃n:Nat,aJ (fieldAt row 1).data.toList 64=n:=⟨_,(Int.toNat_of_nonneg b0).symm⟩;have CP:=hid hn;have HQ:=hid hq
 by_cases h0:(n:Int)=0
 ·have bF:Hid (jw S.line S (jI S.fl (fieldAt row 1))=.error (S.line,13)):=hid (by rw [jI,if_pos (.inr (by rw [hn];exact h0))];rfl)
  have h01:((n:Int)==0)=true:=by rw [h0];rfl
  clear hq hn b0 b1 h0
  go_enter Tryz.func101,Tryz.ntmps101
  go_wp2_with (first | (go_at_call 136;refine lW.o.mono ?_;rintro e1 w1 ⟨rfl,rfl⟩) | (go_at_call 103;refine JK.o.mono ?_;rintro e3 w3 ⟨rG,rfl⟩;rw [dw,HQ.o,CP.o] at rG;subst rG))
  go_ret
  exact .bad bF.o (by decide) (aZ.refl _ _) HM.o.r5
 have bF:Hid (jw S.line S (jI S.fl (fieldAt row 1))=.ok { S with fl:={ S.fl with least:=(n:Int) } }):=hid (by rw [jI,if_neg (by rw [hq,hn];rintro (h | h);exact absurd rfl h;exact h0 h),hn];rfl)
 have h01:((n:Int)==0)=false:=by rw [beq_eq_false_iff_ne];exact h0
 have Vf:=hid (HM.o.qJ (F':={ S.fl with least:=(n:Int) }) 8 (.int .i64 (n:Int)) (by rfl) rfl rfl rfl rfl)
 clear hq hn b0 b1 h0
 go_enter Tryz.func101,Tryz.ntmps101
 go_wp2_with (first | (go_at_call 136;refine lW.o.mono ?_;rintro e1 w1 ⟨rfl,rfl⟩) | (go_at_call 103;refine JK.o.mono ?_;rintro e3 w3 ⟨rG,rfl⟩;rw [dw,HQ.o,CP.o] at rG;subst rG))
 go_ret
 exact .set bF.o ⟨bC HM.o.wm,fun _ h=>.inl h⟩ (HB.o.mono.same _ rfl rfl rfl rfl HB.o.kind HB.o.sp) vo.o Vf.o
theorem Mv (w0:World) (L:List Nat) (rr rf:Nat) (E:Int) (all:List Row) (kh k:Nat) (S:Sx) (fv:Value) (row:List ByteArray) (w:World) (h:RQ w0 w L rr rf E all kh (k+1) S) (hr:b_ w0 fv row) (hl:row.length=2) (hk:fieldAt row 0=mR) (hall:all.length≤65536) :
  Calls Tryz.prog 101 #[.pointer (some ⟨rr,0,none⟩),fv] w (gH w0 L rr rf E all kh k (nW E S (fieldAt row 1)) w):=by
 obtain⟨hbd,v,a,hpa,hm⟩:=h
 have o7:=hid (aL hr.each);have qL:=hid hr
 obtain⟨g,o,cp,rfl,hcp,hcells⟩:=hr.cells (by omega)
 have HD:Hid (∀j,j < row.length→∀W,Below w.heap.size w W→W.cell? ⟨g,o+j,none⟩=some (.string (fieldAt row j))):=hid (fun j hj W hb=>aD (hcells j hj) (hm.below hb).base)
 have d0:=HD.o 0 (by omega) w (Below.refl _ _)
 have d1:=HD.o 1 (by omega) w (Below.refl _ _)
 rw [Nat.add_zero,hk] at d0;have c0:=hm.r0;have HM:=hid hm;have HB:=hid hbd;have vo:=hid hpa;have xL:=hid hl;have HK:=hid hk;rw [hl] at hcp ⊢;clear hcells hm hbd hpa hr hl hk
 have lW:Hid (Calls Tryz.prog 136 #[.string mR] w fun e w'=>e=.returned (.int .i64 (-1))∧w=w'):=hid (dA mR w)
 have JK:=hid (fH (fieldAt row 1) 256 w (Nat.le_trans (o7.o 1) (by unfold maxLen;omega)) (by decide) (by decide))
 rcases dK (fieldAt row 1).data.toList 256 with hq | hq
 rotate_left
 ·have bF:Hid (nW E S (fieldAt row 1)=.error (S.line,13)):=hid (by rw [nW,if_pos (by rw [hq];decide)])
  have HQ:=hid hq;clear hq
  go_enter Tryz.func101,Tryz.ntmps101
  go_wp2_with (first | (go_at_call 136;refine lW.o.mono ?_;rintro e1 w1 ⟨rfl,rfl⟩) | (go_at_call 103;refine JK.o.mono ?_;rintro e3 w3 ⟨rG,rfl⟩;rw [dw,HQ.o] at rG;subst rG))
  go_ret
  exact .bad bF.o (by decide) (aZ.refl _ _) HM.o.r5
 obtain⟨b0,b1⟩:=dJ (fieldAt row 1).data.toList 256 (by decide)
 obtain⟨n,hn⟩:∃n:Nat,aJ (fieldAt row 1).data.toList 256=n:=⟨_,(Int.toNat_of_nonneg b0).symm⟩;have CP:=hid hn;have HQ:=hid hq
 have Ut:=hid (Ml w0 L rr rf E all kh k S (.slice (some ⟨g,o,none⟩) 2 cp) row n w ⟨HB.o.mono,v,a,vo.o,HM.o⟩ (by have:=qL.o;rwa [xL.o] at this) xL.o HK.o (by omega) hall)
 have bF:Hid (nW E S (fieldAt row 1)=aO E (fun r=>decide (r.take 1=[mR])) gV n S):=hid (by rw [nW,if_neg (by rw [hq];decide),hn,Int.toNat_natCast])
 rw [bF.o];clear hq hn b0 b1
 go_enter Tryz.func101,Tryz.ntmps101
 go_wp2_with (first | (go_at_call 136;refine lW.o.mono ?_;rintro e1 w1 ⟨rfl,rfl⟩) | (go_at_call 103;refine JK.o.mono ?_;rintro e3 w3 ⟨rG,rfl⟩;rw [dw,HQ.o,CP.o] at rG;subst rG) | (go_at_call 141;refine Ut.o.mono ?_;intro e9 w9 bM;obtain⟨z,hz⟩:∃z,e9=.returned (.int .i64 z):=gH.code bM;subst hz))
 go_ret
 exact bM
theorem Mw (w0:World) (L:List Nat) (rr rf:Nat) (E:Int) (all:List Row) (kh k:Nat) (S:Sx) (fv:Value) (row:List ByteArray) (w:World) (h:RQ w0 w L rr rf E all kh (k+1) S) (hr:b_ w0 fv row) (hl:row.length=2) (hk:fieldAt row 0=wH) (hall:all.length≤65536) :
  Calls Tryz.prog 101 #[.pointer (some ⟨rr,0,none⟩),fv] w (gH w0 L rr rf E all kh k (jf E S (fieldAt row 1)) w):=by
 obtain⟨hbd,v,a,hpa,hm⟩:=h
 have o7:=hid (aL hr.each);have qL:=hid hr
 obtain⟨g,o,cp,rfl,hcp,hcells⟩:=hr.cells (by omega)
 have HD:Hid (∀j,j < row.length→∀W,Below w.heap.size w W→W.cell? ⟨g,o+j,none⟩=some (.string (fieldAt row j))):=hid (fun j hj W hb=>aD (hcells j hj) (hm.below hb).base)
 have d0:=HD.o 0 (by omega) w (Below.refl _ _)
 have d1:=HD.o 1 (by omega) w (Below.refl _ _)
 rw [Nat.add_zero,hk] at d0;have c0:=hm.r0;have HM:=hid hm;have HB:=hid hbd;have vo:=hid hpa;have xL:=hid hl;have HK:=hid hk;rw [hl] at hcp ⊢;clear hcells hm hbd hpa hr hl hk
 have lW:Hid (Calls Tryz.prog 136 #[.string wH] w fun e w'=>e=.returned (.int .i64 (-1))∧w=w'):=hid (dA wH w)
 have JK:=hid (fH (fieldAt row 1) 1024 w (Nat.le_trans (o7.o 1) (by unfold maxLen;omega)) (by decide) (by decide))
 have Q_:S.heads.length≤65536:=by have:=HB.o.heads;omega
 have wJ:Hid (∀s,Calls Tryz.prog 100 #[.pointer (some ⟨rr,0,none⟩),.string s] w fun e w'=>e=.returned (.bool (S.heads.contains s))∧w=w'):=hid (fun s=>zR rr v.heads S.heads s w HM.o.r4 (Rd.aN HM.o.heads.1) Q_)
 obtain⟨p,hp⟩:∃b,S.heads.contains og=b:=⟨_,rfl⟩;obtain⟨q,hqq⟩:∃b,S.heads.contains dY=b:=⟨_,rfl⟩;have Ld:=hid (wJ.o og);have HS2:=hid (wJ.o dY);rw [hp] at Ld;rw [hqq] at HS2;have HP:=hid hp;have Yx:=hid hqq;clear wJ Q_ hp hqq
 by_cases hpq:p=true∨q=true
 ·have bF:Hid (jf E S (fieldAt row 1)=.error (S.line,113)):=hid (by rw [jf,HP.o,Yx.o,if_pos hpq])
  rcases hpq with rfl | rfl
  ·go_enter Tryz.func101,Tryz.ntmps101
   go_wp2_with fail
   refine lW.o.mono ?_
   rintro e1 w1 ⟨rfl,rfl⟩
   go_wp2_with fail
   refine Ld.o.mono ?_
   rintro e1 w1 ⟨rfl,rfl⟩
   go_wp2_with fail
   refine HS2.o.mono ?_
   rintro e1 w1 ⟨rfl,rfl⟩
   go_wp2_with fail
   go_ret
   exact .bad bF.o (by decide) (aZ.refl _ _) HM.o.r5
  cases p
  all_goals
   go_enter Tryz.func101,Tryz.ntmps101
   go_wp2_with fail
   refine lW.o.mono ?_
   rintro e1 w1 ⟨rfl,rfl⟩
   go_wp2_with fail
   refine Ld.o.mono ?_
   rintro e1 w1 ⟨rfl,rfl⟩
   go_wp2_with fail
   refine HS2.o.mono ?_
   rintro e1 w1 ⟨rfl,rfl⟩
   go_wp2_with fail
   go_ret
   exact .bad bF.o (by decide) (aZ.refl _ _) HM.o.r5
 have hp0:p=false:=by cases p;rfl;exact absurd (.inl rfl) hpq
 have hq0:q=false:=by cases q;rfl;exact absurd (.inr rfl) hpq
 subst hp0 hq0
 rcases dK (fieldAt row 1).data.toList 1024 with hq | hq
 rotate_left
 ·have bF:Hid (jf E S (fieldAt row 1)=.error (S.line,13)):=hid (by rw [jf,HP.o,Yx.o,if_neg hpq,if_pos (by rw [hq];decide)])
  have HQ:=hid hq;clear hq hpq
  go_enter Tryz.func101,Tryz.ntmps101
  go_wp2_with fail
  refine lW.o.mono ?_
  rintro e1 w1 ⟨rfl,rfl⟩
  go_wp2_with fail
  refine Ld.o.mono ?_
  rintro e1 w1 ⟨rfl,rfl⟩
  go_wp2_with fail
  refine HS2.o.mono ?_
  rintro e1 w1 ⟨rfl,rfl⟩
  go_wp2_with (go_at_call 103;refine JK.o.mono ?_;rintro e3 w3 ⟨rG,rfl⟩;rw [dw,HQ.o] at rG;subst rG)
  go_ret
  exact .bad bF.o (by decide) (aZ.refl _ _) HM.o.r5
 obtain⟨b0,b1⟩:=dJ (fieldAt row 1).data.toList 1024 (by decide)
 obtain⟨n,hn⟩:∃n:Nat,aJ (fieldAt row 1).data.toList 1024=n:=⟨_,(Int.toNat_of_nonneg b0).symm⟩;have CP:=hid hn;have HQ:=hid hq
 have Ut:=hid (Mq w0 L rr rf E all kh k S (.slice (some ⟨g,o,none⟩) 2 cp) row n w ⟨HB.o.mono,v,a,vo.o,HM.o⟩ (by have:=qL.o;rwa [xL.o] at this) xL.o HK.o (by omega) hall)
 have bF:Hid (jf E S (fieldAt row 1)=aO E (fun r=>decide (r.take 1=[wH])) eT n S):=hid (by rw [jf,HP.o,Yx.o,if_neg hpq,if_neg (by rw [hq];decide),hn,Int.toNat_natCast])
 rw [bF.o];clear hq hn b0 b1 hpq
 go_enter Tryz.func101,Tryz.ntmps101
 go_wp2_with fail
 refine lW.o.mono ?_
 rintro e1 w1 ⟨rfl,rfl⟩
 go_wp2_with fail
 refine Ld.o.mono ?_
 rintro e1 w1 ⟨rfl,rfl⟩
 go_wp2_with fail
 refine HS2.o.mono ?_
 rintro e1 w1 ⟨rfl,rfl⟩
 go_wp2_with (first | (go_at_call 103;refine JK.o.mono ?_;rintro e3 w3 ⟨rG,rfl⟩;rw [dw,HQ.o,CP.o] at rG;subst rG) | (go_at_call 141;refine Ut.o.mono ?_;intro e9 w9 bM;obtain⟨z,hz⟩:∃z,e9=.returned (.int .i64 z):=gH.code bM;subst hz))
 go_ret
 exact bM
theorem Mx (v:Qs) (F:Fl) (n:Nat) (hn:n < 5):(mM v F)[3+n]?=some (.int .i64 (dX F n)):=by
 rcases n with _ | _ | _ | _ | _ | n<;>first | rfl | omega
theorem DC (v:Qs) (F:Fl) (n:Nat) (hn:n < 5) (f:Int):(mM v F).setIfInBounds (3+n) (.int .i64 f)=mM v (eG F n f):=by
 rcases n with _ | _ | _ | _ | _ | n<;>first | rfl | omega
theorem JO (w0:World) (L:List Nat) (rr rf:Nat) (E:Int) (all:List Row) (kh k:Nat) (S:Sx) (fv:Value) (row:List ByteArray) (w:World) (h:RQ w0 w L rr rf E all kh (k+1) S) (hr:b_ w0 fv row) (hl:row.length=2) (j:Nat) (hj:j < 5) (hk:bV (fieldAt row 0)=3+j) (hall:all.length≤65536) :
  Calls Tryz.prog 101 #[.pointer (some ⟨rr,0,none⟩),fv] w (gH w0 L rr rf E all kh k (jw S.line S (gX S.fl j (fieldAt row 1))) w):=by
 obtain⟨hbd,v,a,hpa,hm⟩:=h
 have o7:=hid (aL hr.each);have qL:=hid hr
 obtain⟨g,o,cp,rfl,hcp,hcells⟩:=hr.cells (by omega)
 have HD:Hid (∀j,j < row.length→∀W,Below w.heap.size w W→W.cell? ⟨g,o+j,none⟩=some (.string (fieldAt row j))):=hid (fun j hj W hb=>aD (hcells j hj) (hm.below hb).base)
 have d0:=HD.o 0 (by omega) w (Below.refl _ _)
 have d1:=HD.o 1 (by omega) w (Below.refl _ _)
 rw [Nat.add_zero] at d0;have c0:=hm.r0;have HM:=hid hm;have HB:=hid hbd;have vo:=hid hpa;have xL:=hid hl;have HK:=hid hk;rw [hl] at hcp ⊢;clear hcells hm hbd hpa hr hl hk
 have lW:Hid (Calls Tryz.prog 136 #[.string (fieldAt row 0)] w fun e w'=>e=.returned (.int .i64 (j:Int))∧w=w'):=hid (by
  have h:=dA (fieldAt row 0) w
  rw [Ii,if_pos (by rw [HK.o];omega),HK.o] at h
  have e:((3+j:Nat):Int) - 3=(j:Int):=by omega
  rw [e] at h;exact h)
 have JJ:=hid (zU w0 L rr rf a v E all S (fieldAt row 1) w HM.o (by have:=HB.o.cls;omega) (Nat.le_trans (o7.o 1) (by decide)))
 have HF:Hid (∀W,Below w.heap.size w W→W.cell? ⟨rr,0,none⟩=some (.pointer (some ⟨rf,0,none⟩))∧W.cell? ⟨rf,3+j,none⟩=some (.int .i64 (dX S.fl j))∧W.frozen? ⟨rf,3+j,none⟩=false):=hid (fun W hW=>⟨(HM.o.below hW).r0,by rw [(HM.o.below hW).fc (3+j)];exact Mx v S.fl j hj,(HM.o.below hW).fz (3+j)⟩)
 have Vg:Hid (∀W f,Below w.heap.size w W→QM w0 (W.setCell ⟨rf,3+j,none⟩ (.int .i64 f)) L rr rf v E all a { S with fl:=eG S.fl j f }):=hid (fun W f hW=>(HM.o.below hW).qJ (3+j) _ (DC v S.fl j hj f) (bD _ _ _).1 (bD _ _ _).2.1 (bD _ _ _).2.2.1 (bD _ _ _).2.2.2.1)
 have hj0:(0:Int)≤(j:Int):=by omega
 have hj5:(j:Int) < 5:=by omega
 cases hfr:gq S.fl (fieldAt row 1) with
 | error c =>
  have bF:Hid (jw S.line S (gX S.fl j (fieldAt row 1))=.error (S.line,c)):=hid (by rw [gX,hfr];rfl)
  rw [hfr] at JJ;unfold nD at JJ;clear hfr
  go_enter Tryz.func101,Tryz.ntmps101
  go_wp2_with (first | (go_at_call 136;refine lW.o.mono ?_;rintro e1 w1 ⟨rfl,rfl⟩) | (go_at_call 137;refine JJ.o.mono ?_;rintro e8 w8 ⟨mQ,hc8,rfl⟩;have oH:=hid mQ;have Vh:=hid hc8;obtain⟨q0,q2,z2⟩:=HF.o _ mQ;clear mQ hc8))
  go_ret
  exact .bad bF.o Vh.o ((aZ.of_below oH.o).trans ⟨bC HM.o.wm,fun _ h=>.inl h⟩) (Vg.o _ 0 oH.o).r5
 | ok f =>
  have Sl:=hid (qw hfr)
  have bF:Hid (jw S.line S (gX S.fl j (fieldAt row 1))=.ok { S with fl:=eG S.fl j f }):=hid (by rw [gX,hfr];rfl)
  rw [hfr] at JJ;unfold nD at JJ;clear hfr
  go_enter Tryz.func101,Tryz.ntmps101
  go_wp2_with (first | (go_at_call 136;refine lW.o.mono ?_;rintro e1 w1 ⟨rfl,rfl⟩) | (go_at_call 137;refine JJ.o.mono ?_;rintro e8 w8 ⟨mQ,rfl⟩;have oH:=hid mQ;obtain⟨q0,q2,z2⟩:=HF.o _ mQ;clear mQ))
  go_ret
  refine .set bF.o ((aZ.of_below oH.o).trans ⟨bC HM.o.wm,fun _ h=>.inl h⟩) (HB.o.mono.same _ (bD _ _ _).1 (bD _ _ _).2.1 (bD _ _ _).2.2.1 (bD _ _ _).2.2.2.1 (by rw [(bD _ _ _).2.2.2.2];exact HB.o.kind) (fun m=>?_)) vo.o (Vg.o _ f oH.o)
  rw [mV _ _ hj]
  split
  ·exact⟨Sl.o.2.1,Sl.o.2.2.1⟩
  exact HB.o.sp m
theorem MB (w0:World) (L:List Nat) (rr rf:Nat) (E:Int) (all:List Row) (kh k:Nat) (S:Sx) (fv:Value) (row:List ByteArray) (w:World) (h:RQ w0 w L rr rf E all kh (k+1) S) (hr:b_ w0 fv row) (hl:row.length=4) (hk:fieldAt row 0=og) (hall:all.length≤65536) :
  Calls Tryz.prog 101 #[.pointer (some ⟨rr,0,none⟩),fv] w (gH w0 L rr rf E all kh k (fK E S row) w):=by
 have HQ:=hid (Ao w0 L rr rf E all kh k S fv row w h hr hl (.inl hk) hall)
 obtain⟨hbd,v,a,hpa,hm⟩:=h;have o7:=hid (aL hr.each);have qL:=hid hr
 obtain⟨g,o,cp,rfl,hcp,hcells⟩:=hr.cells (by omega)
 have HD:Hid (∀j,j < row.length→∀W,Below w.heap.size w W→W.cell? ⟨g,o+j,none⟩=some (.string (fieldAt row j))):=hid (fun j hj W hb=>aD (hcells j hj) (hm.below hb).base)
 have d0:=HD.o 0 (by omega) w (Below.refl _ _)
 have d1:=HD.o 1 (by omega) w (Below.refl _ _)
 rw [Nat.add_zero,hk] at d0;have c0:=hm.r0;have HM:=hid hm;have HB:=hid hbd;have vo:=hid hpa;have xL:=hid hl;have HK:=hid hk;rw [hl] at hcp HQ ⊢;clear hcells hm hbd hpa hr hl hk
 have lW:Hid (Calls Tryz.prog 136 #[.string og] w fun e w'=>e=.returned (.int .i64 (-1))∧w=w'):=hid (dA og w)
 go_enter Tryz.func101,Tryz.ntmps101
 go_wp2_with (first | (go_at_call 136;refine lW.o.mono ?_;rintro e1 w1 ⟨rfl,rfl⟩) | (go_at_call 142;refine HQ.o.mono ?_;intro e9 w9 bM;obtain⟨z,hz⟩:∃z,e9=.returned (.int .i64 z):=gH.code bM;subst hz))
 go_ret
 exact bM
theorem MC (w0:World) (L:List Nat) (rr rf:Nat) (E:Int) (all:List Row) (kh k:Nat) (S:Sx) (fv:Value) (row:List ByteArray) (w:World) (h:RQ w0 w L rr rf E all kh (k+1) S) (hr:b_ w0 fv row) (hl:row.length=4) (hk:fieldAt row 0=dY) (hall:all.length≤65536) :
  Calls Tryz.prog 101 #[.pointer (some ⟨rr,0,none⟩),fv] w (gH w0 L rr rf E all kh k (fK E S row) w):=by
 have HQ:=hid (Ao w0 L rr rf E all kh k S fv row w h hr hl (.inr hk) hall)
 obtain⟨hbd,v,a,hpa,hm⟩:=h;have o7:=hid (aL hr.each);have qL:=hid hr
 obtain⟨g,o,cp,rfl,hcp,hcells⟩:=hr.cells (by omega)
 have HD:Hid (∀j,j < row.length→∀W,Below w.heap.size w W→W.cell? ⟨g,o+j,none⟩=some (.string (fieldAt row j))):=hid (fun j hj W hb=>aD (hcells j hj) (hm.below hb).base)
 have d0:=HD.o 0 (by omega) w (Below.refl _ _)
 have d1:=HD.o 1 (by omega) w (Below.refl _ _)
 rw [Nat.add_zero,hk] at d0;have c0:=hm.r0;have HM:=hid hm;have HB:=hid hbd;have vo:=hid hpa;have xL:=hid hl;have HK:=hid hk;rw [hl] at hcp HQ ⊢;clear hcells hm hbd hpa hr hl hk
 have lW:Hid (Calls Tryz.prog 136 #[.string dY] w fun e w'=>e=.returned (.int .i64 (-1))∧w=w'):=hid (dA dY w)
 go_enter Tryz.func101,Tryz.ntmps101
 go_wp2_with (first | (go_at_call 136;refine lW.o.mono ?_;rintro e1 w1 ⟨rfl,rfl⟩) | (go_at_call 142;refine HQ.o.mono ?_;intro e9 w9 bM;obtain⟨z,hz⟩:∃z,e9=.returned (.int .i64 z):=gH.code bM;subst hz))
 go_ret
 exact bM
theorem DF (w0:World) (L:List Nat) (rr rf:Nat) (E:Int) (all:List Row) (kh k:Nat) (S:Sx) (fv:Value) (row:List ByteArray) (w:World) (h:RQ w0 w L rr rf E all kh (k+1) S) (hr:b_ w0 fv row) (n:Nat) (hk:bV (fieldAt row 0)=n) (hn:n < 13) (hl:row.length=gL n) (hall:all.length≤65536) :
  Calls Tryz.prog 101 #[.pointer (some ⟨rr,0,none⟩),fv] w (gH w0 L rr rf E all kh k (iy E S row n) w):=by
 have hkey:=nA (fieldAt row 0) (by omega)
 rw [hk] at hkey
 have h2:n < 11→row.length=2:=fun h=>by rw [hl,gL,if_pos h]
 have h4:¬n < 11→row.length=4:=fun h=>by rw [hl,gL,if_neg h]
 unfold iy
 by_cases e0:n=0
 ·rw [if_pos e0];subst e0;exact JN w0 L rr rf E all kh k S fv row w h hr (h2 (by omega)) hkey hall
 rw [if_neg e0]
 by_cases e1:n=1
 ·rw [if_pos e1];subst e1;exact Mr w0 L rr rf E all kh k S fv row w h hr (h2 (by omega)) hkey hall
 rw [if_neg e1]
 by_cases e2:n=2
 ·rw [if_pos e2];subst e2;exact Ms w0 L rr rf E all kh k S fv row w h hr (h2 (by omega)) hkey hall
 rw [if_neg e2]
 by_cases e3:n < 8
 ·rw [if_pos e3]
  exact JO w0 L rr rf E all kh k S fv row w h hr (h2 (by omega)) (n - 3) (by omega) (by omega) hall
 rw [if_neg e3]
 by_cases e4:n=8
 ·rw [if_pos e4];subst e4;exact Mt w0 L rr rf E all kh k S fv row w h hr (h2 (by omega)) hkey hall
 rw [if_neg e4]
 by_cases e5:n=9
 ·rw [if_pos e5];subst e5;exact Mv w0 L rr rf E all kh k S fv row w h hr (h2 (by omega)) hkey hall
 rw [if_neg e5]
 by_cases e6:n=10
 ·rw [if_pos e6];subst e6;exact Mw w0 L rr rf E all kh k S fv row w h hr (h2 (by omega)) hkey hall
 rw [if_neg e6]
 by_cases e7:n=11
 ·subst e7;exact MB w0 L rr rf E all kh k S fv row w h hr (h4 (by omega)) hkey hall
 obtain rfl:n=12:=by omega
 exact MC w0 L rr rf E all kh k S fv row w h hr (h4 (by omega)) hkey hall
end Go.Proofs.YtfkblpjfknfgbaaGreatDoor
