/-
 Parts of the proof: AR10, AR11, AR12, Img6, AR13.
-/
import Derived.BigQuiet
import Derived.Test.YtfkblpjfknfgbaaGreatDoorRows
import Derived.Test.YtfkblpjfknfgbaaGreatDoorS11
import Derived.Test.YtfkblpjfknfgbaaGreatDoorS1
import Derived.Test.YtfkblpjfknfgbaaGreatDoorS9
import Derived.Test.YtfkblpjfknfgbaaGreatDoorS4
set_option linter.unusedVariables false
set_option linter.unusedSimpArgs false
set_option maxHeartbeats 8000000
set_option maxRecDepth 100000
open Go.Maps Go.RowKit
open Go.Lib (hid cell_of_heap frozen_of_heap byteCells)
open Go.World (block_lt_of_cell?)
namespace Go.Proofs.YtfkblpjfknfgbaaGreatDoor
theorem rowCells_at:∀(rs:List RowIn) (k:Nat) (hk:k < rs.length),(rowCells rs)[k*2]?=some (.int .i64 rs[k].1)∧(rowCells rs)[k*2+1]?=some rs[k].2.1
 | [],_,hk=>absurd hk (Nat.not_lt_zero _)
 | c::r,0,_=>⟨rfl,rfl⟩
 | c::r,k+1,hk=>by
   have:=rowCells_at r k (by simpa using hk)
   have e:rowCells (c::r)=[.int .i64 c.1,c.2.1]++rowCells r:=by simp [rowCells]
   have key:∀j,(rowCells (c::r))[(k+1)*2+j]?=(rowCells r)[k*2+j]?:=fun j=>by
    rw [e,List.getElem?_append_right (by simp;omega)]
    congr 1
    simp;omega
   exact⟨(key 0).trans this.1,(key 1).trans this.2⟩
theorem rows_slice {w0:World} {v:Value} {all:List Row} (h:RowsM w0 v all):∃A cap,v=.slice A all.length cap∧all.length≤cap:=by
 obtain⟨rs,ha,⟨-,A,cap,hv,hc,-⟩,-⟩:=h
 have hl:rs.length=all.length:=by rw [←ha];simp [rowAbs]
 exact⟨A,cap,by rw [←hl];exact hv,by rw [←hl];exact hc⟩
theorem rows_at {w0:World} {v:Value} {all:List Row} {a:Nat} {l:Int} {row:List ByteArray} {rest:List Row} (h:RowsM w0 v all) (hd:all.drop a=(l,row)::rest) :
  ∃g o cap fv,v=.slice (some ⟨g,o,none⟩) all.length cap∧a < all.length∧all.length≤cap∧w0.cell? ⟨g,o+a*2,none⟩=some (.int .i64 l)∧w0.cell? ⟨g,o+a*2+1,none⟩=some fv∧Rd w0 1 fv row.length (strV row):=by
 obtain⟨rs,ha,hr,hd2⟩:=h
 have hl:rs.length=all.length:=by rw [←ha];simp [rowAbs]
 have hlt:a < all.length:=by
  rcases Nat.lt_or_ge a all.length with h | h
  ·exact h
  rw [List.drop_eq_nil_of_le h] at hd;cases hd
 have hx:all[a]=(l,row):=by
  rw [List.drop_eq_getElem_cons hlt] at hd
  injection hd
 have hlr:a < rs.length:=by omega
 have hxr:((rs[a]).1,(rs[a]).2.2)=(l,row):=by
  rw [←hx]
  subst ha
  simp [rowAbs]
 injection hxr with h1 h2
 obtain⟨-,A,cap,rfl,hcap,hc⟩:=hr
 obtain⟨g,o,rfl,hc2⟩:=hc.resolve_left (by omega)
 obtain⟨q0,q1⟩:=rowCells_at rs a hlr
 have e0:=hc2 _ _ q0
 have e1:=hc2 _ _ q1
 rw [h1] at e0
 rw [←Nat.add_assoc] at e1
 refine⟨g,o,cap,_,by rw [←hl],hlt,by omega,e0,e1,?_⟩
 have:=(hd2 rs[a] (List.getElem_mem hlr)).rd
 rwa [h2] at this
theorem PosR.at_ {all:List Row} {a:Nat} {S:Sx} {x:Row} {rest:List Row} (h:PosR all a S) (hr:S.rows=x::rest):all.drop a=x::rest:=by rw [h.2,hr]
theorem PosR.next {all:List Row} {a:Nat} {S:Sx} {l:Int} {x:Row} {rest:List Row} (h:PosR all a S) (hr:S.rows=x::rest):PosR all (a+1) { S with rows:=rest,line:=l }:=by
 obtain⟨h1,h2⟩:=h
 rw [hr] at h1 h2
 refine⟨by show a+1+rest.length=_;simp at h1;omega,?_⟩
 show all.drop (a+1)=rest
 rw [←List.drop_drop,h2];rfl
def GrpQ (w0:World) (L:List Nat) (rr rf:Nat) (E:Int) (all:List Row) (kh k:Nat) (R:RX) (w:World) (e:Ending) (w':World):Prop:=∃L',Go2 L w L' w'∧match R with
 | .ok S=>e=.returned (.int .i64 0)∧RQ w0 w' L' rr rf E all kh k S
 | .error p=>p.2≠0∧e=.returned (.int .i64 p.2)∧w'.cell? ⟨rr,5,none⟩=some (.int .i64 p.1)
theorem GrpQ.bad {w0:World} {L L':List Nat} {rr rf:Nat} {E:Int} {all:List Row} {kh k:Nat} {R:RX} {l c:Int} {w w':World} (hR:R=.error (l,c)) (hc:c≠0) (hg:Go2 L w L' w') (hl:w'.cell? ⟨rr,5,none⟩=some (.int .i64 l)):GrpQ w0 L rr rf E all kh k R w (.returned (.int .i64 c)) w':=by
 subst hR;exact⟨L',hg,hc,rfl,hl⟩
def okH (head row:List ByteArray):Prop:=fieldAt row 0=fieldAt head 0∧(head.length=4→2≤row.length∧fieldAt row 1=fieldAt head 1)
theorem so_qgroup (w0:World) (L:List Nat) (rr rf:Nat) (E:Int) (all:List Row) (kh k:Nat) (S:Sx) (hv:Value) (head:List ByteArray) (n:Nat) (ok:List ByteArray→Bool) (inn:Fl→Int→List ByteArray→Except Int Fl) (J:Fl→Prop) (w:World)
  (h:RQ w0 w L rr rf E all kh k S) (hh:RowF1 w0 hv head) (h24:head.length=2∨head.length=4) (hJ0:J S.fl) (hJ:∀F l row F',J F→inn F l row=.ok F'→J F') (hok:∀row,row≠[]→(ok row=true↔okH head row))
  (hIn:∀(L':List Nat) (S':Sx) (fv:Value) (row:List ByteArray) (w':World),J S'.fl→RQ w0 w' L' rr rf E all (kh+1) (k+1) S'→RowF1 w0 fv row→ok row=true→0 < row.length→Calls Tryz.prog 180 #[.pointer (some ⟨rr,0,none⟩),fv] w' (InnQ w0 L' rr rf E all kh k S' (inn S'.fl S'.line row) w'))
  (hn:n≤65536) (hall:all.length≤65536):Calls Tryz.prog 141 #[.pointer (some ⟨rr,0,none⟩),hv,.int .i64 n] w (GrpQ w0 L rr rf E all kh k (groupR E ok inn n S) w):=by
 obtain⟨R,hR⟩:∃R,groupR E ok inn n S=R:=⟨_,rfl⟩
 rw [hR]
 have HR:=hid hR
 have HQ:=hid h
 have HJ0:=hid hJ0
 have HJ:=hid hJ
 have HIn:=hid hIn
 have HOk:=hid hok
 obtain⟨hg,ho,hcp,rfl,hhc,hcells⟩:=hh.cells (by omega)
 have D0:=hid (hcells 0 (by omega))
 have D1:=hid (hcells 1 (by omega))
 have hhl:head.length≤65536:=hh.len
 obtain⟨hn4,hhn⟩:∃x,head.length=x:=⟨_,rfl⟩
 rw [hhn] at hhc hhl h24 ⊢
 have HN:=hid hhn
 clear hR h hJ0 hJ hIn hok hcells hh hhn
 go_enter Tryz.func141,Tryz.ntmps141
 go_wp2_with fail
 go_loopw [7,8,9] (fun x _ _ wr=>∃(m:Nat) (S':Sx) (L':List Nat),m≤n∧x=.int .i64 m∧Hid (RQ w0 wr L' rr rf E all kh k S')∧Hid (J S'.fl)∧Hid (Go2 L w L' wr)∧Hid (groupR E ok inn (n - m) S'=R)) (fun x _ _ _=>n - (intOf x).toNat)
 case atStart=>exact⟨0,S,L,Nat.zero_le _,rfl,HQ,HJ0,hid (Go2.refl _ _),HR⟩
 case round =>
 obtain⟨m,S',L',hm,rfl,HRQ,HJS,HGo,HGr⟩:=hrel
 by_cases hlt:m < n
 ·have hnm:n - m=(n - (m+1))+1:=by omega
  obtain⟨hbd,v,a,hpa,hqm⟩:=HRQ.out
  have c1:=hqm.r1
  have c2:=hqm.r2
  have c5:=hqm.r5
  have z5:=hqm.rz 5
  have z2:=hqm.rz 2
  rcases hrows:S'.rows with _ | ⟨⟨l,rw_⟩,rest⟩
  ·have HRe:Hid (R=.error (E,116)):=hid (by rw [←HGr.out,hnm,groupR,hrows])
   obtain⟨Ar,cr,hvr,hcr⟩:=rows_slice hqm.rows
   have hal:a=all.length:=by have:=hpa.1;rw [hrows] at this;simpa using this
   subst hal
   rw [hvr] at c1
   have c3:=hqm.r3
   have HM:=hid hqm
   clear hnm hrows hbd hpa hqm hvr hcr c5 z5
   go_wp2_with fail
   go_quiet (fail)
   have HBq:Hid (Below wr.heap.size wr (wr.drewN nq)):=hid (below_drewN (Below.refl _ _) nq)
   generalize wr.drewN nq=wq at HBq ⊢
   clear c1 c2 c3
   have HMq:=hid (HM.out.below HBq.out)
   have c3:=HMq.out.r3
   have c5:=HMq.out.r5
   have z5:=HMq.out.rz 5
   go_wp2_with fail
   go_ret
   exact .bad HRe.out (by decide) ((HGo.out.trans (Go2.of_below HBq.out)).trans ⟨set_kept' HM.out.rrL,fun _ h=>.inl h⟩) (HMq.out.setLine E).r5
  have HGr2:Hid (R=if ok rw_=true then (match inn S'.fl l rw_ with
   | .error c=>.error (l,c)
   | .ok F=>groupR E ok inn (n - (m+1)) { fl:=F,rows:=rest,heads:=S'.heads,line:=l }) else .error (l,116)):=hid (by rw [←HGr.out,hnm,groupR,hrows];rfl)
  obtain⟨gr,orr,cr,fv,hvr,halt,hcr,e0,e1,hrd⟩:=rows_at hqm.rows (hpa.at_ hrows)
  have HF1:=hid (rowF1_of hbd hrows hrd)
  have hne:rw_≠[]:=(hbd.row (l,rw_) (by rw [hrows];simp)).1
  have hpos:0 < rw_.length:=List.length_pos_iff.2 hne
  have hrwl:rw_.length≤65536:=HF1.out.len
  have hOk:=HOk.out rw_ hne
  have HTk:=hid (hbd.take hrows)
  have HPn:=hid (hpa.next (l:=l) hrows)
  have HM:=hid hqm
  rw [hvr] at c1
  obtain⟨fg,fo,fc,rfl,hfc,fcells⟩:=HF1.out.cells hpos
  have d0:=(hqm.base.cell (block_lt_of_cell? w0 _ e0)).trans e0
  have d1:=(hqm.base.cell (block_lt_of_cell? w0 _ e1)).trans e1
  have hai:(a:Int) < (all.length:Int):=by omega
  have ha0:(0:Int)≤(a:Int):=by omega
  have hwa:IntKind.i64.wrap ((a:Int)+1)=((a+1:Nat):Int):=by rw [IntKind.wrap_i64];omega
  have HFC:=hid fcells
  have HSQ:Hid (∀W S1,QM w0 W L' rr rf v E all a S1→W.cell? ⟨rr,1,none⟩=some (.slice (some ⟨gr,orr,none⟩) all.length cr)∧W.cell? ⟨rr,2,none⟩=some (.int .i64 (a:Int))∧W.cell? ⟨gr,orr+a*2,none⟩=some (.int .i64 l)∧W.cell? ⟨gr,orr+a*2+1,none⟩=some (.slice (some ⟨fg,fo,none⟩) rw_.length fc)):=hid (fun W S1 hW=>⟨by rw [hW.r1,hvr],hW.r2,(hW.base.cell (block_lt_of_cell? w0 _ e0)).trans e0,(hW.base.cell (block_lt_of_cell? w0 _ e1)).trans e1⟩)
  clear hnm hrows hbd hpa hqm hvr hrd hne fcells e0 e1
  have HFa:Hid (∀W,Below wr.heap.size wr W→W.cell? ⟨rr,1,none⟩=some (.slice (some ⟨gr,orr,none⟩) all.length cr)∧W.cell? ⟨rr,2,none⟩=some (.int .i64 (a:Int))∧W.cell? ⟨gr,orr+a*2,none⟩=some (.int .i64 l)∧W.cell? ⟨gr,orr+a*2+1,none⟩=some (.slice (some ⟨fg,fo,none⟩) rw_.length fc)):=hid (fun W hW=>⟨(hW.cell (block_lt_of_cell? _ _ c1)).trans c1,(hW.cell (block_lt_of_cell? _ _ c2)).trans c2,(hW.cell (block_lt_of_cell? _ _ d0)).trans d0,(hW.cell (block_lt_of_cell? _ _ d1)).trans d1⟩)
  go_wp2_with fail
  go_quiet (fail)
  go_wp2_with fail
  have HBq:Hid (Below wr.heap.size wr (wr.drewN nq)):=hid (below_drewN (Below.refl _ _) nq)
  generalize wr.drewN nq=wq at HBq ⊢
  clear c1 c2 d0 d1
  obtain⟨c1,c2,d0,d1⟩:=HFa.out _ HBq.out
  go_quiet (fail)
  go_wp2_with fail
  have HBr:Hid (Below wr.heap.size wr (wq.drewN nq)):=hid (below_drewN HBq.out nq)
  generalize wq.drewN nq=wx at HBr ⊢
  clear c1 c2 d0 d1 c5 z5 z2 HBq
  have HMx:=hid (HM.out.below HBr.out)
  have c5:=HMx.out.r5
  have z5:=HMx.out.rz 5
  refine wp_region_held_drew (S:=fun W=>W.cell? ⟨rr,1,none⟩=some (.slice (some ⟨gr,orr,none⟩) all.length cr)∧W.cell? ⟨rr,2,none⟩=some (.int .i64 (a:Int))∧W.cell? ⟨gr,orr+a*2,none⟩=some (.int .i64 l)∧W.cell? ⟨gr,orr+a*2+1,none⟩=some (.slice (some ⟨fg,fo,none⟩) rw_.length fc)) (by kernel_rfl) ?_ (fun hHeld=>?_)
  ·exact HFa.out _ (HBr.out.trans (drew_below.mono HBr.out.size))
  refine tkA 0 (some 43) hHeld ?_;try simp only [put_norm]
  refine tkA 1 (some 44) hHeld ?_;try simp only [put_norm]
  refine tkA 2 (some 45) hHeld ?_;try simp only [put_norm]
  refine tkA 3 (some 46) hHeld ?_;try simp only [put_norm]
  refine tkA 4 (some 47) hHeld ?_;try simp only [put_norm]
  refine tkA 5 (some 48) hHeld ?_;try simp only [put_norm]
  refine tkA 6 (some 49) hHeld ?_;try simp only [put_norm]
  refine tkA 7 (some 50) hHeld ?_;try simp only [put_norm]
  refine tkA 8 (some 51) hHeld ?_;try simp only [put_norm]
  refine tkA 9 (some 52) hHeld ?_;try simp only [put_norm]
  refine tkA 10 (some 53) hHeld ?_;try simp only [put_norm]
  refine tkA 11 (some 54) hHeld ?_;try simp only [put_norm]
  refine tkA 12 (some 55) hHeld ?_;try simp only [put_norm]
  refine tkA 13 (some 56) hHeld ?_;try simp only [put_norm]
  refine rdy1 14 (fun K hK=>?_)
  go_simp
  refine hK.out _ _ ?_ (fun hHeld=>?_)
  ·exact HSQ.out _ _ ((HMx.out.setLine l).below drew_below)
  clear hK K
  refine wpAnyH_done (by kernel_rfl) ?_ _
  have HMy:=hid ((HMx.out.setLine l).below drew_below)
  have HGy:Hid (Go2 L w L' (wx.setCell ⟨rr,5,none⟩ (.int .i64 l)).drew):=hid (((HGo.out.trans (Go2.of_below HBr.out)).trans ⟨set_kept' HM.out.rrL,fun _ h=>.inl h⟩).trans (Go2.of_below drew_below))
  generalize (wx.setCell ⟨rr,5,none⟩ (.int .i64 l)).drew=wy at HMy HGy ⊢
  clear c5 z5 HMx HBr HFa
  have c2:=HMy.out.r2
  have z2:=HMy.out.rz 2
  have HMz:Hid (QM w0 (wy.setCell ⟨rr,2,none⟩ (.int .i64 ((a:Int)+1))) L' rr rf v E all (a+1) { S' with line:=l,rows:=rest }):=hid (HMy.out.setAt (a+1) rest)
  have HGz:Hid (Go2 L w L' (wy.setCell ⟨rr,2,none⟩ (.int .i64 ((a:Int)+1)))):=hid (HGy.out.trans ⟨set_kept' HM.out.rrL,fun _ h=>.inl h⟩)
  go_upto_region 10 with fail
  generalize (wy.setCell ⟨rr,2,none⟩ (.int .i64 ((a:Int)+1)))=wz at HMz HGz ⊢
  clear c2 z2 HMy HGy HSQ hwa
  have HFz:Hid (∀j,j < rw_.length→∀W,Below wz.heap.size wz W→W.cell? ⟨fg,fo+j,none⟩=some (.string (fieldAt rw_ j))):=hid (fun j hj W hb=>field_in (HFC.out j hj) (HMz.out.below hb).base)
  have f0:=HFz.out 0 hpos wz (Below.refl _ _)
  have g0:=field_in D0.out HMz.out.base
  rw [Nat.add_zero] at f0 g0
  by_cases h0:fieldAt rw_ 0=fieldAt head 0
  ·by_cases hok2:okH head rw_
   ·have hok3:ok rw_=true:=hOk.2 hok2
    rw [h0] at f0
    have HIw:Hid (∀W,Below wz.heap.size wz W→Calls Tryz.prog 180 #[.pointer (some ⟨rr,0,none⟩),.slice (some ⟨fg,fo,none⟩) rw_.length fc] W (InnQ w0 L' rr rf E all kh k { S' with line:=l,rows:=rest } (inn S'.fl l rw_) W)):=hid (fun W hW=>HIn.out L' { S' with line:=l,rows:=rest } _ rw_ W HJS.out ⟨HTk.out,v,a+1,HPn.out,HMz.out.below hW⟩ HF1.out hok3 hpos)
    have hGr3:=HGr2.out
    rw [if_pos hok3] at hGr3
    obtain⟨I,hI⟩:∃I,inn S'.fl l rw_=I:=⟨_,rfl⟩
    have HIe:=hid hI
    rw [hI] at hGr3 HIw
    clear hI hok3 h0
    cases I with
    | error c =>
     have HRe:=hid hGr3
     clear hGr3
     rcases h24 with rfl | rfl
     ·go_quiet (fail)
      go_wp2_with fail
      go_quiet (fail)
      go_upto_region 14 with fail
      go_wp2_with (go_at_call 180;refine (HIw.out _ (below_drewN (Below.refl _ _) _)).mono ?_;rintro e5 w5 ⟨L5,hg5,hc0,rfl,hl5⟩;have HL5:=hid hl5;have HE5:=hid hc0;have HG5:=hid ((HGz.out.trans (Go2.of_below (below_drewN (Below.refl _ _) _))).trans hg5);have he5:(c != 0)=true:=by { simpa using hc0 };clear hl5 hg5 hc0)
      go_ret
      exact .bad HRe.out HE5.out HG5.out HL5.out
     obtain⟨hl2,h1⟩:=hok2.2 HN.out
     have f1:=HFz.out 1 (by omega) wz (Below.refl _ _)
     have g1:=field_in D1.out HMz.out.base
     rw [h1] at f1
     have hd2:decide ((rw_.length:Int) < 2)=false:=by rw [decide_eq_false_iff_not];omega
     go_quiet (fail)
     go_wp2_with fail
     go_quiet (fail)
     go_upto_region 14 with fail
     go_wp2_with (go_at_call 180;refine (HIw.out _ (below_drewN (Below.refl _ _) _)).mono ?_;rintro e5 w5 ⟨L5,hg5,hc0,rfl,hl5⟩;have HL5:=hid hl5;have HE5:=hid hc0;have HG5:=hid ((HGz.out.trans (Go2.of_below (below_drewN (Below.refl _ _) _))).trans hg5);have he5:(c != 0)=true:=by { simpa using hc0 };clear hl5 hg5 hc0)
     go_ret
     exact .bad HRe.out HE5.out HG5.out HL5.out
    | ok F =>
     have HRe:=hid hGr3
     clear hGr3
     rcases h24 with rfl | rfl
     ·go_quiet (fail)
      go_wp2_with fail
      go_quiet (fail)
      go_upto_region 14 with fail
      go_wp2_with (go_at_call 180;refine (HIw.out _ (below_drewN (Below.refl _ _) _)).mono ?_;rintro e5 w5 ⟨L5,hg5,rfl,hq5⟩;have HQ5:=hid hq5;have HG5:=hid ((HGz.out.trans (Go2.of_below (below_drewN (Below.refl _ _) _))).trans hg5);clear hg5 hq5)
      go_roundw
      case rel=>exact⟨m+1,_,L5,by omega,by go_num,HQ5,hid (HJ.out _ _ _ _ HJS.out HIe.out),HG5,hid HRe.out.symm⟩
      case measure=>simp [intOf];omega
     obtain⟨hl2,h1⟩:=hok2.2 HN.out
     have f1:=HFz.out 1 (by omega) wz (Below.refl _ _)
     have g1:=field_in D1.out HMz.out.base
     rw [h1] at f1
     have hd2:decide ((rw_.length:Int) < 2)=false:=by rw [decide_eq_false_iff_not];omega
     go_quiet (fail)
     go_wp2_with fail
     go_quiet (fail)
     go_upto_region 14 with fail
     go_wp2_with (go_at_call 180;refine (HIw.out _ (below_drewN (Below.refl _ _) _)).mono ?_;rintro e5 w5 ⟨L5,hg5,rfl,hq5⟩;have HQ5:=hid hq5;have HG5:=hid ((HGz.out.trans (Go2.of_below (below_drewN (Below.refl _ _) _))).trans hg5);clear hg5 hq5)
     go_roundw
     case rel=>exact⟨m+1,_,L5,by omega,by go_num,HQ5,hid (HJ.out _ _ _ _ HJS.out HIe.out),HG5,hid HRe.out.symm⟩
     case measure=>simp [intOf];omega
   have HRe:Hid (R=.error (l,116)):=hid (by rw [HGr2.out,if_neg (fun h=>hok2 (hOk.1 h))])
   rw [h0] at f0
   rcases h24 with rfl | rfl
   ·exact absurd ⟨h0,fun h=>by have:=HN.out;omega⟩ hok2
   by_cases hl2:rw_.length < 2
   ·have hd2:decide ((rw_.length:Int) < 2)=true:=by rw [decide_eq_true_eq];omega
    clear hok2 h0 hOk
    go_quiet (fail)
    go_wp2_with fail
    go_quiet (fail)
    go_wp2_with fail
    go_ret
    exact .bad HRe.out (by decide) (HGz.out.trans (Go2.of_below (below_drewN (below_drewN (Below.refl _ _) _) _))) (HMz.out.below (below_drewN (below_drewN (Below.refl _ _) _) _)).r5
   have hd2:decide ((rw_.length:Int) < 2)=false:=by rw [decide_eq_false_iff_not];omega
   have hne1:=str_neq _ _ (fun h1:fieldAt rw_ 1=fieldAt head 1=>hok2 ⟨h0,fun _=>⟨by omega,h1⟩⟩)
   have f1:=HFz.out 1 (by omega) wz (Below.refl _ _)
   have g1:=field_in D1.out HMz.out.base
   clear hok2 h0 hOk
   go_quiet (fail)
   go_wp2_with fail
   go_quiet (fail)
   go_wp2_with fail
   go_ret
   exact .bad HRe.out (by decide) (HGz.out.trans (Go2.of_below (below_drewN (below_drewN (Below.refl _ _) _) _))) (HMz.out.below (below_drewN (below_drewN (Below.refl _ _) _) _)).r5
  have HRe:Hid (R=.error (l,116)):=hid (by rw [HGr2.out,if_neg (fun h=>h0 (hOk.1 h).1)])
  have hne0:=str_neq _ _ h0
  clear h0 hOk
  go_quiet (fail)
  go_wp2_with fail
  go_ret
  exact .bad HRe.out (by decide) (HGz.out.trans (Go2.of_below (below_drewN (Below.refl _ _) _))) (HMz.out.below (below_drewN (Below.refl _ _) _)).r5
 obtain rfl:m=n:=by omega
 have HRf:Hid (R=.ok S'):=hid (by rw [←HGr.out,Nat.sub_self,groupR])
 go_wp2_with fail
 go_ret
 unfold GrpQ
 rw [HRf.out]
 exact⟨L',HGo.out,rfl,HRQ.out⟩
theorem take2_iff (row head:List ByteArray) (h:row≠[]) (hh:head.length=4):decide (row.take 2=[fieldAt head 0,fieldAt head 1])=true↔okH head row:=by
 rw [decide_eq_true_eq,okH]
 rcases row with _ | ⟨x,_ | ⟨y,r⟩⟩
 ·exact absurd rfl h
 ·simp [hh]
 simp [hh,fieldAt]
theorem GrpQ.after {w0:World} {L L1:List Nat} {rr rf:Nat} {E:Int} {all:List Row} {kh k:Nat} {R:RX} {w w1 w':World} {e:Ending} (h:GrpQ w0 L1 rr rf E all kh k R w1 e w') (hg:Go2 L w L1 w1):GrpQ w0 L rr rf E all kh k R w e w':=by
 obtain⟨L',h1,h2⟩:=h
 exact⟨L',hg.trans h1,h2⟩
theorem GrpQ.code {w0:World} {L:List Nat} {rr rf:Nat} {E:Int} {all:List Row} {kh k:Nat} {R:RX} {w w':World} {e:Ending} (h:GrpQ w0 L rr rf E all kh k R w e w'):∃z,e=.returned (.int .i64 z):=by
 obtain⟨L',h1,h2⟩:=h
 cases R with
 | ok S=>exact⟨0,h2.1⟩
 | error p=>exact⟨_,h2.2.1⟩
theorem ruleIn_cls {c:Cl} {F F':Fl} {l:Int} {row:List ByteArray} (h:ruleIn c F l row=.ok F'):F'.cls=F.cls:=by
 unfold ruleIn at h
 split at h
 ·cases h
 cases h;rfl
theorem so_qrules (w0:World) (L:List Nat) (rr rf:Nat) (E:Int) (all:List Row) (kh k:Nat) (S:Sx) (hv:Value) (head:List ByteArray) (n:Nat) (cl:Cl) (w:World) (h:RQ w0 w L rr rf E all kh k S) (hh:RowF1 w0 hv head) (hl:head.length=4) (hkey:fieldAt head 0=kPFX∨fieldAt head 0=kSFX) (hck:cl.kind=1∨cl.kind=2) (hla:S.fl.cls.getLast?=some cl) (hn:n≤65536) (hall:all.length≤65536) :
  Calls Tryz.prog 141 #[.pointer (some ⟨rr,0,none⟩),hv,.int .i64 n] w (GrpQ w0 L rr rf E all kh k (groupR E (fun r=>decide (r.take 2=[fieldAt head 0,fieldAt head 1])) (ruleIn cl) n S) w) :=
 so_qgroup w0 L rr rf E all kh k S hv head n _ _ (fun F=>F.cls.getLast?=some cl) w h hh (.inr hl) hla (fun F l row F' hJ hr=>by
  show F'.cls.getLast?=some cl
  rw [ruleIn_cls hr];exact hJ) (fun row hne=>take2_iff row head hne hl) (fun L' S' fv row w' hJ hq hr hok hpos=>by
  have hne:row≠[]:=List.length_pos_iff.1 hpos
  have h0:=((take2_iff row head hne hl).1 hok).1
  refine so_qrl w0 L' rr rf E all kh k S' cl fv row w' hq hr ?_ ?_ hpos hJ hck
  ·rw [h0];rcases hkey with h | h<;>rw [h]<;>decide
  ·rw [h0];rcases hkey with h | h<;>rw [h]<;>decide) hn hall
theorem so_qclass (w0:World) (L:List Nat) (rr rf:Nat) (E:Int) (all:List Row) (kh k:Nat) (S:Sx) (fv:Value) (row:List ByteArray) (w:World) (h:RQ w0 w L rr rf E all kh (k+1) S) (hr:RowF1 w0 fv row) (hl:row.length=4) (hkey:fieldAt row 0=kPFX∨fieldAt row 0=kSFX) (hall:all.length≤65536) :
  Calls Tryz.prog 142 #[.pointer (some ⟨rr,0,none⟩),fv] w (GrpQ w0 L rr rf E all kh k (classR E S row) w):=by
 obtain⟨i0,hi,hz0,hz1,hz2⟩:=info_parts qcls_info
 obtain⟨hbd,v,a,hpa,hm⟩:=h
 have HSz:=hid (fieldAt_le hr.each)
 have HRow:=hid hr
 obtain⟨g,o,cp,rfl,hcp,hcells⟩:=hr.cells (by omega)
 have HD:Hid (∀j,j < 4→∀W,Below w.heap.size w W→W.cell? ⟨g,o+j,none⟩=some (.string (fieldAt row j))):=hid (fun j hj W hb=>field_in (hcells j (by omega)) (hm.below hb).base)
 have HM:=hid hm
 have HB:=hid hbd
 have HPa:=hid hpa
 have HKey:=hid hkey
 have HFr:=hid (so_qfresh w0 L rr rf a v E all S (fieldAt row 1) w hm (by have:=hbd.cls;omega) (Nat.le_trans (HSz.out 1) (by decide)))
 have d1:=HD.out 1 (by omega) w (Below.refl _ _)
 have HLr:=hid hl
 rw [hl] at hcp ⊢
 clear hcells hm hbd hpa hr hkey hl
 cases hfr:freshR S.fl (fieldAt row 1) with
 | error e =>
  have HRe:Hid (classR E S row=.error (S.line,e)):=hid (by rw [classR,hfr])
  rw [hfr] at HFr
  unfold FreshQ at HFr
  clear hfr
  go_enter Tryz.func142,Tryz.ntmps142
  go_wp2_with (go_at_call 137;refine HFr.out.mono ?_;rintro e1 w1 ⟨hb1,he1,rfl⟩;have HB1:=hid hb1;have HE1:=hid he1;have he2:(e != 0)=true:=by { simpa using he1 };clear hb1 he1)
  go_ret
  exact .bad HRe.out HE1.out (Go2.of_below HB1.out) (HM.out.below HB1.out).r5
 | ok f =>
  have HFo:=hid (freshR_ok hfr)
  obtain⟨R,hR⟩:∃R,classR E S row=R:=⟨_,rfl⟩
  have HR0:Hid (R=if fieldAt row 2≠⟨#[89]⟩∧fieldAt row 2≠⟨#[78]⟩ then .error (S.line,114)
  else if numErr (fieldAt row 3).data.toList 1024≠0 then .error (S.line,13)
  else if 1024 < (S.fl.rls.length:Int)+numVal (fieldAt row 3).data.toList 1024 then .error (S.line,117)
  else groupR E (fun r=>decide (r.take 2=[fieldAt row 0,fieldAt row 1])) (ruleIn ⟨f,if fieldAt row 0=kSFX then 2 else 1,decide (fieldAt row 2=⟨#[89]⟩),S.fl.rls.length,numVal (fieldAt row 3).data.toList 1024⟩)
   (numVal (fieldAt row 3).data.toList 1024).toNat { S with fl:={ S.fl with cls:=S.fl.cls++[⟨f,if fieldAt row 0=kSFX then 2 else 1,decide (fieldAt row 2=⟨#[89]⟩),S.fl.rls.length,numVal (fieldAt row 3).data.toList 1024⟩] } }):=hid (by rw [←hR,classR,hfr])
  rw [hR]
  rw [hfr] at HFr
  unfold FreshQ at HFr
  clear hR hfr
  go_enter Tryz.func142,Tryz.ntmps142
  go_upto_region 4 with (go_at_call 137;refine HFr.out.mono ?_;rintro e1 w1 ⟨hb1,rfl⟩;have HB1:=hid hb1;have d2:=HD.out 2 (by omega) w1 hb1;have d3:=HD.out 3 (by omega) w1 hb1;have HN1:=hid (Number01_any (fieldAt row 3) 1024 w1 (Nat.le_trans (HSz.out 3) (by unfold maxLen;omega)) (by decide) (by decide));clear hb1)
  by_cases hyn:fieldAt row 2≠⟨#[89]⟩∧fieldAt row 2≠⟨#[78]⟩
  ·have HRe:Hid (R=.error (S.line,114)):=hid (by rw [HR0.out,if_pos hyn])
   have y1':((fieldAt row 2).toList==[89])=false:=by rw [beq_eq_false_iff_ne];intro e;exact hyn.1 (toList_inj' e)
   have y2':((fieldAt row 2).toList==[78])=false:=by rw [beq_eq_false_iff_ne];intro e;exact hyn.2 (toList_inj' e)
   clear hyn
   go_wp2_with fail
   go_ret
   exact .bad HRe.out (by decide) (Go2.of_below HB1.out) (HM.out.below HB1.out).r5
  have HR1:=HR0.out
  rw [if_neg hyn] at HR1
  have HR1:=hid HR1
  have hyn2:fieldAt row 2=⟨#[89]⟩∨fieldAt row 2=⟨#[78]⟩:=by
   by_cases h1:fieldAt row 2=⟨#[89]⟩
   ·exact .inl h1
   exact .inr (Classical.byContradiction fun h2=>hyn ⟨h1,h2⟩)
  clear hyn HR0
  go_cut [29] from 20 to 29 (fun p W=>p=.bool false∧W=w1)
  case first =>
   rcases hyn2 with h2 | h2
   all_goals
    rw [h2] at d2
    go_wp2_with fail
   all_goals go_meet
   all_goals exact⟨rfl,rfl⟩
  case rest =>
  obtain⟨rfl,hw1⟩:=hcut
  rw [hw1]
  clear hw1 wc
  have c0:=(HM.out.below HB1.out).r0
  obtain⟨rs,hrs,ho,-⟩:=HM.out.rls
  obtain⟨AR,cpR,hvR⟩:=own_slice ho.1
  have hlr:rs.length=S.fl.rls.length:=by rw [←hrs];simp
  rw [hlr] at hvR
  have c12:w1.cell? ⟨rf,12,none⟩=some (.slice AR S.fl.rls.length cpR):=by rw [(HM.out.below HB1.out).fc 12,←hvR];rfl
  obtain⟨fi,hfi⟩:∃n:Nat,S.fl.rls.length=n:=⟨_,rfl⟩
  have HFi:=hid hfi
  rw [hfi] at c12 HR1
  have hfi2:fi≤65536:=by have:=HB.out.rls;omega
  clear hrs ho hvR hlr hfi
  go_upto_region 6 with fail
  rcases numErr_13 (fieldAt row 3).data.toList 1024 with hq | hq
  rotate_left
  ·have HRe:Hid (R=.error (S.line,13)):=hid (by rw [HR1.out,if_pos (by rw [hq];decide)])
   have HQ:=hid hq
   clear hq
   go_wp2_with (go_at_call 103;refine HN1.out.mono ?_;rintro e3 w3 ⟨he3,rfl⟩;rw [NumRet,HQ.out] at he3;subst he3)
   go_ret
   exact .bad HRe.out (by decide) (Go2.of_below HB1.out) (HM.out.below HB1.out).r5
  obtain⟨b0,b1⟩:=numVal_bd (fieldAt row 3).data.toList 1024 (by decide)
  obtain⟨n,hn⟩:∃n:Nat,numVal (fieldAt row 3).data.toList 1024=n:=⟨_,(Int.toNat_of_nonneg b0).symm⟩
  have HNn:=hid hn
  have HQ:=hid hq
  have hr1:=HR1.out
  rw [if_neg (by rw [hq];decide),hn,Int.toNat_natCast] at hr1
  have HR2:=hid hr1
  have hn2:(n:Int)≤1024:=by rw [←hn];exact b1
  have hwr:IntKind.i64.wrap ((fi:Int)+(n:Int))=(fi:Int)+(n:Int):=by rw [IntKind.wrap_i64];omega
  clear hn hq hr1 HR1 b0 b1
  by_cases hbig:1024 < (fi:Int)+(n:Int)
  ·have HRe:Hid (R=.error (S.line,117)):=hid (by rw [HR2.out,if_pos hbig])
   have hbig2:decide (1024 < (fi:Int)+(n:Int))=true:=by rw [decide_eq_true_eq];exact hbig
   go_wp2_with (go_at_call 103;refine HN1.out.mono ?_;rintro e3 w3 ⟨he3,rfl⟩;rw [NumRet,HQ.out,HNn.out] at he3;subst he3)
   go_ret
   exact .bad HRe.out (by decide) (Go2.of_below HB1.out) (HM.out.below HB1.out).r5
  have hr2:=HR2.out
  rw [if_neg hbig] at hr2
  have HR3:=hid hr2
  have hbig2:decide (1024 < (fi:Int)+(n:Int))=false:=by rw [decide_eq_false_iff_not];exact hbig
  clear hr2 HR2
  go_upto_region 11 with (go_at_call 103;refine HN1.out.mono ?_;rintro e3 w3 ⟨he3,rfl⟩;rw [NumRet,HQ.out,HNn.out] at he3;subst he3)
  obtain⟨Kd,hKd⟩:∃k:Int,(if fieldAt row 0=kSFX then (2:Int) else 1)=k:=⟨_,rfl⟩
  obtain⟨cr,hcr⟩:∃b:Bool,decide (fieldAt row 2=⟨#[89]⟩)=b:=⟨_,rfl⟩
  rw [hKd,hcr] at HR3
  have HKd:=hid hKd
  have HCr:=hid hcr
  have HS:Hid (∀W,Below w1.heap.size w1 W→W.cell? ⟨rr,0,none⟩=some (.pointer (some ⟨rf,0,none⟩))∧W.cell? ⟨rf,12,none⟩=some (.slice AR fi cpR)∧W.cell? ⟨g,o+2,none⟩=some (.string (fieldAt row 2))):=hid (fun W hW=>⟨(hW.cell (block_lt_of_cell? _ _ c0)).trans c0,(hW.cell (block_lt_of_cell? _ _ c12)).trans c12,(hW.cell (block_lt_of_cell? _ _ d2)).trans d2⟩)
  have HD0:Hid (∀W,Below w1.heap.size w1 W→W.cell? ⟨g,o,none⟩=some (.string (fieldAt row 0))):=hid (fun W hW=>by
   have:=HD.out 0 (by omega) W (HB1.out.trans (hW.mono HB1.out.size))
   rwa [Nat.add_zero] at this)
  clear hKd hcr hbig hbig2
  go_cut [8] from 51 to 65 (fun p W=>∃b,p=.pointer (some ⟨b,0,none⟩)∧Hid (Below w1.heap.size w1 W)∧Hid (w1.heap.size≤b)∧Hid (W.heap[b]?=some (.cells #[.int .i64 f,.int .i64 2,.bool cr,.int .i64 (fi:Int),.int .i64 (n:Int)] 192 (0,0))))
  case first =>
   have e2:((fieldAt row 2).toList==[89])=cr:=by
    rw [←HCr.out,Bool.eq_iff_iff,beq_iff_eq,decide_eq_true_eq]
    exact⟨fun e=>toList_inj' e,fun e=>by rw [e,Lib.toList_data]⟩
   refine wp_region_held_drew (S:=fun W=>W.cell? ⟨rr,0,none⟩=some (.pointer (some ⟨rf,0,none⟩))∧W.cell? ⟨rf,12,none⟩=some (.slice AR fi cpR)∧W.cell? ⟨g,o+2,none⟩=some (.string (fieldAt row 2))) (by kernel_rfl) ?_ (fun hHeld=>?_)
   ·exact HS.out _ drew_below
   refine tkA 0 (some 51) hHeld ?_;try simp only [put_norm]
   refine tkA 1 (some 52) hHeld ?_;try simp only [put_norm]
   refine tkA 2 (some 53) hHeld ?_;try simp only [put_norm]
   refine tkA 3 (some 54) hHeld ?_;try simp only [put_norm]
   refine tkA 4 (some 55) hHeld ?_;try simp only [put_norm]
   refine tkA 5 (some 56) hHeld ?_;try simp only [put_norm]
   refine tkA 6 (some 57) hHeld ?_;try simp only [put_norm]
   refine tkA 7 (some 58) hHeld ?_;try simp only [put_norm]
   refine tkA 8 (some 59) hHeld ?_;try simp only [put_norm]
   refine tkA 9 (some 60) hHeld ?_;try simp only [put_norm]
   refine tkA 10 (some 61) hHeld ?_;try simp only [put_norm]
   refine tkA 11 (some 62) hHeld ?_;try simp only [put_norm]
   refine tkA 12 (some 63) hHeld ?_;try simp only [put_norm]
   refine tkA 13 (some 64) hHeld ?_;try simp only [put_norm]
   refine tkA 14 (some 65) hHeld ?_;try simp only [put_norm]
   refine rdy1 15 (fun K hK=>?_)
   go_simp
   refine hK.out _ _ ?_ (fun hHeld=>?_)
   ·first | exact HS.out _ drew_below | exact HS.out _ (drew_below.alloc (Nat.le_refl _) _)
   clear hK K
   refine rdy1 16 (fun K hK=>?_)
   go_simp
   refine hK.out _ _ ?_ (fun hHeld=>?_)
   ·first | exact HS.out _ drew_below | exact HS.out _ (drew_below.alloc (Nat.le_refl _) _)
   clear hK K
   refine wpAnyH_done (by kernel_rfl) ?_ _
   go_wp2_with fail
   all_goals go_meet
   all_goals exact⟨_,rfl,hid ((Below.refl _ _).alloc (Nat.le_refl _) _).drew,hid (Nat.le_refl _),hid (heap_alloc_new w1 _)⟩
  case rest =>
  obtain⟨b,rfl,HB6,HLb,HX6⟩:=hcut
  have d0:=HD0.out _ HB6.out
  obtain⟨Bz,hBz⟩:∃B,((fieldAt row 0).toList==[80,70,88])=B:=⟨_,rfl⟩
  go_upto_if 69 with fail
  go_cut [] from 70 to 70 (fun W=>Hid (Below w1.heap.size w1 W)∧Hid (W.heap[b]?=some (.cells #[.int .i64 f,.int .i64 Kd,.bool cr,.int .i64 (fi:Int),.int .i64 (n:Int)] 192 (0,0))))
  case first =>
   have x1:=cell_of_heap HX6.out 1
   have z1:=frozen_of_heap HX6.out 1
   cases Bz
   ·have hk:Kd=2:=by
     rw [←HKd.out,if_pos]
     rcases HKey.out with hk | hk
     ·rw [hk,Lib.toList_data] at hBz
      exact absurd hBz (by decide)
     exact hk
    subst hk
    go_wp2_with fail
    all_goals go_meet
    all_goals exact⟨HB6,HX6⟩
   have hk:Kd=1:=by
    rw [←HKd.out,if_neg]
    intro e
    rw [e,Lib.toList_data] at hBz
    exact absurd hBz (by decide)
   subst hk
   go_wp2_with fail
   all_goals go_meet
   all_goals exact⟨hid (Below.setCell HB6.out (p:=⟨b,1,none⟩) HLb.out _),hid (heap_setCell_same _ _ 1 _ _ _ HX6.out)⟩
  case rest =>
  obtain⟨HB7,HX7⟩:=hcut
  clear HB6 HLb HX6 d0 hBz
  have HM7:=hid (HM.out.below (HB1.out.trans (HB7.out.mono HB1.out.size)))
  have HB17:Hid (Below w.heap.size w wc):=hid (HB1.out.trans (HB7.out.mono HB1.out.size))
  obtain⟨x0,x1,x2,x3,x4⟩:wc.cell? ⟨b,0,none⟩=some (.int .i64 f)∧wc.cell? ⟨b,1,none⟩=some (.int .i64 Kd)∧wc.cell? ⟨b,2,none⟩=some (.bool cr)∧wc.cell? ⟨b,3,none⟩=some (.int .i64 (fi:Int))∧wc.cell? ⟨b,4,none⟩=some (.int .i64 (n:Int)):=by
   refine⟨?_,?_,?_,?_,?_⟩<;>(rw [cell_of_heap HX7.out];rfl)
  have hbl:=block_lt HX7.out
  obtain⟨A3,cp3,hv3⟩:=own_slice HM7.out.cls.1
  have HV3:=hid hv3
  have hcl3:S.fl.cls.length≤65536:=by have:=HB.out.cls;omega
  have HOc:Hid (∀W,Below wc.heap.size wc W→W.cell? ⟨rf,11,none⟩=some (.slice A3 S.fl.cls.length cp3)∧W.ownsRow 0 192 5 (.slice A3 S.fl.cls.length cp3) S.fl.cls.length (qcls S.fl.cls)):=hid (fun W hW=>⟨by rw [(HM7.out.below hW).fc 11,←HV3.out];rfl,by rw [←HV3.out];exact (HM7.out.below hW).cls.1⟩)
  have c7:=HM7.out.r0
  have c11:=(HOc.out wc (Below.refl _ _)).1
  have hrf7:=block_lt_of_cell? _ _ c11
  have hrr7:=block_lt_of_cell? _ _ c7
  have HFg:Hid (∀W,Below wc.heap.size wc W→∀W9,W.grownBy W9 (Value.slice A3 S.fl.cls.length cp3).ownBlock→W9.cell? ⟨rf,11,none⟩=some (.slice A3 S.fl.cls.length cp3)∧W9.frozen? ⟨rf,11,none⟩=false):=hid (fun W hW W9 hg=>by
   rw [←HV3.out] at hg
   have hf:=(HM7.out.below hW).file_grown hg (HM7.out.below hW).ty_cls (by decide)
   exact⟨by rw [cell_of_heap hf,←HV3.out];rfl,frozen_of_heap hf 11⟩)
  have HPu:Hid (∀W,Below wc.heap.size wc W→∀W9 g9 cap9,W9.ownsRow 0 192 5 (.slice (some ⟨g9,0,none⟩) (S.fl.cls.length+1) cap9) (S.fl.cls.length+1) (qcls S.fl.cls++[.int .i64 f,.int .i64 Kd,.bool cr,.int .i64 (fi:Int),.int .i64 (n:Int)])→W.grownBy W9 (Value.slice A3 S.fl.cls.length cp3).ownBlock→LocP W W9 (.slice A3 S.fl.cls.length cp3) (.slice (some ⟨g9,0,none⟩) (S.fl.cls.length+1) cap9) →
    ∃L',Go2 L w L' (W9.setCell ⟨rf,11,none⟩ (.slice (some ⟨g9,0,none⟩) (S.fl.cls.length+1) cap9))∧QM w0 (W9.setCell ⟨rf,11,none⟩ (.slice (some ⟨g9,0,none⟩) (S.fl.cls.length+1) cap9)) L' rr rf { v with cls:=.slice (some ⟨g9,0,none⟩) (S.fl.cls.length+1) cap9 } E all a { S with fl:={ S.fl with cls:=S.fl.cls++[⟨f,Kd,cr,(fi:Int),(n:Int)⟩] } }):=hid (fun W hW W9 g9 cap9 hown hg hloc=>by
   rw [←HV3.out] at hg hloc
   obtain⟨L',hG,hM⟩:=(HM7.out.below hW).push_cls ⟨f,Kd,cr,(fi:Int),(n:Int)⟩ hg hloc hown
   exact⟨L',((Go2.of_below HB17.out).trans (Go2.of_below hW)).trans hG,hM⟩)
  have HRg:Hid (∀W,Below wc.heap.size wc W→∀W9,W.grownBy W9 (Value.slice A3 S.fl.cls.length cp3).ownBlock→W9.cell? ⟨rr,0,none⟩=some (.pointer (some ⟨rf,0,none⟩))):=hid (fun W hW W9 hg=>by
   rw [←HV3.out] at hg
   have hf:=(HM7.out.below hW).rdr_grown hg (HM7.out.below hW).ty_cls (by decide)
   rw [cell_of_heap hf];rfl)
  have HFl:Hid (0 < f∧f≤65535):=hid (by have:=HFo.out;omega)
  clear hv3
  go_upto_region 14 with fail
  go_cut [] from 71 to 86 (fun W=>∃L',Hid (RQ w0 W L' rr rf E all kh k { S with fl:={ S.fl with cls:=S.fl.cls++[⟨f,Kd,cr,(fi:Int),(n:Int)⟩] } })∧Hid (Go2 L w L' W))
  case first =>
   refine wp_region_held_drew (S:=fun W=>W.cell? ⟨rr,0,none⟩=some (.pointer (some ⟨rf,0,none⟩))) (by kernel_rfl) ?_ (fun hHeld=>?_)
   ·exact (HM7.out.below drew_below).r0
   refine tkA 0 (some 71) hHeld ?_;try simp only [put_norm]
   refine tkA 1 (some 72) hHeld ?_;try simp only [put_norm]
   refine tkA 2 (some 73) hHeld ?_;try simp only [put_norm]
   refine tkA 3 (some 74) hHeld ?_;try simp only [put_norm]
   refine tkA 4 (some 75) hHeld ?_;try simp only [put_norm]
   refine tkA 5 (some 76) hHeld ?_;try simp only [put_norm]
   refine tkA 6 (some 77) hHeld ?_;try simp only [put_norm]
   refine tkA 7 (some 78) hHeld ?_;try simp only [put_norm]
   refine tkA 8 (some 79) hHeld ?_;try simp only [put_norm]
   refine tkA 9 (some 80) hHeld ?_;try simp only [put_norm]
   refine wpAnyH_ready (rs:=[10,11]) (by kernel_rfl) (by simp) ?_
   refine AllReadyH.cons rfl (fun K hK=>?_) ?_
   ·go_simp
    refine hK.out _ _ ?_ (fun hHeld=>?_)
    ·first | exact (HM7.out.below drew_below).r0 | exact (HM7.out.below (drew_below.alloc (Nat.le_refl _) _)).r0 | exact HMF.out.r0
    clear hK K
    refine rdy1 11 (fun K hK=>?_)
    go_simp
    refine hK.out _ _ ?_ (fun hHeld=>?_)
    ·first | exact (HM7.out.below drew_below).r0 | exact (HM7.out.below (drew_below.alloc (Nat.le_refl _) _)).r0 | exact HMF.out.r0
    clear hK K
    refine rdy1 12 (fun K hK=>?_)
    go_simp
    refine hK.out _ _ ?_ (fun hHeld=>?_)
    ·first | exact (HM7.out.below drew_below).r0 | exact (HM7.out.below (drew_below.alloc (Nat.le_refl _) _)).r0 | exact HMF.out.r0
    clear hK K
    refine rdy1 13 (fun K hK=>?_)
    refine step_pushL (w:=wc.drew) (by rfl) _ _ 45 (by rfl) 0 192 i0 _ 5 40 Tryz.underlying45 hi hz0 hz1 hz2 rfl (by decide) (.slice A3 S.fl.cls.length cp3) S.fl.cls.length (qcls S.fl.cls) (by rfl) (HOc.out _ drew_below).2 #[.int .i64 f,.int .i64 Kd,.bool cr,.int .i64 (fi:Int),.int .i64 (n:Int)] (by rfl) (by intro x hx;simp at hx;rcases hx with rfl | rfl | rfl | rfl | rfl<;>rfl) (by rfl) (by unfold maxLen;omega) (by omega) (Nat.zero_le _) ?_
    intro gg cc w9 hown hg9 hloc
    obtain⟨L9,hG9,hM9⟩:=HPu.out _ drew_below _ _ _ hown hg9 hloc
    have HG9:=hid hG9
    have HMF:=hid hM9
    have HR9:=hid (HRg.out _ drew_below _ hg9)
    obtain⟨c9'',z9⟩:=HFg.out _ drew_below _ hg9
    clear hown hg9 hloc hG9 hM9
    refine hK.out _ _ ?_ (fun hHeld=>?_)
    ·exact HR9.out
    clear hK K
    refine tkA 14 (some 85) hHeld ?_;try simp only [put_norm]
    refine tkA 15 (some 86) hHeld ?_;try simp only [put_norm]
    refine rdy1 16 (fun K hK=>?_)
    go_simp
    refine hK.out _ _ ?_ (fun hHeld=>?_)
    ·first | exact (HM7.out.below drew_below).r0 | exact (HM7.out.below (drew_below.alloc (Nat.le_refl _) _)).r0 | exact HMF.out.r0
    clear hK K
    refine wpAnyH_done (by kernel_rfl) ?_ _
    go_wp2_with fail
    go_meet
    exact⟨L9,hid ⟨HB.out.pushCls ⟨f,Kd,cr,(fi:Int),(n:Int)⟩ HFl.out,_,a,HPa.out,HMF.out⟩,HG9⟩
   refine AllReadyH.cons rfl (fun K hK=>?_) ?_
   ·go_simp
    refine hK.out _ _ ?_ (fun hHeld=>?_)
    ·first | exact (HM7.out.below drew_below).r0 | exact (HM7.out.below (drew_below.alloc (Nat.le_refl _) _)).r0 | exact HMF.out.r0
    clear hK K
    refine wpAnyH_ready (rs:=[10,12]) (by kernel_rfl) (by simp) ?_
    refine AllReadyH.cons rfl (fun K hK=>?_) ?_
    ·go_simp
     refine hK.out _ _ ?_ (fun hHeld=>?_)
     ·first | exact (HM7.out.below drew_below).r0 | exact (HM7.out.below (drew_below.alloc (Nat.le_refl _) _)).r0 | exact HMF.out.r0
     clear hK K
     refine rdy1 12 (fun K hK=>?_)
     go_simp
     refine hK.out _ _ ?_ (fun hHeld=>?_)
     ·first | exact (HM7.out.below drew_below).r0 | exact (HM7.out.below (drew_below.alloc (Nat.le_refl _) _)).r0 | exact HMF.out.r0
     clear hK K
     refine rdy1 13 (fun K hK=>?_)
     refine step_pushL (w:=wc.drew) (by rfl) _ _ 45 (by rfl) 0 192 i0 _ 5 40 Tryz.underlying45 hi hz0 hz1 hz2 rfl (by decide) (.slice A3 S.fl.cls.length cp3) S.fl.cls.length (qcls S.fl.cls) (by rfl) (HOc.out _ drew_below).2 #[.int .i64 f,.int .i64 Kd,.bool cr,.int .i64 (fi:Int),.int .i64 (n:Int)] (by rfl) (by intro x hx;simp at hx;rcases hx with rfl | rfl | rfl | rfl | rfl<;>rfl) (by rfl) (by unfold maxLen;omega) (by omega) (Nat.zero_le _) ?_
     intro gg cc w9 hown hg9 hloc
     obtain⟨L9,hG9,hM9⟩:=HPu.out _ drew_below _ _ _ hown hg9 hloc
     have HG9:=hid hG9
     have HMF:=hid hM9
     have HR9:=hid (HRg.out _ drew_below _ hg9)
     obtain⟨c9'',z9⟩:=HFg.out _ drew_below _ hg9
     clear hown hg9 hloc hG9 hM9
     refine hK.out _ _ ?_ (fun hHeld=>?_)
     ·exact HR9.out
     clear hK K
     refine tkA 14 (some 85) hHeld ?_;try simp only [put_norm]
     refine tkA 15 (some 86) hHeld ?_;try simp only [put_norm]
     refine rdy1 16 (fun K hK=>?_)
     go_simp
     refine hK.out _ _ ?_ (fun hHeld=>?_)
     ·first | exact (HM7.out.below drew_below).r0 | exact (HM7.out.below (drew_below.alloc (Nat.le_refl _) _)).r0 | exact HMF.out.r0
     clear hK K
     refine wpAnyH_done (by kernel_rfl) ?_ _
     go_wp2_with fail
     go_meet
     exact⟨L9,hid ⟨HB.out.pushCls ⟨f,Kd,cr,(fi:Int),(n:Int)⟩ HFl.out,_,a,HPa.out,HMF.out⟩,HG9⟩
    refine AllReadyH.cons rfl (fun K hK=>?_) ?_
    ·go_simp
     refine hK.out _ _ ?_ (fun hHeld=>?_)
     ·first | exact (HM7.out.below drew_below).r0 | exact (HM7.out.below (drew_below.alloc (Nat.le_refl _) _)).r0 | exact HMF.out.r0
     clear hK K
     refine rdy1 10 (fun K hK=>?_)
     go_simp
     refine hK.out _ _ ?_ (fun hHeld=>?_)
     ·first | exact (HM7.out.below drew_below).r0 | exact (HM7.out.below (drew_below.alloc (Nat.le_refl _) _)).r0 | exact HMF.out.r0
     clear hK K
     refine rdy1 13 (fun K hK=>?_)
     refine step_pushL (w:=wc.drew) (by rfl) _ _ 45 (by rfl) 0 192 i0 _ 5 40 Tryz.underlying45 hi hz0 hz1 hz2 rfl (by decide) (.slice A3 S.fl.cls.length cp3) S.fl.cls.length (qcls S.fl.cls) (by rfl) (HOc.out _ drew_below).2 #[.int .i64 f,.int .i64 Kd,.bool cr,.int .i64 (fi:Int),.int .i64 (n:Int)] (by rfl) (by intro x hx;simp at hx;rcases hx with rfl | rfl | rfl | rfl | rfl<;>rfl) (by rfl) (by unfold maxLen;omega) (by omega) (Nat.zero_le _) ?_
     intro gg cc w9 hown hg9 hloc
     obtain⟨L9,hG9,hM9⟩:=HPu.out _ drew_below _ _ _ hown hg9 hloc
     have HG9:=hid hG9
     have HMF:=hid hM9
     have HR9:=hid (HRg.out _ drew_below _ hg9)
     obtain⟨c9'',z9⟩:=HFg.out _ drew_below _ hg9
     clear hown hg9 hloc hG9 hM9
     refine hK.out _ _ ?_ (fun hHeld=>?_)
     ·exact HR9.out
     clear hK K
     refine tkA 14 (some 85) hHeld ?_;try simp only [put_norm]
     refine tkA 15 (some 86) hHeld ?_;try simp only [put_norm]
     refine rdy1 16 (fun K hK=>?_)
     go_simp
     refine hK.out _ _ ?_ (fun hHeld=>?_)
     ·first | exact (HM7.out.below drew_below).r0 | exact (HM7.out.below (drew_below.alloc (Nat.le_refl _) _)).r0 | exact HMF.out.r0
     clear hK K
     refine wpAnyH_done (by kernel_rfl) ?_ _
     go_wp2_with fail
     go_meet
     exact⟨L9,hid ⟨HB.out.pushCls ⟨f,Kd,cr,(fi:Int),(n:Int)⟩ HFl.out,_,a,HPa.out,HMF.out⟩,HG9⟩
    exact AllReadyH.nil
   exact AllReadyH.nil
  case rest =>
  obtain⟨L9,HQ9,HG9⟩:=hcut
  have HGp:=hid (so_qrules w0 L9 rr rf E all kh k _ (.slice (some ⟨g,o,none⟩) 4 cp) row n ⟨f,Kd,cr,(fi:Int),(n:Int)⟩ wc HQ9.out (by have:=HRow.out;rwa [HLr.out] at this) HLr.out HKey.out (by
   have:=HKd.out
   show Kd=1∨Kd=2
   rw [←this];split<;>simp) (by simp) (by omega) hall)
  rw [←HR3.out] at HGp
  go_wp2_with (go_at_call 141;refine HGp.out.mono ?_;intro e9 w9 hg9;obtain⟨z,hz⟩:∃z,e9=.returned (.int .i64 z):=GrpQ.code hg9;subst hz)
  go_ret
  exact hg9.after HG9.out
theorem GrpQ.set {w0:World} {L:List Nat} {rr rf a:Nat} {v:Qs} {E:Int} {all:List Row} {kh k:Nat} {R:RX} {S':Sx} {w w':World} (hR:R=.ok S') (hg:Go2 L w L w') (hb:Bd kh k S') (hp:PosR all a S') (hm:QM w0 w' L rr rf v E all a S'):GrpQ w0 L rr rf E all kh k R w (.returned (.int .i64 0)) w':=by
 subst hR;exact⟨L,hg,rfl,hb,v,a,hp,hm⟩
theorem any_take_succ {hs:List ByteArray} {p:ByteArray→Bool} {k:Nat} (hk:k < hs.length) (h:(hs.take k).any p=false) (he:p hs[k]=false):(hs.take (k+1)).any p=false:=by
 rw [List.take_add_one,List.getElem?_eq_getElem hk,List.any_append,h]
 simp [he]
theorem any_hit {hs:List ByteArray} {p:ByteArray→Bool} {k:Nat} (hk:k < hs.length) (he:p hs[k]=true):hs.any p=true:=List.any_eq_true.2 ⟨hs[k],List.getElem_mem hk,he⟩
theorem so_qkind (w0:World) (L:List Nat) (rr rf:Nat) (E:Int) (all:List Row) (kh k:Nat) (S:Sx) (fv:Value) (row:List ByteArray) (w:World) (h:RQ w0 w L rr rf E all kh (k+1) S) (hr:RowF1 w0 fv row) (hl:row.length=2) :
  Calls Tryz.prog 138 #[.pointer (some ⟨rr,0,none⟩),fv] w (GrpQ w0 L rr rf E all kh k (onFl S.line S (kindR S (fieldAt row 1))) w):=by
 obtain⟨hbd,v,a,hpa,hm⟩:=h
 obtain⟨g,o,cp,rfl,hcp,hcells⟩:=hr.cells (by omega)
 have d1:=field_in (hcells 1 (by omega)) hm.base
 have HM:=hid hm
 have HB:=hid hbd
 have HPa:=hid hpa
 obtain⟨-,A,hcap,hv,hcp2,hcc⟩:=Rd.of_own hm.heads.1
 have HC:=hid hcc
 have c0:=hm.r0
 have c4:=hm.r4
 rw [hv] at c4
 have hhl:S.heads.length≤65536:=by have:=hbd.heads;omega
 obtain⟨R,hR⟩:∃R,onFl S.line S (kindR S (fieldAt row 1))=R:=⟨_,rfl⟩
 have HR:=hid hR
 rw [hR]
 rw [hl] at hcp ⊢
 clear hcc hcells hm hbd hpa hr hR hv
 go_enter Tryz.func138,Tryz.ntmps138
 go_wp2_with fail
 go_loop [5,6] (fun i _=>∃k:Nat,k≤S.heads.length∧i=.int .i64 k∧Hid ((S.heads.take k).any (fun h=>lateN (keyN h))=false)) (fun i _=>S.heads.length - (intOf i).toNat)
 case atStart=>exact⟨0,Nat.zero_le _,rfl,hid rfl⟩
 case round =>
 obtain⟨m,hm,rfl,HT⟩:=hrel
 by_cases hlt:m < S.heads.length
 ·obtain⟨g2,o2,rfl,hc⟩:=HC.out.resolve_left (by omega)
  have d:=hc m _ (strV_get S.heads m hlt)
  clear hc
  have HSp:=hid (so_qspecial S.heads[m] w)
  obtain⟨x,hx⟩:∃x,S.heads[m]=x:=⟨_,rfl⟩
  have HX:=hid hx
  rw [hx] at d HSp
  clear hx
  obtain⟨z,hz⟩:∃z,spQ x=z:=⟨_,rfl⟩
  rw [hz] at HSp
  have HZ:=hid hz
  clear hz
  cases hlate:lateN (keyN x)
  ·have HN:=hid (any_take_succ (p:=fun h=>lateN (keyN h)) hlt HT.out (by rw [HX.out];exact hlate))
   have hz1:z = -1:=by
    rw [←HZ.out,spQ,if_neg]
    intro h
    simp [lateN] at hlate
    omega
   subst hz1
   have n1:(x.toList==[65,70])=false:=by
    rw [beq_eq_false_iff_ne];intro e
    have:=(keyN_iff x 10 (by decide)).2 (toList_inj' (b:=⟨#[65,70]⟩) e)
    rw [this] at hlate;exact absurd hlate (by decide)
   have n2:(x.toList==[80,70,88])=false:=by
    rw [beq_eq_false_iff_ne];intro e
    have:=(keyN_iff x 11 (by decide)).2 (toList_inj' (b:=⟨#[80,70,88]⟩) e)
    rw [this] at hlate;exact absurd hlate (by decide)
   have n3:(x.toList==[83,70,88])=false:=by
    rw [beq_eq_false_iff_ne];intro e
    have:=(keyN_iff x 12 (by decide)).2 (toList_inj' (b:=⟨#[83,70,88]⟩) e)
    rw [this] at hlate;exact absurd hlate (by decide)
   clear hlate
   go_wp2_with (go_at_call 136;refine HSp.out.mono ?_;rintro e1 w1 ⟨rfl,rfl⟩)
   go_round
   case rel=>exact⟨m+1,by omega,by go_num,HN⟩
   case measure=>simp [intOf];omega
  have HRe:Hid (R=.error (S.line,113)):=hid (by
   rw [←HR.out,kindR,if_pos (any_hit (p:=fun h=>lateN (keyN h)) hlt (by rw [HX.out];exact hlate))];rfl)
  have hcs:(3≤keyN x∧keyN x≤7)∨(keyN x=10∨keyN x=11∨keyN x=12):=by
   simp [lateN] at hlate
   omega
  clear hlate
  rcases hcs with h37 | h10 | h10 | h10
  ·have hz1:0≤z:=by rw [←HZ.out,spQ,if_pos h37];omega
   have hz2:decide (0≤z)=true:=by simpa using hz1
   clear h37
   go_wp2_with (go_at_call 136;refine HSp.out.mono ?_;rintro e1 w1 ⟨rfl,rfl⟩)
   go_ret
   exact .bad HRe.out (by decide) (Go2.refl _ _) HM.out.r5
  all_goals
   have hz1:z = -1:=by rw [←HZ.out,spQ,if_neg (by omega)]
   subst hz1
   have hxk:=key_of x (by omega)
   rw [h10] at hxk
   simp only [keyS_lit] at hxk
   rw [hxk] at d HSp
   go_wp2_with (go_at_call 136;refine HSp.out.mono ?_;rintro e1 w1 ⟨rfl,rfl⟩)
   go_ret
   exact .bad HRe.out (by decide) (Go2.refl _ _) HM.out.r5
 obtain rfl:m=S.heads.length:=by omega
 have hno:S.heads.any (fun h=>lateN (keyN h))=false:=by
  have:=HT.out
  rwa [List.take_of_length_le (Nat.le_refl _)] at this
 have HR2:Hid (R=if kindOf (fieldAt row 1)=0 then .error (S.line,114) else .ok { S with fl:={ S.fl with kind:=kindOf (fieldAt row 1) } }):=hid (by
  rw [←HR.out,kindR,if_neg (by rw [hno];simp)]
  split<;>rfl)
 clear hno
 have g0:=HM.out.fc 0
 have z0:=HM.out.fz 0
 have HSame:Hid (∀x:Int,1≤x∧x≤3→Bd kh k { S with fl:={ S.fl with kind:=x } }):=hid (fun x hx=>HB.out.mono.same _ rfl rfl rfl rfl hx HB.out.sp)
 have HSet:Hid (∀x:Int,1≤x∧x≤3→kindOf (fieldAt row 1)=x→GrpQ w0 L rr rf E all kh k R w (.returned (.int .i64 0)) (w.setCell ⟨rf,0,none⟩ (.int .i64 x))):=hid (fun x hx hk=>by
  have hR2:=HR2.out
  rw [hk,if_neg (by omega)] at hR2
  exact .set hR2 ⟨set_kept' HM.out.rfL,fun _ h=>.inl h⟩ (HSame.out x hx) HPa.out (HM.out.setF 0 _ (by rfl) rfl rfl rfl rfl))
 change w.cell? ⟨rf,0,none⟩=some (.int .i64 S.fl.kind) at g0
 by_cases e1:fieldAt row 1=tSHORT
 ·rw [e1] at d1
  have hk:kindOf (fieldAt row 1)=1:=by rw [kindOf,if_pos e1]
  clear e1
  go_wp2_with fail
  go_ret
  exact HSet.out 1 (by decide) hk
 by_cases e2:fieldAt row 1=tLONG
 ·rw [e2] at d1
  have hk:kindOf (fieldAt row 1)=2:=by rw [kindOf,if_neg e1,if_pos e2]
  clear e1 e2
  go_wp2_with fail
  go_ret
  exact HSet.out 2 (by decide) hk
 by_cases e3:fieldAt row 1=tNUM
 ·rw [e3] at d1
  have hk:kindOf (fieldAt row 1)=3:=by rw [kindOf,if_neg e1,if_neg e2,if_pos e3]
  clear e1 e2 e3
  go_wp2_with fail
  go_ret
  exact HSet.out 3 (by decide) hk
 have HRe:Hid (R=.error (S.line,114)):=hid (by rw [HR2.out,if_pos (by rw [kindOf,if_neg e1,if_neg e2,if_neg e3])])
 have n1:((fieldAt row 1).toList==[115,104,111,114,116])=false:=by rw [beq_eq_false_iff_ne];intro e;exact e1 (toList_inj' e)
 have n2:((fieldAt row 1).toList==[108,111,110,103])=false:=by rw [beq_eq_false_iff_ne];intro e;exact e2 (toList_inj' e)
 have n3:((fieldAt row 1).toList==[110,117,109])=false:=by rw [beq_eq_false_iff_ne];intro e;exact e3 (toList_inj' e)
 clear e1 e2 e3
 go_wp2_with fail
 go_ret
 exact .bad HRe.out (by decide) (Go2.refl _ _) HM.out.r5
theorem own_byteC {w:World} {B e n g cap:Nat} {l:List UInt8} (h:w.ownsRow B e 1 (.slice (some ⟨g,0,none⟩) n cap) n (byteCells l)) (j:Nat) (hj:j < l.length) :
  w.cell? ⟨g,j,none⟩=some (.int .u8 (l[j].toNat:Int)):=by
 have:=h.cells (g:=g) rfl j (.int .u8 (l[j].toNat:Int)) (by simp [byteCells,hj])
 rwa [row_addr] at this
theorem once_snoc (s:ByteArray) (k:Nat) (h:k < s.size):onceL (s.data.toList.take (k+1))=if (onceL (s.data.toList.take k)).contains s[k] then onceL (s.data.toList.take k) else onceL (s.data.toList.take k)++[s[k]]:=by
 rw [take_snoc s k h];exact onceGo_snoc _ _ _
theorem once_le (s:ByteArray) (k:Nat):(onceL (s.data.toList.take k)).length≤k:=by
 have h1:=onceGo_len [] (s.data.toList.take k)
 have h2:(s.data.toList.take k).length≤k:=List.length_take_le _ _
 rw [onceL]
 simp only [List.length_nil] at h1
 omega
theorem take_not (l:List UInt8) (q:Nat) (hq:q < l.length) (c:UInt8) (h:c∉l.take q) (hne:l[q]≠c):c∉l.take (q+1):=by
 rw [List.take_succ_eq_append_getElem hq,List.mem_append,List.mem_singleton]
 rintro (h1 | h1)
 ·exact h h1
 exact hne h1.symm
theorem rLetters_any (s:ByteArray) (w:World) (hs:s.size≤140737488355327) :
  Calls Tryz.prog 140 #[.string s] w fun e w'=>e=.returned (.tuple #[.string (lettersS s).1,.int .i64 (lettersS s).2])∧Below w.heap.size w w':=by
 obtain⟨i0,hi,hz0,hz1,hz2⟩:=info_parts byte_info
 by_cases h0:s.size=0
 ·have H:Hid (lettersS s=(⟨#[]⟩,21)):=hid (by unfold lettersS;rw [if_pos (.inl h0)])
  have h00:((s.size:Int)==0)=true:=by rw [beq_iff_eq];omega
  go_enter Tryz.func140,Tryz.ntmps140
  go_wp2_with (first | (go_at_call 139;refine (Bytes02_any _ _ (by omega)).mono ?_;rintro e w' ⟨rfl,rfl⟩))
  go_ret2
  exact⟨by rw [H.out];rfl,Below.refl _ _⟩
 have h00:((s.size:Int)==0)=false:=by rw [beq_eq_false_iff_ne];omega
 cases hf:fitAll s
 ·have H:Hid (lettersS s=(⟨#[]⟩,21)):=hid (by unfold lettersS;rw [if_pos (.inr hf)])
  go_enter Tryz.func140,Tryz.ntmps140
  go_wp2_with (first | (go_at_call 139;refine (Bytes02_any _ _ (by omega)).mono ?_;rintro e w' ⟨rfl,rfl⟩))
  go_ret2
  exact⟨by rw [H.out];rfl,Below.refl _ _⟩
 have H:Hid (lettersS s=(mkS (onceL s.data.toList),0)):=hid (by
  unfold lettersS;rw [if_neg (by rintro (h | h);· exact h0 h
                                 rw [hf] at h;cases h)])
 go_enter Tryz.func140,Tryz.ntmps140
 go_wp2_with (first | (go_at_call 139;refine (Bytes02_any _ _ (by omega)).mono ?_;rintro e w' ⟨rfl,rfl⟩))
 go_loopw [5,6,7,8] (fun v i _ _ W=>∃k g n cap:Nat,k≤s.size∧i=.int .i64 k∧v=.slice (some ⟨g,0,none⟩) n cap∧Hid (n=(onceL (s.data.toList.take k)).length)∧Own w W 5 1 (.slice (some ⟨g,0,none⟩) n cap) n (byteCells (onceL (s.data.toList.take k)))) (fun _ i _ _ _=>s.size - (intOf i).toNat)
 case atStart=>exact⟨0,_,0,0,Nat.zero_le _,rfl,rfl,hid rfl,Own.empty w _ _⟩
 case round =>
 obtain⟨k,g,n,cap,hk,rfl,rfl,HN,ho⟩:=hrel
 have HO:=hid ho
 clear ho
 by_cases hlt:k < s.size
 ·have HK:=hid (once_snoc s k hlt)
  have hn:=HN.out▸once_le s k
  obtain⟨acc,hacc⟩:∃acc,onceL (s.data.toList.take k)=acc:=⟨_,rfl⟩
  rw [hacc] at HK HO HN
  clear hacc
  go_wp2_with fail
  go_loopw [7,8] (fun b j W'=>∃m q:Nat,W'=wr.drewN m∧j=.int .i64 q∧q≤n∧((b=.bool false∧Hid (s[k]∉acc.take q))∨(b=.bool true∧Hid (s[k]∈acc)))) (fun _ j _=>n - (intOf j).toNat)
  case atStart=>exact⟨0,0,rfl,rfl,Nat.zero_le _,.inl ⟨rfl,hid (by simp)⟩⟩
  case round =>
  obtain⟨m,q,rfl,rfl,hq,⟨rfl,HS⟩ | ⟨rfl,HS⟩⟩:=hrel
  ·by_cases hqn:q < n
   ·have hqa:q < acc.length:=by have:=HN.out;omega
    have hcell:=own_byteC HO.out.own q hqa
    obtain⟨c,hc⟩:∃c,acc[q]'hqa=c:=⟨_,rfl⟩
    rw [hc] at hcell
    by_cases hcs:c=s[k]
    ·have hq2:((c.toNat:Int)==(s[k].toNat:Int))=true:=by rw [hcs];simp
     have HS2:Hid (s[k]∈acc):=hid (by rw [←hcs,←hc];exact List.getElem_mem _)
     clear hcs hc
     go_wp2_with fail
     go_quiet (fail)
     go_wp2_with fail
     go_roundw
     case rel=>exact⟨_,q+1,rfl,by go_num,by omega,.inr ⟨rfl,HS2⟩⟩
     case measure=>simp [intOf];omega
    have hq2:((c.toNat:Int)==(s[k].toNat:Int))=false:=by
     rw [beq_eq_false_iff_ne];intro e;exact hcs (UInt8.toNat_inj.1 (by omega))
    have HS2:Hid (s[k]∉acc.take (q+1)):=hid (take_not acc q hqa _ HS.out (by rw [hc];exact hcs))
    clear hcs hc
    go_wp2_with fail
    go_quiet (fail)
    go_wp2_with fail
    go_roundw
    case rel=>exact⟨_,q+1,rfl,by go_num,by omega,.inl ⟨rfl,HS2⟩⟩
    case measure=>simp [intOf];omega
   have HK2:Hid (onceL (s.data.toList.take (k+1))=acc++[s[k]]):=hid (by
    rw [HK.out,if_neg]
    have h1:=HS.out
    rw [List.take_of_length_le (by have:=HN.out;omega)] at h1
    simpa using h1)
   go_wp2_with (at_builtin;refine wpList_push1 rfl _ _ 213 rfl w.heap.size 5 i0 (.int .u8 0) 1 Tryz.underlying213 hi hz0 hz1 hz2 rfl _ _ _ rfl (HO.out.drewN m).own _ rfl rfl (by unfold maxLen;omega) (by omega) (HO.out.drewN m).size ?_;intro gg cap w5 hown hg5;have HO':=hid ((HO.out.drewN m).push hown hg5);clear hown hg5)
   go_roundw
   case rel=>exact⟨k+1,gg,n+1,cap,by omega,by go_num,rfl,hid (by rw [HK2.out,HN.out];simp),by rw [HK2.out,←bytes_snoc];exact HO'.out⟩
   case measure=>simp [intOf];omega
  have HK2:Hid (onceL (s.data.toList.take (k+1))=acc):=hid (by rw [HK.out,if_pos (by simpa using HS.out)])
  by_cases hqn:q < n
  all_goals
   go_wp2_with fail
   go_roundw
   case rel=>exact⟨k+1,g,n,cap,by omega,by go_num,rfl,hid (by rw [HK2.out,HN.out]),by rw [HK2.out];exact HO.out.drewN m⟩
   case measure=>simp [intOf];omega
 obtain rfl:k=s.size:=by omega
 have HF:Hid (onceL (s.data.toList.take s.size)=onceL s.data.toList):=hid (by rw [List.take_of_length_le (by simp)])
 have hcv:=run_string_of_own HO.out.own 213 9 Tryz.underlying213 Tryz.underlying5 Tryz.underlying9
 rw [HF.out] at hcv
 go_wp2_with fail
 go_ret2
 exact⟨by rw [H.out];rfl,HO.out.below⟩
theorem take1_iff (row head:List ByteArray) (h:row≠[]) (hh:head.length=2):decide (row.take 1=[fieldAt head 0])=true↔okH head row:=by
 rw [decide_eq_true_eq,okH]
 rcases row with _ | ⟨x,r⟩
 ·exact absurd rfl h
 simp [hh,fieldAt]
theorem so_qreps (w0:World) (L:List Nat) (rr rf:Nat) (E:Int) (all:List Row) (kh k:Nat) (S:Sx) (hv:Value) (head:List ByteArray) (n:Nat) (w:World) (h:RQ w0 w L rr rf E all kh k S) (hh:RowF1 w0 hv head) (hl:head.length=2) (hk:fieldAt head 0=kREP) (hn:n≤65536) (hall:all.length≤65536) :
  Calls Tryz.prog 141 #[.pointer (some ⟨rr,0,none⟩),hv,.int .i64 n] w (GrpQ w0 L rr rf E all kh k (groupR E (fun r=>decide (r.take 1=[kREP])) repR_ n S) w) :=
 so_qgroup w0 L rr rf E all kh k S hv head n _ _ (fun _=>True) w h hh (.inl hl) trivial (fun _ _ _ _ _ _=>trivial) (fun row hne=>by rw [←hk];exact take1_iff row head hne hl) (fun L' S' fv row w' _ hq hr hok hpos=>by
  have hne:row≠[]:=List.length_pos_iff.1 hpos
  rw [←hk] at hok
  have h0:=((take1_iff row head hne hl).1 hok).1
  exact so_qrep w0 L' rr rf E all kh k S' fv row w' hq hr (h0.trans hk) hpos) hn hall
theorem so_qalss (w0:World) (L:List Nat) (rr rf:Nat) (E:Int) (all:List Row) (kh k:Nat) (S:Sx) (hv:Value) (head:List ByteArray) (n:Nat) (w:World) (h:RQ w0 w L rr rf E all kh k S) (hh:RowF1 w0 hv head) (hl:head.length=2) (hk:fieldAt head 0=kAF) (hn:n≤65536) (hall:all.length≤65536) :
  Calls Tryz.prog 141 #[.pointer (some ⟨rr,0,none⟩),hv,.int .i64 n] w (GrpQ w0 L rr rf E all kh k (groupR E (fun r=>decide (r.take 1=[kAF])) aliasR n S) w) :=
 so_qgroup w0 L rr rf E all kh k S hv head n _ _ (fun _=>True) w h hh (.inl hl) trivial (fun _ _ _ _ _ _=>trivial) (fun row hne=>by rw [←hk];exact take1_iff row head hne hl) (fun L' S' fv row w' _ hq hr hok hpos=>by
  have hne:row≠[]:=List.length_pos_iff.1 hpos
  rw [←hk] at hok
  have h0:=((take1_iff row head hne hl).1 hok).1
  exact so_qals w0 L' rr rf E all kh k S' fv row w' hq hr (h0.trans hk) hpos) hn hall
theorem so_qhFlag (w0:World) (L:List Nat) (rr rf:Nat) (E:Int) (all:List Row) (kh k:Nat) (S:Sx) (fv:Value) (row:List ByteArray) (w:World) (h:RQ w0 w L rr rf E all kh (k+1) S) (hr:RowF1 w0 fv row) (hl:row.length=2) (hk:fieldAt row 0=kFLAG) (hall:all.length≤65536) :
  Calls Tryz.prog 101 #[.pointer (some ⟨rr,0,none⟩),fv] w (GrpQ w0 L rr rf E all kh k (onFl S.line S (kindR S (fieldAt row 1))) w):=by
 have HQ:=hid (so_qkind w0 L rr rf E all kh k S fv row w h hr hl)
 obtain⟨hbd,v,a,hpa,hm⟩:=h
 have HSz:=hid (fieldAt_le hr.each)
 have HRow:=hid hr
 obtain⟨g,o,cp,rfl,hcp,hcells⟩:=hr.cells (by omega)
 have HD:Hid (∀j,j < row.length→∀W,Below w.heap.size w W→W.cell? ⟨g,o+j,none⟩=some (.string (fieldAt row j))):=hid (fun j hj W hb=>field_in (hcells j hj) (hm.below hb).base)
 have d0:=HD.out 0 (by omega) w (Below.refl _ _)
 have d1:=HD.out 1 (by omega) w (Below.refl _ _)
 rw [Nat.add_zero,hk] at d0
 have c0:=hm.r0
 have HM:=hid hm
 have HB:=hid hbd
 have HPa:=hid hpa
 have HLr:=hid hl
 have HK:=hid hk
 rw [hl] at hcp HQ ⊢
 clear hcells hm hbd hpa hr hl hk
 have HSp:Hid (Calls Tryz.prog 136 #[.string kFLAG] w fun e w'=>e=.returned (.int .i64 (-1))∧w=w'):=hid (so_qspecial kFLAG w)
 go_enter Tryz.func101,Tryz.ntmps101
 go_wp2_with (first | (go_at_call 136;refine HSp.out.mono ?_;rintro e1 w1 ⟨rfl,rfl⟩) | (go_at_call 138;refine HQ.out.mono ?_;intro e9 w9 hg9;obtain⟨z,hz⟩:∃z,e9=.returned (.int .i64 z):=GrpQ.code hg9;subst hz))
 go_ret
 exact hg9
theorem so_qhSet (w0:World) (L:List Nat) (rr rf:Nat) (E:Int) (all:List Row) (kh k:Nat) (S:Sx) (fv:Value) (row:List ByteArray) (w:World) (h:RQ w0 w L rr rf E all kh (k+1) S) (hr:RowF1 w0 fv row) (hl:row.length=2) (hk:fieldAt row 0=kSET) (hall:all.length≤65536) :
  Calls Tryz.prog 101 #[.pointer (some ⟨rr,0,none⟩),fv] w (GrpQ w0 L rr rf E all kh k (onFl S.line S (setR S.fl (fieldAt row 1))) w):=by
 obtain⟨hbd,v,a,hpa,hm⟩:=h
 have HSz:=hid (fieldAt_le hr.each)
 have HRow:=hid hr
 obtain⟨g,o,cp,rfl,hcp,hcells⟩:=hr.cells (by omega)
 have HD:Hid (∀j,j < row.length→∀W,Below w.heap.size w W→W.cell? ⟨g,o+j,none⟩=some (.string (fieldAt row j))):=hid (fun j hj W hb=>field_in (hcells j hj) (hm.below hb).base)
 have d0:=HD.out 0 (by omega) w (Below.refl _ _)
 have d1:=HD.out 1 (by omega) w (Below.refl _ _)
 rw [Nat.add_zero,hk] at d0
 have c0:=hm.r0
 have HM:=hid hm
 have HB:=hid hbd
 have HPa:=hid hpa
 have HLr:=hid hl
 have HK:=hid hk
 have HD0:Hid (w0.cell? ⟨g,o+1,none⟩=some (.string (fieldAt row 1))):=hid (hcells 1 (by omega))
 rw [hl] at hcp ⊢
 clear hcells hm hbd hpa hr hl hk
 have HSp:Hid (Calls Tryz.prog 136 #[.string kSET] w fun e w'=>e=.returned (.int .i64 (-1))∧w=w'):=hid (so_qspecial kSET w)
 have HBy:=hid (Bytes02_any (fieldAt row 1) w (Nat.le_trans (HSz.out 1) (by decide)))
 cases hf:fitAll (fieldAt row 1)
 ·have HRe:Hid (onFl S.line S (setR S.fl (fieldAt row 1))=.error (S.line,21)):=hid (by rw [setR,if_pos hf];rfl)
  rw [hf] at HBy
  clear hf
  go_enter Tryz.func101,Tryz.ntmps101
  go_wp2_with (first | (go_at_call 136;refine HSp.out.mono ?_;rintro e1 w1 ⟨rfl,rfl⟩) | (go_at_call 139;refine HBy.out.mono ?_;rintro e8 w8 ⟨rfl,rfl⟩))
  go_ret
  exact .bad HRe.out (by decide) (Go2.refl _ _) HM.out.r5
 have HRe:Hid (onFl S.line S (setR S.fl (fieldAt row 1))=.ok { S with fl:={ S.fl with charset:=fieldAt row 1 } }):=hid (by rw [setR,if_neg (by rw [hf];simp)];rfl)
 rw [hf] at HBy
 have g1:=HM.out.fc 1
 have z1:=HM.out.fz 1
 change w.cell? ⟨rf,1,none⟩=some (.string S.fl.charset) at g1
 have HS:Hid (∀W,Below w.heap.size w W→W.cell? ⟨rr,0,none⟩=some (.pointer (some ⟨rf,0,none⟩))∧W.cell? ⟨g,o+1,none⟩=some (.string (fieldAt row 1))):=hid (fun W hW=>⟨(HM.out.below hW).r0,(hW.cell (block_lt_of_cell? _ _ d1)).trans d1⟩)
 have HMf:=hid ((HM.out.below (drew_below (w:=w))).setF (F':={ S.fl with charset:=fieldAt row 1 }) 1 (.string (fieldAt row 1)) (by rfl) rfl rfl rfl rfl)
 clear hf
 go_enter Tryz.func101,Tryz.ntmps101
 go_upto_region 14 with (first | (go_at_call 136;refine HSp.out.mono ?_;rintro e1 w1 ⟨rfl,rfl⟩) | (go_at_call 139;refine HBy.out.mono ?_;rintro e8 w8 ⟨rfl,rfl⟩))
 refine wp_region_held_drew (S:=fun W=>W.cell? ⟨rr,0,none⟩=some (.pointer (some ⟨rf,0,none⟩))∧W.cell? ⟨g,o+1,none⟩=some (.string (fieldAt row 1))) (by kernel_rfl) ?_ (fun hHeld=>?_)
 ·exact HS.out _ drew_below
 refine tkA 0 (some 59) hHeld ?_;try simp only [put_norm]
 refine tkA 1 (some 60) hHeld ?_;try simp only [put_norm]
 refine tkA 2 (some 61) hHeld ?_;try simp only [put_norm]
 refine tkA 3 (some 62) hHeld ?_;try simp only [put_norm]
 refine tkA 4 (some 63) hHeld ?_;try simp only [put_norm]
 refine tkA 5 (some 64) hHeld ?_;try simp only [put_norm]
 refine tkA 6 (some 65) hHeld ?_;try simp only [put_norm]
 refine tkA 7 (some 66) hHeld ?_;try simp only [put_norm]
 refine tkA 8 (some 67) hHeld ?_;try simp only [put_norm]
 refine rdy1 9 (fun K hK=>?_)
 go_simp
 refine hK.out _ _ ?_ (fun hHeld=>?_)
 ·exact⟨HMf.out.r0,field_in (HD0.out) HMf.out.base⟩
 clear hK K
 refine wpAnyH_done (by kernel_rfl) ?_ _
 go_wp2_with fail
 go_ret
 exact .set HRe.out ((Go2.of_below drew_below).trans ⟨set_kept' HM.out.rfL,fun _ h=>.inl h⟩) (HB.out.mono.same _ rfl rfl rfl rfl HB.out.kind HB.out.sp) HPa.out HMf.out
theorem so_qhTry (w0:World) (L:List Nat) (rr rf:Nat) (E:Int) (all:List Row) (kh k:Nat) (S:Sx) (fv:Value) (row:List ByteArray) (w:World) (h:RQ w0 w L rr rf E all kh (k+1) S) (hr:RowF1 w0 fv row) (hl:row.length=2) (hk:fieldAt row 0=kTRY) (hall:all.length≤65536) :
  Calls Tryz.prog 101 #[.pointer (some ⟨rr,0,none⟩),fv] w (GrpQ w0 L rr rf E all kh k (onFl S.line S (tryR S.fl (fieldAt row 1))) w):=by
 obtain⟨hbd,v,a,hpa,hm⟩:=h
 have HSz:=hid (fieldAt_le hr.each)
 have HRow:=hid hr
 obtain⟨g,o,cp,rfl,hcp,hcells⟩:=hr.cells (by omega)
 have HD:Hid (∀j,j < row.length→∀W,Below w.heap.size w W→W.cell? ⟨g,o+j,none⟩=some (.string (fieldAt row j))):=hid (fun j hj W hb=>field_in (hcells j hj) (hm.below hb).base)
 have d0:=HD.out 0 (by omega) w (Below.refl _ _)
 have d1:=HD.out 1 (by omega) w (Below.refl _ _)
 rw [Nat.add_zero,hk] at d0
 have c0:=hm.r0
 have HM:=hid hm
 have HB:=hid hbd
 have HPa:=hid hpa
 have HLr:=hid hl
 have HK:=hid hk
 rw [hl] at hcp ⊢
 clear hcells hm hbd hpa hr hl hk
 have HSp:Hid (Calls Tryz.prog 136 #[.string kTRY] w fun e w'=>e=.returned (.int .i64 (-1))∧w=w'):=hid (so_qspecial kTRY w)
 obtain⟨⟨t,c⟩,hL⟩:∃p,lettersS (fieldAt row 1)=p:=⟨_,rfl⟩
 have HLt:Hid (Calls Tryz.prog 140 #[.string (fieldAt row 1)] w fun e w'=>e=.returned (.tuple #[.string t,.int .i64 c])∧Below w.heap.size w w'):=hid (by
  have h:=rLetters_any (fieldAt row 1) w (Nat.le_trans (HSz.out 1) (by decide))
  rw [hL] at h;exact h)
 have HF:Hid (∀W,Below w.heap.size w W→W.cell? ⟨rr,0,none⟩=some (.pointer (some ⟨rf,0,none⟩))∧W.cell? ⟨rf,2,none⟩=some (.string S.fl.tryT)∧W.frozen? ⟨rf,2,none⟩=false):=hid (fun W hW=>⟨(HM.out.below hW).r0,(HM.out.below hW).fc 2,(HM.out.below hW).fz 2⟩)
 have HMs:Hid (∀W,Below w.heap.size w W→QM w0 (W.setCell ⟨rf,2,none⟩ (.string t)) L rr rf v E all a { S with fl:={ S.fl with tryT:=t } }):=hid (fun W hW=>(HM.out.below hW).setF 2 _ (by rfl) rfl rfl rfl rfl)
 by_cases hc:c=0
 ·have HRe:Hid (onFl S.line S (tryR S.fl (fieldAt row 1))=.ok { S with fl:={ S.fl with tryT:=t } }):=hid (by rw [tryR,hL,if_neg (by simpa using hc)];rfl)
  subst hc
  clear hL
  go_enter Tryz.func101,Tryz.ntmps101
  go_wp2_with (first | (go_at_call 136;refine HSp.out.mono ?_;rintro e1 w1 ⟨rfl,rfl⟩) | (go_at_call 140;refine HLt.out.mono ?_;rintro e8 w8 ⟨rfl,hb8⟩;have HB8:=hid hb8;obtain⟨q0,q2,z2⟩:=HF.out _ hb8;clear hb8))
  go_ret
  exact .set HRe.out ((Go2.of_below HB8.out).trans ⟨set_kept' HM.out.rfL,fun _ h=>.inl h⟩) (HB.out.mono.same _ rfl rfl rfl rfl HB.out.kind HB.out.sp) HPa.out (HMs.out _ HB8.out)
 have HRe:Hid (onFl S.line S (tryR S.fl (fieldAt row 1))=.error (S.line,c)):=hid (by rw [tryR,hL,if_pos hc];rfl)
 have HC:=hid hc
 clear hL hc
 go_enter Tryz.func101,Tryz.ntmps101
 go_wp2_with (first | (go_at_call 136;refine HSp.out.mono ?_;rintro e1 w1 ⟨rfl,rfl⟩) | (go_at_call 140;refine HLt.out.mono ?_;rintro e8 w8 ⟨rfl,hb8⟩;have HB8:=hid hb8;obtain⟨q0,q2,z2⟩:=HF.out _ hb8;clear hb8))
 go_ret
 exact .bad HRe.out HC.out ((Go2.of_below HB8.out).trans ⟨set_kept' HM.out.rfL,fun _ h=>.inl h⟩) (HMs.out _ HB8.out).r5
theorem so_qhMin (w0:World) (L:List Nat) (rr rf:Nat) (E:Int) (all:List Row) (kh k:Nat) (S:Sx) (fv:Value) (row:List ByteArray) (w:World) (h:RQ w0 w L rr rf E all kh (k+1) S) (hr:RowF1 w0 fv row) (hl:row.length=2) (hk:fieldAt row 0=kMIN) (hall:all.length≤65536) :
  Calls Tryz.prog 101 #[.pointer (some ⟨rr,0,none⟩),fv] w (GrpQ w0 L rr rf E all kh k (onFl S.line S (leastR S.fl (fieldAt row 1))) w):=by
 obtain⟨hbd,v,a,hpa,hm⟩:=h
 have HSz:=hid (fieldAt_le hr.each)
 have HRow:=hid hr
 obtain⟨g,o,cp,rfl,hcp,hcells⟩:=hr.cells (by omega)
 have HD:Hid (∀j,j < row.length→∀W,Below w.heap.size w W→W.cell? ⟨g,o+j,none⟩=some (.string (fieldAt row j))):=hid (fun j hj W hb=>field_in (hcells j hj) (hm.below hb).base)
 have d0:=HD.out 0 (by omega) w (Below.refl _ _)
 have d1:=HD.out 1 (by omega) w (Below.refl _ _)
 rw [Nat.add_zero,hk] at d0
 have c0:=hm.r0
 have HM:=hid hm
 have HB:=hid hbd
 have HPa:=hid hpa
 have HLr:=hid hl
 have HK:=hid hk
 rw [hl] at hcp ⊢
 clear hcells hm hbd hpa hr hl hk
 have HSp:Hid (Calls Tryz.prog 136 #[.string kMIN] w fun e w'=>e=.returned (.int .i64 (-1))∧w=w'):=hid (so_qspecial kMIN w)
 have HN1:=hid (Number01_any (fieldAt row 1) 64 w (Nat.le_trans (HSz.out 1) (by unfold maxLen;omega)) (by decide) (by decide))
 have g8:=HM.out.fc 8
 have z8:=HM.out.fz 8
 change w.cell? ⟨rf,8,none⟩=some (.int .i64 S.fl.least) at g8
 rcases numErr_13 (fieldAt row 1).data.toList 64 with hq | hq
 rotate_left
 ·have HRe:Hid (onFl S.line S (leastR S.fl (fieldAt row 1))=.error (S.line,13)):=hid (by rw [leastR,if_pos (.inl (by rw [hq];decide))];rfl)
  have HQ:=hid hq
  clear hq
  go_enter Tryz.func101,Tryz.ntmps101
  go_wp2_with (first | (go_at_call 136;refine HSp.out.mono ?_;rintro e1 w1 ⟨rfl,rfl⟩) | (go_at_call 103;refine HN1.out.mono ?_;rintro e3 w3 ⟨he3,rfl⟩;rw [NumRet,HQ.out] at he3;subst he3))
  go_ret
  exact .bad HRe.out (by decide) (Go2.refl _ _) HM.out.r5
 obtain⟨b0,b1⟩:=numVal_bd (fieldAt row 1).data.toList 64 (by decide)
 obtain⟨n,hn⟩:∃n:Nat,numVal (fieldAt row 1).data.toList 64=n:=⟨_,(Int.toNat_of_nonneg b0).symm⟩
 have HNn:=hid hn
 have HQ:=hid hq
 by_cases h0:(n:Int)=0
 ·have HRe:Hid (onFl S.line S (leastR S.fl (fieldAt row 1))=.error (S.line,13)):=hid (by rw [leastR,if_pos (.inr (by rw [hn];exact h0))];rfl)
  have h01:((n:Int)==0)=true:=by rw [h0];rfl
  clear hq hn b0 b1 h0
  go_enter Tryz.func101,Tryz.ntmps101
  go_wp2_with (first | (go_at_call 136;refine HSp.out.mono ?_;rintro e1 w1 ⟨rfl,rfl⟩) | (go_at_call 103;refine HN1.out.mono ?_;rintro e3 w3 ⟨he3,rfl⟩;rw [NumRet,HQ.out,HNn.out] at he3;subst he3))
  go_ret
  exact .bad HRe.out (by decide) (Go2.refl _ _) HM.out.r5
 have HRe:Hid (onFl S.line S (leastR S.fl (fieldAt row 1))=.ok { S with fl:={ S.fl with least:=(n:Int) } }):=hid (by rw [leastR,if_neg (by rw [hq,hn];rintro (h | h);exact absurd rfl h;exact h0 h),hn];rfl)
 have h01:((n:Int)==0)=false:=by rw [beq_eq_false_iff_ne];exact h0
 have HMf:=hid (HM.out.setF (F':={ S.fl with least:=(n:Int) }) 8 (.int .i64 (n:Int)) (by rfl) rfl rfl rfl rfl)
 clear hq hn b0 b1 h0
 go_enter Tryz.func101,Tryz.ntmps101
 go_wp2_with (first | (go_at_call 136;refine HSp.out.mono ?_;rintro e1 w1 ⟨rfl,rfl⟩) | (go_at_call 103;refine HN1.out.mono ?_;rintro e3 w3 ⟨he3,rfl⟩;rw [NumRet,HQ.out,HNn.out] at he3;subst he3))
 go_ret
 exact .set HRe.out ⟨set_kept' HM.out.rfL,fun _ h=>.inl h⟩ (HB.out.mono.same _ rfl rfl rfl rfl HB.out.kind HB.out.sp) HPa.out HMf.out
theorem so_qhRep (w0:World) (L:List Nat) (rr rf:Nat) (E:Int) (all:List Row) (kh k:Nat) (S:Sx) (fv:Value) (row:List ByteArray) (w:World) (h:RQ w0 w L rr rf E all kh (k+1) S) (hr:RowF1 w0 fv row) (hl:row.length=2) (hk:fieldAt row 0=kREP) (hall:all.length≤65536) :
  Calls Tryz.prog 101 #[.pointer (some ⟨rr,0,none⟩),fv] w (GrpQ w0 L rr rf E all kh k (repsG E S (fieldAt row 1)) w):=by
 obtain⟨hbd,v,a,hpa,hm⟩:=h
 have HSz:=hid (fieldAt_le hr.each)
 have HRow:=hid hr
 obtain⟨g,o,cp,rfl,hcp,hcells⟩:=hr.cells (by omega)
 have HD:Hid (∀j,j < row.length→∀W,Below w.heap.size w W→W.cell? ⟨g,o+j,none⟩=some (.string (fieldAt row j))):=hid (fun j hj W hb=>field_in (hcells j hj) (hm.below hb).base)
 have d0:=HD.out 0 (by omega) w (Below.refl _ _)
 have d1:=HD.out 1 (by omega) w (Below.refl _ _)
 rw [Nat.add_zero,hk] at d0
 have c0:=hm.r0
 have HM:=hid hm
 have HB:=hid hbd
 have HPa:=hid hpa
 have HLr:=hid hl
 have HK:=hid hk
 rw [hl] at hcp ⊢
 clear hcells hm hbd hpa hr hl hk
 have HSp:Hid (Calls Tryz.prog 136 #[.string kREP] w fun e w'=>e=.returned (.int .i64 (-1))∧w=w'):=hid (so_qspecial kREP w)
 have HN1:=hid (Number01_any (fieldAt row 1) 256 w (Nat.le_trans (HSz.out 1) (by unfold maxLen;omega)) (by decide) (by decide))
 rcases numErr_13 (fieldAt row 1).data.toList 256 with hq | hq
 rotate_left
 ·have HRe:Hid (repsG E S (fieldAt row 1)=.error (S.line,13)):=hid (by rw [repsG,if_pos (by rw [hq];decide)])
  have HQ:=hid hq
  clear hq
  go_enter Tryz.func101,Tryz.ntmps101
  go_wp2_with (first | (go_at_call 136;refine HSp.out.mono ?_;rintro e1 w1 ⟨rfl,rfl⟩) | (go_at_call 103;refine HN1.out.mono ?_;rintro e3 w3 ⟨he3,rfl⟩;rw [NumRet,HQ.out] at he3;subst he3))
  go_ret
  exact .bad HRe.out (by decide) (Go2.refl _ _) HM.out.r5
 obtain⟨b0,b1⟩:=numVal_bd (fieldAt row 1).data.toList 256 (by decide)
 obtain⟨n,hn⟩:∃n:Nat,numVal (fieldAt row 1).data.toList 256=n:=⟨_,(Int.toNat_of_nonneg b0).symm⟩
 have HNn:=hid hn
 have HQ:=hid hq
 have HGp:=hid (so_qreps w0 L rr rf E all kh k S (.slice (some ⟨g,o,none⟩) 2 cp) row n w ⟨HB.out.mono,v,a,HPa.out,HM.out⟩ (by have:=HRow.out;rwa [HLr.out] at this) HLr.out HK.out (by omega) hall)
 have HRe:Hid (repsG E S (fieldAt row 1)=groupR E (fun r=>decide (r.take 1=[kREP])) repR_ n S):=hid (by rw [repsG,if_neg (by rw [hq];decide),hn,Int.toNat_natCast])
 rw [HRe.out]
 clear hq hn b0 b1
 go_enter Tryz.func101,Tryz.ntmps101
 go_wp2_with (first | (go_at_call 136;refine HSp.out.mono ?_;rintro e1 w1 ⟨rfl,rfl⟩) | (go_at_call 103;refine HN1.out.mono ?_;rintro e3 w3 ⟨he3,rfl⟩;rw [NumRet,HQ.out,HNn.out] at he3;subst he3) | (go_at_call 141;refine HGp.out.mono ?_;intro e9 w9 hg9;obtain⟨z,hz⟩:∃z,e9=.returned (.int .i64 z):=GrpQ.code hg9;subst hz))
 go_ret
 exact hg9
theorem so_qhAls (w0:World) (L:List Nat) (rr rf:Nat) (E:Int) (all:List Row) (kh k:Nat) (S:Sx) (fv:Value) (row:List ByteArray) (w:World) (h:RQ w0 w L rr rf E all kh (k+1) S) (hr:RowF1 w0 fv row) (hl:row.length=2) (hk:fieldAt row 0=kAF) (hall:all.length≤65536) :
  Calls Tryz.prog 101 #[.pointer (some ⟨rr,0,none⟩),fv] w (GrpQ w0 L rr rf E all kh k (aliasG E S (fieldAt row 1)) w):=by
 obtain⟨hbd,v,a,hpa,hm⟩:=h
 have HSz:=hid (fieldAt_le hr.each)
 have HRow:=hid hr
 obtain⟨g,o,cp,rfl,hcp,hcells⟩:=hr.cells (by omega)
 have HD:Hid (∀j,j < row.length→∀W,Below w.heap.size w W→W.cell? ⟨g,o+j,none⟩=some (.string (fieldAt row j))):=hid (fun j hj W hb=>field_in (hcells j hj) (hm.below hb).base)
 have d0:=HD.out 0 (by omega) w (Below.refl _ _)
 have d1:=HD.out 1 (by omega) w (Below.refl _ _)
 rw [Nat.add_zero,hk] at d0
 have c0:=hm.r0
 have HM:=hid hm
 have HB:=hid hbd
 have HPa:=hid hpa
 have HLr:=hid hl
 have HK:=hid hk
 rw [hl] at hcp ⊢
 clear hcells hm hbd hpa hr hl hk
 have HSp:Hid (Calls Tryz.prog 136 #[.string kAF] w fun e w'=>e=.returned (.int .i64 (-1))∧w=w'):=hid (so_qspecial kAF w)
 have HN1:=hid (Number01_any (fieldAt row 1) 1024 w (Nat.le_trans (HSz.out 1) (by unfold maxLen;omega)) (by decide) (by decide))
 have hhl:S.heads.length≤65536:=by have:=HB.out.heads;omega
 have HSt:Hid (∀s,Calls Tryz.prog 100 #[.pointer (some ⟨rr,0,none⟩),.string s] w fun e w'=>e=.returned (.bool (S.heads.contains s))∧w=w'):=hid (fun s=>so_qstood rr v.heads S.heads s w HM.out.r4 (Rd.of_own HM.out.heads.1) hhl)
 obtain⟨p,hp⟩:∃b,S.heads.contains kPFX=b:=⟨_,rfl⟩
 obtain⟨q,hqq⟩:∃b,S.heads.contains kSFX=b:=⟨_,rfl⟩
 have HS1:=hid (HSt.out kPFX)
 have HS2:=hid (HSt.out kSFX)
 rw [hp] at HS1
 rw [hqq] at HS2
 have HP:=hid hp
 have HQq:=hid hqq
 clear HSt hhl hp hqq
 by_cases hpq:p=true∨q=true
 ·have HRe:Hid (aliasG E S (fieldAt row 1)=.error (S.line,113)):=hid (by rw [aliasG,HP.out,HQq.out,if_pos hpq])
  rcases hpq with rfl | rfl
  ·go_enter Tryz.func101,Tryz.ntmps101
   go_wp2_with fail
   refine HSp.out.mono ?_
   rintro e1 w1 ⟨rfl,rfl⟩
   go_wp2_with fail
   refine HS1.out.mono ?_
   rintro e1 w1 ⟨rfl,rfl⟩
   go_wp2_with fail
   refine HS2.out.mono ?_
   rintro e1 w1 ⟨rfl,rfl⟩
   go_wp2_with fail
   go_ret
   exact .bad HRe.out (by decide) (Go2.refl _ _) HM.out.r5
  cases p
  all_goals
   go_enter Tryz.func101,Tryz.ntmps101
   go_wp2_with fail
   refine HSp.out.mono ?_
   rintro e1 w1 ⟨rfl,rfl⟩
   go_wp2_with fail
   refine HS1.out.mono ?_
   rintro e1 w1 ⟨rfl,rfl⟩
   go_wp2_with fail
   refine HS2.out.mono ?_
   rintro e1 w1 ⟨rfl,rfl⟩
   go_wp2_with fail
   go_ret
   exact .bad HRe.out (by decide) (Go2.refl _ _) HM.out.r5
 have hp0:p=false:=by cases p;rfl;exact absurd (.inl rfl) hpq
 have hq0:q=false:=by cases q;rfl;exact absurd (.inr rfl) hpq
 subst hp0 hq0
 rcases numErr_13 (fieldAt row 1).data.toList 1024 with hq | hq
 rotate_left
 ·have HRe:Hid (aliasG E S (fieldAt row 1)=.error (S.line,13)):=hid (by rw [aliasG,HP.out,HQq.out,if_neg hpq,if_pos (by rw [hq];decide)])
  have HQ:=hid hq
  clear hq hpq
  go_enter Tryz.func101,Tryz.ntmps101
  go_wp2_with fail
  refine HSp.out.mono ?_
  rintro e1 w1 ⟨rfl,rfl⟩
  go_wp2_with fail
  refine HS1.out.mono ?_
  rintro e1 w1 ⟨rfl,rfl⟩
  go_wp2_with fail
  refine HS2.out.mono ?_
  rintro e1 w1 ⟨rfl,rfl⟩
  go_wp2_with (go_at_call 103;refine HN1.out.mono ?_;rintro e3 w3 ⟨he3,rfl⟩;rw [NumRet,HQ.out] at he3;subst he3)
  go_ret
  exact .bad HRe.out (by decide) (Go2.refl _ _) HM.out.r5
 obtain⟨b0,b1⟩:=numVal_bd (fieldAt row 1).data.toList 1024 (by decide)
 obtain⟨n,hn⟩:∃n:Nat,numVal (fieldAt row 1).data.toList 1024=n:=⟨_,(Int.toNat_of_nonneg b0).symm⟩
 have HNn:=hid hn
 have HQ:=hid hq
 have HGp:=hid (so_qalss w0 L rr rf E all kh k S (.slice (some ⟨g,o,none⟩) 2 cp) row n w ⟨HB.out.mono,v,a,HPa.out,HM.out⟩ (by have:=HRow.out;rwa [HLr.out] at this) HLr.out HK.out (by omega) hall)
 have HRe:Hid (aliasG E S (fieldAt row 1)=groupR E (fun r=>decide (r.take 1=[kAF])) aliasR n S):=hid (by rw [aliasG,HP.out,HQq.out,if_neg hpq,if_neg (by rw [hq];decide),hn,Int.toNat_natCast])
 rw [HRe.out]
 clear hq hn b0 b1 hpq
 go_enter Tryz.func101,Tryz.ntmps101
 go_wp2_with fail
 refine HSp.out.mono ?_
 rintro e1 w1 ⟨rfl,rfl⟩
 go_wp2_with fail
 refine HS1.out.mono ?_
 rintro e1 w1 ⟨rfl,rfl⟩
 go_wp2_with fail
 refine HS2.out.mono ?_
 rintro e1 w1 ⟨rfl,rfl⟩
 go_wp2_with (first | (go_at_call 103;refine HN1.out.mono ?_;rintro e3 w3 ⟨he3,rfl⟩;rw [NumRet,HQ.out,HNn.out] at he3;subst he3) | (go_at_call 141;refine HGp.out.mono ?_;intro e9 w9 hg9;obtain⟨z,hz⟩:∃z,e9=.returned (.int .i64 z):=GrpQ.code hg9;subst hz))
 go_ret
 exact hg9
theorem qfile_sp (v:Qs) (F:Fl) (n:Nat) (hn:n < 5):(qfile v F)[3+n]?=some (.int .i64 (spAt F n)):=by
 rcases n with _ | _ | _ | _ | _ | n<;>first | rfl | omega
theorem qfile_setSp (v:Qs) (F:Fl) (n:Nat) (hn:n < 5) (f:Int):(qfile v F).setIfInBounds (3+n) (.int .i64 f)=qfile v (setSp F n f):=by
 rcases n with _ | _ | _ | _ | _ | n<;>first | rfl | omega
theorem so_qhSpec (w0:World) (L:List Nat) (rr rf:Nat) (E:Int) (all:List Row) (kh k:Nat) (S:Sx) (fv:Value) (row:List ByteArray) (w:World) (h:RQ w0 w L rr rf E all kh (k+1) S) (hr:RowF1 w0 fv row) (hl:row.length=2) (j:Nat) (hj:j < 5) (hk:keyN (fieldAt row 0)=3+j) (hall:all.length≤65536) :
  Calls Tryz.prog 101 #[.pointer (some ⟨rr,0,none⟩),fv] w (GrpQ w0 L rr rf E all kh k (onFl S.line S (specialR S.fl j (fieldAt row 1))) w):=by
 obtain⟨hbd,v,a,hpa,hm⟩:=h
 have HSz:=hid (fieldAt_le hr.each)
 have HRow:=hid hr
 obtain⟨g,o,cp,rfl,hcp,hcells⟩:=hr.cells (by omega)
 have HD:Hid (∀j,j < row.length→∀W,Below w.heap.size w W→W.cell? ⟨g,o+j,none⟩=some (.string (fieldAt row j))):=hid (fun j hj W hb=>field_in (hcells j hj) (hm.below hb).base)
 have d0:=HD.out 0 (by omega) w (Below.refl _ _)
 have d1:=HD.out 1 (by omega) w (Below.refl _ _)
 rw [Nat.add_zero] at d0
 have c0:=hm.r0
 have HM:=hid hm
 have HB:=hid hbd
 have HPa:=hid hpa
 have HLr:=hid hl
 have HK:=hid hk
 rw [hl] at hcp ⊢
 clear hcells hm hbd hpa hr hl hk
 have HSp:Hid (Calls Tryz.prog 136 #[.string (fieldAt row 0)] w fun e w'=>e=.returned (.int .i64 (j:Int))∧w=w'):=hid (by
  have h:=so_qspecial (fieldAt row 0) w
  rw [spQ,if_pos (by rw [HK.out];omega),HK.out] at h
  have e:((3+j:Nat):Int) - 3=(j:Int):=by omega
  rw [e] at h;exact h)
 have HFr:=hid (so_qfresh w0 L rr rf a v E all S (fieldAt row 1) w HM.out (by have:=HB.out.cls;omega) (Nat.le_trans (HSz.out 1) (by decide)))
 have HF:Hid (∀W,Below w.heap.size w W→W.cell? ⟨rr,0,none⟩=some (.pointer (some ⟨rf,0,none⟩))∧W.cell? ⟨rf,3+j,none⟩=some (.int .i64 (spAt S.fl j))∧W.frozen? ⟨rf,3+j,none⟩=false):=hid (fun W hW=>⟨(HM.out.below hW).r0,by rw [(HM.out.below hW).fc (3+j)];exact qfile_sp v S.fl j hj,(HM.out.below hW).fz (3+j)⟩)
 have HMs:Hid (∀W f,Below w.heap.size w W→QM w0 (W.setCell ⟨rf,3+j,none⟩ (.int .i64 f)) L rr rf v E all a { S with fl:=setSp S.fl j f }):=hid (fun W f hW=>(HM.out.below hW).setF (3+j) _ (qfile_setSp v S.fl j hj f) (setSp_rest _ _ _).1 (setSp_rest _ _ _).2.1 (setSp_rest _ _ _).2.2.1 (setSp_rest _ _ _).2.2.2.1)
 have hj0:(0:Int)≤(j:Int):=by omega
 have hj5:(j:Int) < 5:=by omega
 cases hfr:freshR S.fl (fieldAt row 1) with
 | error c =>
  have HRe:Hid (onFl S.line S (specialR S.fl j (fieldAt row 1))=.error (S.line,c)):=hid (by rw [specialR,hfr];rfl)
  rw [hfr] at HFr
  unfold FreshQ at HFr
  clear hfr
  go_enter Tryz.func101,Tryz.ntmps101
  go_wp2_with (first | (go_at_call 136;refine HSp.out.mono ?_;rintro e1 w1 ⟨rfl,rfl⟩) | (go_at_call 137;refine HFr.out.mono ?_;rintro e8 w8 ⟨hb8,hc8,rfl⟩;have HB8:=hid hb8;have HC8:=hid hc8;obtain⟨q0,q2,z2⟩:=HF.out _ hb8;clear hb8 hc8))
  go_ret
  exact .bad HRe.out HC8.out ((Go2.of_below HB8.out).trans ⟨set_kept' HM.out.rfL,fun _ h=>.inl h⟩) (HMs.out _ 0 HB8.out).r5
 | ok f =>
  have HFo:=hid (freshR_ok hfr)
  have HRe:Hid (onFl S.line S (specialR S.fl j (fieldAt row 1))=.ok { S with fl:=setSp S.fl j f }):=hid (by rw [specialR,hfr];rfl)
  rw [hfr] at HFr
  unfold FreshQ at HFr
  clear hfr
  go_enter Tryz.func101,Tryz.ntmps101
  go_wp2_with (first | (go_at_call 136;refine HSp.out.mono ?_;rintro e1 w1 ⟨rfl,rfl⟩) | (go_at_call 137;refine HFr.out.mono ?_;rintro e8 w8 ⟨hb8,rfl⟩;have HB8:=hid hb8;obtain⟨q0,q2,z2⟩:=HF.out _ hb8;clear hb8))
  go_ret
  refine .set HRe.out ((Go2.of_below HB8.out).trans ⟨set_kept' HM.out.rfL,fun _ h=>.inl h⟩) (HB.out.mono.same _ (setSp_rest _ _ _).1 (setSp_rest _ _ _).2.1 (setSp_rest _ _ _).2.2.1 (setSp_rest _ _ _).2.2.2.1 (by rw [(setSp_rest _ _ _).2.2.2.2];exact HB.out.kind) (fun m=>?_)) HPa.out (HMs.out _ f HB8.out)
  rw [setSp_at _ _ hj]
  split
  ·exact⟨HFo.out.2.1,HFo.out.2.2.1⟩
  exact HB.out.sp m
theorem so_qhPfx (w0:World) (L:List Nat) (rr rf:Nat) (E:Int) (all:List Row) (kh k:Nat) (S:Sx) (fv:Value) (row:List ByteArray) (w:World) (h:RQ w0 w L rr rf E all kh (k+1) S) (hr:RowF1 w0 fv row) (hl:row.length=4) (hk:fieldAt row 0=kPFX) (hall:all.length≤65536) :
  Calls Tryz.prog 101 #[.pointer (some ⟨rr,0,none⟩),fv] w (GrpQ w0 L rr rf E all kh k (classR E S row) w):=by
 have HQ:=hid (so_qclass w0 L rr rf E all kh k S fv row w h hr hl (.inl hk) hall)
 obtain⟨hbd,v,a,hpa,hm⟩:=h
 have HSz:=hid (fieldAt_le hr.each)
 have HRow:=hid hr
 obtain⟨g,o,cp,rfl,hcp,hcells⟩:=hr.cells (by omega)
 have HD:Hid (∀j,j < row.length→∀W,Below w.heap.size w W→W.cell? ⟨g,o+j,none⟩=some (.string (fieldAt row j))):=hid (fun j hj W hb=>field_in (hcells j hj) (hm.below hb).base)
 have d0:=HD.out 0 (by omega) w (Below.refl _ _)
 have d1:=HD.out 1 (by omega) w (Below.refl _ _)
 rw [Nat.add_zero,hk] at d0
 have c0:=hm.r0
 have HM:=hid hm
 have HB:=hid hbd
 have HPa:=hid hpa
 have HLr:=hid hl
 have HK:=hid hk
 rw [hl] at hcp HQ ⊢
 clear hcells hm hbd hpa hr hl hk
 have HSp:Hid (Calls Tryz.prog 136 #[.string kPFX] w fun e w'=>e=.returned (.int .i64 (-1))∧w=w'):=hid (so_qspecial kPFX w)
 go_enter Tryz.func101,Tryz.ntmps101
 go_wp2_with (first | (go_at_call 136;refine HSp.out.mono ?_;rintro e1 w1 ⟨rfl,rfl⟩) | (go_at_call 142;refine HQ.out.mono ?_;intro e9 w9 hg9;obtain⟨z,hz⟩:∃z,e9=.returned (.int .i64 z):=GrpQ.code hg9;subst hz))
 go_ret
 exact hg9
theorem so_qhSfx (w0:World) (L:List Nat) (rr rf:Nat) (E:Int) (all:List Row) (kh k:Nat) (S:Sx) (fv:Value) (row:List ByteArray) (w:World) (h:RQ w0 w L rr rf E all kh (k+1) S) (hr:RowF1 w0 fv row) (hl:row.length=4) (hk:fieldAt row 0=kSFX) (hall:all.length≤65536) :
  Calls Tryz.prog 101 #[.pointer (some ⟨rr,0,none⟩),fv] w (GrpQ w0 L rr rf E all kh k (classR E S row) w):=by
 have HQ:=hid (so_qclass w0 L rr rf E all kh k S fv row w h hr hl (.inr hk) hall)
 obtain⟨hbd,v,a,hpa,hm⟩:=h
 have HSz:=hid (fieldAt_le hr.each)
 have HRow:=hid hr
 obtain⟨g,o,cp,rfl,hcp,hcells⟩:=hr.cells (by omega)
 have HD:Hid (∀j,j < row.length→∀W,Below w.heap.size w W→W.cell? ⟨g,o+j,none⟩=some (.string (fieldAt row j))):=hid (fun j hj W hb=>field_in (hcells j hj) (hm.below hb).base)
 have d0:=HD.out 0 (by omega) w (Below.refl _ _)
 have d1:=HD.out 1 (by omega) w (Below.refl _ _)
 rw [Nat.add_zero,hk] at d0
 have c0:=hm.r0
 have HM:=hid hm
 have HB:=hid hbd
 have HPa:=hid hpa
 have HLr:=hid hl
 have HK:=hid hk
 rw [hl] at hcp HQ ⊢
 clear hcells hm hbd hpa hr hl hk
 have HSp:Hid (Calls Tryz.prog 136 #[.string kSFX] w fun e w'=>e=.returned (.int .i64 (-1))∧w=w'):=hid (so_qspecial kSFX w)
 go_enter Tryz.func101,Tryz.ntmps101
 go_wp2_with (first | (go_at_call 136;refine HSp.out.mono ?_;rintro e1 w1 ⟨rfl,rfl⟩) | (go_at_call 142;refine HQ.out.mono ?_;intro e9 w9 hg9;obtain⟨z,hz⟩:∃z,e9=.returned (.int .i64 z):=GrpQ.code hg9;subst hz))
 go_ret
 exact hg9
theorem so_qheading (w0:World) (L:List Nat) (rr rf:Nat) (E:Int) (all:List Row) (kh k:Nat) (S:Sx) (fv:Value) (row:List ByteArray) (w:World) (h:RQ w0 w L rr rf E all kh (k+1) S) (hr:RowF1 w0 fv row) (n:Nat) (hk:keyN (fieldAt row 0)=n) (hn:n < 13) (hl:row.length=widthN n) (hall:all.length≤65536) :
  Calls Tryz.prog 101 #[.pointer (some ⟨rr,0,none⟩),fv] w (GrpQ w0 L rr rf E all kh k (headR E S row n) w):=by
 have hkey:=key_of (fieldAt row 0) (by omega)
 rw [hk] at hkey
 have h2:n < 11→row.length=2:=fun h=>by rw [hl,widthN,if_pos h]
 have h4:¬n < 11→row.length=4:=fun h=>by rw [hl,widthN,if_neg h]
 unfold headR
 by_cases e0:n=0
 ·rw [if_pos e0];subst e0;exact so_qhFlag w0 L rr rf E all kh k S fv row w h hr (h2 (by omega)) hkey hall
 rw [if_neg e0]
 by_cases e1:n=1
 ·rw [if_pos e1];subst e1;exact so_qhSet w0 L rr rf E all kh k S fv row w h hr (h2 (by omega)) hkey hall
 rw [if_neg e1]
 by_cases e2:n=2
 ·rw [if_pos e2];subst e2;exact so_qhTry w0 L rr rf E all kh k S fv row w h hr (h2 (by omega)) hkey hall
 rw [if_neg e2]
 by_cases e3:n < 8
 ·rw [if_pos e3]
  exact so_qhSpec w0 L rr rf E all kh k S fv row w h hr (h2 (by omega)) (n - 3) (by omega) (by omega) hall
 rw [if_neg e3]
 by_cases e4:n=8
 ·rw [if_pos e4];subst e4;exact so_qhMin w0 L rr rf E all kh k S fv row w h hr (h2 (by omega)) hkey hall
 rw [if_neg e4]
 by_cases e5:n=9
 ·rw [if_pos e5];subst e5;exact so_qhRep w0 L rr rf E all kh k S fv row w h hr (h2 (by omega)) hkey hall
 rw [if_neg e5]
 by_cases e6:n=10
 ·rw [if_pos e6];subst e6;exact so_qhAls w0 L rr rf E all kh k S fv row w h hr (h2 (by omega)) hkey hall
 rw [if_neg e6]
 by_cases e7:n=11
 ·subst e7;exact so_qhPfx w0 L rr rf E all kh k S fv row w h hr (h4 (by omega)) hkey hall
 obtain rfl:n=12:=by omega
 exact so_qhSfx w0 L rr rf E all kh k S fv row w h hr (h4 (by omega)) hkey hall
end Go.Proofs.YtfkblpjfknfgbaaGreatDoor
