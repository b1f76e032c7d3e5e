import Derived.Test.YtfkblpjfknfgbaaGreatDoorRows
import Derived.Test.YtfkblpjfknfgbaaGreatDoorQ5
import Derived.Test.YtfkblpjfknfgbaaGreatDoorQ4
import Derived.Test.YtfkblpjfknfgbaaGreatDoorQ1
import Derived.BigRegion
import Derived.Deep.QuietTactic
import Derived.BigQuiet
import Derived.Test.YtfkblpjfknfgbaaGreatDoorQ3
import Derived.Test.YtfkblpjfknfgbaaGreatDoorQ0
set_option linter.unusedVariables false
set_option linter.unusedSimpArgs false
set_option maxHeartbeats 8000000
set_option maxRecDepth 100000
open Go.Maps Go.RowKit
open Go.Lib (hid cell_of_heap frozen_of_heap byteCells)
open Go.World (block_lt_of_cell?)
namespace Go.Proofs.YtfkblpjfknfgbaaGreatDoor
theorem Bd.sU {kh k:Nat} {S:Sx} (h:Bd (kh+1) (k+1) S) (a b:ByteArray):Bd kh k { S with fl:={ S.fl with au:=S.fl.au++[(a,b)] } } :=
 ⟨h.row,by have:=h.heads;show S.heads.length+S.rows.length+kh≤65536;omega,h.vM,by have:=h.au;show (S.fl.au++[(a,b)]).length+S.rows.length+k≤65536;rw [List.length_append];show S.fl.au.length+1+S.rows.length+k≤65536;omega,
  by have:=h.aI;show S.fl.aI.length+S.rows.length+k≤65536;omega,by have:=h.cls;show S.fl.cls.length+S.rows.length+k≤65536;omega,by have:=h.rls;show S.fl.rls.length+S.rows.length+k≤65536;omega,h.flags,h.sets,h.nexts,h.kind,h.sp,h.line⟩
theorem DR:(Tryz.prog.info? 145).map (fun i=>(i.zero,i.size,i.bytes))=some (some (.agg #[.string ByteArray.empty,.string ByteArray.empty]),2,32):=by kernel_rfl
theorem mU {w0:World} {fv:Value} {l:Int} {row:List ByteArray} {rest:List Row} {kh k:Nat} {S:Sx} (hb:Bd kh k S) (hr:S.rows=(l,row)::rest) (h:Rd w0 1 fv row.length (bn row)):b_ w0 fv row :=
 have h1:=hb.row (l,row) (by rw [hr];simp)
 ⟨h,h1.2.1,h1.2.2.1⟩
theorem Jb {w:World} {L:List Nat} (hL:∀x∈L,x < w.heap.size) (s:ByteArray):∀w',Kept L (w.alloc (.cells #[.string s] 9)) w'→Rd w' 1 (.slice (some ⟨w.heap.size,0,none⟩) 1 1) [s].length (bn [s]):=by
 intro w' hk
 refine⟨rfl,_,1,rfl,Nat.le_refl _,.inr ⟨_,0,rfl,fun j u hj=>?_⟩⟩
 have h1:=hk.at (heap_alloc_new w (.cells #[.string s] 9)) (fun hm=>absurd (hL _ hm) (by omega))
 rw [Nat.zero_add,cell_of_row _ w.heap.size j _ 9 (0,0) h1]
 simpa [bn] using hj
theorem Qw (w0:World) (L:List Nat) (i:Ids) (E:Int) (kh k:Nat) (S:Sx) (fv:Value) (row:List ByteArray) (w:World) (h:RM w0 w L i E kh (k+1) S) (hr:b_ w0 fv row) (hl:row.length=2) :
  Calls Tryz.prog 80 #[.pointer (some ⟨i.rb,0,none⟩),fv] w (pF w0 L i E kh k (nW E S (fieldAt row 1)) w):=by
 obtain⟨i0,hi,hz0,hz1,hz2⟩:=info_parts DR
 have hsz:=aL hr.each 1
 obtain⟨g,o,c,rfl,hc,hcells⟩:=hr.cells (by omega)
 have d1:=aD (hcells 1 (by omega)) h.base
 have HN:=hid (l6 i.rb S.line (fieldAt row 1) 256 w (by unfold maxLen;omega) (by decide) (by decide) h.r2)
 have HM:=hid h;rw [hl] at hc ⊢;clear hcells hr h;unfold nW;unfold pX at HN
 rcases dK (fieldAt row 1).data.toList 256 with hq | hq
 ·rw [if_neg (by simpa using hq)] at HN ⊢
  obtain⟨b0,b1⟩:=dJ (fieldAt row 1).data.toList 256 (by decide)
  obtain⟨n,hn⟩:∃n:Nat,aJ (fieldAt row 1).data.toList 256=n:=⟨_,(Int.toNat_of_nonneg b0).symm⟩;rw [hn] at HN b0 b1 ⊢;rw [Int.toNat_natCast]
  obtain⟨R,hR⟩:∃R,aO E (fun r=>decide (r.take 1=[mR])) gV n S=R:=⟨_,rfl⟩
  rw [hR];have HR:=hid hR;clear hR hq hn b0;have hn2:(n:Int)≤256:=b1;clear b1
  go_enter Tryz.func80,Tryz.ntmps80
  go_wp2_with fail
  refine HN.o.mono ?_
  rintro e w1 ⟨hb,rfl⟩
  have iA:=hid (HM.o.below hb);have ZL:=hid (aZ.of_below (L:=L) hb);clear hb
  go_wp2_with fail
  go_loopw [4,5,11] (fun _ _ x wr=>∃(m:Nat) (S':Sx) (L':List Nat),m≤n∧x=.int .i64 m∧Hid (RM w0 wr L' i E kh (k+1) S')∧Hid (aZ L w L' wr)∧Hid (aO E (fun r=>decide (r.take 1=[mR])) gV (n - m) S'=R)) (fun _ _ x _=>n - (intOf x).toNat)
  case atStart=>exact⟨0,S,L,Nat.zero_le _,rfl,iA,ZL,HR⟩
  case round =>
  obtain⟨m,S',L',hm,rfl,pE,xJ,Ai⟩:=hrel
  by_cases hlt:m < n
  ·have hnm:n - m=(n - (m+1))+1:=by omega
   have oG:=hid (yQ w0 L' i E kh (k+1) S' (.slice (some ⟨wr.heap.size,0,none⟩) 1 1) [mR] (wr.alloc (.cells #[.string mR] 9)) (pE.o.below ((Below.refl _ _).alloc (Nat.le_refl _) _))
    (Jb (fun x hx=>by obtain⟨_,v,hv⟩:=pE.o;exact (hv.hl x hx).2) mR) (by decide))
   have qU:=hid (xJ.o.trans (aZ.of_below (L:=L') ((Below.refl _ wr).alloc (Nat.le_refl _) (.cells #[.string mR] 9))))
   rcases hrows:S'.rows with _ | ⟨⟨l,dM⟩,rest⟩
   ·have bF:Hid (R=.error (E,116)):=hid (by rw [←Ai.o,hnm,aO,hrows])
    clear hnm;unfold r_ at oG;rw [hrows] at oG;clear hrows
    go_wp2_with fail
    refine oG.o.mono ?_
    rintro e w2 ⟨hg,rfl⟩
    exact⟨rfl,L',qU.o.trans hg,by rw [bF.o]⟩
   have zy:=hid pE.o.1
   have HRW:Hid (∀fv,Rd w0 1 fv dM.length (bn dM)→b_ w0 fv dM):=hid (fun fv h=>mU zy.o hrows h)
   have AO:Hid (∀j,(fieldAt dM j).size≤1048576):=hid (fun j=>Nat.le_trans (aL (zy.o.row (l,dM) (by rw [hrows];simp)).2.2.1 j) (by decide))
   have hrl:dM.length≤65536:=(zy.o.row (l,dM) (by rw [hrows];simp)).2.1
   have qM:Hid (R=if decide (dM.take 1=[mR])=true then (match gV S'.fl l dM with
    | .error c=>.error (l,c)
    | .ok F=>aO E (fun r=>decide (r.take 1=[mR])) gV (n - (m+1)) { fl:=F,rows:=rest,heads:=S'.heads,line:=l }) else .error (l,116)):=hid (by rw [←Ai.o,hnm,aO,hrows];rfl)
   clear hnm;unfold r_ at oG;rw [hrows] at oG;dsimp only at oG;clear hrows
   by_cases hh:dM.take 1=[mR]
   ·simp only [List.length_singleton,if_pos hh] at oG
    rw [decide_eq_true hh] at qM;clear hh
    by_cases h3:dM.length=3
    ·have q3:((dM.length:Int)==3)=true:=by rw [h3];rfl
     have BM:Hid (gV S'.fl l dM=match bL false (fieldAt dM 1) with
      | .error c=>.error c
      | .ok a=>match bL true (fieldAt dM 2) with
        | .error c=>.error c
        | .ok b=>.ok { S'.fl with au:=S'.fl.au++[(a,b)] }):=hid (by rw [gV,if_neg (by simp [h3])];rfl)
     cases hp1:bL false (fieldAt dM 1) with
     | error c1 =>
      have bF:Hid (R=.error (l,c1)):=hid (by rw [qM.o,if_pos rfl,BM.o,hp1])
      have CO:=hid hp1;clear hp1
      go_wp2_with fail
      refine oG.o.mono ?_
      rintro e w2 ⟨hg,fv2,rfl,hrd,hrm⟩
      have kJ:=hid hrm;have nO:=hid (qU.o.trans hg);clear hg hrm
      obtain⟨g2,o2,c2,rfl,hc2,eY⟩:=(HRW.o _ hrd).cells (by omega)
      have d1':=aD (eY 1 (by omega)) kJ.o.base
      have D2:=hid (eY 2 (by omega))
      have hc3:3≤c2:=by omega
      clear eY hrd
      go_wp2_with fail
      refine (aY i.rb l _ _ _ (by decide) kJ.o.r2).mono ?_
      rintro e w' ⟨⟨-,rfl⟩ | ⟨hx,-⟩,rfl⟩
      rotate_left
      ·exact absurd hx (by simp)
      go_wp2_with fail
      refine (tQ i.rb l (fieldAt dM 1) _ (AO.o 1) kJ.o.r2).mono ?_
      rw [CO.o]
      rintro e w3 ⟨hb,rfl⟩
      exact⟨rfl,L',nO.o.trans (aZ.of_below hb),by rw [bF.o]⟩
     | ok a =>
      have CO:=hid hp1
      cases hp2:bL true (fieldAt dM 2) with
      | error c1 =>
       have bF:Hid (R=.error (l,c1)):=hid (by rw [qM.o,if_pos rfl,BM.o,hp1];dsimp only;rw [hp2])
       have Ip:=hid hp2;clear hp1 hp2
       go_wp2_with fail
       refine oG.o.mono ?_
       rintro e w2 ⟨hg,fv2,rfl,hrd,hrm⟩
       have kJ:=hid hrm;have nO:=hid (qU.o.trans hg);clear hg hrm
       obtain⟨g2,o2,c2,rfl,hc2,eY⟩:=(HRW.o _ hrd).cells (by omega)
       have d1':=aD (eY 1 (by omega)) kJ.o.base
       have D2:=hid (eY 2 (by omega))
       have hc3:3≤c2:=by omega
       clear eY hrd
       go_wp2_with fail
       refine (aY i.rb l _ _ _ (by decide) kJ.o.r2).mono ?_
       rintro e w' ⟨⟨-,rfl⟩ | ⟨hx,-⟩,rfl⟩
       rotate_left
       ·exact absurd hx (by simp)
       go_wp2_with fail
       refine (tQ i.rb l (fieldAt dM 1) _ (AO.o 1) kJ.o.r2).mono ?_
       rw [CO.o]
       rintro e w3 ⟨hb,rfl⟩
       have om:=hid (kJ.o.below hb);have yR:=hid (nO.o.trans (aZ.of_below (L:=L') hb));clear hb;obtain⟨tT,v3,uS⟩:=om.o;obtain⟨A3,gW,hv3⟩:=aF uS.au.1;have c0:=uS.r0;have c9:=uS.f9;rw [hv3] at c9;have zw:=hid uS;have j3:=hid hv3;have HB3:=hid tT
       have HS:Hid (∀W,Below w3.heap.size w3 W→W.cell? ⟨i.rb,0,none⟩=some (.pointer (some ⟨i.fb,0,none⟩))∧W.cell? ⟨g2,o2+2,none⟩=some (.string (fieldAt dM 2))):=hid (fun W hW=>⟨(zw.o.below hW).r0,aD D2.out (zw.o.below hW).base⟩)
       clear uS tT hv3
       go_wp2_with fail
       refine wp_region_held_drew (S:=fun W'=>W'.cell? ⟨i.rb,0,none⟩=some (.pointer (some ⟨i.fb,0,none⟩))∧W'.cell? ⟨g2,o2+2,none⟩=some (.string (fieldAt dM 2))) (by kernel_rfl) ?_ (fun hHeld=>?_)
       ·exact HS.o _ ah
       refine aA 0 (some 26) hHeld ?_;try simp only [aj]
       refine aA 1 (some 27) hHeld ?_;try simp only [aj]
       refine aA 2 (some 28) hHeld ?_;try simp only [aj]
       refine aA 3 (some 29) hHeld ?_;try simp only [aj]
       refine aA 4 (some 30) hHeld ?_;try simp only [aj]
       refine aA 5 (some 31) hHeld ?_;try simp only [aj]
       refine aA 6 (some 32) hHeld ?_;try simp only [aj]
       refine aA 7 (some 33) hHeld ?_;try simp only [aj]
       refine aA 8 (some 34) hHeld ?_;try simp only [aj]
       refine aA 9 (some 35) hHeld ?_;try simp only [aj]
       refine aA 10 (some 36) hHeld ?_;try simp only [aj]
       refine aA 12 (some 38) hHeld ?_;try simp only [aj]
       refine aA 13 (some 39) hHeld ?_;try simp only [aj]
       refine aA 14 (some 40) hHeld ?_;try simp only [aj]
       refine aA 15 (some 41) hHeld ?_;try simp only [aj]
       refine aA 16 (some 42) hHeld ?_;try simp only [aj]
       refine wpAnyH_ready (rs:=[11,17]) (by kernel_rfl) (by simp) ?_
       refine AllReadyH.cons rfl (fun K hK=>?_) ?_
       ·go_simp
        refine hK.out _ _ ?_ (fun hHeld=>?_)
        ·first | exact HS.o _ ah | exact HS.o _ fF.o | exact HS.o _ (fF.o.alloc (Nat.le_of_lt_succ (Nat.lt_succ_of_le fF.o.size)) _) | exact⟨dZ.o.r0,aD D2.out dZ.o.base⟩
        clear hK K
        refine aP 17 (fun K hK=>?_)
        go_simp
        refine (g_ i.rb l (fieldAt dM 2) w3.drew (AO.o 2) om.o.r2).mono ?_
        rw [Ip.o]
        rintro e w4 ⟨hb,rfl⟩
        exact⟨rfl,L',yR.o.trans (aZ.of_below (ah.trans hb)),by rw [bF.o]⟩
       refine AllReadyH.cons rfl (fun K hK=>?_) ?_
       ·go_simp
        refine (g_ i.rb l (fieldAt dM 2) w3.drew (AO.o 2) om.o.r2).mono ?_
        rw [Ip.o]
        rintro e w4 ⟨hb,rfl⟩
        exact⟨rfl,L',yR.o.trans (aZ.of_below (ah.trans hb)),by rw [bF.o]⟩
       exact AllReadyH.nil
      | ok b =>
       have bF:Hid (R=aO E (fun r=>decide (r.take 1=[mR])) gV (n - (m+1)) { fl:={ S'.fl with au:=S'.fl.au++[(a,b)] },rows:=rest,heads:=S'.heads,line:=l }):=hid (by rw [qM.o,if_pos rfl,BM.o,hp1];dsimp only;rw [hp2])
       have Ip:=hid hp2;clear hp1 hp2
       go_wp2_with fail
       refine oG.o.mono ?_
       rintro e w2 ⟨hg,fv2,rfl,hrd,hrm⟩
       have kJ:=hid hrm;have nO:=hid (qU.o.trans hg);clear hg hrm
       obtain⟨g2,o2,c2,rfl,hc2,eY⟩:=(HRW.o _ hrd).cells (by omega)
       have d1':=aD (eY 1 (by omega)) kJ.o.base
       have D2:=hid (eY 2 (by omega))
       have hc3:3≤c2:=by omega
       clear eY hrd
       go_wp2_with fail
       refine (aY i.rb l _ _ _ (by decide) kJ.o.r2).mono ?_
       rintro e w' ⟨⟨-,rfl⟩ | ⟨hx,-⟩,rfl⟩
       rotate_left
       ·exact absurd hx (by simp)
       go_wp2_with fail
       refine (tQ i.rb l (fieldAt dM 1) _ (AO.o 1) kJ.o.r2).mono ?_
       rw [CO.o]
       rintro e w3 ⟨hb,rfl⟩
       have om:=hid (kJ.o.below hb);have yR:=hid (nO.o.trans (aZ.of_below (L:=L') hb));clear hb;obtain⟨tT,v3,uS⟩:=om.o;obtain⟨A3,gW,hv3⟩:=aF uS.au.1;have c0:=uS.r0;have c9:=uS.f9;rw [hv3] at c9;have zw:=hid uS;have j3:=hid hv3;have HB3:=hid tT
       have HS:Hid (∀W,Below w3.heap.size w3 W→W.cell? ⟨i.rb,0,none⟩=some (.pointer (some ⟨i.fb,0,none⟩))∧W.cell? ⟨g2,o2+2,none⟩=some (.string (fieldAt dM 2))):=hid (fun W hW=>⟨(zw.o.below hW).r0,aD D2.out (zw.o.below hW).base⟩)
       clear uS tT hv3
       go_wp2_with fail
       refine wp_region_held_drew (S:=fun W'=>W'.cell? ⟨i.rb,0,none⟩=some (.pointer (some ⟨i.fb,0,none⟩))∧W'.cell? ⟨g2,o2+2,none⟩=some (.string (fieldAt dM 2))) (by kernel_rfl) ?_ (fun hHeld=>?_)
       ·exact HS.o _ ah
       refine aA 0 (some 26) hHeld ?_;try simp only [aj]
       refine aA 1 (some 27) hHeld ?_;try simp only [aj]
       refine aA 2 (some 28) hHeld ?_;try simp only [aj]
       refine aA 3 (some 29) hHeld ?_;try simp only [aj]
       refine aA 4 (some 30) hHeld ?_;try simp only [aj]
       refine aA 5 (some 31) hHeld ?_;try simp only [aj]
       refine aA 6 (some 32) hHeld ?_;try simp only [aj]
       refine aA 7 (some 33) hHeld ?_;try simp only [aj]
       refine aA 8 (some 34) hHeld ?_;try simp only [aj]
       refine aA 9 (some 35) hHeld ?_;try simp only [aj]
       refine aA 10 (some 36) hHeld ?_;try simp only [aj]
       refine aA 12 (some 38) hHeld ?_;try simp only [aj]
       refine aA 13 (some 39) hHeld ?_;try simp only [aj]
       refine aA 14 (some 40) hHeld ?_;try simp only [aj]
       refine aA 15 (some 41) hHeld ?_;try simp only [aj]
       refine aA 16 (some 42) hHeld ?_;try simp only [aj]
       refine wpAnyH_ready (rs:=[11,17]) (by kernel_rfl) (by simp) ?_
       refine AllReadyH.cons rfl (fun K hK=>?_) ?_
       ·go_simp
        refine hK.out _ _ ?_ (fun hHeld=>?_)
        ·first | exact HS.o _ ah | exact HS.o _ fF.o | exact HS.o _ (fF.o.alloc (Nat.le_of_lt_succ (Nat.lt_succ_of_le fF.o.size)) _) | exact⟨dZ.o.r0,aD D2.out dZ.o.base⟩
        clear hK K
        refine aP 17 (fun K hK=>?_)
        go_simp
        refine (g_ i.rb l (fieldAt dM 2) w3.drew (AO.o 2) om.o.r2).mono ?_
        rw [Ip.o]
        rintro e w4 ⟨hb,rfl⟩
        have fF:Hid (Below w3.heap.size w3 w4):=hid (ah.trans hb);clear hb;have iV:=hid (zw.o.below fF.o);have c9':=iV.o.f9;rw [j3.o] at c9';have TI:=(iV.o.hl _ iV.o.oh).2;have za:=hid iV.o.au.1;rw [j3.o] at za
        refine hK.out _ _ ?_ (fun hHeld=>?_)
        ·exact HS.o _ fF.o
        clear hK K
        refine aA 18 (some 44) hHeld ?_;try simp only [aj]
        refine aP 19 (fun K hK=>?_)
        go_simp
        refine hK.out _ _ ?_ (fun hHeld=>?_)
        ·first | exact HS.o _ ah | exact HS.o _ fF.o | exact HS.o _ (fF.o.alloc (Nat.le_of_lt_succ (Nat.lt_succ_of_le fF.o.size)) _) | exact⟨dZ.o.r0,aD D2.out dZ.o.base⟩
        clear hK K
        refine aP 20 (fun K hK=>?_)
        refine aW (by rfl) _ _ 78 (by rfl) 0 145 i0 _ 2 32 Tryz.underlying78 hi hz0 hz1 hz2 rfl (by decide) (.slice A3 _ gW) _ _ (by rfl) za.o #[.string a,.string b] (by rfl) (by intro x hx;simp at hx;rcases hx with rfl | rfl<;>rfl) (by rfl) (by have:=HB3.o.au;unfold maxLen;omega) (by have:=HB3.o.au;omega) (Nat.zero_le _) ?_
        intro gg cc w9 hown bM hloc
        rw [←j3.o] at bM hloc;obtain⟨L9,kD,kK⟩:=iV.o.mO a b bM hloc hown
        have jD:=iV.o.bX bM (iV.o.bY) (by decide)
        have nP:=iV.o.dx bM (iV.o.bY) (by decide)
        have nI:w9.cell? ⟨i.fb,9,none⟩=some (.slice A3 S'.fl.au.length gW):=by rw [cell_of_heap jD];exact congrArg some j3.o
        have z9:w9.frozen? ⟨i.fb,9,none⟩=false:=frozen_of_heap jD 9;have dZ:=hid kK;have nU:=hid kD
        have uf:Hid (w9.cell? ⟨i.rb,0,none⟩=some (.pointer (some ⟨i.fb,0,none⟩))∧w9.cell? ⟨g2,o2+2,none⟩=some (.string (fieldAt dM 2))):=hid ⟨by rw [cell_of_heap nP];rfl,aD D2.out (iV.o.kX bM iV.o.au.2)⟩
        clear hown bM hloc kD kK jD nP
        refine hK.out _ _ ?_ (fun hHeld=>?_)
        ·exact uf.o
        clear hK K
        refine aA 21 (some 47) hHeld ?_;try simp only [aj]
        refine aA 22 (some 48) hHeld ?_;try simp only [aj]
        refine aA 23 (some 49) hHeld ?_;try simp only [aj]
        refine aP 24 (fun K hK=>?_)
        go_simp
        refine hK.out _ _ ?_ (fun hHeld=>?_)
        ·first | exact HS.o _ ah | exact HS.o _ fF.o | exact HS.o _ (fF.o.alloc (Nat.le_of_lt_succ (Nat.lt_succ_of_le fF.o.size)) _) | exact⟨dZ.o.r0,aD D2.out dZ.o.base⟩
        clear hK K
        refine wpAnyH_done (by kernel_rfl) ?_ _
        go_wp2_with fail
        go_roundw
        case rel=>exact⟨m+1,_,L9,by omega,by go_num,hid ⟨HB3.o.sU a b,_,dZ.o⟩,hid ((yR.o.trans (aZ.of_below fF.o)).trans nU.o),hid bF.o.symm⟩
        case measure=>simp [intOf];omega
       refine AllReadyH.cons rfl (fun K hK=>?_) ?_
       ·go_simp
        refine (g_ i.rb l (fieldAt dM 2) w3.drew (AO.o 2) om.o.r2).mono ?_
        rw [Ip.o]
        rintro e w4 ⟨hb,rfl⟩
        have fF:Hid (Below w3.heap.size w3 w4):=hid (ah.trans hb);clear hb;have iV:=hid (zw.o.below fF.o);have c9':=iV.o.f9;rw [j3.o] at c9';have TI:=(iV.o.hl _ iV.o.oh).2;have za:=hid iV.o.au.1;rw [j3.o] at za
        refine hK.out _ _ ?_ (fun hHeld=>?_)
        ·exact HS.o _ fF.o
        refine aA 18 (some 44) hHeld ?_;try simp only [aj]
        refine wpAnyH_ready (rs:=[11,19]) (by kernel_rfl) (by simp) ?_
        refine AllReadyH.cons rfl (fun K hK=>?_) ?_
        ·go_simp
         refine hK.out _ _ ?_ (fun hHeld=>?_)
         ·first | exact HS.o _ ah | exact HS.o _ fF.o | exact HS.o _ (fF.o.alloc (Nat.le_of_lt_succ (Nat.lt_succ_of_le fF.o.size)) _) | exact⟨dZ.o.r0,aD D2.out dZ.o.base⟩
         clear hK K
         refine aP 19 (fun K hK=>?_)
         go_simp
         refine hK.out _ _ ?_ (fun hHeld=>?_)
         ·first | exact HS.o _ ah | exact HS.o _ fF.o | exact HS.o _ (fF.o.alloc (Nat.le_of_lt_succ (Nat.lt_succ_of_le fF.o.size)) _) | exact⟨dZ.o.r0,aD D2.out dZ.o.base⟩
         clear hK K
         refine aP 20 (fun K hK=>?_)
         refine aW (by rfl) _ _ 78 (by rfl) 0 145 i0 _ 2 32 Tryz.underlying78 hi hz0 hz1 hz2 rfl (by decide) (.slice A3 _ gW) _ _ (by rfl) za.o #[.string a,.string b] (by rfl) (by intro x hx;simp at hx;rcases hx with rfl | rfl<;>rfl) (by rfl) (by have:=HB3.o.au;unfold maxLen;omega) (by have:=HB3.o.au;omega) (Nat.zero_le _) ?_
         intro gg cc w9 hown bM hloc
         rw [←j3.o] at bM hloc;obtain⟨L9,kD,kK⟩:=iV.o.mO a b bM hloc hown
         have jD:=iV.o.bX bM (iV.o.bY) (by decide)
         have nP:=iV.o.dx bM (iV.o.bY) (by decide)
         have nI:w9.cell? ⟨i.fb,9,none⟩=some (.slice A3 S'.fl.au.length gW):=by rw [cell_of_heap jD];exact congrArg some j3.o
         have z9:w9.frozen? ⟨i.fb,9,none⟩=false:=frozen_of_heap jD 9;have dZ:=hid kK;have nU:=hid kD
         have uf:Hid (w9.cell? ⟨i.rb,0,none⟩=some (.pointer (some ⟨i.fb,0,none⟩))∧w9.cell? ⟨g2,o2+2,none⟩=some (.string (fieldAt dM 2))):=hid ⟨by rw [cell_of_heap nP];rfl,aD D2.out (iV.o.kX bM iV.o.au.2)⟩
         clear hown bM hloc kD kK jD nP
         refine hK.out _ _ ?_ (fun hHeld=>?_)
         ·exact uf.o
         clear hK K
         refine aA 21 (some 47) hHeld ?_;try simp only [aj]
         refine aA 22 (some 48) hHeld ?_;try simp only [aj]
         refine aA 23 (some 49) hHeld ?_;try simp only [aj]
         refine aP 24 (fun K hK=>?_)
         go_simp
         refine hK.out _ _ ?_ (fun hHeld=>?_)
         ·first | exact HS.o _ ah | exact HS.o _ fF.o | exact HS.o _ (fF.o.alloc (Nat.le_of_lt_succ (Nat.lt_succ_of_le fF.o.size)) _) | exact⟨dZ.o.r0,aD D2.out dZ.o.base⟩
         clear hK K
         refine wpAnyH_done (by kernel_rfl) ?_ _
         go_wp2_with fail
         go_roundw
         case rel=>exact⟨m+1,_,L9,by omega,by go_num,hid ⟨HB3.o.sU a b,_,dZ.o⟩,hid ((yR.o.trans (aZ.of_below fF.o)).trans nU.o),hid bF.o.symm⟩
         case measure=>simp [intOf];omega
        refine AllReadyH.cons rfl (fun K hK=>?_) ?_
        ·go_simp
         refine hK.out _ _ ?_ (fun hHeld=>?_)
         ·first | exact HS.o _ ah | exact HS.o _ fF.o | exact HS.o _ (fF.o.alloc (Nat.le_of_lt_succ (Nat.lt_succ_of_le fF.o.size)) _) | exact⟨dZ.o.r0,aD D2.out dZ.o.base⟩
         clear hK K
         refine aP 11 (fun K hK=>?_)
         go_simp
         refine hK.out _ _ ?_ (fun hHeld=>?_)
         ·first | exact HS.o _ ah | exact HS.o _ fF.o | exact HS.o _ (fF.o.alloc (Nat.le_of_lt_succ (Nat.lt_succ_of_le fF.o.size)) _) | exact⟨dZ.o.r0,aD D2.out dZ.o.base⟩
         clear hK K
         refine aP 20 (fun K hK=>?_)
         refine aW (by rfl) _ _ 78 (by rfl) 0 145 i0 _ 2 32 Tryz.underlying78 hi hz0 hz1 hz2 rfl (by decide) (.slice A3 _ gW) _ _ (by rfl) za.o #[.string a,.string b] (by rfl) (by intro x hx;simp at hx;rcases hx with rfl | rfl<;>rfl) (by rfl) (by have:=HB3.o.au;unfold maxLen;omega) (by have:=HB3.o.au;omega) (Nat.zero_le _) ?_
         intro gg cc w9 hown bM hloc
         rw [←j3.o] at bM hloc;obtain⟨L9,kD,kK⟩:=iV.o.mO a b bM hloc hown
         have jD:=iV.o.bX bM (iV.o.bY) (by decide)
         have nP:=iV.o.dx bM (iV.o.bY) (by decide)
         have nI:w9.cell? ⟨i.fb,9,none⟩=some (.slice A3 S'.fl.au.length gW):=by rw [cell_of_heap jD];exact congrArg some j3.o
         have z9:w9.frozen? ⟨i.fb,9,none⟩=false:=frozen_of_heap jD 9;have dZ:=hid kK;have nU:=hid kD
         have uf:Hid (w9.cell? ⟨i.rb,0,none⟩=some (.pointer (some ⟨i.fb,0,none⟩))∧w9.cell? ⟨g2,o2+2,none⟩=some (.string (fieldAt dM 2))):=hid ⟨by rw [cell_of_heap nP];rfl,aD D2.out (iV.o.kX bM iV.o.au.2)⟩
         clear hown bM hloc kD kK jD nP
         refine hK.out _ _ ?_ (fun hHeld=>?_)
         ·exact uf.o
         clear hK K
         refine aA 21 (some 47) hHeld ?_;try simp only [aj]
         refine aA 22 (some 48) hHeld ?_;try simp only [aj]
         refine aA 23 (some 49) hHeld ?_;try simp only [aj]
         refine aP 24 (fun K hK=>?_)
         go_simp
         refine hK.out _ _ ?_ (fun hHeld=>?_)
         ·first | exact HS.o _ ah | exact HS.o _ fF.o | exact HS.o _ (fF.o.alloc (Nat.le_of_lt_succ (Nat.lt_succ_of_le fF.o.size)) _) | exact⟨dZ.o.r0,aD D2.out dZ.o.base⟩
         clear hK K
         refine wpAnyH_done (by kernel_rfl) ?_ _
         go_wp2_with fail
         go_roundw
         case rel=>exact⟨m+1,_,L9,by omega,by go_num,hid ⟨HB3.o.sU a b,_,dZ.o⟩,hid ((yR.o.trans (aZ.of_below fF.o)).trans nU.o),hid bF.o.symm⟩
         case measure=>simp [intOf];omega
        exact AllReadyH.nil
       exact AllReadyH.nil
    have q3:((dM.length:Int)==3)=false:=by rw [beq_eq_false_iff_ne];omega
    have bF:Hid (R=.error (l,111)):=hid (by rw [qM.o,if_pos rfl,gV,if_pos h3])
    clear h3
    go_wp2_with fail
    refine oG.o.mono ?_
    rintro e w2 ⟨hg,fv2,rfl,hrd,hrm⟩
    have kJ:=hid hrm;have nO:=hid (qU.o.trans hg);clear hg hrm;obtain⟨-,A2,c2,rfl,hc2,-⟩:=hrd
    go_wp2_with fail
    refine (aY i.rb l _ _ _ (by decide) kJ.o.r2).mono ?_
    rintro e w' ⟨⟨hx,-⟩ | ⟨-,rfl⟩,rfl⟩
    ·exact absurd hx (by simp)
    exact⟨rfl,L',nO.o,by rw [bF.o]⟩
   simp only [List.length_singleton,if_neg hh] at oG
   have bF:Hid (R=.error (l,116)):=hid (by rw [qM.o,if_neg (by simpa using hh)])
   clear hh
   go_wp2_with fail
   refine oG.o.mono ?_
   rintro e w2 ⟨hg,rfl⟩
   exact⟨rfl,L',qU.o.trans hg,by rw [bF.o]⟩
  obtain rfl:m=n:=by omega
  have bF:Hid (R=.ok S'):=hid (by rw [←Ai.o,Nat.sub_self,aO])
  go_wp2_with fail
  go_end0
  exact⟨L',xJ.o,by rw [bF.o];exact⟨rfl,pE.o.1.mono,pE.o.2⟩⟩
 rw [if_pos (by rw [hq];decide)] at HN ⊢
 clear hq
 go_enter Tryz.func80,Tryz.ntmps80
 go_wp2_with fail
 refine HN.o.mono ?_
 rintro e w' ⟨hb,rfl⟩
 exact⟨rfl,L,aZ.of_below hb,rfl⟩
theorem Bd.BO {kh k:Nat} {S:Sx} (h:Bd (kh+1) (k+1) S) (a:List Int) (h1:canon a=a) (h2:∀x∈a,0≤x∧x≤65535):Bd kh k { S with fl:={ S.fl with aI:=S.fl.aI++[a] } } :=
 ⟨h.row,by have:=h.heads;show S.heads.length+S.rows.length+kh≤65536;omega,h.vM,by have:=h.au;show S.fl.au.length+S.rows.length+k≤65536;omega,
  by have:=h.aI;show (S.fl.aI++[a]).length+S.rows.length+k≤65536;rw [List.length_append];show S.fl.aI.length+1+S.rows.length+k≤65536;omega,by have:=h.cls;show S.fl.cls.length+S.rows.length+k≤65536;omega,by have:=h.rls;show S.fl.rls.length+S.rows.length+k≤65536;omega,h.flags,
  fun b hb=>by
   rcases List.mem_append.1 hb with hb | hb
   ·exact h.sets b hb
   ·simp at hb;subst hb;exact⟨h1,h2⟩,h.nexts,h.kind,h.sp,h.line⟩
theorem xU:(Tryz.prog.info? 29).map (fun i=>(i.zero,i.size,i.bytes))=some (some (.slice none 0 0),1,24):=by kernel_rfl
theorem o9 (kind:Int) (l:List UInt8):canon (bS kind l).1=(bS kind l).1:=by
 unfold bS
 split
 ·exact iP
 split
 ·exact iP
 split
 ·exact iP
 split
 ·exact iP
 exact GV _
theorem He (w0:World) (L:List Nat) (i:Ids) (E:Int) (kh k:Nat) (S:Sx) (fv:Value) (row:List ByteArray) (m0:Int) (w:World) (h:RM w0 w L i E kh (k+1) S) (hr:b_ w0 fv row) (hl:row.length=2) (hm0:w0.cell? ⟨0,0,none⟩=some (.int .i64 m0)) :
  Calls Tryz.prog 81 #[.pointer (some ⟨i.rb,0,none⟩),fv] w (pF w0 L i E kh k (jf E S (fieldAt row 1)) w):=by
 obtain⟨i0,hi,hz0,hz1,hz2⟩:=info_parts xU
 have hsz:=aL hr.each 1
 obtain⟨g,o,c,rfl,hc,hcells⟩:=hr.cells (by omega)
 have d1:=aD (hcells 1 (by omega)) h.base
 have HN:Hid (∀x,Calls Tryz.prog 114 #[.pointer (some ⟨i.rb,0,none⟩),.string (fieldAt row 1),.int .i64 1024] (w.drewN x) (oC S.line (w.drewN x) (Value.int .i64) (pX (fieldAt row 1) 1024))):=hid (fun x=>l6 i.rb S.line (fieldAt row 1) 1024 (w.drewN x) (by unfold maxLen;omega) (by decide) (by decide) (h.below (cK x)).r2)
 have HM:=hid h;have Qe:=hid hm0;rw [hl] at hc ⊢;clear hcells hr hm0;obtain⟨hbd,v0,hm⟩:=h;have hc4:=hm.r4;have hcl:S.heads.count og≤S.heads.length:=List.count_le_length;have WC:S.heads.count dY≤S.heads.length:=List.count_le_length;have hhd:=hbd.heads
 have hl1:=fun x=>(hm.below (cK (w:=w) x)).seen.look og (by decide)
 have hl2:=fun x=>(hm.below (cK (w:=w) x)).seen.look dY (by decide)
 have Iw:Hid (∀x,Calls Tryz.prog 46 #[.pointer (some ⟨i.rb,0,none⟩),.bool true,.int .i64 113] (w.drewN x) fun e w'=>e=.returned (.tuple #[])∧∃n,w'=w.drewN n):=hid (fun x=>(aY i.rb S.line true 113 (w.drewN x) (by decide) (hm.below (cK x)).r2).mono (by
  rintro e w' ⟨⟨-,rfl⟩ | ⟨hx,-⟩,rfl⟩
  ·exact⟨rfl,x,rfl⟩
  cases hx))
 obtain⟨q1,hq1⟩:∃q,S.heads.count og=q:=⟨_,rfl⟩;obtain⟨q2,hq2⟩:∃q,S.heads.count dY=q:=⟨_,rfl⟩;rw [hq1] at hl1 hcl;rw [hq2] at hl2 WC
 have Lh:Hid (∀W,Below w.heap.size w W→W.cell? ⟨i.rb,4,none⟩=some (.map (some i.sb))):=hid (fun W hW=>(hm.below hW).r4)
 have R6:Hid (¬(S.heads.contains og=true∨S.heads.contains dY=true)↔(q1=0∧q2=0)):=hid (by
  rw [←hq1,←hq2,List.count_eq_zero,List.count_eq_zero];simp)
 clear hm hbd hq1 hq2;unfold jf
 have hwr:IntKind.i64.wrap ((q1:Int)+(q2:Int))=(q1:Int)+(q2:Int):=by rw [IntKind.wrap_i64];omega
 by_cases h0:q1=0∧q2=0
 ·rw [if_neg (R6.o.2 h0)]
  obtain⟨rfl,rfl⟩:=h0;clear hcl WC hhd
  rcases dK (fieldAt row 1).data.toList 1024 with hq | hq
  ·rw [if_neg (by simpa using hq)]
   obtain⟨b0,b1⟩:=dJ (fieldAt row 1).data.toList 1024 (by decide)
   obtain⟨n,hn⟩:∃n:Nat,aJ (fieldAt row 1).data.toList 1024=n:=⟨_,(Int.toNat_of_nonneg b0).symm⟩
   have ZM:Hid (pX (fieldAt row 1) 1024=.ok (n:Int)):=hid (by unfold pX;rw [if_neg (by simpa using hq),hn])
   rw [hn] at b0 b1 ⊢;rw [Int.toNat_natCast]
   obtain⟨R,hR⟩:∃R,aO E (fun r=>decide (r.take 1=[wH])) eT n S=R:=⟨_,rfl⟩
   rw [hR];have HR:=hid hR;clear hR hq hn b0;have hn2:(n:Int)≤1024:=b1;clear b1
   go_enter Tryz.func81,Tryz.ntmps81
   go_wp2_with fail
   go_quiet (first | (go_at_call 46;exact Iw.o _))
   clear hl1 hl2 hc4
   go_wp2_with fail
   refine (HN.o _).mono ?_
   rw [ZM.o]
   rintro e w1 ⟨hb',rfl⟩
   have hb:Below w.heap.size w w1:=(cK _).trans hb';clear hb';have iA:=hid (HM.o.below hb);have ZL:=hid (aZ.of_below (L:=L) hb);clear hb
   go_wp2_with fail
   go_loopw [4,5,6,26] (fun _ _ _ x wr=>∃(m:Nat) (S':Sx) (L':List Nat),m≤n∧x=.int .i64 m∧Hid (RM w0 wr L' i E kh (k+1) S')∧Hid (aZ L w L' wr)∧Hid (aO E (fun r=>decide (r.take 1=[wH])) eT (n - m) S'=R)) (fun _ _ _ x _=>n - (intOf x).toNat)
   case atStart=>exact⟨0,S,L,Nat.zero_le _,rfl,iA,ZL,HR⟩
   case round =>
   obtain⟨m,S',L',hm,rfl,pE,xJ,Ai⟩:=hrel
   by_cases hlt:m < n
   ·have hnm:n - m=(n - (m+1))+1:=by omega
    have oG:=hid (yQ w0 L' i E kh (k+1) S' (.slice (some ⟨wr.heap.size,0,none⟩) 1 1) [wH] (wr.alloc (.cells #[.string wH] 9)) (pE.o.below ((Below.refl _ _).alloc (Nat.le_refl _) _))
     (Jb (fun x hx=>by obtain⟨_,v,hv⟩:=pE.o;exact (hv.hl x hx).2) wH) (by decide))
    have qU:=hid (xJ.o.trans (aZ.of_below (L:=L') ((Below.refl _ wr).alloc (Nat.le_refl _) (.cells #[.string wH] 9))))
    rcases hrows:S'.rows with _ | ⟨⟨l,dM⟩,rest⟩
    ·have bF:Hid (R=.error (E,116)):=hid (by rw [←Ai.o,hnm,aO,hrows])
     clear hnm;unfold r_ at oG;rw [hrows] at oG;clear hrows
     go_wp2_with fail
     refine oG.o.mono ?_
     rintro e w2 ⟨hg,rfl⟩
     exact⟨rfl,L',qU.o.trans hg,by rw [bF.o]⟩
    have TJ:=hid pE.o.1
    have HRW:Hid (∀fv,Rd w0 1 fv dM.length (bn dM)→b_ w0 fv dM):=hid (fun fv h=>mU TJ.o hrows h)
    have AO:Hid (∀j,(fieldAt dM j).size≤1048576):=hid (fun j=>Nat.le_trans (aL (TJ.o.row (l,dM) (by rw [hrows];simp)).2.2.1 j) (by decide))
    have hrl:dM.length≤65536:=(TJ.o.row (l,dM) (by rw [hrows];simp)).2.1
    have qM:Hid (R=if decide (dM.take 1=[wH])=true then (match eT S'.fl l dM with
     | .error c=>.error (l,c)
     | .ok F=>aO E (fun r=>decide (r.take 1=[wH])) eT (n - (m+1)) { fl:=F,rows:=rest,heads:=S'.heads,line:=l }) else .error (l,116)):=hid (by rw [←Ai.o,hnm,aO,hrows];rfl)
    clear hnm;unfold r_ at oG;rw [hrows] at oG;dsimp only at oG;clear hrows
    by_cases hh:dM.take 1=[wH]
    ·simp only [List.length_singleton,if_pos hh] at oG
     rw [decide_eq_true hh] at qM;clear hh
     by_cases h3:dM.length=2
     ·have q3:((dM.length:Int)==2)=true:=by rw [h3];rfl
      have hcan:=o9 S'.fl.kind (fieldAt dM 1).data.toList;have hrb:=xH S'.fl.kind (fieldAt dM 1).data.toList
      have XU:eT S'.fl l dM=if (bS S'.fl.kind (fieldAt dM 1).data.toList).2≠0 then .error (bS S'.fl.kind (fieldAt dM 1).data.toList).2 else .ok { S'.fl with aI:=S'.fl.aI++[(bS S'.fl.kind (fieldAt dM 1).data.toList).1] }:=by rw [eT,if_neg (by simp [h3])]
      obtain⟨⟨az,e0⟩,hre⟩:∃r,bS S'.fl.kind (fieldAt dM 1).data.toList=r:=⟨_,rfl⟩;rw [hre] at hcan hrb XU;dsimp only at hcan hrb XU;have CO:=hid hre;have HAR:=hid XU;have XV:=hid (⟨hcan,hrb⟩:canon az=az∧∀x∈az,0≤x∧x≤65535);clear hre XU hcan hrb
      by_cases he0:e0=0
      ·subst he0
       have bF:Hid (R=aO E (fun r=>decide (r.take 1=[wH])) eT (n - (m+1)) { fl:={ S'.fl with aI:=S'.fl.aI++[az] },rows:=rest,heads:=S'.heads,line:=l }):=hid (by rw [qM.o,if_pos rfl,HAR.o,if_neg (by simp)])
       go_wp2_with fail
       refine oG.o.mono ?_
       rintro e w2 ⟨hg,fv2,rfl,hrd,hrm⟩
       have kJ:=hid hrm;have nO:=hid (qU.o.trans hg);clear hg hrm
       obtain⟨g2,o2,c2,rfl,hc2,eY⟩:=(HRW.o _ hrd).cells (by omega)
       have D2:=hid (eY 1 (by omega))
       have hc3:2≤c2:=by omega
       clear eY hrd;obtain⟨Cb,v2,hm2⟩:=kJ.o;have vC:=hid hm2
       have HS:Hid (∀W,Below w2.heap.size w2 W→W.cell? ⟨i.rb,0,none⟩=some (.pointer (some ⟨i.fb,0,none⟩))∧W.cell? ⟨i.fb,0,none⟩=some (.int .i64 S'.fl.kind)∧W.cell? ⟨g2,o2+1,none⟩=some (.string (fieldAt dM 1))):=hid (fun W hW=>⟨(vC.o.below hW).r0,(vC.o.below hW).f0,aD D2.out (vC.o.below hW).base⟩)
       have t_:=hid (Cq S'.fl.kind (fieldAt dM 1) m0 w2.drew (Nat.le_trans (AO.o 1) (by decide)) ((vC.o.base.cell (block_lt_of_cell? w0 _ Qe.o)).trans Qe.o))
       rw [CO.o] at t_;clear Cb hm2
       go_wp2_with fail
       refine (aY i.rb l _ _ _ (by decide) kJ.o.r2).mono ?_
       rintro e w' ⟨⟨-,rfl⟩ | ⟨hx,-⟩,rfl⟩
       rotate_left
       ·exact absurd hx (by simp)
       go_wp2_with fail
       refine wp_region_held_drew (S:=fun W'=>W'.cell? ⟨i.rb,0,none⟩=some (.pointer (some ⟨i.fb,0,none⟩))∧W'.cell? ⟨i.fb,0,none⟩=some (.int .i64 S'.fl.kind)∧W'.cell? ⟨g2,o2+1,none⟩=some (.string (fieldAt dM 1))) (by kernel_rfl) ?_ (fun hHeld=>?_)
       ·exact HS.o _ ah
       refine aA 0 (some 37) hHeld ?_;try simp only [aj]
       refine aA 1 (some 38) hHeld ?_;try simp only [aj]
       refine aA 2 (some 39) hHeld ?_;try simp only [aj]
       refine aA 3 (some 40) hHeld ?_;try simp only [aj]
       refine aA 4 (some 41) hHeld ?_;try simp only [aj]
       refine aA 5 (some 42) hHeld ?_;try simp only [aj]
       refine aA 6 (some 43) hHeld ?_;try simp only [aj]
       refine aA 7 (some 44) hHeld ?_;try simp only [aj]
       refine aA 8 (some 45) hHeld ?_;try simp only [aj]
       refine aA 9 (some 46) hHeld ?_;try simp only [aj]
       refine aA 10 (some 47) hHeld ?_;try simp only [aj]
       refine aP 11 (fun K hK=>?_)
       go_simp
       refine t_.o.mono ?_
       rintro e w3 ⟨u,rfl,hfn,hb⟩
       have HB3:Hid (Below w2.heap.size w2 w3):=hid (ah.trans hb)
       have Qx:=hid (FO.Ja (L:=L') (w:=w2.drew) hfn (fun x hx=>(vC.o.hl x hx).2))
       clear hb hfn
       refine hK.out _ _ ?_ (fun hHeld=>?_)
       ·exact HS.o _ HB3.o
       clear hK K
       refine aA 12 (some 36) hHeld ?_;try simp only [aj]
       refine aA 13 (some 49) hHeld ?_;try simp only [aj]
       refine aA 14 (some 50) hHeld ?_;try simp only [aj]
       refine aA 15 (some 5) hHeld ?_;try simp only [aj]
       refine aA 16 (some 6) hHeld ?_;try simp only [aj]
       refine wpAnyH_done (by kernel_rfl) ?_ _
       have om:=hid (kJ.o.below HB3.o);have yR:=hid (nO.o.trans (aZ.of_below (L:=L') HB3.o))
       go_wp2_with fail
       refine (dW i.rb l _ _ om.o.r2).mono ?_
       rintro e w' ⟨⟨-,rfl⟩ | ⟨hx,-⟩,rfl⟩
       rotate_left
       ·exact absurd hx (by decide)
       obtain⟨tT,v3,uS⟩:=om.o;obtain⟨XW,ho3,ZN,ZO⟩:=uS.aI;obtain⟨A3,gW,hv3⟩:=aF ho3.1;have c0:=uS.r0;have c9:=uS.f10;rw [hv3] at c9;have lK:=hid ho3.1;rw [hv3] at lK;have ZP:=(uS.hl _ uS.oh).2;have zw:=hid uS;have j3:=hid hv3;have WE:=hid tT
       have acY:S'.fl.aI.length≤65536:=by have h:S'.fl.aI.length+rest.length+_≤65536:=tT.aI;omega
       have qQ:Hid (∀W,Below w3.heap.size w3 W→W.cell? ⟨i.rb,0,none⟩=some (.pointer (some ⟨i.fb,0,none⟩))):=hid (fun W hW=>(zw.o.below hW).r0)
       obtain⟨pu,cu,rfl⟩:∃p c,u=.slice p az.length c:=by
        obtain⟨p,c,h1,-⟩:=Qx.o
        exact⟨p,c,h1⟩
       clear uS tT hv3 ho3 ZN ZO
       go_wp2_with fail
       refine wp_region_held_drew (S:=fun W'=>W'.cell? ⟨i.rb,0,none⟩=some (.pointer (some ⟨i.fb,0,none⟩))) (by kernel_rfl) ?_ (fun hHeld=>?_)
       ·exact qQ.o _ ah
       refine aA 0 (some 54) hHeld ?_;try simp only [aj]
       refine aA 1 (some 55) hHeld ?_;try simp only [aj]
       refine aA 2 (some 56) hHeld ?_;try simp only [aj]
       refine aA 3 (some 57) hHeld ?_;try simp only [aj]
       refine aA 4 (some 58) hHeld ?_;try simp only [aj]
       refine aA 5 (some 59) hHeld ?_;try simp only [aj]
       refine aA 6 (some 60) hHeld ?_;try simp only [aj]
       refine aA 7 (some 61) hHeld ?_;try simp only [aj]
       refine aA 8 (some 62) hHeld ?_;try simp only [aj]
       refine aA 9 (some 63) hHeld ?_;try simp only [aj]
       refine aA 10 (some 64) hHeld ?_;try simp only [aj]
       refine aA 12 (some 66) hHeld ?_;try simp only [aj]
       refine wpAnyH_ready (rs:=[11,13]) (by kernel_rfl) (by simp) ?_
       refine AllReadyH.cons rfl (fun K hK=>?_) ?_
       ·go_simp
        refine hK.out _ _ ?_ (fun hHeld=>?_)
        ·first | exact qQ.o _ ah | exact qQ.o _ (ah.alloc (Nat.le_refl _) _) | exact dZ.o.r0
        clear hK K
        refine aP 13 (fun K hK=>?_)
        go_simp
        refine hK.out _ _ ?_ (fun hHeld=>?_)
        ·first | exact qQ.o _ ah | exact qQ.o _ (ah.alloc (Nat.le_refl _) _) | exact dZ.o.r0
        clear hK K
        refine aP 14 (fun K hK=>?_)
        refine aW (w:=w3.drew) (by rfl) _ _ 79 (by rfl) 0 29 i0 _ 1 24 Tryz.underlying79 hi hz0 hz1 hz2 rfl (by decide) (.slice A3 S'.fl.aI.length gW) S'.fl.aI.length XW (by rfl) lK.o #[.slice pu az.length cu] (by rfl) (by intro x hx;simp at hx;subst hx;rfl) (by rfl) (by unfold maxLen;omega) (by omega) (Nat.zero_le _) ?_
        intro gg cc w9 hown bM hloc
        rw [←j3.o] at bM hloc
        obtain⟨L9,kD,kK⟩:=(zw.o.below ah).sK (.slice pu az.length cu) az (Qx.o.keep (aZ.of_below ah)) bM hloc (fun us zL=>by have e1:=lg lK.o (show w3.ownsRow 0 29 1 (.slice A3 S'.fl.aI.length gW) S'.fl.aI.length us by rw [←j3.o];exact zL);subst e1;exact hown)
        have jD:=(zw.o.below (ah (w:=w3))).bX bM ((zw.o.below (ah (w:=w3))).eP) (by decide)
        have nP:=(zw.o.below (ah (w:=w3))).dx bM ((zw.o.below (ah (w:=w3))).eP) (by decide)
        have nI:w9.cell? ⟨i.fb,10,none⟩=some (.slice A3 S'.fl.aI.length gW):=by rw [cell_of_heap jD];exact congrArg some j3.o
        have z9:w9.frozen? ⟨i.fb,10,none⟩=false:=frozen_of_heap jD 10;have dZ:=hid kK;have nU:=hid kD
        have uf:Hid (w9.cell? ⟨i.rb,0,none⟩=some (.pointer (some ⟨i.fb,0,none⟩))):=hid (by rw [cell_of_heap nP];rfl)
        clear hown bM hloc kD kK jD nP
        refine hK.out _ _ ?_ (fun hHeld=>?_)
        ·exact uf.o
        clear hK K
        refine aA 15 (some 69) hHeld ?_;try simp only [aj]
        refine aA 16 (some 70) hHeld ?_;try simp only [aj]
        refine aA 17 (some 71) hHeld ?_;try simp only [aj]
        refine aP 18 (fun K hK=>?_)
        go_simp
        refine hK.out _ _ ?_ (fun hHeld=>?_)
        ·first | exact qQ.o _ ah | exact qQ.o _ (ah.alloc (Nat.le_refl _) _) | exact dZ.o.r0
        clear hK K
        refine wpAnyH_done (by kernel_rfl) ?_ _
        go_wp2_with fail
        go_roundw
        case rel=>exact⟨m+1,_,L9,by omega,by go_num,hid ⟨WE.o.BO az XV.o.1 XV.o.2,_,dZ.o⟩,hid ((yR.o.trans (aZ.of_below ah)).trans nU.o),hid bF.o.symm⟩
        case measure=>simp [intOf];omega
       refine AllReadyH.cons rfl (fun K hK=>?_) ?_
       ·go_simp
        refine hK.out _ _ ?_ (fun hHeld=>?_)
        ·first | exact qQ.o _ ah | exact qQ.o _ (ah.alloc (Nat.le_refl _) _) | exact dZ.o.r0
        clear hK K
        refine aP 11 (fun K hK=>?_)
        go_simp
        refine hK.out _ _ ?_ (fun hHeld=>?_)
        ·first | exact qQ.o _ ah | exact qQ.o _ (ah.alloc (Nat.le_refl _) _) | exact dZ.o.r0
        clear hK K
        refine aP 14 (fun K hK=>?_)
        refine aW (w:=w3.drew) (by rfl) _ _ 79 (by rfl) 0 29 i0 _ 1 24 Tryz.underlying79 hi hz0 hz1 hz2 rfl (by decide) (.slice A3 S'.fl.aI.length gW) S'.fl.aI.length XW (by rfl) lK.o #[.slice pu az.length cu] (by rfl) (by intro x hx;simp at hx;subst hx;rfl) (by rfl) (by unfold maxLen;omega) (by omega) (Nat.zero_le _) ?_
        intro gg cc w9 hown bM hloc
        rw [←j3.o] at bM hloc
        obtain⟨L9,kD,kK⟩:=(zw.o.below ah).sK (.slice pu az.length cu) az (Qx.o.keep (aZ.of_below ah)) bM hloc (fun us zL=>by have e1:=lg lK.o (show w3.ownsRow 0 29 1 (.slice A3 S'.fl.aI.length gW) S'.fl.aI.length us by rw [←j3.o];exact zL);subst e1;exact hown)
        have jD:=(zw.o.below (ah (w:=w3))).bX bM ((zw.o.below (ah (w:=w3))).eP) (by decide)
        have nP:=(zw.o.below (ah (w:=w3))).dx bM ((zw.o.below (ah (w:=w3))).eP) (by decide)
        have nI:w9.cell? ⟨i.fb,10,none⟩=some (.slice A3 S'.fl.aI.length gW):=by rw [cell_of_heap jD];exact congrArg some j3.o
        have z9:w9.frozen? ⟨i.fb,10,none⟩=false:=frozen_of_heap jD 10;have dZ:=hid kK;have nU:=hid kD
        have uf:Hid (w9.cell? ⟨i.rb,0,none⟩=some (.pointer (some ⟨i.fb,0,none⟩))):=hid (by rw [cell_of_heap nP];rfl)
        clear hown bM hloc kD kK jD nP
        refine hK.out _ _ ?_ (fun hHeld=>?_)
        ·exact uf.o
        clear hK K
        refine aA 15 (some 69) hHeld ?_;try simp only [aj]
        refine aA 16 (some 70) hHeld ?_;try simp only [aj]
        refine aA 17 (some 71) hHeld ?_;try simp only [aj]
        refine aP 18 (fun K hK=>?_)
        go_simp
        refine hK.out _ _ ?_ (fun hHeld=>?_)
        ·first | exact qQ.o _ ah | exact qQ.o _ (ah.alloc (Nat.le_refl _) _) | exact dZ.o.r0
        clear hK K
        refine wpAnyH_done (by kernel_rfl) ?_ _
        go_wp2_with fail
        go_roundw
        case rel=>exact⟨m+1,_,L9,by omega,by go_num,hid ⟨WE.o.BO az XV.o.1 XV.o.2,_,dZ.o⟩,hid ((yR.o.trans (aZ.of_below ah)).trans nU.o),hid bF.o.symm⟩
        case measure=>simp [intOf];omega
       exact AllReadyH.nil
      have bF:Hid (R=.error (l,e0)):=hid (by rw [qM.o,if_pos rfl,HAR.o,if_pos he0])
      have Dw:Hid ((e0==0)=false):=hid (by simpa using he0)
      clear he0
      go_wp2_with fail
      refine oG.o.mono ?_
      rintro e w2 ⟨hg,fv2,rfl,hrd,hrm⟩
      have kJ:=hid hrm;have nO:=hid (qU.o.trans hg);clear hg hrm
      obtain⟨g2,o2,c2,rfl,hc2,eY⟩:=(HRW.o _ hrd).cells (by omega)
      have D2:=hid (eY 1 (by omega))
      have hc3:2≤c2:=by omega
      clear eY hrd;obtain⟨Cb,v2,hm2⟩:=kJ.o;have vC:=hid hm2
      have HS:Hid (∀W,Below w2.heap.size w2 W→W.cell? ⟨i.rb,0,none⟩=some (.pointer (some ⟨i.fb,0,none⟩))∧W.cell? ⟨i.fb,0,none⟩=some (.int .i64 S'.fl.kind)∧W.cell? ⟨g2,o2+1,none⟩=some (.string (fieldAt dM 1))):=hid (fun W hW=>⟨(vC.o.below hW).r0,(vC.o.below hW).f0,aD D2.out (vC.o.below hW).base⟩)
      have t_:=hid (Cq S'.fl.kind (fieldAt dM 1) m0 w2.drew (Nat.le_trans (AO.o 1) (by decide)) ((vC.o.base.cell (block_lt_of_cell? w0 _ Qe.o)).trans Qe.o))
      rw [CO.o] at t_;clear Cb hm2
      go_wp2_with fail
      refine (aY i.rb l _ _ _ (by decide) kJ.o.r2).mono ?_
      rintro e w' ⟨⟨-,rfl⟩ | ⟨hx,-⟩,rfl⟩
      rotate_left
      ·exact absurd hx (by simp)
      go_wp2_with fail
      refine wp_region_held_drew (S:=fun W'=>W'.cell? ⟨i.rb,0,none⟩=some (.pointer (some ⟨i.fb,0,none⟩))∧W'.cell? ⟨i.fb,0,none⟩=some (.int .i64 S'.fl.kind)∧W'.cell? ⟨g2,o2+1,none⟩=some (.string (fieldAt dM 1))) (by kernel_rfl) ?_ (fun hHeld=>?_)
      ·exact HS.o _ ah
      refine aA 0 (some 37) hHeld ?_;try simp only [aj]
      refine aA 1 (some 38) hHeld ?_;try simp only [aj]
      refine aA 2 (some 39) hHeld ?_;try simp only [aj]
      refine aA 3 (some 40) hHeld ?_;try simp only [aj]
      refine aA 4 (some 41) hHeld ?_;try simp only [aj]
      refine aA 5 (some 42) hHeld ?_;try simp only [aj]
      refine aA 6 (some 43) hHeld ?_;try simp only [aj]
      refine aA 7 (some 44) hHeld ?_;try simp only [aj]
      refine aA 8 (some 45) hHeld ?_;try simp only [aj]
      refine aA 9 (some 46) hHeld ?_;try simp only [aj]
      refine aA 10 (some 47) hHeld ?_;try simp only [aj]
      refine aP 11 (fun K hK=>?_)
      go_simp
      refine t_.o.mono ?_
      rintro e w3 ⟨u,rfl,hfn,hb⟩
      have HB3:Hid (Below w2.heap.size w2 w3):=hid (ah.trans hb)
      have Qx:=hid (FO.Ja (L:=L') (w:=w2.drew) hfn (fun x hx=>(vC.o.hl x hx).2))
      clear hb hfn
      refine hK.out _ _ ?_ (fun hHeld=>?_)
      ·exact HS.o _ HB3.o
      clear hK K
      refine aA 12 (some 36) hHeld ?_;try simp only [aj]
      refine aA 13 (some 49) hHeld ?_;try simp only [aj]
      refine aA 14 (some 50) hHeld ?_;try simp only [aj]
      refine aA 15 (some 5) hHeld ?_;try simp only [aj]
      refine aA 16 (some 6) hHeld ?_;try simp only [aj]
      refine wpAnyH_done (by kernel_rfl) ?_ _
      have om:=hid (kJ.o.below HB3.o);have yR:=hid (nO.o.trans (aZ.of_below (L:=L') HB3.o))
      go_wp2_with fail
      refine (dW i.rb l _ _ om.o.r2).mono ?_
      rw [Dw.o]
      rintro e w' ⟨⟨hx,-⟩ | ⟨-,rfl⟩,rfl⟩
      ·cases hx
      exact⟨rfl,L',yR.o,by rw [bF.o]⟩
     have q3:((dM.length:Int)==2)=false:=by rw [beq_eq_false_iff_ne];omega
     have bF:Hid (R=.error (l,111)):=hid (by rw [qM.o,if_pos rfl,eT,if_pos h3])
     clear h3
     go_wp2_with fail
     refine oG.o.mono ?_
     rintro e w2 ⟨hg,fv2,rfl,hrd,hrm⟩
     have kJ:=hid hrm;have nO:=hid (qU.o.trans hg);clear hg hrm;obtain⟨-,A2,c2,rfl,hc2,-⟩:=hrd
     go_wp2_with fail
     refine (aY i.rb l _ _ _ (by decide) kJ.o.r2).mono ?_
     rintro e w' ⟨⟨hx,-⟩ | ⟨-,rfl⟩,rfl⟩
     ·exact absurd hx (by simp)
     exact⟨rfl,L',nO.o,by rw [bF.o]⟩
    simp only [List.length_singleton,if_neg hh] at oG
    have bF:Hid (R=.error (l,116)):=hid (by rw [qM.o,if_neg (by simpa using hh)])
    clear hh
    go_wp2_with fail
    refine oG.o.mono ?_
    rintro e w2 ⟨hg,rfl⟩
    exact⟨rfl,L',qU.o.trans hg,by rw [bF.o]⟩
   obtain rfl:m=n:=by omega
   have bF:Hid (R=.ok S'):=hid (by rw [←Ai.o,Nat.sub_self,aO])
   go_wp2_with fail
   go_end0
   exact⟨L',xJ.o,by rw [bF.o];exact⟨rfl,pE.o.1.mono,pE.o.2⟩⟩
  rw [if_pos (by rw [hq];decide)]
  have ZM:Hid (pX (fieldAt row 1) 1024=.error 13):=hid (by unfold pX;rw [if_pos (by rw [hq];decide)])
  clear hq
  go_enter Tryz.func81,Tryz.ntmps81
  go_wp2_with fail
  go_quiet (first | (go_at_call 46;exact Iw.o _))
  clear hl1 hl2 hc4
  go_wp2_with fail
  refine (HN.o _).mono ?_
  rw [ZM.o]
  rintro e w1 ⟨hb',rfl⟩
  have hb:Below w.heap.size w w1:=(cK _).trans hb';clear hb'
  exact⟨rfl,L,aZ.of_below hb,rfl⟩
 rw [if_pos (Classical.not_not.1 (fun h=>h0 (R6.o.1 h)))]
 have hne:(((q1:Int)+(q2:Int))==0)=false:=by rw [beq_eq_false_iff_ne];omega
 clear h0;have acZ:(Instr.lookup 117 (.map (some i.sb)) (.string og) false).run Tryz.prog w.drew=.ok (.int .i64 (q1:Int)) w.drew:=hl1 1;have ac0:(Instr.lookup 117 (.map (some i.sb)) (.string dY) false).run Tryz.prog w.drew=.ok (.int .i64 (q2:Int)) w.drew:=hl2 1;clear hl1 hl2
 go_enter Tryz.func81,Tryz.ntmps81
 go_wp2_with fail
 refine wp_region_held_drew (S:=fun W'=>W'.cell? ⟨i.rb,4,none⟩=some (.map (some i.sb))) (by kernel_rfl) ?_ (fun hHeld=>?_)
 ·exact Lh.o _ ah
 refine aA 0 (some 7) hHeld ?_;try simp only [aj]
 refine aA 1 (some 8) hHeld ?_;try simp only [aj]
 refine aA 2 (some 9) hHeld ?_;try simp only [aj]
 refine aA 3 (some 10) hHeld ?_;try simp only [aj]
 refine aA 4 (some 11) hHeld ?_;try simp only [aj]
 refine aA 6 (some 13) hHeld ?_;try simp only [aj]
 refine aA 7 (some 14) hHeld ?_;try simp only [aj]
 refine aA 8 (some 15) hHeld ?_;try simp only [aj]
 refine aA 9 (some 16) hHeld ?_;try simp only [aj]
 refine wpAnyH_ready (rs:=[5,10]) (by kernel_rfl) (by simp) ?_
 refine AllReadyH.cons rfl (fun K hK=>?_) ?_
 ·go_simp
  refine hK.out _ _ ?_ (fun hHeld=>?_)
  ·exact Lh.o _ ah
  clear hK K
  refine aP 10 (fun K hK=>?_)
  go_simp
  refine hK.out _ _ ?_ (fun hHeld=>?_)
  ·exact Lh.o _ ah
  clear hK K
  refine aA 11 (some 18) hHeld ?_;try simp only [aj]
  refine aA 12 (some 19) hHeld ?_;try simp only [aj]
  refine aP 13 (fun K hK=>?_)
  go_simp
  refine (aY i.rb S.line _ _ _ (by decide) (HM.o.below (ah (w:=w))).r2).mono ?_
  rintro e w' ⟨⟨hx,-⟩ | ⟨-,rfl⟩,rfl⟩
  ·exact absurd hx (by simp)
  exact⟨rfl,L,aZ.of_below ah,rfl⟩
 refine AllReadyH.cons rfl (fun K hK=>?_) ?_
 ·go_simp
  refine hK.out _ _ ?_ (fun hHeld=>?_)
  ·exact Lh.o _ ah
  clear hK K
  refine aP 5 (fun K hK=>?_)
  go_simp
  refine hK.out _ _ ?_ (fun hHeld=>?_)
  ·exact Lh.o _ ah
  clear hK K
  refine aA 11 (some 18) hHeld ?_;try simp only [aj]
  refine aA 12 (some 19) hHeld ?_;try simp only [aj]
  refine aP 13 (fun K hK=>?_)
  go_simp
  refine (aY i.rb S.line _ _ _ (by decide) (HM.o.below (ah (w:=w))).r2).mono ?_
  rintro e w' ⟨⟨hx,-⟩ | ⟨-,rfl⟩,rfl⟩
  ·exact absurd hx (by simp)
  exact⟨rfl,L,aZ.of_below ah,rfl⟩
 exact AllReadyH.nil
structure xW (w:World) (fb:Nat) (kind:Int) (av:Value) (us:List Value) (al:List (List Int)):Prop where
 kind:w.cell? ⟨fb,0,none⟩=some (.int .i64 kind)
 aI:w.cell? ⟨fb,10,none⟩=some av
 row:Rd w 1 av al.length us
 sets:∀(k:Nat) u a,us[k]?=some u→al[k]?=some a→FS w u a
 NR:∀a∈al,canon a=a∧a.length≤65536
def EM (r:List Int×Int) (w:World) (e:Ending) (w':World):Prop:=∃v,e=.returned (.tuple #[v,.int .i64 r.2])∧FN w.heap.size w' v r.1∧Below w.heap.size w w'
def pY (kind:Int) (al:List (List Int)) (s:List UInt8):List Int×Int :=
 if al.length=0 then bS kind s else if bI s al.length≠0∨aJ s al.length=0 then ([],13) else (al.getD (aJ s al.length - 1).toNat [],0)
theorem Az (F:Fl) (s:ByteArray):aQ F s=pY F.kind F.aI s.data.toList:=rfl
theorem tC (fb:Nat) (kind m0:Int) (av:Value) (us:List Value) (al:List (List Int)) (s:ByteArray) (w:World) (h:xW w fb kind av us al) (hn:al.length≤65536) (hs:s.size≤4194304) (hm:w.cell? ⟨0,0,none⟩=some (.int .i64 m0)) :
  Calls Tryz.prog 34 #[.pointer (some ⟨fb,0,none⟩),.string s] w (EM (pY kind al s.data.toList) w):=by
 have hk:=h.kind
 have ha:=h.aI;obtain⟨h1,A,cp,rfl,hcap,hcells⟩:=h.row;have HC:=hid hcells;have HF:=hid h;have HL:=hid h1;clear hcells h h1
 by_cases h0:al.length=0
 ·have e0:((al.length:Int)==0)=true:=by rw [h0];rfl
  have HR:=hid (Cq kind s m0 w hs hm)
  have HX:Hid (pY kind al s.data.toList=bS kind s.data.toList):=hid (by rw [pY,if_pos h0])
  clear h0 hm
  go_enter Tryz.func34,Tryz.ntmps34
  go_wp2_with (go_at_call 62;refine HR.o.mono ?_;rintro e w2 ⟨v,rfl,hv,hb⟩;have HV:=hid hv;have HB:=hid hb;clear hv hb)
  refine bodyPost_ret (v:=.tuple #[v,.int .i64 (bS kind s.data.toList).2]) (by simp [results,Tryz.results34,go_sem];try rfl) rfl ?_
  unfold EM;rw [HX.o]
  exact⟨v,rfl,HV.o,HB.o⟩
 have e0:((al.length:Int)==0)=false:=by rw [beq_eq_false_iff_ne];omega
 have HN:=hid (nu s al.length w (by unfold maxLen;omega) (by omega) (by omega))
 obtain⟨b,off,rfl,hc⟩:=HC.o.resolve_left h0;have oF:=hid hc
 obtain⟨b0,b1⟩:=dJ s.data.toList al.length (by omega)
 clear hc HC hm
 by_cases uD:bI s.data.toList al.length≠0∨aJ s.data.toList al.length=0
 ·have HX:Hid (pY kind al s.data.toList=([],13)):=hid (by rw [pY,if_neg h0,if_pos uD])
  rcases dK s.data.toList al.length with h | h
  ·have hv:aJ s.data.toList al.length=0:=uD.resolve_left (by rw [h];simp)
   have Dl:Hid (Calls Tryz.prog 63 #[.string s,.int .i64 (al.length:Int)] w fun e w'=>e=.returned (.tuple #[.int .i64 0,.int .i64 0])∧w=w'):=hid (by
    have h2:=HN.o
    unfold dw at h2
    rwa [h,hv] at h2)
   clear h hv uD b0 b1 HN h0
   go_enter Tryz.func34,Tryz.ntmps34
   go_wp2_with (go_at_call 63;refine Dl.o.mono ?_;rintro e w2 ⟨rfl,rfl⟩)
   refine bodyPost_ret (v:=.tuple #[.slice none 0 0,.int .i64 13]) (by simp [results,Tryz.results34,go_sem];try rfl) rfl ?_
   unfold EM;rw [HX.o]
   exact⟨_,rfl,FN.nil _ _ _ _,Below.refl _ _⟩
  have Dl:Hid (∃x,Calls Tryz.prog 63 #[.string s,.int .i64 (al.length:Int)] w fun e w'=>e=.returned (.tuple #[.int .i64 x,.int .i64 13])∧w=w'):=hid (by
   have h2:=HN.o
   unfold dw at h2;rw [h] at h2
   exact⟨_,h2⟩)
  obtain⟨x,hx⟩:=Dl.o;have LK:=hid hx;clear h uD b0 b1 HN Dl h0 hx
  go_enter Tryz.func34,Tryz.ntmps34
  go_wp2_with (go_at_call 63;refine LK.o.mono ?_;rintro e w2 ⟨rfl,rfl⟩)
  refine bodyPost_ret (v:=.tuple #[.slice none 0 0,.int .i64 13]) (by simp [results,Tryz.results34,go_sem];try rfl) rfl ?_
  unfold EM;rw [HX.o]
  exact⟨_,rfl,FN.nil _ _ _ _,Below.refl _ _⟩
 have hE:bI s.data.toList al.length=0:=by
  rcases dK s.data.toList al.length with h | h
  ·exact h
  exact absurd (.inl (by rw [h];simp)) uD
 have hV:aJ s.data.toList al.length≠0:=fun e=>uD (.inr e)
 obtain⟨j,hj⟩:∃j:Nat,aJ s.data.toList al.length=(j:Int)+1:=⟨(aJ s.data.toList al.length - 1).toNat,by omega⟩
 rw [hj] at b1
 have hjl:j < al.length:=by omega
 have HX:Hid (pY kind al s.data.toList=(al[j],0)):=hid (by
  rw [pY,if_neg h0,if_neg uD,hj,show ((j:Int)+1 - 1).toNat=j by omega]
  simp [List.getD,hjl])
 have Dl:Hid (Calls Tryz.prog 63 #[.string s,.int .i64 (al.length:Int)] w fun e w'=>e=.returned (.tuple #[.int .i64 ((j:Int)+1),.int .i64 0])∧w=w'):=hid (by
  have h2:=HN.o
  unfold dw at h2
  rwa [hE,hj] at h2)
 have Q5:us.length=al.length:=by have:=HL.o;omega
 have hFS:=HF.o.sets j us[j] al[j] (List.getElem?_eq_getElem (by omega)) (List.getElem?_eq_getElem hjl)
 have hcan:=HF.o.NR al[j] (List.getElem_mem hjl)
 have hcell:=oF.o j us[j] (List.getElem?_eq_getElem (by omega))
 have HO:=hid (Ru us[j] al[j] w hFS (by omega))
 have HCN:=hid hcan.1;obtain⟨p,c,hu,-,-⟩:=hFS;rw [hu] at hcell HO
 generalize al[j]=a at *
 have hne:((j:Int)+1==0)=false:=by rw [beq_eq_false_iff_ne];omega
 have hw1:IntKind.i64.wrap ((j:Int)+1 - 1)=(j:Int):=by rw [IntKind.wrap_i64];omega
 have hj0:(0:Int)≤(j:Int):=by omega
 clear hu hcan hE hV uD hj b0 b1 HN h0 Q5
 go_enter Tryz.func34,Tryz.ntmps34
 go_wp2_with (first | (go_at_call 63;refine Dl.o.mono ?_;rintro e w2 ⟨rfl,rfl⟩) | (go_at_call 64;refine HO.o.mono ?_;rintro e w3 ⟨v,rfl,hv,hb⟩;have HV:=hid hv;have HB:=hid hb;clear hv hb))
 refine bodyPost_ret (v:=.tuple #[v,.int .i64 0]) (by simp [results,Tryz.results34,go_sem];try rfl) rfl ?_
 unfold EM;rw [HX.o]
 exact⟨v,rfl,by rw [←HCN.o];exact HV.o,HB.o⟩
theorem NS (X:Ws) (j:Nat) (hj:j < 4):(#[Value.int .u64 (X 0:Nat),Value.int .u64 (X 1:Nat),Value.int .u64 (X 2:Nat),Value.int .u64 (X 3:Nat)]:Array Value)[j]?=some (.int .u64 (X j:Nat)):=by
 rcases j with _ | _ | _ | _ | j
 ·rfl
 ·rfl
 ·rfl
 ·rfl
 omega
theorem Qy (x m:Nat) (hx:x < 18446744073709551616):(bits .and .u64 ((x:Int) / 2 ^ m) 1==1)=x.testBit m:=by
 have e:((x:Int) / 2 ^ m)=((x / 2 ^ m:Nat):Int):=by simp
 have hl:x / 2 ^ m < 2 ^ 64:=Nat.lt_of_le_of_lt (Nat.div_le_self _ _) hx
 rw [e,show (1:Int)=((1:Nat):Int) from rfl,(bits_nat .u64 64 (by decide) wraps_u64 _ _ hl (by decide)).1,Nat.testBit_eq_decide_div_mod_eq,Nat.and_one_is_mod,Bool.eq_iff_iff]
 simp
 omega
theorem Qz (x m:Nat) (hx:x < 18446744073709551616) (hm:m < 64):bits .or .u64 (x:Int) ((2 ^ m:Nat):Int)=((x ||| 2 ^ m:Nat):Int) :=
 (bits_nat .u64 64 (by decide) wraps_u64 _ _ hx (Nat.pow_lt_pow_right (by decide) hm)).2
theorem NT (m:Nat) (hm:m < 64):IntKind.u64.wrap ((2:Int) ^ m)=((2 ^ m:Nat):Int):=by
 have h1:2 ^ m < 2 ^ 64:=Nat.pow_lt_pow_right (by decide) hm
 have h2:(2:Int) ^ m=((2 ^ m:Nat):Int):=by simp
 rw [h2]
 generalize 2 ^ m=x at h1
 rw [IntKind.wrap_u64]
 omega
theorem wN (x:Nat) (hx:x < 18446744073709551616):bits .xor .u64 IntKind.u64.max (x:Int)=((18446744073709551615 - x:Nat):Int):=by
 have e1:IntKind.u64.max=((18446744073709551615:Nat):Int):=by decide
 have e2:(BitVec.ofInt 64 ((18446744073709551615:Nat):Int) ^^^ BitVec.ofInt 64 (x:Int)).toNat=18446744073709551615 - x:=by
  rw [BitVec.ofInt_natCast,BitVec.ofInt_natCast,show BitVec.ofNat 64 18446744073709551615=BitVec.allOnes 64 by decide,BitVec.allOnes_xor,BitVec.toNat_not,BitVec.toNat_ofNat]
  omega
 rw [e1]
 show IntKind.u64.wrap (((BitVec.ofInt 64 _ ^^^ BitVec.ofInt 64 _).toNat:Nat):Int)=_
 rw [e2,IntKind.wrap_u64]
 omega
theorem NU (X:Ws) (p:UInt8→Bool) (b:UInt8) (w:World) (h:dO X p) :
  Calls Tryz.prog 221 #[G7 X,.int .u8 b.toNat] w fun e w'=>e=.returned (.bool (p b))∧Below w.heap.size w w':=by
 have hb:=b.toNat_lt
 have HP:=hid h;have hx:=h.1 (b.toNat / 64)
 have hget:=NS X (b.toNat / 64) (by omega)
 have hand:bits .and .u8 (b.toNat:Int) 63=(b.toNat:Int)%64:=u8_and63 _ (by omega) (by omega)
 clear h;unfold G7
 go_enter Tryz.func221,Tryz.ntmps221
 go_wp2_with fail
 go_ret
 exact⟨by rw [←HP.o.2 b,←Qy _ _ hx];rfl,(Below.refl _ _).alloc (Nat.le_refl _) _⟩
def uh (X:Ws):Array Value:=#[.int .u64 (X 0:Nat),.int .u64 (X 1:Nat),.int .u64 (X 2:Nat),.int .u64 (X 3:Nat)]
theorem QA (X:Ws) (n:Nat) (hn:n < 256):(uh X).setIfInBounds (n / 64) (.int .u64 ((X (n / 64) ||| 2 ^ (n%64):Nat):Int))=uh (ED X n):=by
 have h4:n / 64 < 4:=by omega
 obtain⟨j,hj⟩:∃j,n / 64=j:=⟨_,rfl⟩;unfold uh ED;rw [hj] at h4 ⊢
 rcases j with _ | _ | _ | _ | j
 ·simp
 ·simp
 ·simp
 ·simp
 omega
theorem NV (X:Ws) (g:Nat) (c:UInt8) (w:World) (hx:X (c.toNat / 64) < 18446744073709551616) (h0:w.heap[g]?=some (.cells (uh X) 273 (0,0))) :
  Calls Tryz.prog 187 #[.pointer (some ⟨g,0,none⟩),.int .u8 c.toNat] w fun e w'=>e=.returned (.tuple #[])∧w'.heap[g]?=some (.cells (uh (ED X c.toNat)) 273 (0,0))∧Kept [g] w w':=by
 have hb:=c.toNat_lt
 have hc:∀j,j < 4→w.cell? ⟨g,j,none⟩=some (.int .u64 (X j:Nat)):=fun j hj=>by rw [cell_of_heap h0];exact NS X j hj
 have hcell:=hc (c.toNat / 64) (by omega)
 have hf:=frozen_of_heap h0 (c.toNat / 64)
 have hand:bits .and .u8 (c.toNat:Int) 63=(c.toNat:Int)%64:=u8_and63 _ (by omega) (by omega)
 have H0:=hid h0;have HX:=hid hx;clear hc h0 hx
 go_enter Tryz.func187,Tryz.ntmps187
 go_wp2_with fail
 go_region
 all_goals go_end0
 all_goals
  have hw:IntKind.u64.wrap (2 ^ (c.toNat%64))=((2 ^ (c.toNat%64):Nat):Int):=by
   exact NT _ (by omega)
  rw [hw,Qz _ _ HX.o (by omega)]
  refine⟨rfl,?_,?_⟩
  ·rw [←QA X c.toNat (by omega)]
   exact heap_setCell_same _ g _ _ _ _ H0.o
  exact ((Kept.refl [g] w).set g _ _ (.inl (by simp))).drew
theorem NW (X:Ws) (p:UInt8→Bool) (w:World) (h:dO X p) :
  Calls Tryz.prog 186 #[G7 X] w fun e w'=>e=.returned (G7 (KJ X))∧Below w.heap.size w w':=by
 have HP:=hid h
 clear h;unfold G7
 go_enter Tryz.func186,Tryz.ntmps186
 go_wp2_with fail
 have e0:=wN (X 0) (HP.o.1 0);have e1:=wN (X 1) (HP.o.1 1);have e2:=wN (X 2) (HP.o.1 2);have e3:=wN (X 3) (HP.o.1 3);rw [e0,e1,e2,e3]
 refine bodyPost_ret (v:=G7 (KJ X)) (by simp [results,Tryz.results186,go_sem];rfl) rfl ?_
 exact⟨rfl,((Below.refl _ _).alloc (Nat.le_refl _) _).alloc (by simp) _⟩
theorem dO.WG {X:Ws} {s:ByteArray} {k:Nat} (h:dO X (fun b=>(s.data.toList.take k).contains b)) (hk:k < s.size):dO (ED X s[k].toNat) (fun b=>(s.data.toList.take (k+1)).contains b):=by
 refine (h.put s[k]).ext (fun b=>?_)
 rw [jF s k hk,Bool.eq_iff_iff]
 simp
 exact⟨fun h=>h.imp id Eq.symm,fun h=>h.imp id Eq.symm⟩
theorem dO.lt {X:Ws} {p:UInt8→Bool} (h:dO X p) (j:Nat):X j < 18446744073709551616:=h.1 j
theorem aU {w:World} {g:Nat} {X:Ws} (h:w.heap[g]?=some (.cells (uh X) 273 (0,0))) :
  w.cell? ⟨g,0,none⟩=some (.int .u64 (X 0:Nat))∧w.cell? ⟨g,1,none⟩=some (.int .u64 (X 1:Nat))∧w.cell? ⟨g,2,none⟩=some (.int .u64 (X 2:Nat))∧w.cell? ⟨g,3,none⟩=some (.int .u64 (X 3:Nat)):=by
 refine⟨?_,?_,?_,?_⟩<;>(rw [cell_of_heap h];rfl)
theorem WH (s:ByteArray) (w:World) (hs:s.size≤1048576) :
  Calls Tryz.prog 219 #[.string s] w fun e w'=>∃X,e=.returned (G7 X)∧dO X (fun b=>s.data.toList.contains b)∧Below w.heap.size w w':=by
 go_enter Tryz.func219,Tryz.ntmps219
 go_wp2_with fail
 go_loopw [4,7] (fun _ i wr=>∃(k:Nat) (X:Ws),k≤s.size∧i=.int .i64 k∧Hid (dO X (fun b=>(s.data.toList.take k).contains b))∧Hid (wr.heap[w.heap.size]?=some (.cells (uh (fun _=>0)) 273 (0,0)))∧Hid (wr.heap[w.heap.size+1]?=some (.cells (uh X) 273 (0,0)))∧Hid (Below w.heap.size w wr)) (fun _ i _=>s.size - (intOf i).toNat)
 case atStart =>
  refine⟨0,fun _=>0,Nat.zero_le _,rfl,dO.none.ext (fun b=>by simp),?_,?_,?_⟩
  ·exact (Below.heap_alloc _ _ w.heap.size (by simp)).trans (heap_alloc_new w _)
  ·have:=heap_alloc_new (w.alloc (.cells (uh (fun _=>0)) 273)) (.cells (uh (fun _=>0)) 273)
   rw [World.size_alloc] at this
   exact this
  exact ((Below.refl _ _).alloc (Nat.le_refl _) _).alloc (by simp) _
 case round =>
 obtain⟨k,X,hk,rfl,HP,H0,H1,HB⟩:=hrel
 by_cases hlt:k < s.size
 ·have HN:=hid (HP.o.WG hlt)
  go_wp2_with (go_at_call 187;refine (NV X _ s[k] _ (HP.o.lt _) H1.o).mono ?_;rintro e w2 ⟨rfl,h1,h2⟩;have H1':=hid h1;have H0':=hid (h2.at H0.o (by simp));have Ww:=hid (HB.o.trans (h2.below HB.o.size (by intro x hx;simp at hx;omega)));clear h1 h2)
  go_roundw
  case rel=>exact⟨k+1,_,by omega,by go_num,HN,H0',H1',Ww⟩
  case measure=>simp [intOf];omega
 obtain rfl:k=s.size:=by omega
 obtain⟨a0,a1,a2,a3⟩:=aU H0.o;obtain⟨c0,c1,c2,c3⟩:=aU H1.o;have z:=frozen_of_heap H0.o;have z0:=z 0;have z1:=z 1;have z2:=z 2;have z3:=z 3;clear z
 go_wp2_with fail
 refine bodyPost_ret (v:=G7 X) (by simp [results,Tryz.results219,go_sem,a0,a1,a2,a3];rfl) rfl ?_
 refine⟨X,rfl,?_,?_⟩
 ·have:=HP.o
  rwa [List.take_of_length_le (by simp)] at this
 exact (((HB.o.setCell (Nat.le_refl _) _).setCell (Nat.le_refl _) _).setCell (Nat.le_refl _) _).setCell (Nat.le_refl _) _
theorem jO:aS.length=256:=by simp [aS]
theorem QB (k:Nat) (h:k < 256):aS[k]?=some (UInt8.ofNat k):=by simp [aS,h]
theorem u_ (p:UInt8→Bool) (k:Nat) (h:k < 256):(aS.take (k+1)).filter p=(aS.take k).filter p++(if p (UInt8.ofNat k)=true then [UInt8.ofNat k] else []):=by
 rw [List.take_add_one,QB k h,List.filter_append]
 congr 1
 by_cases hp:p (UInt8.ofNat k)=true<;>simp [hp]
theorem filter_le (p:UInt8→Bool) (k:Nat):((aS.take k).filter p).length≤256:=by
 have h1:=List.length_filter_le p (aS.take k)
 have h2:=List.length_take_le' k aS;rw [jO] at h2
 omega
theorem Bv (X:Ws) (p:UInt8→Bool) (w:World) (h:dO X p) :
  Calls Tryz.prog 220 #[G7 X] w fun e w'=>∃v,e=.returned v∧Own w w' 5 1 v (aS.filter p).length (byteCells (aS.filter p)):=by
 obtain⟨i0,hi,hz0,hz1,hz2⟩:=info_parts fE
 have HP:=hid h;clear h;unfold G7
 go_enter Tryz.func220,Tryz.ntmps220
 go_wp2_with fail
 obtain⟨w1,hw1⟩:∃W,w.alloc (.cells (uh X) 273)=W:=⟨_,rfl⟩
 have HB1:Hid (Below w.heap.size w w1):=hid (by rw [←hw1];exact (Below.refl _ _).alloc (Nat.le_refl _) _)
 have HX:Hid (w1.heap[w.heap.size]?=some (.cells (uh X) 273 (0,0))):=hid (by rw [←hw1];exact heap_alloc_new w _)
 have WI:w.alloc (.cells #[.int .u64 (X 0:Nat),.int .u64 (X 1:Nat),.int .u64 (X 2:Nat),.int .u64 (X 3:Nat)] 273)=w1:=hw1;rw [WI];have hsz1:w.heap.size < w1.heap.size:=block_lt HX.o;clear hw1 WI
 go_loopw [3,4,5] (fun v _ i wr=>∃k:Nat,k≤256∧i=.int .i64 k∧Hid (Own w1 wr 5 1 v ((aS.take k).filter p).length (byteCells ((aS.take k).filter p)))) (fun _ _ i _=>256 - (intOf i).toNat)
 case atStart=>exact⟨0,Nat.zero_le _,rfl,Own.fP _ _ _⟩
 case round =>
 obtain⟨k,hk,rfl,HO⟩:=hrel
 have Ph:=HO.o.size
 by_cases hlt:k < 256
 ·have hbn:(UInt8.ofNat k).toNat=k:=by simp;omega
  have HH:Hid (∀W,Calls Tryz.prog 221 #[.agg #[.int .u64 (X 0:Nat),.int .u64 (X 1:Nat),.int .u64 (X 2:Nat),.int .u64 (X 3:Nat)],.int .u8 (k:Int)] W fun e w'=>e=.returned (.bool (p (UInt8.ofNat k)))∧Below W.heap.size W w'):=hid (fun W=>by
   have:=NU X p (UInt8.ofNat k) W HP.o
   rwa [hbn] at this)
  have hx:=(HO.o.below.block w.heap.size hsz1).trans HX.o;obtain⟨c0,c1,c2,c3⟩:=aU hx
  have hwr:IntKind.u8.wrap (k:Int)=(k:Int):=by rw [IntKind.wrap_u8];omega
  have hwm:(k:Int)%256=(k:Int):=by omega
  have HT:=hid (u_ p k hlt);have vg:=hid (filter_le p k);clear hx hbn
  cases hq:p (UInt8.ofNat k)
  ·rw [hq] at HH HT
   rw [if_neg (by simp),List.append_nil] at HT
   clear hq
   go_wp2_with (go_at_call 221;refine (HH.o _).mono ?_;rintro e w2 ⟨rfl,hb⟩;have fG:=hid (HO.o.call hb);clear hb)
   go_roundw
   case rel=>exact⟨k+1,by omega,by go_num,by rw [HT.o];exact fG⟩
   case measure=>simp [intOf];omega
  rw [hq] at HH HT;rw [if_pos rfl] at HT;clear hq
  go_wp2_with (first | (go_at_call 221;refine (HH.o _).mono ?_;rintro e w2 ⟨rfl,hb⟩;have fG:=hid (HO.o.call hb);clear hb) | (at_builtin;refine aB rfl _ _ 213 rfl w1.heap.size 5 i0 (.int .u8 0) 1 Tryz.underlying213 hi hz0 hz1 hz2 rfl _ _ _ rfl fG.o.own _ rfl rfl (by have:=vg.o;unfold maxLen;omega) (by have:=vg.o;omega) fG.o.size ?_;intro g cap w3 hown hg;have lK:=hid (fG.o.push hown hg);clear hown hg))
  go_roundw
  case rel =>
   refine⟨k+1,by omega,by go_num,?_⟩
   have e:(UInt8.ofNat k).toNat=k:=by simp;omega
   have:=lK.o
   rw [HT.o,←eD,List.length_append,e]
   exact this
  case measure=>simp [intOf];omega
 obtain rfl:k=256:=by omega
 have HT:Hid (aS.take 256=aS):=hid (List.take_of_length_le (by rw [jO];exact Nat.le_refl _))
 rw [HT.o] at HO
 go_wp2_with fail
 go_ret
 exact⟨_,rfl,HO.o.from_ HB1.o⟩
def eZ (l:List UInt8):Option Nat:=l.findIdx? (fun c=>c.toNat==93)
theorem KP (c:UInt8):(c==93)=(c.toNat==93):=by
 rw [Bool.eq_iff_iff,beq_iff_eq,beq_iff_eq,←UInt8.toNat_inj];rfl
theorem QC (l:List UInt8):Lib.indexByte l 93=match eZ l with | none=>-1 | some n=>(n:Int):=by
 unfold eZ
 induction l with
 | nil=>rfl
 | cons b l ih =>
  rw [List.findIdx?_cons,Lib.indexByte,KP]
  cases hb:(b.toNat==93)
  ·rw [ih]
   cases List.findIdx? (fun c=>c.toNat==93) l<;>simp<;>omega
  simp
theorem mP {l:List UInt8} {n:Nat} (h:eZ l=some n):n < l.length:=by
 unfold eZ at h
 exact (List.findIdx?_eq_some_iff_findIdx_eq.1 h).1
theorem EN {l:List UInt8} {n:Nat} (h:eZ l=some n):l.take (n+1)=l.take n++[93]:=by
 have hl:=mP h
 have h1:=(List.findIdx?_eq_some_iff_getElem.1 h)
 obtain⟨hlt,hp,-⟩:=h1;rw [List.take_succ_eq_append_getElem hlt]
 congr 2
 rw [←UInt8.toNat_inj]
 simpa using hp
def fI (l:List UInt8) (n:Nat):Prop:=n=0∨(n=1∧(l.getD 0 0).toNat=94)
instance (l:List UInt8) (n:Nat):Decidable (fI l n):=inferInstanceAs (Decidable (_∨_))
theorem QD (l:List UInt8) (b:UInt8) (hl:l≠[]):cO (91::94::(l++[93])) b=!(l.contains b):=by
 obtain⟨a,l,rfl⟩:=List.exists_cons_of_ne_nil hl
 show (!((a::(l++[93])).dropLast.contains b))=_
 rw [←List.cons_append,List.dropLast_concat]
theorem KQ (c:UInt8) (l:List UInt8) (b:UInt8) (hc:c.toNat≠94):cO (91::c::(l++[93])) b=(c::l).contains b:=by
 unfold cO
 simp only [];rw [if_neg hc,←List.cons_append,List.dropLast_concat]
theorem TK {l:List UInt8} {n:Nat} (hc:eZ l=some n) {l1:List UInt8} (h0:l.take n=94::l1):(fI l n↔l1=[])∧(l1≠[]→∀b,cO (91::l.take (n+1)) b=!(l1.contains b)):=by
 have hl:=mP hc
 have hlen:n=l1.length+1:=by
  have:=congrArg List.length h0
  rw [List.length_take] at this;simp at this;omega
 have hh:l.getD 0 0=94:=by
  rcases l with _ | ⟨c,l⟩
  ·simp at hl
  rw [hlen] at h0;simp at h0;simp [h0.1]
 refine⟨⟨fun h=>?_,fun h=>?_⟩,fun h b=>?_⟩
 ·rcases h with h | ⟨h,_⟩
  ·omega
  exact List.eq_nil_of_length_eq_zero (by omega)
 ·exact .inr ⟨by rw [hlen,h];rfl,by rw [hh];rfl⟩
 rw [EN hc,h0];exact QD l1 b h
theorem NY {l:List UInt8} {n:Nat} (hc:eZ l=some n) (h:∀l1,l.take n≠94::l1):(fI l n↔l.take n=[])∧(l.take n≠[]→∀b,cO (91::l.take (n+1)) b=(l.take n).contains b):=by
 have hl:=mP hc
 have hlen:(l.take n).length=n:=by rw [List.length_take];omega
 refine⟨⟨fun hb=>?_,fun hb=>.inl (by rw [hb] at hlen;exact hlen.symm)⟩,fun hne b=>?_⟩
 ·rcases hb with hb | ⟨h1,h2⟩
  ·rw [hb];rfl
  exfalso
  rcases l with _ | ⟨c,l⟩
  ·simp at hl
  refine h [] ?_
  rw [h1];simp at h2 ⊢;rw [←UInt8.toNat_inj];exact h2
 rw [EN hc];obtain⟨c,l1,h1⟩:=List.exists_cons_of_ne_nil hne;rw [h1]
 exact KQ c l1 b (fun e=>h l1 (by rw [h1];congr 1;rw [←UInt8.toNat_inj];exact e))
theorem WJ {c:UInt8} {l:List UInt8} (h:Lib.hasPrefix (c::l) [94]=true):c=94:=by
 unfold Lib.hasPrefix at h
 rw [List.isPrefixOf_cons_cons] at h
 have:=(Bool.and_eq_true _ _▸h).1
 exact (eq_of_beq this).symm
theorem tV (l:List UInt8) (h:l≠[]):(⟨l.toArray⟩:ByteArray).toList.isEmpty=false:=by
 rw [Lib.toList_data]
 cases l with
 | nil=>exact absurd rfl h
 | cons a l=>rfl
theorem NZ (s:ByteArray) (w:World) (hs:s.size≤1048576) :
 Calls Tryz.prog 219 #[.string s] w fun e w'=>∃X:Ws,e=.returned (.agg #[.int .u64 (X 0:Nat),.int .u64 (X 1:Nat),.int .u64 (X 2:Nat),.int .u64 (X 3:Nat)])∧dO X (fun b=>s.data.toList.contains b)∧Below w.heap.size w w':=WH s w hs
theorem kT (X:Ws) (p:UInt8→Bool) (w:World) (h:dO X p) :
  Calls Tryz.prog 186 #[.agg #[.int .u64 (X 0:Nat),.int .u64 (X 1:Nat),.int .u64 (X 2:Nat),.int .u64 (X 3:Nat)]] w fun e w'=>∃Y:Ws,e=.returned (.agg #[.int .u64 (Y 0:Nat),.int .u64 (Y 1:Nat),.int .u64 (Y 2:Nat),.int .u64 (Y 3:Nat)])∧dO Y (fun b=>!p b)∧Below w.heap.size w w' :=
 (NW X p w h).mono fun _ _ ⟨he,hb⟩=>⟨KJ X,he,h.not,hb⟩
theorem fq {w w2:World} {X:Ws} (hb:Below (w.alloc (.cells (uh X) 273)).heap.size (w.alloc (.cells (uh X) 273)) w2) :
  w2.heap[w.heap.size]?=some (.cells (uh X) 273 (0,0))∧w.heap.size < w2.heap.size:=by
 have h:=(hb.block w.heap.size (by simp)).trans (heap_alloc_new w _)
 exact⟨h,block_lt h⟩
def XY (l:List UInt8) (at_:Nat) (w:World) (e:Ending) (w':World):Prop :=
 Below w.heap.size w w'∧match eZ l with
  | none=>∃(X:Ws) (i:Int),e=.returned (.tuple #[.agg #[.int .u64 (X 0:Nat),.int .u64 (X 1:Nat),.int .u64 (X 2:Nat),.int .u64 (X 3:Nat)],.int .i64 i,.bool false])
  | some n=>if fI l n then ∃(X:Ws) (i:Int),e=.returned (.tuple #[.agg #[.int .u64 (X 0:Nat),.int .u64 (X 1:Nat),.int .u64 (X 2:Nat),.int .u64 (X 3:Nat)],.int .i64 i,.bool false])
    else ∃X:Ws,e=.returned (.tuple #[.agg #[.int .u64 (X 0:Nat),.int .u64 (X 1:Nat),.int .u64 (X 2:Nat),.int .u64 (X 3:Nat)],.int .i64 ((at_+n+1:Nat):Int),.bool true])∧dO X (cO (91::l.take (n+1)))
theorem Hf (s:ByteArray) (at_:Nat) (w:World) (hs:s.size≤1048576) (ha:at_≤s.size) :
  Calls Tryz.prog 185 #[.string s,.int .i64 at_] w (XY (s.data.toList.drop at_) at_ w):=by
 unfold XY
 have HX:=hid (fun W=>Tryz.strings_IndexByte (s.extract at_ s.size) 93 W)
 have he:(s.extract at_ s.size).data.toList=s.data.toList.drop at_:=Lib.extract_to_end s at_;rw [he] at HX
 rw [show (93:Int).toNat.toUInt8=93 from rfl,QC] at HX
 cases hc:eZ (s.data.toList.drop at_) with
 | none =>
  rw [hc] at HX
  dsimp only at HX ⊢;clear hc he
  go_enter Tryz.func185,Tryz.ntmps185
  go_wp2_with (go_at_call 217;refine (HX.o _).mono ?_;rintro e w' ⟨rfl,rfl⟩)
  refine bodyPost_ret (v:=.tuple #[G7 (fun _=>0),.int .i64 0,.bool false]) (by simp [results,Tryz.results185,go_sem];rfl) rfl ?_
  exact⟨(Below.refl _ _).alloc (Nat.le_refl _) _,fun _=>0,0,rfl⟩
 | some n =>
  rw [hc] at HX
  dsimp only at HX ⊢;have hlt:=mP hc;rw [List.length_drop,ak] at hlt
  have hn1:¬(n:Int) < 0:=by omega
  have hsum:IntKind.i64.wrap ((at_:Int)+(n:Int))=(at_:Int)+(n:Int):=by rw [IntKind.wrap_i64];omega
  have hx0:(s.extract at_ (at_+n)).data.toList=(s.data.toList.drop at_).take n:=by rw [bQ,iD,Nat.add_sub_cancel_left]
  have HC:=hid (fun W=>Tryz.strings_CutPrefix (s.extract at_ (at_+n)) ⟨#[94]⟩ W)
  rw [hx0] at HC;have hmx:((⟨#[94]⟩:ByteArray).data.toList)=[94]:=rfl;rw [hmx] at HC
  have hle:at_+n≤s.size:=by omega
  by_cases N7:∃l1,(s.data.toList.drop at_).take n=94::l1
  ·obtain⟨l1,h0⟩:=N7
   obtain⟨hb1,hb2⟩:=TK hc h0;rw [h0] at HC
   rw [show Lib.hasPrefix (94::l1) [94]=true by simp [Lib.hasPrefix],show Lib.trimPrefix (94::l1) [94]=l1 by simp [Lib.trimPrefix,Lib.hasPrefix]] at HC
   have HO:=hid (fun W=>NZ ⟨l1.toArray⟩ W (by show l1.toArray.size≤_;have:=congrArg List.length h0;rw [List.length_take] at this;simp at this;simp;omega))
   have HB2:=hid hb2;have HB1:=hid hb1
   have ZQ:IntKind.i64.wrap ((at_:Int)+(n:Int)+1)=((at_+n+1:Nat):Int):=by rw [IntKind.wrap_i64];omega
   clear hb1 hb2 h0 hc he hx0 hmx
   by_cases hl1:l1=[]
   ·simp only [if_pos (HB1.o.2 hl1)]
    subst hl1
    go_enter Tryz.func185,Tryz.ntmps185
    go_wp2_with (first
     | (go_at_call 217;refine (HX.o _).mono ?_;rintro e w' ⟨rfl,rfl⟩)
     | (go_at_call 218;refine (HC.o _).mono ?_;rintro e w' ⟨rfl,rfl⟩)
     | (go_at_call 219;refine (HO.o _).mono ?_;rintro e w2 ⟨X,rfl,hX,hb⟩;have UJ:=hid hX;have KR:=hid (((Below.refl _ w).alloc (Nat.le_refl _) _).trans (hb.mono (by simp)));obtain⟨hz,hzl⟩:=fq (X:=fun _=>0) hb;have HZ2:=hid hz;skip;clear hX hb hz))
    refine (kT X _ _ UJ.o).mono ?_
    rintro e w3 ⟨Y,rfl,hY,hb3⟩
    have HY:=hid hY
    have hsz2:w2.heap.size < (w2.alloc (.cells (uh X) 273)).heap.size:=by simp
    have HZ3:Hid (w3.heap[w.heap.size]?=some (.cells (uh (fun _=>0)) 273 (0,0))):=hid ((hb3.block w.heap.size (Nat.lt_trans hzl hsz2)).trans ((Below.heap_alloc w2 _ w.heap.size hzl).trans HZ2.o))
    obtain⟨hx3,ZR⟩:=fq (X:=X) hb3;have ku:=hid hx3;have uI:=hid ((KR.o.alloc KR.o.size (.cells (uh X) 273)).trans (hb3.mono (Nat.le_trans KR.o.size (Nat.le_of_lt hsz2))));obtain⟨a0,a1,a2,a3⟩:=aU HZ3.o;have TL:=frozen_of_heap HZ3.o 0;have TM:=frozen_of_heap HZ3.o 1;have TN:=frozen_of_heap HZ3.o 2;have TP:=frozen_of_heap HZ3.o 3;obtain⟨b0,b1,b2,b3⟩:=aU ku.o;have yy0:=frozen_of_heap ku.o 0;have yy1:=frozen_of_heap ku.o 1;have yy2:=frozen_of_heap ku.o 2;have yy3:=frozen_of_heap ku.o 3;have ne1:¬w.heap.size=w2.heap.size:=Nat.ne_of_lt hzl
    have TQ:¬w2.heap.size=w.heap.size:=fun h=>ne1 h.symm
    have hle2:=KR.o.size;clear hY hb3 hx3 hsz2
    go_wp2_with fail
    refine bodyPost_ret (v:=.tuple #[G7 Y,.int .i64 ((at_+n+1:Nat):Int),.bool false]) (by simp [results,Tryz.results185,go_sem,a0,a1,a2,a3,hzl];first | rfl | exact⟨rfl,hl1⟩) rfl ?_
    refine⟨?_,Y,_,rfl⟩
    exact (((((((uI.o.setCell hle2 _).setCell hle2 _).setCell hle2 _).setCell hle2 _).setCell (Nat.le_refl _) _).setCell (Nat.le_refl _) _).setCell (Nat.le_refl _) _).setCell (Nat.le_refl _) _
   simp only [if_neg (fun h=>hl1 (HB1.o.1 h))]
   have hne:=tV l1 hl1
   go_enter Tryz.func185,Tryz.ntmps185
   go_wp2_with (first
    | (go_at_call 217;refine (HX.o _).mono ?_;rintro e w' ⟨rfl,rfl⟩)
    | (go_at_call 218;refine (HC.o _).mono ?_;rintro e w' ⟨rfl,rfl⟩)
    | (go_at_call 219;refine (HO.o _).mono ?_;rintro e w2 ⟨X,rfl,hX,hb⟩;have UJ:=hid hX;have KR:=hid (((Below.refl _ w).alloc (Nat.le_refl _) _).trans (hb.mono (by simp)));obtain⟨hz,hzl⟩:=fq (X:=fun _=>0) hb;have HZ2:=hid hz;skip;clear hX hb hz))
   refine (kT X _ _ UJ.o).mono ?_
   rintro e w3 ⟨Y,rfl,hY,hb3⟩
   have HY:=hid hY
   have hsz2:w2.heap.size < (w2.alloc (.cells (uh X) 273)).heap.size:=by simp
   have HZ3:Hid (w3.heap[w.heap.size]?=some (.cells (uh (fun _=>0)) 273 (0,0))):=hid ((hb3.block w.heap.size (Nat.lt_trans hzl hsz2)).trans ((Below.heap_alloc w2 _ w.heap.size hzl).trans HZ2.o))
   obtain⟨hx3,ZR⟩:=fq (X:=X) hb3;have ku:=hid hx3;have uI:=hid ((KR.o.alloc KR.o.size (.cells (uh X) 273)).trans (hb3.mono (Nat.le_trans KR.o.size (Nat.le_of_lt hsz2))));obtain⟨a0,a1,a2,a3⟩:=aU HZ3.o;have TL:=frozen_of_heap HZ3.o 0;have TM:=frozen_of_heap HZ3.o 1;have TN:=frozen_of_heap HZ3.o 2;have TP:=frozen_of_heap HZ3.o 3;obtain⟨b0,b1,b2,b3⟩:=aU ku.o;have yy0:=frozen_of_heap ku.o 0;have yy1:=frozen_of_heap ku.o 1;have yy2:=frozen_of_heap ku.o 2;have yy3:=frozen_of_heap ku.o 3;have ne1:¬w.heap.size=w2.heap.size:=Nat.ne_of_lt hzl
   have TQ:¬w2.heap.size=w.heap.size:=fun h=>ne1 h.symm
   have hle2:=KR.o.size;clear hY hb3 hx3 hsz2
   go_wp2_with fail
   refine bodyPost_ret (v:=.tuple #[G7 Y,.int .i64 ((at_+n+1:Nat):Int),.bool true]) (by simp [results,Tryz.results185,go_sem,a0,a1,a2,a3,hzl];first | rfl | exact⟨rfl,hl1⟩) rfl ?_
   refine⟨?_,Y,rfl,HY.o.ext (fun b=>(HB2.o hl1 b).symm)⟩
   exact (((((((uI.o.setCell hle2 _).setCell hle2 _).setCell hle2 _).setCell hle2 _).setCell (Nat.le_refl _) _).setCell (Nat.le_refl _) _).setCell (Nat.le_refl _) _).setCell (Nat.le_refl _) _
  have hpl:=NY hc (fun l1 h=>N7 ⟨l1,h⟩)
  obtain⟨hb1,hb2⟩:=hpl;obtain⟨l0,hl0⟩:∃l0,(s.data.toList.drop at_).take n=l0:=⟨_,rfl⟩;rw [hl0] at HC hb1 hb2 N7
  have hnp:Lib.hasPrefix l0 [94]=false:=by
   cases hq:Lib.hasPrefix l0 [94]
   ·rfl
   exfalso
   rcases l0 with _ | ⟨c0,l0⟩
   ·simp [Lib.hasPrefix] at hq
   refine N7 ⟨l0,?_⟩
   rw [WJ hq]
  rw [hnp,show Lib.trimPrefix l0 [94]=l0 by rw [Lib.trimPrefix,hnp];rfl] at HC
  have HO:=hid (fun W=>NZ ⟨l0.toArray⟩ W (by have h1:=congrArg List.length hl0;rw [List.length_take,List.length_drop,ak] at h1;show l0.toArray.size≤1048576;rw [List.size_toArray];omega))
  have HB2:=hid hb2;have HB1:=hid hb1
  have ZQ:IntKind.i64.wrap ((at_:Int)+(n:Int)+1)=((at_+n+1:Nat):Int):=by rw [IntKind.wrap_i64];omega
  clear hb1 hb2 hl0 hc he hx0 hmx hnp N7
  by_cases hl1:l0=[]
  ·simp only [if_pos (HB1.o.2 hl1)]
   subst hl1
   go_enter Tryz.func185,Tryz.ntmps185
   go_wp2_with (first
    | (go_at_call 217;refine (HX.o _).mono ?_;rintro e w' ⟨rfl,rfl⟩)
    | (go_at_call 218;refine (HC.o _).mono ?_;rintro e w' ⟨rfl,rfl⟩)
    | (go_at_call 219;refine (HO.o _).mono ?_;rintro e w2 ⟨X,rfl,hX,hb⟩;have UJ:=hid hX;have KR:=hid (((Below.refl _ w).alloc (Nat.le_refl _) _).trans (hb.mono (by simp)));obtain⟨hz,hzl⟩:=fq (X:=fun _=>0) hb;have HZ2:=hid hz;obtain⟨a0,a1,a2,a3⟩:=aU HZ2.o;have TL:=frozen_of_heap HZ2.o 0;have TM:=frozen_of_heap HZ2.o 1;have TN:=frozen_of_heap HZ2.o 2;have TP:=frozen_of_heap HZ2.o 3;have ne1:¬w.heap.size=w2.heap.size:=Nat.ne_of_lt hzl;have TQ:¬w2.heap.size=w.heap.size:=fun h=>ne1 h.symm;clear hX hb hz))
   refine bodyPost_ret (v:=.tuple #[G7 X,.int .i64 ((at_+n+1:Nat):Int),.bool false]) (by simp [results,Tryz.results185,go_sem,a0,a1,a2,a3,hzl];first | rfl | exact⟨rfl,hl1⟩) rfl ?_
   refine⟨?_,X,_,rfl⟩
   exact ((((KR.o.setCell (Nat.le_refl _) _).setCell (Nat.le_refl _) _).setCell (Nat.le_refl _) _).setCell (Nat.le_refl _) _).alloc (Nat.le_of_lt (by simp [World.setCell];exact hzl)) _
  simp only [if_neg (fun h=>hl1 (HB1.o.1 h))]
  have hne:=tV l0 hl1
  go_enter Tryz.func185,Tryz.ntmps185
  go_wp2_with (first
   | (go_at_call 217;refine (HX.o _).mono ?_;rintro e w' ⟨rfl,rfl⟩)
   | (go_at_call 218;refine (HC.o _).mono ?_;rintro e w' ⟨rfl,rfl⟩)
   | (go_at_call 219;refine (HO.o _).mono ?_;rintro e w2 ⟨X,rfl,hX,hb⟩;have UJ:=hid hX;have KR:=hid (((Below.refl _ w).alloc (Nat.le_refl _) _).trans (hb.mono (by simp)));obtain⟨hz,hzl⟩:=fq (X:=fun _=>0) hb;have HZ2:=hid hz;obtain⟨a0,a1,a2,a3⟩:=aU HZ2.o;have TL:=frozen_of_heap HZ2.o 0;have TM:=frozen_of_heap HZ2.o 1;have TN:=frozen_of_heap HZ2.o 2;have TP:=frozen_of_heap HZ2.o 3;have ne1:¬w.heap.size=w2.heap.size:=Nat.ne_of_lt hzl;have TQ:¬w2.heap.size=w.heap.size:=fun h=>ne1 h.symm;clear hX hb hz))
  refine bodyPost_ret (v:=.tuple #[G7 X,.int .i64 ((at_+n+1:Nat):Int),.bool true]) (by simp [results,Tryz.results185,go_sem,a0,a1,a2,a3,hzl];first | rfl | exact⟨rfl,hl1⟩) rfl ?_
  refine⟨?_,X,rfl,UJ.o.ext (fun b=>(HB2.o hl1 b).symm)⟩
  exact ((((KR.o.setCell (Nat.le_refl _) _).setCell (Nat.le_refl _) _).setCell (Nat.le_refl _) _).setCell (Nat.le_refl _) _).alloc (Nat.le_of_lt (by simp [World.setCell];exact hzl)) _
end Go.Proofs.YtfkblpjfknfgbaaGreatDoor
