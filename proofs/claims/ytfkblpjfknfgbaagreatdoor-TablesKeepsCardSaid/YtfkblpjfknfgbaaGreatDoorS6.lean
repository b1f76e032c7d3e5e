/-
 Parts of the proof: AF10, AF11, AF12, AC1, AC2, AC3.
-/
import Derived.Test.YtfkblpjfknfgbaaGreatDoorRows
import Derived.Test.YtfkblpjfknfgbaaGreatDoorS5
import Derived.Test.YtfkblpjfknfgbaaGreatDoorS4
import Derived.Test.YtfkblpjfknfgbaaGreatDoorS1
import Derived.BigRegion
import Derived.Deep.QuietTactic
import Derived.BigQuiet
import Derived.Test.YtfkblpjfknfgbaaGreatDoorS3
import Derived.Test.YtfkblpjfknfgbaaGreatDoorS0
set_option linter.unusedVariables false
set_option linter.unusedSimpArgs false
set_option maxHeartbeats 8000000
set_option maxRecDepth 100000
open Go.Maps Go.RowKit
open Go.Lib (hid cell_of_heap frozen_of_heap byteCells)
open Go.World (block_lt_of_cell?)
namespace Go.Proofs.YtfkblpjfknfgbaaGreatDoor
theorem Bd.pushReps {kh k:Nat} {S:Sx} (h:Bd (kh+1) (k+1) S) (a b:ByteArray):Bd kh k { S with fl:={ S.fl with reps:=S.fl.reps++[(a,b)] } } :=
 ⟨h.row,by have:=h.heads;show S.heads.length+S.rows.length+kh≤65536;omega,h.headS,by have:=h.reps;show (S.fl.reps++[(a,b)]).length+S.rows.length+k≤65536;rw [List.length_append];show S.fl.reps.length+1+S.rows.length+k≤65536;omega,
  by have:=h.als;show S.fl.als.length+S.rows.length+k≤65536;omega,by have:=h.cls;show S.fl.cls.length+S.rows.length+k≤65536;omega,by have:=h.rls;show S.fl.rls.length+S.rows.length+k≤65536;omega,h.flags,h.sets,h.nexts,h.kind,h.sp,h.line⟩
theorem rep_info:(Tryz.prog.info? 145).map (fun i=>(i.zero,i.size,i.bytes))=some (some (.agg #[.string ByteArray.empty,.string ByteArray.empty]),2,32):=by kernel_rfl
theorem rowF1_of {w0:World} {fv:Value} {l:Int} {row:List ByteArray} {rest:List Row} {kh k:Nat} {S:Sx} (hb:Bd kh k S) (hr:S.rows=(l,row)::rest) (h:Rd w0 1 fv row.length (strV row)):RowF1 w0 fv row :=
 have h1:=hb.row (l,row) (by rw [hr];simp)
 ⟨h,h1.2.1,h1.2.2.1⟩
theorem head_rd {w:World} {L:List Nat} (hL:∀x∈L,x < w.heap.size) (s:ByteArray):∀w',Kept L (w.alloc (.cells #[.string s] 9)) w'→Rd w' 1 (.slice (some ⟨w.heap.size,0,none⟩) 1 1) [s].length (strV [s]):=by
 intro w' hk
 refine⟨rfl,_,1,rfl,Nat.le_refl _,.inr ⟨_,0,rfl,fun j u hj=>?_⟩⟩
 have h1:=hk.at (heap_alloc_new w (.cells #[.string s] 9)) (fun hm=>absurd (hL _ hm) (by omega))
 rw [Nat.zero_add,cell_of_row _ w.heap.size j _ 9 (0,0) h1]
 simpa [strV] using hj
theorem so_reps (w0:World) (L:List Nat) (i:Ids) (E:Int) (kh k:Nat) (S:Sx) (fv:Value) (row:List ByteArray) (w:World) (h:RM w0 w L i E kh (k+1) S) (hr:RowF1 w0 fv row) (hl:row.length=2) :
  Calls Tryz.prog 80 #[.pointer (some ⟨i.rb,0,none⟩),fv] w (HeadP w0 L i E kh k (repsG E S (fieldAt row 1)) w):=by
 obtain⟨i0,hi,hz0,hz1,hz2⟩:=info_parts rep_info
 have hsz:=fieldAt_le hr.each 1
 obtain⟨g,o,c,rfl,hc,hcells⟩:=hr.cells (by omega)
 have d1:=field_in (hcells 1 (by omega)) h.base
 have HN:=hid (so_rdNumber i.rb S.line (fieldAt row 1) 256 w (by unfold maxLen;omega) (by decide) (by decide) h.r2)
 have HM:=hid h
 rw [hl] at hc ⊢
 clear hcells hr h
 unfold repsG
 unfold numR_ at HN
 rcases numErr_13 (fieldAt row 1).data.toList 256 with hq | hq
 ·rw [if_neg (by simpa using hq)] at HN ⊢
  obtain⟨b0,b1⟩:=numVal_bd (fieldAt row 1).data.toList 256 (by decide)
  obtain⟨n,hn⟩:∃n:Nat,numVal (fieldAt row 1).data.toList 256=n:=⟨_,(Int.toNat_of_nonneg b0).symm⟩
  rw [hn] at HN b0 b1 ⊢
  rw [Int.toNat_natCast]
  obtain⟨R,hR⟩:∃R,groupR E (fun r=>decide (r.take 1=[kREP])) repR_ n S=R:=⟨_,rfl⟩
  rw [hR]
  have HR:=hid hR
  clear hR hq hn b0
  have hn2:(n:Int)≤256:=b1
  clear b1
  go_enter Tryz.func80,Tryz.ntmps80
  go_wp2_with fail
  refine HN.out.mono ?_
  rintro e w1 ⟨hb,rfl⟩
  have HM1:=hid (HM.out.below hb)
  have HG1:=hid (Go2.of_below (L:=L) hb)
  clear hb
  go_wp2_with fail
  go_loopw [4,5,11] (fun _ _ x wr=>∃(m:Nat) (S':Sx) (L':List Nat),m≤n∧x=.int .i64 m∧Hid (RM w0 wr L' i E kh (k+1) S')∧Hid (Go2 L w L' wr)∧Hid (groupR E (fun r=>decide (r.take 1=[kREP])) repR_ (n - m) S'=R)) (fun _ _ x _=>n - (intOf x).toNat)
  case atStart=>exact⟨0,S,L,Nat.zero_le _,rfl,HM1,HG1,HR⟩
  case round =>
  obtain⟨m,S',L',hm,rfl,HRM,HGo,HGr⟩:=hrel
  by_cases hlt:m < n
  ·have hnm:n - m=(n - (m+1))+1:=by omega
   have HIn:=hid (so_inner w0 L' i E kh (k+1) S' (.slice (some ⟨wr.heap.size,0,none⟩) 1 1) [kREP] (wr.alloc (.cells #[.string kREP] 9)) (HRM.out.below ((Below.refl _ _).alloc (Nat.le_refl _) _))
    (head_rd (fun x hx=>by obtain⟨_,v,hv⟩:=HRM.out;exact (hv.hl x hx).2) kREP) (by decide))
   have HGo2:=hid (HGo.out.trans (Go2.of_below (L:=L') ((Below.refl _ wr).alloc (Nat.le_refl _) (.cells #[.string kREP] 9))))
   rcases hrows:S'.rows with _ | ⟨⟨l,rw_⟩,rest⟩
   ·have HRe:Hid (R=.error (E,116)):=hid (by rw [←HGr.out,hnm,groupR,hrows])
    clear hnm
    unfold InnerP at HIn
    rw [hrows] at HIn
    clear hrows
    go_wp2_with fail
    refine HIn.out.mono ?_
    rintro e w2 ⟨hg,rfl⟩
    exact⟨rfl,L',HGo2.out.trans hg,by rw [HRe.out]⟩
   have HBd:=hid HRM.out.1
   have HRW:Hid (∀fv,Rd w0 1 fv rw_.length (strV rw_)→RowF1 w0 fv rw_):=hid (fun fv h=>rowF1_of HBd.out hrows h)
   have HFs:Hid (∀j,(fieldAt rw_ j).size≤1048576):=hid (fun j=>Nat.le_trans (fieldAt_le (HBd.out.row (l,rw_) (by rw [hrows];simp)).2.2.1 j) (by decide))
   have hrl:rw_.length≤65536:=(HBd.out.row (l,rw_) (by rw [hrows];simp)).2.1
   have HGr2:Hid (R=if decide (rw_.take 1=[kREP])=true then (match repR_ S'.fl l rw_ with
    | .error c=>.error (l,c)
    | .ok F=>groupR E (fun r=>decide (r.take 1=[kREP])) repR_ (n - (m+1)) { fl:=F,rows:=rest,heads:=S'.heads,line:=l }) else .error (l,116)):=hid (by rw [←HGr.out,hnm,groupR,hrows];rfl)
   clear hnm
   unfold InnerP at HIn
   rw [hrows] at HIn
   dsimp only at HIn
   clear hrows
   by_cases hh:rw_.take 1=[kREP]
   ·simp only [List.length_singleton,if_pos hh] at HIn
    rw [decide_eq_true hh] at HGr2
    clear hh
    by_cases h3:rw_.length=3
    ·have q3:((rw_.length:Int)==3)=true:=by rw [h3];rfl
     have HRp:Hid (repR_ S'.fl l rw_=match pieceR false (fieldAt rw_ 1) with
      | .error c=>.error c
      | .ok a=>match pieceR true (fieldAt rw_ 2) with
        | .error c=>.error c
        | .ok b=>.ok { S'.fl with reps:=S'.fl.reps++[(a,b)] }):=hid (by rw [repR_,if_neg (by simp [h3])];rfl)
     cases hp1:pieceR false (fieldAt rw_ 1) with
     | error c1 =>
      have HRe:Hid (R=.error (l,c1)):=hid (by rw [HGr2.out,if_pos rfl,HRp.out,hp1])
      have HP1:=hid hp1
      clear hp1
      go_wp2_with fail
      refine HIn.out.mono ?_
      rintro e w2 ⟨hg,fv2,rfl,hrd,hrm⟩
      have HRM2:=hid hrm
      have HGo3:=hid (HGo2.out.trans hg)
      clear hg hrm
      obtain⟨g2,o2,c2,rfl,hc2,hcells2⟩:=(HRW.out _ hrd).cells (by omega)
      have d1':=field_in (hcells2 1 (by omega)) HRM2.out.base
      have D2:=hid (hcells2 2 (by omega))
      have hc3:3≤c2:=by omega
      clear hcells2 hrd
      go_wp2_with fail
      refine (so_must i.rb l _ _ _ (by decide) HRM2.out.r2).mono ?_
      rintro e w' ⟨⟨-,rfl⟩ | ⟨hx,-⟩,rfl⟩
      rotate_left
      ·exact absurd hx (by simp)
      go_wp2_with fail
      refine (so_piece i.rb l (fieldAt rw_ 1) _ (HFs.out 1) HRM2.out.r2).mono ?_
      rw [HP1.out]
      rintro e w3 ⟨hb,rfl⟩
      exact⟨rfl,L',HGo3.out.trans (Go2.of_below hb),by rw [HRe.out]⟩
     | ok a =>
      have HP1:=hid hp1
      cases hp2:pieceR true (fieldAt rw_ 2) with
      | error c1 =>
       have HRe:Hid (R=.error (l,c1)):=hid (by rw [HGr2.out,if_pos rfl,HRp.out,hp1];dsimp only;rw [hp2])
       have HP2:=hid hp2
       clear hp1 hp2
       go_wp2_with fail
       refine HIn.out.mono ?_
       rintro e w2 ⟨hg,fv2,rfl,hrd,hrm⟩
       have HRM2:=hid hrm
       have HGo3:=hid (HGo2.out.trans hg)
       clear hg hrm
       obtain⟨g2,o2,c2,rfl,hc2,hcells2⟩:=(HRW.out _ hrd).cells (by omega)
       have d1':=field_in (hcells2 1 (by omega)) HRM2.out.base
       have D2:=hid (hcells2 2 (by omega))
       have hc3:3≤c2:=by omega
       clear hcells2 hrd
       go_wp2_with fail
       refine (so_must i.rb l _ _ _ (by decide) HRM2.out.r2).mono ?_
       rintro e w' ⟨⟨-,rfl⟩ | ⟨hx,-⟩,rfl⟩
       rotate_left
       ·exact absurd hx (by simp)
       go_wp2_with fail
       refine (so_piece i.rb l (fieldAt rw_ 1) _ (HFs.out 1) HRM2.out.r2).mono ?_
       rw [HP1.out]
       rintro e w3 ⟨hb,rfl⟩
       have HRM3:=hid (HRM2.out.below hb)
       have HGo4:=hid (HGo3.out.trans (Go2.of_below (L:=L') hb))
       clear hb
       obtain⟨hbd3,v3,hm3⟩:=HRM3.out
       obtain⟨A3,cp3,hv3⟩:=own_slice hm3.reps.1
       have c0:=hm3.r0
       have c9:=hm3.f9
       rw [hv3] at c9
       have HM3:=hid hm3
       have HV3:=hid hv3
       have HB3:=hid hbd3
       have HS:Hid (∀W,Below w3.heap.size w3 W→W.cell? ⟨i.rb,0,none⟩=some (.pointer (some ⟨i.fb,0,none⟩))∧W.cell? ⟨g2,o2+2,none⟩=some (.string (fieldAt rw_ 2))):=hid (fun W hW=>⟨(HM3.out.below hW).r0,field_in D2.out (HM3.out.below hW).base⟩)
       clear hm3 hbd3 hv3
       go_wp2_with fail
       refine wp_region_held_drew (S:=fun W'=>W'.cell? ⟨i.rb,0,none⟩=some (.pointer (some ⟨i.fb,0,none⟩))∧W'.cell? ⟨g2,o2+2,none⟩=some (.string (fieldAt rw_ 2))) (by kernel_rfl) ?_ (fun hHeld=>?_)
       ·exact HS.out _ drew_below
       refine tkA 0 (some 26) hHeld ?_;try simp only [put_norm]
       refine tkA 1 (some 27) hHeld ?_;try simp only [put_norm]
       refine tkA 2 (some 28) hHeld ?_;try simp only [put_norm]
       refine tkA 3 (some 29) hHeld ?_;try simp only [put_norm]
       refine tkA 4 (some 30) hHeld ?_;try simp only [put_norm]
       refine tkA 5 (some 31) hHeld ?_;try simp only [put_norm]
       refine tkA 6 (some 32) hHeld ?_;try simp only [put_norm]
       refine tkA 7 (some 33) hHeld ?_;try simp only [put_norm]
       refine tkA 8 (some 34) hHeld ?_;try simp only [put_norm]
       refine tkA 9 (some 35) hHeld ?_;try simp only [put_norm]
       refine tkA 10 (some 36) hHeld ?_;try simp only [put_norm]
       refine tkA 12 (some 38) hHeld ?_;try simp only [put_norm]
       refine tkA 13 (some 39) hHeld ?_;try simp only [put_norm]
       refine tkA 14 (some 40) hHeld ?_;try simp only [put_norm]
       refine tkA 15 (some 41) hHeld ?_;try simp only [put_norm]
       refine tkA 16 (some 42) hHeld ?_;try simp only [put_norm]
       refine wpAnyH_ready (rs:=[11,17]) (by kernel_rfl) (by simp) ?_
       refine AllReadyH.cons rfl (fun K hK=>?_) ?_
       ·go_simp
        refine hK.out _ _ ?_ (fun hHeld=>?_)
        ·first | exact HS.out _ drew_below | exact HS.out _ HB4.out | exact HS.out _ (HB4.out.alloc (Nat.le_of_lt_succ (Nat.lt_succ_of_le HB4.out.size)) _) | exact⟨HMF.out.r0,field_in D2.out HMF.out.base⟩
        clear hK K
        refine rdy1 17 (fun K hK=>?_)
        go_simp
        refine (so_pieceOrNone i.rb l (fieldAt rw_ 2) w3.drew (HFs.out 2) HRM3.out.r2).mono ?_
        rw [HP2.out]
        rintro e w4 ⟨hb,rfl⟩
        exact⟨rfl,L',HGo4.out.trans (Go2.of_below (drew_below.trans hb)),by rw [HRe.out]⟩
       refine AllReadyH.cons rfl (fun K hK=>?_) ?_
       ·go_simp
        refine (so_pieceOrNone i.rb l (fieldAt rw_ 2) w3.drew (HFs.out 2) HRM3.out.r2).mono ?_
        rw [HP2.out]
        rintro e w4 ⟨hb,rfl⟩
        exact⟨rfl,L',HGo4.out.trans (Go2.of_below (drew_below.trans hb)),by rw [HRe.out]⟩
       exact AllReadyH.nil
      | ok b =>
       have HRe:Hid (R=groupR E (fun r=>decide (r.take 1=[kREP])) repR_ (n - (m+1)) { fl:={ S'.fl with reps:=S'.fl.reps++[(a,b)] },rows:=rest,heads:=S'.heads,line:=l }):=hid (by rw [HGr2.out,if_pos rfl,HRp.out,hp1];dsimp only;rw [hp2])
       have HP2:=hid hp2
       clear hp1 hp2
       go_wp2_with fail
       refine HIn.out.mono ?_
       rintro e w2 ⟨hg,fv2,rfl,hrd,hrm⟩
       have HRM2:=hid hrm
       have HGo3:=hid (HGo2.out.trans hg)
       clear hg hrm
       obtain⟨g2,o2,c2,rfl,hc2,hcells2⟩:=(HRW.out _ hrd).cells (by omega)
       have d1':=field_in (hcells2 1 (by omega)) HRM2.out.base
       have D2:=hid (hcells2 2 (by omega))
       have hc3:3≤c2:=by omega
       clear hcells2 hrd
       go_wp2_with fail
       refine (so_must i.rb l _ _ _ (by decide) HRM2.out.r2).mono ?_
       rintro e w' ⟨⟨-,rfl⟩ | ⟨hx,-⟩,rfl⟩
       rotate_left
       ·exact absurd hx (by simp)
       go_wp2_with fail
       refine (so_piece i.rb l (fieldAt rw_ 1) _ (HFs.out 1) HRM2.out.r2).mono ?_
       rw [HP1.out]
       rintro e w3 ⟨hb,rfl⟩
       have HRM3:=hid (HRM2.out.below hb)
       have HGo4:=hid (HGo3.out.trans (Go2.of_below (L:=L') hb))
       clear hb
       obtain⟨hbd3,v3,hm3⟩:=HRM3.out
       obtain⟨A3,cp3,hv3⟩:=own_slice hm3.reps.1
       have c0:=hm3.r0
       have c9:=hm3.f9
       rw [hv3] at c9
       have HM3:=hid hm3
       have HV3:=hid hv3
       have HB3:=hid hbd3
       have HS:Hid (∀W,Below w3.heap.size w3 W→W.cell? ⟨i.rb,0,none⟩=some (.pointer (some ⟨i.fb,0,none⟩))∧W.cell? ⟨g2,o2+2,none⟩=some (.string (fieldAt rw_ 2))):=hid (fun W hW=>⟨(HM3.out.below hW).r0,field_in D2.out (HM3.out.below hW).base⟩)
       clear hm3 hbd3 hv3
       go_wp2_with fail
       refine wp_region_held_drew (S:=fun W'=>W'.cell? ⟨i.rb,0,none⟩=some (.pointer (some ⟨i.fb,0,none⟩))∧W'.cell? ⟨g2,o2+2,none⟩=some (.string (fieldAt rw_ 2))) (by kernel_rfl) ?_ (fun hHeld=>?_)
       ·exact HS.out _ drew_below
       refine tkA 0 (some 26) hHeld ?_;try simp only [put_norm]
       refine tkA 1 (some 27) hHeld ?_;try simp only [put_norm]
       refine tkA 2 (some 28) hHeld ?_;try simp only [put_norm]
       refine tkA 3 (some 29) hHeld ?_;try simp only [put_norm]
       refine tkA 4 (some 30) hHeld ?_;try simp only [put_norm]
       refine tkA 5 (some 31) hHeld ?_;try simp only [put_norm]
       refine tkA 6 (some 32) hHeld ?_;try simp only [put_norm]
       refine tkA 7 (some 33) hHeld ?_;try simp only [put_norm]
       refine tkA 8 (some 34) hHeld ?_;try simp only [put_norm]
       refine tkA 9 (some 35) hHeld ?_;try simp only [put_norm]
       refine tkA 10 (some 36) hHeld ?_;try simp only [put_norm]
       refine tkA 12 (some 38) hHeld ?_;try simp only [put_norm]
       refine tkA 13 (some 39) hHeld ?_;try simp only [put_norm]
       refine tkA 14 (some 40) hHeld ?_;try simp only [put_norm]
       refine tkA 15 (some 41) hHeld ?_;try simp only [put_norm]
       refine tkA 16 (some 42) hHeld ?_;try simp only [put_norm]
       refine wpAnyH_ready (rs:=[11,17]) (by kernel_rfl) (by simp) ?_
       refine AllReadyH.cons rfl (fun K hK=>?_) ?_
       ·go_simp
        refine hK.out _ _ ?_ (fun hHeld=>?_)
        ·first | exact HS.out _ drew_below | exact HS.out _ HB4.out | exact HS.out _ (HB4.out.alloc (Nat.le_of_lt_succ (Nat.lt_succ_of_le HB4.out.size)) _) | exact⟨HMF.out.r0,field_in D2.out HMF.out.base⟩
        clear hK K
        refine rdy1 17 (fun K hK=>?_)
        go_simp
        refine (so_pieceOrNone i.rb l (fieldAt rw_ 2) w3.drew (HFs.out 2) HRM3.out.r2).mono ?_
        rw [HP2.out]
        rintro e w4 ⟨hb,rfl⟩
        have HB4:Hid (Below w3.heap.size w3 w4):=hid (drew_below.trans hb)
        clear hb
        have HM4:=hid (HM3.out.below HB4.out)
        have c9':=HM4.out.f9
        rw [HV3.out] at c9'
        have hfl4:=(HM4.out.hl _ HM4.out.fbL).2
        have HO4:=hid HM4.out.reps.1
        rw [HV3.out] at HO4
        refine hK.out _ _ ?_ (fun hHeld=>?_)
        ·exact HS.out _ HB4.out
        clear hK K
        refine tkA 18 (some 44) hHeld ?_;try simp only [put_norm]
        refine rdy1 19 (fun K hK=>?_)
        go_simp
        refine hK.out _ _ ?_ (fun hHeld=>?_)
        ·first | exact HS.out _ drew_below | exact HS.out _ HB4.out | exact HS.out _ (HB4.out.alloc (Nat.le_of_lt_succ (Nat.lt_succ_of_le HB4.out.size)) _) | exact⟨HMF.out.r0,field_in D2.out HMF.out.base⟩
        clear hK K
        refine rdy1 20 (fun K hK=>?_)
        refine step_pushL (by rfl) _ _ 78 (by rfl) 0 145 i0 _ 2 32 Tryz.underlying78 hi hz0 hz1 hz2 rfl (by decide) (.slice A3 _ cp3) _ _ (by rfl) HO4.out #[.string a,.string b] (by rfl) (by intro x hx;simp at hx;rcases hx with rfl | rfl<;>rfl) (by rfl) (by have:=HB3.out.reps;unfold maxLen;omega) (by have:=HB3.out.reps;omega) (Nat.zero_le _) ?_
        intro gg cc w9 hown hg9 hloc
        rw [←HV3.out] at hg9 hloc
        obtain⟨L9,hG9,hM9⟩:=HM4.out.push_reps a b hg9 hloc hown
        have hf9:=HM4.out.file_grown hg9 (HM4.out.ty_reps) (by decide)
        have hr9:=HM4.out.rdr_grown hg9 (HM4.out.ty_reps) (by decide)
        have c9'':w9.cell? ⟨i.fb,9,none⟩=some (.slice A3 S'.fl.reps.length cp3):=by rw [cell_of_heap hf9];exact congrArg some HV3.out
        have z9:w9.frozen? ⟨i.fb,9,none⟩=false:=frozen_of_heap hf9 9
        have HMF:=hid hM9
        have HG9:=hid hG9
        have HS9:Hid (w9.cell? ⟨i.rb,0,none⟩=some (.pointer (some ⟨i.fb,0,none⟩))∧w9.cell? ⟨g2,o2+2,none⟩=some (.string (fieldAt rw_ 2))):=hid ⟨by rw [cell_of_heap hr9];rfl,field_in D2.out (HM4.out.grown_base hg9 HM4.out.reps.2)⟩
        clear hown hg9 hloc hG9 hM9 hf9 hr9
        refine hK.out _ _ ?_ (fun hHeld=>?_)
        ·exact HS9.out
        clear hK K
        refine tkA 21 (some 47) hHeld ?_;try simp only [put_norm]
        refine tkA 22 (some 48) hHeld ?_;try simp only [put_norm]
        refine tkA 23 (some 49) hHeld ?_;try simp only [put_norm]
        refine rdy1 24 (fun K hK=>?_)
        go_simp
        refine hK.out _ _ ?_ (fun hHeld=>?_)
        ·first | exact HS.out _ drew_below | exact HS.out _ HB4.out | exact HS.out _ (HB4.out.alloc (Nat.le_of_lt_succ (Nat.lt_succ_of_le HB4.out.size)) _) | exact⟨HMF.out.r0,field_in D2.out HMF.out.base⟩
        clear hK K
        refine wpAnyH_done (by kernel_rfl) ?_ _
        go_wp2_with fail
        go_roundw
        case rel=>exact⟨m+1,_,L9,by omega,by go_num,hid ⟨HB3.out.pushReps a b,_,HMF.out⟩,hid ((HGo4.out.trans (Go2.of_below HB4.out)).trans HG9.out),hid HRe.out.symm⟩
        case measure=>simp [intOf];omega
       refine AllReadyH.cons rfl (fun K hK=>?_) ?_
       ·go_simp
        refine (so_pieceOrNone i.rb l (fieldAt rw_ 2) w3.drew (HFs.out 2) HRM3.out.r2).mono ?_
        rw [HP2.out]
        rintro e w4 ⟨hb,rfl⟩
        have HB4:Hid (Below w3.heap.size w3 w4):=hid (drew_below.trans hb)
        clear hb
        have HM4:=hid (HM3.out.below HB4.out)
        have c9':=HM4.out.f9
        rw [HV3.out] at c9'
        have hfl4:=(HM4.out.hl _ HM4.out.fbL).2
        have HO4:=hid HM4.out.reps.1
        rw [HV3.out] at HO4
        refine hK.out _ _ ?_ (fun hHeld=>?_)
        ·exact HS.out _ HB4.out
        refine tkA 18 (some 44) hHeld ?_;try simp only [put_norm]
        refine wpAnyH_ready (rs:=[11,19]) (by kernel_rfl) (by simp) ?_
        refine AllReadyH.cons rfl (fun K hK=>?_) ?_
        ·go_simp
         refine hK.out _ _ ?_ (fun hHeld=>?_)
         ·first | exact HS.out _ drew_below | exact HS.out _ HB4.out | exact HS.out _ (HB4.out.alloc (Nat.le_of_lt_succ (Nat.lt_succ_of_le HB4.out.size)) _) | exact⟨HMF.out.r0,field_in D2.out HMF.out.base⟩
         clear hK K
         refine rdy1 19 (fun K hK=>?_)
         go_simp
         refine hK.out _ _ ?_ (fun hHeld=>?_)
         ·first | exact HS.out _ drew_below | exact HS.out _ HB4.out | exact HS.out _ (HB4.out.alloc (Nat.le_of_lt_succ (Nat.lt_succ_of_le HB4.out.size)) _) | exact⟨HMF.out.r0,field_in D2.out HMF.out.base⟩
         clear hK K
         refine rdy1 20 (fun K hK=>?_)
         refine step_pushL (by rfl) _ _ 78 (by rfl) 0 145 i0 _ 2 32 Tryz.underlying78 hi hz0 hz1 hz2 rfl (by decide) (.slice A3 _ cp3) _ _ (by rfl) HO4.out #[.string a,.string b] (by rfl) (by intro x hx;simp at hx;rcases hx with rfl | rfl<;>rfl) (by rfl) (by have:=HB3.out.reps;unfold maxLen;omega) (by have:=HB3.out.reps;omega) (Nat.zero_le _) ?_
         intro gg cc w9 hown hg9 hloc
         rw [←HV3.out] at hg9 hloc
         obtain⟨L9,hG9,hM9⟩:=HM4.out.push_reps a b hg9 hloc hown
         have hf9:=HM4.out.file_grown hg9 (HM4.out.ty_reps) (by decide)
         have hr9:=HM4.out.rdr_grown hg9 (HM4.out.ty_reps) (by decide)
         have c9'':w9.cell? ⟨i.fb,9,none⟩=some (.slice A3 S'.fl.reps.length cp3):=by rw [cell_of_heap hf9];exact congrArg some HV3.out
         have z9:w9.frozen? ⟨i.fb,9,none⟩=false:=frozen_of_heap hf9 9
         have HMF:=hid hM9
         have HG9:=hid hG9
         have HS9:Hid (w9.cell? ⟨i.rb,0,none⟩=some (.pointer (some ⟨i.fb,0,none⟩))∧w9.cell? ⟨g2,o2+2,none⟩=some (.string (fieldAt rw_ 2))):=hid ⟨by rw [cell_of_heap hr9];rfl,field_in D2.out (HM4.out.grown_base hg9 HM4.out.reps.2)⟩
         clear hown hg9 hloc hG9 hM9 hf9 hr9
         refine hK.out _ _ ?_ (fun hHeld=>?_)
         ·exact HS9.out
         clear hK K
         refine tkA 21 (some 47) hHeld ?_;try simp only [put_norm]
         refine tkA 22 (some 48) hHeld ?_;try simp only [put_norm]
         refine tkA 23 (some 49) hHeld ?_;try simp only [put_norm]
         refine rdy1 24 (fun K hK=>?_)
         go_simp
         refine hK.out _ _ ?_ (fun hHeld=>?_)
         ·first | exact HS.out _ drew_below | exact HS.out _ HB4.out | exact HS.out _ (HB4.out.alloc (Nat.le_of_lt_succ (Nat.lt_succ_of_le HB4.out.size)) _) | exact⟨HMF.out.r0,field_in D2.out HMF.out.base⟩
         clear hK K
         refine wpAnyH_done (by kernel_rfl) ?_ _
         go_wp2_with fail
         go_roundw
         case rel=>exact⟨m+1,_,L9,by omega,by go_num,hid ⟨HB3.out.pushReps a b,_,HMF.out⟩,hid ((HGo4.out.trans (Go2.of_below HB4.out)).trans HG9.out),hid HRe.out.symm⟩
         case measure=>simp [intOf];omega
        refine AllReadyH.cons rfl (fun K hK=>?_) ?_
        ·go_simp
         refine hK.out _ _ ?_ (fun hHeld=>?_)
         ·first | exact HS.out _ drew_below | exact HS.out _ HB4.out | exact HS.out _ (HB4.out.alloc (Nat.le_of_lt_succ (Nat.lt_succ_of_le HB4.out.size)) _) | exact⟨HMF.out.r0,field_in D2.out HMF.out.base⟩
         clear hK K
         refine rdy1 11 (fun K hK=>?_)
         go_simp
         refine hK.out _ _ ?_ (fun hHeld=>?_)
         ·first | exact HS.out _ drew_below | exact HS.out _ HB4.out | exact HS.out _ (HB4.out.alloc (Nat.le_of_lt_succ (Nat.lt_succ_of_le HB4.out.size)) _) | exact⟨HMF.out.r0,field_in D2.out HMF.out.base⟩
         clear hK K
         refine rdy1 20 (fun K hK=>?_)
         refine step_pushL (by rfl) _ _ 78 (by rfl) 0 145 i0 _ 2 32 Tryz.underlying78 hi hz0 hz1 hz2 rfl (by decide) (.slice A3 _ cp3) _ _ (by rfl) HO4.out #[.string a,.string b] (by rfl) (by intro x hx;simp at hx;rcases hx with rfl | rfl<;>rfl) (by rfl) (by have:=HB3.out.reps;unfold maxLen;omega) (by have:=HB3.out.reps;omega) (Nat.zero_le _) ?_
         intro gg cc w9 hown hg9 hloc
         rw [←HV3.out] at hg9 hloc
         obtain⟨L9,hG9,hM9⟩:=HM4.out.push_reps a b hg9 hloc hown
         have hf9:=HM4.out.file_grown hg9 (HM4.out.ty_reps) (by decide)
         have hr9:=HM4.out.rdr_grown hg9 (HM4.out.ty_reps) (by decide)
         have c9'':w9.cell? ⟨i.fb,9,none⟩=some (.slice A3 S'.fl.reps.length cp3):=by rw [cell_of_heap hf9];exact congrArg some HV3.out
         have z9:w9.frozen? ⟨i.fb,9,none⟩=false:=frozen_of_heap hf9 9
         have HMF:=hid hM9
         have HG9:=hid hG9
         have HS9:Hid (w9.cell? ⟨i.rb,0,none⟩=some (.pointer (some ⟨i.fb,0,none⟩))∧w9.cell? ⟨g2,o2+2,none⟩=some (.string (fieldAt rw_ 2))):=hid ⟨by rw [cell_of_heap hr9];rfl,field_in D2.out (HM4.out.grown_base hg9 HM4.out.reps.2)⟩
         clear hown hg9 hloc hG9 hM9 hf9 hr9
         refine hK.out _ _ ?_ (fun hHeld=>?_)
         ·exact HS9.out
         clear hK K
         refine tkA 21 (some 47) hHeld ?_;try simp only [put_norm]
         refine tkA 22 (some 48) hHeld ?_;try simp only [put_norm]
         refine tkA 23 (some 49) hHeld ?_;try simp only [put_norm]
         refine rdy1 24 (fun K hK=>?_)
         go_simp
         refine hK.out _ _ ?_ (fun hHeld=>?_)
         ·first | exact HS.out _ drew_below | exact HS.out _ HB4.out | exact HS.out _ (HB4.out.alloc (Nat.le_of_lt_succ (Nat.lt_succ_of_le HB4.out.size)) _) | exact⟨HMF.out.r0,field_in D2.out HMF.out.base⟩
         clear hK K
         refine wpAnyH_done (by kernel_rfl) ?_ _
         go_wp2_with fail
         go_roundw
         case rel=>exact⟨m+1,_,L9,by omega,by go_num,hid ⟨HB3.out.pushReps a b,_,HMF.out⟩,hid ((HGo4.out.trans (Go2.of_below HB4.out)).trans HG9.out),hid HRe.out.symm⟩
         case measure=>simp [intOf];omega
        exact AllReadyH.nil
       exact AllReadyH.nil
    have q3:((rw_.length:Int)==3)=false:=by rw [beq_eq_false_iff_ne];omega
    have HRe:Hid (R=.error (l,111)):=hid (by rw [HGr2.out,if_pos rfl,repR_,if_pos h3])
    clear h3
    go_wp2_with fail
    refine HIn.out.mono ?_
    rintro e w2 ⟨hg,fv2,rfl,hrd,hrm⟩
    have HRM2:=hid hrm
    have HGo3:=hid (HGo2.out.trans hg)
    clear hg hrm
    obtain⟨-,A2,c2,rfl,hc2,-⟩:=hrd
    go_wp2_with fail
    refine (so_must i.rb l _ _ _ (by decide) HRM2.out.r2).mono ?_
    rintro e w' ⟨⟨hx,-⟩ | ⟨-,rfl⟩,rfl⟩
    ·exact absurd hx (by simp)
    exact⟨rfl,L',HGo3.out,by rw [HRe.out]⟩
   simp only [List.length_singleton,if_neg hh] at HIn
   have HRe:Hid (R=.error (l,116)):=hid (by rw [HGr2.out,if_neg (by simpa using hh)])
   clear hh
   go_wp2_with fail
   refine HIn.out.mono ?_
   rintro e w2 ⟨hg,rfl⟩
   exact⟨rfl,L',HGo2.out.trans hg,by rw [HRe.out]⟩
  obtain rfl:m=n:=by omega
  have HRe:Hid (R=.ok S'):=hid (by rw [←HGr.out,Nat.sub_self,groupR])
  go_wp2_with fail
  go_end0
  exact⟨L',HGo.out,by rw [HRe.out];exact⟨rfl,HRM.out.1.mono,HRM.out.2⟩⟩
 rw [if_pos (by rw [hq];decide)] at HN ⊢
 clear hq
 go_enter Tryz.func80,Tryz.ntmps80
 go_wp2_with fail
 refine HN.out.mono ?_
 rintro e w' ⟨hb,rfl⟩
 exact⟨rfl,L,Go2.of_below hb,rfl⟩
theorem Bd.pushAls {kh k:Nat} {S:Sx} (h:Bd (kh+1) (k+1) S) (a:List Int) (h1:canon a=a) (h2:∀x∈a,0≤x∧x≤65535):Bd kh k { S with fl:={ S.fl with als:=S.fl.als++[a] } } :=
 ⟨h.row,by have:=h.heads;show S.heads.length+S.rows.length+kh≤65536;omega,h.headS,by have:=h.reps;show S.fl.reps.length+S.rows.length+k≤65536;omega,
  by have:=h.als;show (S.fl.als++[a]).length+S.rows.length+k≤65536;rw [List.length_append];show S.fl.als.length+1+S.rows.length+k≤65536;omega,by have:=h.cls;show S.fl.cls.length+S.rows.length+k≤65536;omega,by have:=h.rls;show S.fl.rls.length+S.rows.length+k≤65536;omega,h.flags,
  fun b hb=>by
   rcases List.mem_append.1 hb with hb | hb
   ·exact h.sets b hb
   ·simp at hb;subst hb;exact⟨h1,h2⟩,h.nexts,h.kind,h.sp,h.line⟩
theorem alias_info:(Tryz.prog.info? 29).map (fun i=>(i.zero,i.size,i.bytes))=some (some (.slice none 0 0),1,24):=by kernel_rfl
theorem readF_canon (kind:Int) (l:List UInt8):canon (readF kind l).1=(readF kind l).1:=by
 unfold readF
 split
 ·exact canon_nil
 split
 ·exact canon_nil
 split
 ·exact canon_nil
 split
 ·exact canon_nil
 exact canon_idem _
theorem so_aliases (w0:World) (L:List Nat) (i:Ids) (E:Int) (kh k:Nat) (S:Sx) (fv:Value) (row:List ByteArray) (m0:Int) (w:World) (h:RM w0 w L i E kh (k+1) S) (hr:RowF1 w0 fv row) (hl:row.length=2) (hm0:w0.cell? ⟨0,0,none⟩=some (.int .i64 m0)) :
  Calls Tryz.prog 81 #[.pointer (some ⟨i.rb,0,none⟩),fv] w (HeadP w0 L i E kh k (aliasG E S (fieldAt row 1)) w):=by
 obtain⟨i0,hi,hz0,hz1,hz2⟩:=info_parts alias_info
 have hsz:=fieldAt_le hr.each 1
 obtain⟨g,o,c,rfl,hc,hcells⟩:=hr.cells (by omega)
 have d1:=field_in (hcells 1 (by omega)) h.base
 have HN:Hid (∀x,Calls Tryz.prog 114 #[.pointer (some ⟨i.rb,0,none⟩),.string (fieldAt row 1),.int .i64 1024] (w.drewN x) (OutW S.line (w.drewN x) (Value.int .i64) (numR_ (fieldAt row 1) 1024))):=hid (fun x=>so_rdNumber i.rb S.line (fieldAt row 1) 1024 (w.drewN x) (by unfold maxLen;omega) (by decide) (by decide) (h.below (drewN_below x)).r2)
 have HM:=hid h
 have HM0:=hid hm0
 rw [hl] at hc ⊢
 clear hcells hr hm0
 obtain⟨hbd,v0,hm⟩:=h
 have hc4:=hm.r4
 have hcl:S.heads.count kPFX≤S.heads.length:=List.count_le_length
 have hcl2:S.heads.count kSFX≤S.heads.length:=List.count_le_length
 have hhd:=hbd.heads
 have hl1:=fun x=>(hm.below (drewN_below (w:=w) x)).seen.look kPFX (by decide)
 have hl2:=fun x=>(hm.below (drewN_below (w:=w) x)).seen.look kSFX (by decide)
 have HMq:Hid (∀x,Calls Tryz.prog 46 #[.pointer (some ⟨i.rb,0,none⟩),.bool true,.int .i64 113] (w.drewN x) fun e w'=>e=.returned (.tuple #[])∧∃n,w'=w.drewN n):=hid (fun x=>(so_must i.rb S.line true 113 (w.drewN x) (by decide) (hm.below (drewN_below x)).r2).mono (by
  rintro e w' ⟨⟨-,rfl⟩ | ⟨hx,-⟩,rfl⟩
  ·exact⟨rfl,x,rfl⟩
  cases hx))
 obtain⟨q1,hq1⟩:∃q,S.heads.count kPFX=q:=⟨_,rfl⟩
 obtain⟨q2,hq2⟩:∃q,S.heads.count kSFX=q:=⟨_,rfl⟩
 rw [hq1] at hl1 hcl
 rw [hq2] at hl2 hcl2
 have HS0:Hid (∀W,Below w.heap.size w W→W.cell? ⟨i.rb,4,none⟩=some (.map (some i.sb))):=hid (fun W hW=>(hm.below hW).r4)
 have HHn:Hid (¬(S.heads.contains kPFX=true∨S.heads.contains kSFX=true)↔(q1=0∧q2=0)):=hid (by
  rw [←hq1,←hq2,List.count_eq_zero,List.count_eq_zero];simp)
 clear hm hbd hq1 hq2
 unfold aliasG
 have hwr:IntKind.i64.wrap ((q1:Int)+(q2:Int))=(q1:Int)+(q2:Int):=by rw [IntKind.wrap_i64];omega
 by_cases h0:q1=0∧q2=0
 ·rw [if_neg (HHn.out.2 h0)]
  obtain⟨rfl,rfl⟩:=h0
  clear hcl hcl2 hhd
  rcases numErr_13 (fieldAt row 1).data.toList 1024 with hq | hq
  ·rw [if_neg (by simpa using hq)]
   obtain⟨b0,b1⟩:=numVal_bd (fieldAt row 1).data.toList 1024 (by decide)
   obtain⟨n,hn⟩:∃n:Nat,numVal (fieldAt row 1).data.toList 1024=n:=⟨_,(Int.toNat_of_nonneg b0).symm⟩
   have HNR:Hid (numR_ (fieldAt row 1) 1024=.ok (n:Int)):=hid (by unfold numR_;rw [if_neg (by simpa using hq),hn])
   rw [hn] at b0 b1 ⊢
   rw [Int.toNat_natCast]
   obtain⟨R,hR⟩:∃R,groupR E (fun r=>decide (r.take 1=[kAF])) aliasR n S=R:=⟨_,rfl⟩
   rw [hR]
   have HR:=hid hR
   clear hR hq hn b0
   have hn2:(n:Int)≤1024:=b1
   clear b1
   go_enter Tryz.func81,Tryz.ntmps81
   go_wp2_with fail
   go_quiet (first | (go_at_call 46;exact HMq.out _))
   clear hl1 hl2 hc4
   go_wp2_with fail
   refine (HN.out _).mono ?_
   rw [HNR.out]
   rintro e w1 ⟨hb',rfl⟩
   have hb:Below w.heap.size w w1:=(drewN_below _).trans hb'
   clear hb'
   have HM1:=hid (HM.out.below hb)
   have HG1:=hid (Go2.of_below (L:=L) hb)
   clear hb
   go_wp2_with fail
   go_loopw [4,5,6,26] (fun _ _ _ x wr=>∃(m:Nat) (S':Sx) (L':List Nat),m≤n∧x=.int .i64 m∧Hid (RM w0 wr L' i E kh (k+1) S')∧Hid (Go2 L w L' wr)∧Hid (groupR E (fun r=>decide (r.take 1=[kAF])) aliasR (n - m) S'=R)) (fun _ _ _ x _=>n - (intOf x).toNat)
   case atStart=>exact⟨0,S,L,Nat.zero_le _,rfl,HM1,HG1,HR⟩
   case round =>
   obtain⟨m,S',L',hm,rfl,HRM,HGo,HGr⟩:=hrel
   by_cases hlt:m < n
   ·have hnm:n - m=(n - (m+1))+1:=by omega
    have HIn:=hid (so_inner w0 L' i E kh (k+1) S' (.slice (some ⟨wr.heap.size,0,none⟩) 1 1) [kAF] (wr.alloc (.cells #[.string kAF] 9)) (HRM.out.below ((Below.refl _ _).alloc (Nat.le_refl _) _))
     (head_rd (fun x hx=>by obtain⟨_,v,hv⟩:=HRM.out;exact (hv.hl x hx).2) kAF) (by decide))
    have HGo2:=hid (HGo.out.trans (Go2.of_below (L:=L') ((Below.refl _ wr).alloc (Nat.le_refl _) (.cells #[.string kAF] 9))))
    rcases hrows:S'.rows with _ | ⟨⟨l,rw_⟩,rest⟩
    ·have HRe:Hid (R=.error (E,116)):=hid (by rw [←HGr.out,hnm,groupR,hrows])
     clear hnm
     unfold InnerP at HIn
     rw [hrows] at HIn
     clear hrows
     go_wp2_with fail
     refine HIn.out.mono ?_
     rintro e w2 ⟨hg,rfl⟩
     exact⟨rfl,L',HGo2.out.trans hg,by rw [HRe.out]⟩
    have HBd2:=hid HRM.out.1
    have HRW:Hid (∀fv,Rd w0 1 fv rw_.length (strV rw_)→RowF1 w0 fv rw_):=hid (fun fv h=>rowF1_of HBd2.out hrows h)
    have HFs:Hid (∀j,(fieldAt rw_ j).size≤1048576):=hid (fun j=>Nat.le_trans (fieldAt_le (HBd2.out.row (l,rw_) (by rw [hrows];simp)).2.2.1 j) (by decide))
    have hrl:rw_.length≤65536:=(HBd2.out.row (l,rw_) (by rw [hrows];simp)).2.1
    have HGr2:Hid (R=if decide (rw_.take 1=[kAF])=true then (match aliasR S'.fl l rw_ with
     | .error c=>.error (l,c)
     | .ok F=>groupR E (fun r=>decide (r.take 1=[kAF])) aliasR (n - (m+1)) { fl:=F,rows:=rest,heads:=S'.heads,line:=l }) else .error (l,116)):=hid (by rw [←HGr.out,hnm,groupR,hrows];rfl)
    clear hnm
    unfold InnerP at HIn
    rw [hrows] at HIn
    dsimp only at HIn
    clear hrows
    by_cases hh:rw_.take 1=[kAF]
    ·simp only [List.length_singleton,if_pos hh] at HIn
     rw [decide_eq_true hh] at HGr2
     clear hh
     by_cases h3:rw_.length=2
     ·have q3:((rw_.length:Int)==2)=true:=by rw [h3];rfl
      have hcan:=readF_canon S'.fl.kind (fieldAt rw_ 1).data.toList
      have hrb:=readF_bd S'.fl.kind (fieldAt rw_ 1).data.toList
      have hAR:aliasR S'.fl l rw_=if (readF S'.fl.kind (fieldAt rw_ 1).data.toList).2≠0 then .error (readF S'.fl.kind (fieldAt rw_ 1).data.toList).2 else .ok { S'.fl with als:=S'.fl.als++[(readF S'.fl.kind (fieldAt rw_ 1).data.toList).1] }:=by rw [aliasR,if_neg (by simp [h3])]
      obtain⟨⟨az,e0⟩,hre⟩:∃r,readF S'.fl.kind (fieldAt rw_ 1).data.toList=r:=⟨_,rfl⟩
      rw [hre] at hcan hrb hAR
      dsimp only at hcan hrb hAR
      have HP1:=hid hre
      have HAR:=hid hAR
      have HCa:=hid (⟨hcan,hrb⟩:canon az=az∧∀x∈az,0≤x∧x≤65535)
      clear hre hAR hcan hrb
      by_cases he0:e0=0
      ·subst he0
       have HRe:Hid (R=groupR E (fun r=>decide (r.take 1=[kAF])) aliasR (n - (m+1)) { fl:={ S'.fl with als:=S'.fl.als++[az] },rows:=rest,heads:=S'.heads,line:=l }):=hid (by rw [HGr2.out,if_pos rfl,HAR.out,if_neg (by simp)])
       go_wp2_with fail
       refine HIn.out.mono ?_
       rintro e w2 ⟨hg,fv2,rfl,hrd,hrm⟩
       have HRM2:=hid hrm
       have HGo3:=hid (HGo2.out.trans hg)
       clear hg hrm
       obtain⟨g2,o2,c2,rfl,hc2,hcells2⟩:=(HRW.out _ hrd).cells (by omega)
       have D2:=hid (hcells2 1 (by omega))
       have hc3:2≤c2:=by omega
       clear hcells2 hrd
       obtain⟨hbd2,v2,hm2⟩:=HRM2.out
       have HM2:=hid hm2
       have HS:Hid (∀W,Below w2.heap.size w2 W→W.cell? ⟨i.rb,0,none⟩=some (.pointer (some ⟨i.fb,0,none⟩))∧W.cell? ⟨i.fb,0,none⟩=some (.int .i64 S'.fl.kind)∧W.cell? ⟨g2,o2+1,none⟩=some (.string (fieldAt rw_ 1))):=hid (fun W hW=>⟨(HM2.out.below hW).r0,(HM2.out.below hW).f0,field_in D2.out (HM2.out.below hW).base⟩)
       have HRd:=hid (so_Read S'.fl.kind (fieldAt rw_ 1) m0 w2.drew (Nat.le_trans (HFs.out 1) (by decide)) ((HM2.out.base.cell (block_lt_of_cell? w0 _ HM0.out)).trans HM0.out))
       rw [HP1.out] at HRd
       clear hbd2 hm2
       go_wp2_with fail
       refine (so_must i.rb l _ _ _ (by decide) HRM2.out.r2).mono ?_
       rintro e w' ⟨⟨-,rfl⟩ | ⟨hx,-⟩,rfl⟩
       rotate_left
       ·exact absurd hx (by simp)
       go_wp2_with fail
       refine wp_region_held_drew (S:=fun W'=>W'.cell? ⟨i.rb,0,none⟩=some (.pointer (some ⟨i.fb,0,none⟩))∧W'.cell? ⟨i.fb,0,none⟩=some (.int .i64 S'.fl.kind)∧W'.cell? ⟨g2,o2+1,none⟩=some (.string (fieldAt rw_ 1))) (by kernel_rfl) ?_ (fun hHeld=>?_)
       ·exact HS.out _ drew_below
       refine tkA 0 (some 37) hHeld ?_;try simp only [put_norm]
       refine tkA 1 (some 38) hHeld ?_;try simp only [put_norm]
       refine tkA 2 (some 39) hHeld ?_;try simp only [put_norm]
       refine tkA 3 (some 40) hHeld ?_;try simp only [put_norm]
       refine tkA 4 (some 41) hHeld ?_;try simp only [put_norm]
       refine tkA 5 (some 42) hHeld ?_;try simp only [put_norm]
       refine tkA 6 (some 43) hHeld ?_;try simp only [put_norm]
       refine tkA 7 (some 44) hHeld ?_;try simp only [put_norm]
       refine tkA 8 (some 45) hHeld ?_;try simp only [put_norm]
       refine tkA 9 (some 46) hHeld ?_;try simp only [put_norm]
       refine tkA 10 (some 47) hHeld ?_;try simp only [put_norm]
       refine rdy1 11 (fun K hK=>?_)
       go_simp
       refine HRd.out.mono ?_
       rintro e w3 ⟨u,rfl,hfn,hb⟩
       have HB3:Hid (Below w2.heap.size w2 w3):=hid (drew_below.trans hb)
       have HFO:=hid (FO.of_fn (L:=L') (w:=w2.drew) hfn (fun x hx=>(HM2.out.hl x hx).2))
       clear hb hfn
       refine hK.out _ _ ?_ (fun hHeld=>?_)
       ·exact HS.out _ HB3.out
       clear hK K
       refine tkA 12 (some 36) hHeld ?_;try simp only [put_norm]
       refine tkA 13 (some 49) hHeld ?_;try simp only [put_norm]
       refine tkA 14 (some 50) hHeld ?_;try simp only [put_norm]
       refine tkA 15 (some 5) hHeld ?_;try simp only [put_norm]
       refine tkA 16 (some 6) hHeld ?_;try simp only [put_norm]
       refine wpAnyH_done (by kernel_rfl) ?_ _
       have HRM3:=hid (HRM2.out.below HB3.out)
       have HGo4:=hid (HGo3.out.trans (Go2.of_below (L:=L') HB3.out))
       go_wp2_with fail
       refine (so_need i.rb l _ _ HRM3.out.r2).mono ?_
       rintro e w' ⟨⟨-,rfl⟩ | ⟨hx,-⟩,rfl⟩
       rotate_left
       ·exact absurd hx (by decide)
       obtain⟨hbd3,v3,hm3⟩:=HRM3.out
       obtain⟨us3,ho3,hul3,hua3⟩:=hm3.als
       obtain⟨A3,cp3,hv3⟩:=own_slice ho3.1
       have c0:=hm3.r0
       have c9:=hm3.f10
       rw [hv3] at c9
       have HO3:=hid ho3.1
       rw [hv3] at HO3
       have hfl3:=(hm3.hl _ hm3.fbL).2
       have HM3:=hid hm3
       have HV3:=hid hv3
       have HB3':=hid hbd3
       have hal3:S'.fl.als.length≤65536:=by have h:S'.fl.als.length+rest.length+_≤65536:=hbd3.als;omega
       have HSs:Hid (∀W,Below w3.heap.size w3 W→W.cell? ⟨i.rb,0,none⟩=some (.pointer (some ⟨i.fb,0,none⟩))):=hid (fun W hW=>(HM3.out.below hW).r0)
       obtain⟨pu,cu,rfl⟩:∃p c,u=.slice p az.length c:=by
        obtain⟨p,c,h1,-⟩:=HFO.out
        exact⟨p,c,h1⟩
       clear hm3 hbd3 hv3 ho3 hul3 hua3
       go_wp2_with fail
       refine wp_region_held_drew (S:=fun W'=>W'.cell? ⟨i.rb,0,none⟩=some (.pointer (some ⟨i.fb,0,none⟩))) (by kernel_rfl) ?_ (fun hHeld=>?_)
       ·exact HSs.out _ drew_below
       refine tkA 0 (some 54) hHeld ?_;try simp only [put_norm]
       refine tkA 1 (some 55) hHeld ?_;try simp only [put_norm]
       refine tkA 2 (some 56) hHeld ?_;try simp only [put_norm]
       refine tkA 3 (some 57) hHeld ?_;try simp only [put_norm]
       refine tkA 4 (some 58) hHeld ?_;try simp only [put_norm]
       refine tkA 5 (some 59) hHeld ?_;try simp only [put_norm]
       refine tkA 6 (some 60) hHeld ?_;try simp only [put_norm]
       refine tkA 7 (some 61) hHeld ?_;try simp only [put_norm]
       refine tkA 8 (some 62) hHeld ?_;try simp only [put_norm]
       refine tkA 9 (some 63) hHeld ?_;try simp only [put_norm]
       refine tkA 10 (some 64) hHeld ?_;try simp only [put_norm]
       refine tkA 12 (some 66) hHeld ?_;try simp only [put_norm]
       refine wpAnyH_ready (rs:=[11,13]) (by kernel_rfl) (by simp) ?_
       refine AllReadyH.cons rfl (fun K hK=>?_) ?_
       ·go_simp
        refine hK.out _ _ ?_ (fun hHeld=>?_)
        ·first | exact HSs.out _ drew_below | exact HSs.out _ (drew_below.alloc (Nat.le_refl _) _) | exact HMF.out.r0
        clear hK K
        refine rdy1 13 (fun K hK=>?_)
        go_simp
        refine hK.out _ _ ?_ (fun hHeld=>?_)
        ·first | exact HSs.out _ drew_below | exact HSs.out _ (drew_below.alloc (Nat.le_refl _) _) | exact HMF.out.r0
        clear hK K
        refine rdy1 14 (fun K hK=>?_)
        refine step_pushL (w:=w3.drew) (by rfl) _ _ 79 (by rfl) 0 29 i0 _ 1 24 Tryz.underlying79 hi hz0 hz1 hz2 rfl (by decide) (.slice A3 S'.fl.als.length cp3) S'.fl.als.length us3 (by rfl) HO3.out #[.slice pu az.length cu] (by rfl) (by intro x hx;simp at hx;subst hx;rfl) (by rfl) (by unfold maxLen;omega) (by omega) (Nat.zero_le _) ?_
        intro gg cc w9 hown hg9 hloc
        rw [←HV3.out] at hg9 hloc
        obtain⟨L9,hG9,hM9⟩:=(HM3.out.below drew_below).push_als (.slice pu az.length cu) az (HFO.out.keep (Go2.of_below drew_below)) hg9 hloc (fun us hus=>by have e1:=own_uniq HO3.out (show w3.ownsRow 0 29 1 (.slice A3 S'.fl.als.length cp3) S'.fl.als.length us by rw [←HV3.out];exact hus);subst e1;exact hown)
        have hf9:=(HM3.out.below (drew_below (w:=w3))).file_grown hg9 ((HM3.out.below (drew_below (w:=w3))).ty_als) (by decide)
        have hr9:=(HM3.out.below (drew_below (w:=w3))).rdr_grown hg9 ((HM3.out.below (drew_below (w:=w3))).ty_als) (by decide)
        have c9'':w9.cell? ⟨i.fb,10,none⟩=some (.slice A3 S'.fl.als.length cp3):=by rw [cell_of_heap hf9];exact congrArg some HV3.out
        have z9:w9.frozen? ⟨i.fb,10,none⟩=false:=frozen_of_heap hf9 10
        have HMF:=hid hM9
        have HG9:=hid hG9
        have HS9:Hid (w9.cell? ⟨i.rb,0,none⟩=some (.pointer (some ⟨i.fb,0,none⟩))):=hid (by rw [cell_of_heap hr9];rfl)
        clear hown hg9 hloc hG9 hM9 hf9 hr9
        refine hK.out _ _ ?_ (fun hHeld=>?_)
        ·exact HS9.out
        clear hK K
        refine tkA 15 (some 69) hHeld ?_;try simp only [put_norm]
        refine tkA 16 (some 70) hHeld ?_;try simp only [put_norm]
        refine tkA 17 (some 71) hHeld ?_;try simp only [put_norm]
        refine rdy1 18 (fun K hK=>?_)
        go_simp
        refine hK.out _ _ ?_ (fun hHeld=>?_)
        ·first | exact HSs.out _ drew_below | exact HSs.out _ (drew_below.alloc (Nat.le_refl _) _) | exact HMF.out.r0
        clear hK K
        refine wpAnyH_done (by kernel_rfl) ?_ _
        go_wp2_with fail
        go_roundw
        case rel=>exact⟨m+1,_,L9,by omega,by go_num,hid ⟨HB3'.out.pushAls az HCa.out.1 HCa.out.2,_,HMF.out⟩,hid ((HGo4.out.trans (Go2.of_below drew_below)).trans HG9.out),hid HRe.out.symm⟩
        case measure=>simp [intOf];omega
       refine AllReadyH.cons rfl (fun K hK=>?_) ?_
       ·go_simp
        refine hK.out _ _ ?_ (fun hHeld=>?_)
        ·first | exact HSs.out _ drew_below | exact HSs.out _ (drew_below.alloc (Nat.le_refl _) _) | exact HMF.out.r0
        clear hK K
        refine rdy1 11 (fun K hK=>?_)
        go_simp
        refine hK.out _ _ ?_ (fun hHeld=>?_)
        ·first | exact HSs.out _ drew_below | exact HSs.out _ (drew_below.alloc (Nat.le_refl _) _) | exact HMF.out.r0
        clear hK K
        refine rdy1 14 (fun K hK=>?_)
        refine step_pushL (w:=w3.drew) (by rfl) _ _ 79 (by rfl) 0 29 i0 _ 1 24 Tryz.underlying79 hi hz0 hz1 hz2 rfl (by decide) (.slice A3 S'.fl.als.length cp3) S'.fl.als.length us3 (by rfl) HO3.out #[.slice pu az.length cu] (by rfl) (by intro x hx;simp at hx;subst hx;rfl) (by rfl) (by unfold maxLen;omega) (by omega) (Nat.zero_le _) ?_
        intro gg cc w9 hown hg9 hloc
        rw [←HV3.out] at hg9 hloc
        obtain⟨L9,hG9,hM9⟩:=(HM3.out.below drew_below).push_als (.slice pu az.length cu) az (HFO.out.keep (Go2.of_below drew_below)) hg9 hloc (fun us hus=>by have e1:=own_uniq HO3.out (show w3.ownsRow 0 29 1 (.slice A3 S'.fl.als.length cp3) S'.fl.als.length us by rw [←HV3.out];exact hus);subst e1;exact hown)
        have hf9:=(HM3.out.below (drew_below (w:=w3))).file_grown hg9 ((HM3.out.below (drew_below (w:=w3))).ty_als) (by decide)
        have hr9:=(HM3.out.below (drew_below (w:=w3))).rdr_grown hg9 ((HM3.out.below (drew_below (w:=w3))).ty_als) (by decide)
        have c9'':w9.cell? ⟨i.fb,10,none⟩=some (.slice A3 S'.fl.als.length cp3):=by rw [cell_of_heap hf9];exact congrArg some HV3.out
        have z9:w9.frozen? ⟨i.fb,10,none⟩=false:=frozen_of_heap hf9 10
        have HMF:=hid hM9
        have HG9:=hid hG9
        have HS9:Hid (w9.cell? ⟨i.rb,0,none⟩=some (.pointer (some ⟨i.fb,0,none⟩))):=hid (by rw [cell_of_heap hr9];rfl)
        clear hown hg9 hloc hG9 hM9 hf9 hr9
        refine hK.out _ _ ?_ (fun hHeld=>?_)
        ·exact HS9.out
        clear hK K
        refine tkA 15 (some 69) hHeld ?_;try simp only [put_norm]
        refine tkA 16 (some 70) hHeld ?_;try simp only [put_norm]
        refine tkA 17 (some 71) hHeld ?_;try simp only [put_norm]
        refine rdy1 18 (fun K hK=>?_)
        go_simp
        refine hK.out _ _ ?_ (fun hHeld=>?_)
        ·first | exact HSs.out _ drew_below | exact HSs.out _ (drew_below.alloc (Nat.le_refl _) _) | exact HMF.out.r0
        clear hK K
        refine wpAnyH_done (by kernel_rfl) ?_ _
        go_wp2_with fail
        go_roundw
        case rel=>exact⟨m+1,_,L9,by omega,by go_num,hid ⟨HB3'.out.pushAls az HCa.out.1 HCa.out.2,_,HMF.out⟩,hid ((HGo4.out.trans (Go2.of_below drew_below)).trans HG9.out),hid HRe.out.symm⟩
        case measure=>simp [intOf];omega
       exact AllReadyH.nil
      have HRe:Hid (R=.error (l,e0)):=hid (by rw [HGr2.out,if_pos rfl,HAR.out,if_pos he0])
      have HE0:Hid ((e0==0)=false):=hid (by simpa using he0)
      clear he0
      go_wp2_with fail
      refine HIn.out.mono ?_
      rintro e w2 ⟨hg,fv2,rfl,hrd,hrm⟩
      have HRM2:=hid hrm
      have HGo3:=hid (HGo2.out.trans hg)
      clear hg hrm
      obtain⟨g2,o2,c2,rfl,hc2,hcells2⟩:=(HRW.out _ hrd).cells (by omega)
      have D2:=hid (hcells2 1 (by omega))
      have hc3:2≤c2:=by omega
      clear hcells2 hrd
      obtain⟨hbd2,v2,hm2⟩:=HRM2.out
      have HM2:=hid hm2
      have HS:Hid (∀W,Below w2.heap.size w2 W→W.cell? ⟨i.rb,0,none⟩=some (.pointer (some ⟨i.fb,0,none⟩))∧W.cell? ⟨i.fb,0,none⟩=some (.int .i64 S'.fl.kind)∧W.cell? ⟨g2,o2+1,none⟩=some (.string (fieldAt rw_ 1))):=hid (fun W hW=>⟨(HM2.out.below hW).r0,(HM2.out.below hW).f0,field_in D2.out (HM2.out.below hW).base⟩)
      have HRd:=hid (so_Read S'.fl.kind (fieldAt rw_ 1) m0 w2.drew (Nat.le_trans (HFs.out 1) (by decide)) ((HM2.out.base.cell (block_lt_of_cell? w0 _ HM0.out)).trans HM0.out))
      rw [HP1.out] at HRd
      clear hbd2 hm2
      go_wp2_with fail
      refine (so_must i.rb l _ _ _ (by decide) HRM2.out.r2).mono ?_
      rintro e w' ⟨⟨-,rfl⟩ | ⟨hx,-⟩,rfl⟩
      rotate_left
      ·exact absurd hx (by simp)
      go_wp2_with fail
      refine wp_region_held_drew (S:=fun W'=>W'.cell? ⟨i.rb,0,none⟩=some (.pointer (some ⟨i.fb,0,none⟩))∧W'.cell? ⟨i.fb,0,none⟩=some (.int .i64 S'.fl.kind)∧W'.cell? ⟨g2,o2+1,none⟩=some (.string (fieldAt rw_ 1))) (by kernel_rfl) ?_ (fun hHeld=>?_)
      ·exact HS.out _ drew_below
      refine tkA 0 (some 37) hHeld ?_;try simp only [put_norm]
      refine tkA 1 (some 38) hHeld ?_;try simp only [put_norm]
      refine tkA 2 (some 39) hHeld ?_;try simp only [put_norm]
      refine tkA 3 (some 40) hHeld ?_;try simp only [put_norm]
      refine tkA 4 (some 41) hHeld ?_;try simp only [put_norm]
      refine tkA 5 (some 42) hHeld ?_;try simp only [put_norm]
      refine tkA 6 (some 43) hHeld ?_;try simp only [put_norm]
      refine tkA 7 (some 44) hHeld ?_;try simp only [put_norm]
      refine tkA 8 (some 45) hHeld ?_;try simp only [put_norm]
      refine tkA 9 (some 46) hHeld ?_;try simp only [put_norm]
      refine tkA 10 (some 47) hHeld ?_;try simp only [put_norm]
      refine rdy1 11 (fun K hK=>?_)
      go_simp
      refine HRd.out.mono ?_
      rintro e w3 ⟨u,rfl,hfn,hb⟩
      have HB3:Hid (Below w2.heap.size w2 w3):=hid (drew_below.trans hb)
      have HFO:=hid (FO.of_fn (L:=L') (w:=w2.drew) hfn (fun x hx=>(HM2.out.hl x hx).2))
      clear hb hfn
      refine hK.out _ _ ?_ (fun hHeld=>?_)
      ·exact HS.out _ HB3.out
      clear hK K
      refine tkA 12 (some 36) hHeld ?_;try simp only [put_norm]
      refine tkA 13 (some 49) hHeld ?_;try simp only [put_norm]
      refine tkA 14 (some 50) hHeld ?_;try simp only [put_norm]
      refine tkA 15 (some 5) hHeld ?_;try simp only [put_norm]
      refine tkA 16 (some 6) hHeld ?_;try simp only [put_norm]
      refine wpAnyH_done (by kernel_rfl) ?_ _
      have HRM3:=hid (HRM2.out.below HB3.out)
      have HGo4:=hid (HGo3.out.trans (Go2.of_below (L:=L') HB3.out))
      go_wp2_with fail
      refine (so_need i.rb l _ _ HRM3.out.r2).mono ?_
      rw [HE0.out]
      rintro e w' ⟨⟨hx,-⟩ | ⟨-,rfl⟩,rfl⟩
      ·cases hx
      exact⟨rfl,L',HGo4.out,by rw [HRe.out]⟩
     have q3:((rw_.length:Int)==2)=false:=by rw [beq_eq_false_iff_ne];omega
     have HRe:Hid (R=.error (l,111)):=hid (by rw [HGr2.out,if_pos rfl,aliasR,if_pos h3])
     clear h3
     go_wp2_with fail
     refine HIn.out.mono ?_
     rintro e w2 ⟨hg,fv2,rfl,hrd,hrm⟩
     have HRM2:=hid hrm
     have HGo3:=hid (HGo2.out.trans hg)
     clear hg hrm
     obtain⟨-,A2,c2,rfl,hc2,-⟩:=hrd
     go_wp2_with fail
     refine (so_must i.rb l _ _ _ (by decide) HRM2.out.r2).mono ?_
     rintro e w' ⟨⟨hx,-⟩ | ⟨-,rfl⟩,rfl⟩
     ·exact absurd hx (by simp)
     exact⟨rfl,L',HGo3.out,by rw [HRe.out]⟩
    simp only [List.length_singleton,if_neg hh] at HIn
    have HRe:Hid (R=.error (l,116)):=hid (by rw [HGr2.out,if_neg (by simpa using hh)])
    clear hh
    go_wp2_with fail
    refine HIn.out.mono ?_
    rintro e w2 ⟨hg,rfl⟩
    exact⟨rfl,L',HGo2.out.trans hg,by rw [HRe.out]⟩
   obtain rfl:m=n:=by omega
   have HRe:Hid (R=.ok S'):=hid (by rw [←HGr.out,Nat.sub_self,groupR])
   go_wp2_with fail
   go_end0
   exact⟨L',HGo.out,by rw [HRe.out];exact⟨rfl,HRM.out.1.mono,HRM.out.2⟩⟩
  rw [if_pos (by rw [hq];decide)]
  have HNR:Hid (numR_ (fieldAt row 1) 1024=.error 13):=hid (by unfold numR_;rw [if_pos (by rw [hq];decide)])
  clear hq
  go_enter Tryz.func81,Tryz.ntmps81
  go_wp2_with fail
  go_quiet (first | (go_at_call 46;exact HMq.out _))
  clear hl1 hl2 hc4
  go_wp2_with fail
  refine (HN.out _).mono ?_
  rw [HNR.out]
  rintro e w1 ⟨hb',rfl⟩
  have hb:Below w.heap.size w w1:=(drewN_below _).trans hb'
  clear hb'
  exact⟨rfl,L,Go2.of_below hb,rfl⟩
 rw [if_pos (Classical.not_not.1 (fun h=>h0 (HHn.out.1 h)))]
 have hne:(((q1:Int)+(q2:Int))==0)=false:=by rw [beq_eq_false_iff_ne];omega
 clear h0
 have hl1':(Instr.lookup 117 (.map (some i.sb)) (.string kPFX) false).run Tryz.prog w.drew=.ok (.int .i64 (q1:Int)) w.drew:=hl1 1
 have hl2':(Instr.lookup 117 (.map (some i.sb)) (.string kSFX) false).run Tryz.prog w.drew=.ok (.int .i64 (q2:Int)) w.drew:=hl2 1
 clear hl1 hl2
 go_enter Tryz.func81,Tryz.ntmps81
 go_wp2_with fail
 refine wp_region_held_drew (S:=fun W'=>W'.cell? ⟨i.rb,4,none⟩=some (.map (some i.sb))) (by kernel_rfl) ?_ (fun hHeld=>?_)
 ·exact HS0.out _ drew_below
 refine tkA 0 (some 7) hHeld ?_;try simp only [put_norm]
 refine tkA 1 (some 8) hHeld ?_;try simp only [put_norm]
 refine tkA 2 (some 9) hHeld ?_;try simp only [put_norm]
 refine tkA 3 (some 10) hHeld ?_;try simp only [put_norm]
 refine tkA 4 (some 11) hHeld ?_;try simp only [put_norm]
 refine tkA 6 (some 13) hHeld ?_;try simp only [put_norm]
 refine tkA 7 (some 14) hHeld ?_;try simp only [put_norm]
 refine tkA 8 (some 15) hHeld ?_;try simp only [put_norm]
 refine tkA 9 (some 16) hHeld ?_;try simp only [put_norm]
 refine wpAnyH_ready (rs:=[5,10]) (by kernel_rfl) (by simp) ?_
 refine AllReadyH.cons rfl (fun K hK=>?_) ?_
 ·go_simp
  refine hK.out _ _ ?_ (fun hHeld=>?_)
  ·exact HS0.out _ drew_below
  clear hK K
  refine rdy1 10 (fun K hK=>?_)
  go_simp
  refine hK.out _ _ ?_ (fun hHeld=>?_)
  ·exact HS0.out _ drew_below
  clear hK K
  refine tkA 11 (some 18) hHeld ?_;try simp only [put_norm]
  refine tkA 12 (some 19) hHeld ?_;try simp only [put_norm]
  refine rdy1 13 (fun K hK=>?_)
  go_simp
  refine (so_must i.rb S.line _ _ _ (by decide) (HM.out.below (drew_below (w:=w))).r2).mono ?_
  rintro e w' ⟨⟨hx,-⟩ | ⟨-,rfl⟩,rfl⟩
  ·exact absurd hx (by simp)
  exact⟨rfl,L,Go2.of_below drew_below,rfl⟩
 refine AllReadyH.cons rfl (fun K hK=>?_) ?_
 ·go_simp
  refine hK.out _ _ ?_ (fun hHeld=>?_)
  ·exact HS0.out _ drew_below
  clear hK K
  refine rdy1 5 (fun K hK=>?_)
  go_simp
  refine hK.out _ _ ?_ (fun hHeld=>?_)
  ·exact HS0.out _ drew_below
  clear hK K
  refine tkA 11 (some 18) hHeld ?_;try simp only [put_norm]
  refine tkA 12 (some 19) hHeld ?_;try simp only [put_norm]
  refine rdy1 13 (fun K hK=>?_)
  go_simp
  refine (so_must i.rb S.line _ _ _ (by decide) (HM.out.below (drew_below (w:=w))).r2).mono ?_
  rintro e w' ⟨⟨hx,-⟩ | ⟨-,rfl⟩,rfl⟩
  ·exact absurd hx (by simp)
  exact⟨rfl,L,Go2.of_below drew_below,rfl⟩
 exact AllReadyH.nil
structure FileF (w:World) (fb:Nat) (kind:Int) (av:Value) (us:List Value) (al:List (List Int)):Prop where
 kind:w.cell? ⟨fb,0,none⟩=some (.int .i64 kind)
 als:w.cell? ⟨fb,10,none⟩=some av
 row:Rd w 1 av al.length us
 sets:∀(k:Nat) u a,us[k]?=some u→al[k]?=some a→FS w u a
 canons:∀a∈al,canon a=a∧a.length≤65536
def FlgP (r:List Int×Int) (w:World) (e:Ending) (w':World):Prop:=∃v,e=.returned (.tuple #[v,.int .i64 r.2])∧FN w.heap.size w' v r.1∧Below w.heap.size w w'
def flagsA (kind:Int) (al:List (List Int)) (s:List UInt8):List Int×Int :=
 if al.length=0 then readF kind s else if numErr s al.length≠0∨numVal s al.length=0 then ([],13) else (al.getD (numVal s al.length - 1).toNat [],0)
theorem flagsR_eq (F:Fl) (s:ByteArray):flagsR F s=flagsA F.kind F.als s.data.toList:=rfl
theorem so_fileFlags (fb:Nat) (kind m0:Int) (av:Value) (us:List Value) (al:List (List Int)) (s:ByteArray) (w:World) (h:FileF w fb kind av us al) (hn:al.length≤65536) (hs:s.size≤4194304) (hm:w.cell? ⟨0,0,none⟩=some (.int .i64 m0)) :
  Calls Tryz.prog 34 #[.pointer (some ⟨fb,0,none⟩),.string s] w (FlgP (flagsA kind al s.data.toList) w):=by
 have hk:=h.kind
 have ha:=h.als
 obtain⟨h1,A,cp,rfl,hcap,hcells⟩:=h.row
 have HC:=hid hcells
 have HF:=hid h
 have HL:=hid h1
 clear hcells h h1
 by_cases h0:al.length=0
 ·have e0:((al.length:Int)==0)=true:=by rw [h0];rfl
  have HR:=hid (so_Read kind s m0 w hs hm)
  have HX:Hid (flagsA kind al s.data.toList=readF kind s.data.toList):=hid (by rw [flagsA,if_pos h0])
  clear h0 hm
  go_enter Tryz.func34,Tryz.ntmps34
  go_wp2_with (go_at_call 62;refine HR.out.mono ?_;rintro e w2 ⟨v,rfl,hv,hb⟩;have HV:=hid hv;have HB:=hid hb;clear hv hb)
  refine bodyPost_ret (v:=.tuple #[v,.int .i64 (readF kind s.data.toList).2]) (by simp [results,Tryz.results34,go_sem];try rfl) rfl ?_
  unfold FlgP
  rw [HX.out]
  exact⟨v,rfl,HV.out,HB.out⟩
 have e0:((al.length:Int)==0)=false:=by rw [beq_eq_false_iff_ne];omega
 have HN:=hid (Number_any s al.length w (by unfold maxLen;omega) (by omega) (by omega))
 obtain⟨b,off,rfl,hc⟩:=HC.out.resolve_left h0
 have HCl:=hid hc
 obtain⟨b0,b1⟩:=numVal_bd s.data.toList al.length (by omega)
 clear hc HC hm
 by_cases h13:numErr s.data.toList al.length≠0∨numVal s.data.toList al.length=0
 ·have HX:Hid (flagsA kind al s.data.toList=([],13)):=hid (by rw [flagsA,if_neg h0,if_pos h13])
  rcases numErr_13 s.data.toList al.length with h | h
  ·have hv:numVal s.data.toList al.length=0:=h13.resolve_left (by rw [h];simp)
   have HN2:Hid (Calls Tryz.prog 63 #[.string s,.int .i64 (al.length:Int)] w fun e w'=>e=.returned (.tuple #[.int .i64 0,.int .i64 0])∧w=w'):=hid (by
    have h2:=HN.out
    unfold NumRet at h2
    rwa [h,hv] at h2)
   clear h hv h13 b0 b1 HN h0
   go_enter Tryz.func34,Tryz.ntmps34
   go_wp2_with (go_at_call 63;refine HN2.out.mono ?_;rintro e w2 ⟨rfl,rfl⟩)
   refine bodyPost_ret (v:=.tuple #[.slice none 0 0,.int .i64 13]) (by simp [results,Tryz.results34,go_sem];try rfl) rfl ?_
   unfold FlgP
   rw [HX.out]
   exact⟨_,rfl,FN.nil _ _ _ _,Below.refl _ _⟩
  have HN2:Hid (∃x,Calls Tryz.prog 63 #[.string s,.int .i64 (al.length:Int)] w fun e w'=>e=.returned (.tuple #[.int .i64 x,.int .i64 13])∧w=w'):=hid (by
   have h2:=HN.out
   unfold NumRet at h2
   rw [h] at h2
   exact⟨_,h2⟩)
  obtain⟨x,hx⟩:=HN2.out
  have HN3:=hid hx
  clear h h13 b0 b1 HN HN2 h0 hx
  go_enter Tryz.func34,Tryz.ntmps34
  go_wp2_with (go_at_call 63;refine HN3.out.mono ?_;rintro e w2 ⟨rfl,rfl⟩)
  refine bodyPost_ret (v:=.tuple #[.slice none 0 0,.int .i64 13]) (by simp [results,Tryz.results34,go_sem];try rfl) rfl ?_
  unfold FlgP
  rw [HX.out]
  exact⟨_,rfl,FN.nil _ _ _ _,Below.refl _ _⟩
 have hE:numErr s.data.toList al.length=0:=by
  rcases numErr_13 s.data.toList al.length with h | h
  ·exact h
  exact absurd (.inl (by rw [h];simp)) h13
 have hV:numVal s.data.toList al.length≠0:=fun e=>h13 (.inr e)
 obtain⟨j,hj⟩:∃j:Nat,numVal s.data.toList al.length=(j:Int)+1:=⟨(numVal s.data.toList al.length - 1).toNat,by omega⟩
 rw [hj] at b1
 have hjl:j < al.length:=by omega
 have HX:Hid (flagsA kind al s.data.toList=(al[j],0)):=hid (by
  rw [flagsA,if_neg h0,if_neg h13,hj,show ((j:Int)+1 - 1).toNat=j by omega]
  simp [List.getD,hjl])
 have HN2:Hid (Calls Tryz.prog 63 #[.string s,.int .i64 (al.length:Int)] w fun e w'=>e=.returned (.tuple #[.int .i64 ((j:Int)+1),.int .i64 0])∧w=w'):=hid (by
  have h2:=HN.out
  unfold NumRet at h2
  rwa [hE,hj] at h2)
 have hul:us.length=al.length:=by have:=HL.out;omega
 have hFS:=HF.out.sets j us[j] al[j] (List.getElem?_eq_getElem (by omega)) (List.getElem?_eq_getElem hjl)
 have hcan:=HF.out.canons al[j] (List.getElem_mem hjl)
 have hcell:=HCl.out j us[j] (List.getElem?_eq_getElem (by omega))
 have HO:=hid (so_Of us[j] al[j] w hFS (by omega))
 have HCN:=hid hcan.1
 obtain⟨p,c,hu,-,-⟩:=hFS
 rw [hu] at hcell HO
 generalize al[j]=a at *
 have hne:((j:Int)+1==0)=false:=by rw [beq_eq_false_iff_ne];omega
 have hw1:IntKind.i64.wrap ((j:Int)+1 - 1)=(j:Int):=by rw [IntKind.wrap_i64];omega
 have hj0:(0:Int)≤(j:Int):=by omega
 clear hu hcan hE hV h13 hj b0 b1 HN h0 hul
 go_enter Tryz.func34,Tryz.ntmps34
 go_wp2_with (first | (go_at_call 63;refine HN2.out.mono ?_;rintro e w2 ⟨rfl,rfl⟩) | (go_at_call 64;refine HO.out.mono ?_;rintro e w3 ⟨v,rfl,hv,hb⟩;have HV:=hid hv;have HB:=hid hb;clear hv hb))
 refine bodyPost_ret (v:=.tuple #[v,.int .i64 0]) (by simp [results,Tryz.results34,go_sem];try rfl) rfl ?_
 unfold FlgP
 rw [HX.out]
 exact⟨v,rfl,by rw [←HCN.out];exact HV.out,HB.out⟩
theorem ws_get (X:Ws) (j:Nat) (hj:j < 4):(#[Value.int .u64 (X 0:Nat),Value.int .u64 (X 1:Nat),Value.int .u64 (X 2:Nat),Value.int .u64 (X 3:Nat)]:Array Value)[j]?=some (.int .u64 (X j:Nat)):=by
 rcases j with _ | _ | _ | _ | j
 ·rfl
 ·rfl
 ·rfl
 ·rfl
 omega
theorem bit_has (x m:Nat) (hx:x < 18446744073709551616):(bits .and .u64 ((x:Int) / 2 ^ m) 1==1)=x.testBit m:=by
 have e:((x:Int) / 2 ^ m)=((x / 2 ^ m:Nat):Int):=by simp
 have hl:x / 2 ^ m < 2 ^ 64:=Nat.lt_of_le_of_lt (Nat.div_le_self _ _) hx
 rw [e,show (1:Int)=((1:Nat):Int) from rfl,(bits_nat .u64 64 (by decide) wraps_u64 _ _ hl (by decide)).1,Nat.testBit_eq_decide_div_mod_eq,Nat.and_one_is_mod,Bool.eq_iff_iff]
 simp
 omega
theorem bit_put (x m:Nat) (hx:x < 18446744073709551616) (hm:m < 64):bits .or .u64 (x:Int) ((2 ^ m:Nat):Int)=((x ||| 2 ^ m:Nat):Int) :=
 (bits_nat .u64 64 (by decide) wraps_u64 _ _ hx (Nat.pow_lt_pow_right (by decide) hm)).2
theorem wrap_pow (m:Nat) (hm:m < 64):IntKind.u64.wrap ((2:Int) ^ m)=((2 ^ m:Nat):Int):=by
 have h1:2 ^ m < 2 ^ 64:=Nat.pow_lt_pow_right (by decide) hm
 have h2:(2:Int) ^ m=((2 ^ m:Nat):Int):=by simp
 rw [h2]
 generalize 2 ^ m=x at h1
 rw [IntKind.wrap_u64]
 omega
theorem bit_not (x:Nat) (hx:x < 18446744073709551616):bits .xor .u64 IntKind.u64.max (x:Int)=((18446744073709551615 - x:Nat):Int):=by
 have e1:IntKind.u64.max=((18446744073709551615:Nat):Int):=by decide
 have e2:(BitVec.ofInt 64 ((18446744073709551615:Nat):Int) ^^^ BitVec.ofInt 64 (x:Int)).toNat=18446744073709551615 - x:=by
  rw [BitVec.ofInt_natCast,BitVec.ofInt_natCast,show BitVec.ofNat 64 18446744073709551615=BitVec.allOnes 64 by decide,BitVec.allOnes_xor,BitVec.toNat_not,BitVec.toNat_ofNat]
  omega
 rw [e1]
 show IntKind.u64.wrap (((BitVec.ofInt 64 _ ^^^ BitVec.ofInt 64 _).toNat:Nat):Int)=_
 rw [e2,IntKind.wrap_u64]
 omega
theorem so_has (X:Ws) (p:UInt8→Bool) (b:UInt8) (w:World) (h:HasP X p) :
  Calls Tryz.prog 221 #[clV X,.int .u8 b.toNat] w fun e w'=>e=.returned (.bool (p b))∧Below w.heap.size w w':=by
 have hb:=b.toNat_lt
 have HP:=hid h
 have hx:=h.1 (b.toNat / 64)
 have hget:=ws_get X (b.toNat / 64) (by omega)
 have hand:bits .and .u8 (b.toNat:Int) 63=(b.toNat:Int)%64:=u8_and63 _ (by omega) (by omega)
 clear h
 unfold clV
 go_enter Tryz.func221,Tryz.ntmps221
 go_wp2_with fail
 go_ret
 exact⟨by rw [←HP.out.2 b,←bit_has _ _ hx];rfl,(Below.refl _ _).alloc (Nat.le_refl _) _⟩
def wsA (X:Ws):Array Value:=#[.int .u64 (X 0:Nat),.int .u64 (X 1:Nat),.int .u64 (X 2:Nat),.int .u64 (X 3:Nat)]
theorem wsA_put (X:Ws) (n:Nat) (hn:n < 256):(wsA X).setIfInBounds (n / 64) (.int .u64 ((X (n / 64) ||| 2 ^ (n%64):Nat):Int))=wsA (put4 X n):=by
 have h4:n / 64 < 4:=by omega
 obtain⟨j,hj⟩:∃j,n / 64=j:=⟨_,rfl⟩
 unfold wsA put4
 rw [hj] at h4 ⊢
 rcases j with _ | _ | _ | _ | j
 ·simp
 ·simp
 ·simp
 ·simp
 omega
theorem so_put (X:Ws) (g:Nat) (c:UInt8) (w:World) (hx:X (c.toNat / 64) < 18446744073709551616) (h0:w.heap[g]?=some (.cells (wsA X) 273 (0,0))) :
  Calls Tryz.prog 187 #[.pointer (some ⟨g,0,none⟩),.int .u8 c.toNat] w fun e w'=>e=.returned (.tuple #[])∧w'.heap[g]?=some (.cells (wsA (put4 X c.toNat)) 273 (0,0))∧Kept [g] w w':=by
 have hb:=c.toNat_lt
 have hc:∀j,j < 4→w.cell? ⟨g,j,none⟩=some (.int .u64 (X j:Nat)):=fun j hj=>by rw [cell_of_heap h0];exact ws_get X j hj
 have hcell:=hc (c.toNat / 64) (by omega)
 have hf:=frozen_of_heap h0 (c.toNat / 64)
 have hand:bits .and .u8 (c.toNat:Int) 63=(c.toNat:Int)%64:=u8_and63 _ (by omega) (by omega)
 have H0:=hid h0
 have HX:=hid hx
 clear hc h0 hx
 go_enter Tryz.func187,Tryz.ntmps187
 go_wp2_with fail
 go_region
 all_goals go_end0
 all_goals
  have hw:IntKind.u64.wrap (2 ^ (c.toNat%64))=((2 ^ (c.toNat%64):Nat):Int):=by
   exact wrap_pow _ (by omega)
  rw [hw,bit_put _ _ HX.out (by omega)]
  refine⟨rfl,?_,?_⟩
  ·rw [←wsA_put X c.toNat (by omega)]
   exact heap_setCell_same _ g _ _ _ _ H0.out
  exact ((Kept.refl [g] w).set g _ _ (.inl (by simp))).drew
theorem so_other (X:Ws) (p:UInt8→Bool) (w:World) (h:HasP X p) :
  Calls Tryz.prog 186 #[clV X] w fun e w'=>e=.returned (clV (not4 X))∧Below w.heap.size w w':=by
 have HP:=hid h
 clear h
 unfold clV
 go_enter Tryz.func186,Tryz.ntmps186
 go_wp2_with fail
 have e0:=bit_not (X 0) (HP.out.1 0)
 have e1:=bit_not (X 1) (HP.out.1 1)
 have e2:=bit_not (X 2) (HP.out.1 2)
 have e3:=bit_not (X 3) (HP.out.1 3)
 rw [e0,e1,e2,e3]
 refine bodyPost_ret (v:=clV (not4 X)) (by simp [results,Tryz.results186,go_sem];rfl) rfl ?_
 exact⟨rfl,((Below.refl _ _).alloc (Nat.le_refl _) _).alloc (by simp) _⟩
theorem HasP.snocT {X:Ws} {s:ByteArray} {k:Nat} (h:HasP X (fun b=>(s.data.toList.take k).contains b)) (hk:k < s.size):HasP (put4 X s[k].toNat) (fun b=>(s.data.toList.take (k+1)).contains b):=by
 refine (h.put s[k]).ext (fun b=>?_)
 rw [take_snoc s k hk,Bool.eq_iff_iff]
 simp
 exact⟨fun h=>h.imp id Eq.symm,fun h=>h.imp id Eq.symm⟩
theorem HasP.lt {X:Ws} {p:UInt8→Bool} (h:HasP X p) (j:Nat):X j < 18446744073709551616:=h.1 j
theorem ws_cells {w:World} {g:Nat} {X:Ws} (h:w.heap[g]?=some (.cells (wsA X) 273 (0,0))) :
  w.cell? ⟨g,0,none⟩=some (.int .u64 (X 0:Nat))∧w.cell? ⟨g,1,none⟩=some (.int .u64 (X 1:Nat))∧w.cell? ⟨g,2,none⟩=some (.int .u64 (X 2:Nat))∧w.cell? ⟨g,3,none⟩=some (.int .u64 (X 3:Nat)):=by
 refine⟨?_,?_,?_,?_⟩<;>(rw [cell_of_heap h];rfl)
theorem so_of (s:ByteArray) (w:World) (hs:s.size≤1048576) :
  Calls Tryz.prog 219 #[.string s] w fun e w'=>∃X,e=.returned (clV X)∧HasP X (fun b=>s.data.toList.contains b)∧Below w.heap.size w w':=by
 go_enter Tryz.func219,Tryz.ntmps219
 go_wp2_with fail
 go_loopw [4,7] (fun _ i wr=>∃(k:Nat) (X:Ws),k≤s.size∧i=.int .i64 k∧Hid (HasP X (fun b=>(s.data.toList.take k).contains b))∧Hid (wr.heap[w.heap.size]?=some (.cells (wsA (fun _=>0)) 273 (0,0)))∧Hid (wr.heap[w.heap.size+1]?=some (.cells (wsA X) 273 (0,0)))∧Hid (Below w.heap.size w wr)) (fun _ i _=>s.size - (intOf i).toNat)
 case atStart =>
  refine⟨0,fun _=>0,Nat.zero_le _,rfl,HasP.none.ext (fun b=>by simp),?_,?_,?_⟩
  ·exact (Below.heap_alloc _ _ w.heap.size (by simp)).trans (heap_alloc_new w _)
  ·have:=heap_alloc_new (w.alloc (.cells (wsA (fun _=>0)) 273)) (.cells (wsA (fun _=>0)) 273)
   rw [World.size_alloc] at this
   exact this
  exact ((Below.refl _ _).alloc (Nat.le_refl _) _).alloc (by simp) _
 case round =>
 obtain⟨k,X,hk,rfl,HP,H0,H1,HB⟩:=hrel
 by_cases hlt:k < s.size
 ·have HN:=hid (HP.out.snocT hlt)
  go_wp2_with (go_at_call 187;refine (so_put X _ s[k] _ (HP.out.lt _) H1.out).mono ?_;rintro e w2 ⟨rfl,h1,h2⟩;have H1':=hid h1;have H0':=hid (h2.at H0.out (by simp));have HB':=hid (HB.out.trans (h2.below HB.out.size (by intro x hx;simp at hx;omega)));clear h1 h2)
  go_roundw
  case rel=>exact⟨k+1,_,by omega,by go_num,HN,H0',H1',HB'⟩
  case measure=>simp [intOf];omega
 obtain rfl:k=s.size:=by omega
 obtain⟨a0,a1,a2,a3⟩:=ws_cells H0.out
 obtain⟨c0,c1,c2,c3⟩:=ws_cells H1.out
 have z:=frozen_of_heap H0.out
 have z0:=z 0
 have z1:=z 1
 have z2:=z 2
 have z3:=z 3
 clear z
 go_wp2_with fail
 refine bodyPost_ret (v:=clV X) (by simp [results,Tryz.results219,go_sem,a0,a1,a2,a3];rfl) rfl ?_
 refine⟨X,rfl,?_,?_⟩
 ·have:=HP.out
  rwa [List.take_of_length_le (by simp)] at this
 exact (((HB.out.setCell (Nat.le_refl _) _).setCell (Nat.le_refl _) _).setCell (Nat.le_refl _) _).setCell (Nat.le_refl _) _
theorem all_len:all256.length=256:=by simp [all256]
theorem all_get (k:Nat) (h:k < 256):all256[k]?=some (UInt8.ofNat k):=by simp [all256,h]
theorem all_take256 (p:UInt8→Bool) (k:Nat) (h:k < 256):(all256.take (k+1)).filter p=(all256.take k).filter p++(if p (UInt8.ofNat k)=true then [UInt8.ofNat k] else []):=by
 rw [List.take_add_one,all_get k h,List.filter_append]
 congr 1
 by_cases hp:p (UInt8.ofNat k)=true<;>simp [hp]
theorem filter_le (p:UInt8→Bool) (k:Nat):((all256.take k).filter p).length≤256:=by
 have h1:=List.length_filter_le p (all256.take k)
 have h2:=List.length_take_le' k all256
 rw [all_len] at h2
 omega
theorem so_bytesC (X:Ws) (p:UInt8→Bool) (w:World) (h:HasP X p) :
  Calls Tryz.prog 220 #[clV X] w fun e w'=>∃v,e=.returned v∧Own w w' 5 1 v (all256.filter p).length (byteCells (all256.filter p)):=by
 obtain⟨i0,hi,hz0,hz1,hz2⟩:=info_parts byte_info
 have HP:=hid h
 clear h
 unfold clV
 go_enter Tryz.func220,Tryz.ntmps220
 go_wp2_with fail
 obtain⟨w1,hw1⟩:∃W,w.alloc (.cells (wsA X) 273)=W:=⟨_,rfl⟩
 have HB1:Hid (Below w.heap.size w w1):=hid (by rw [←hw1];exact (Below.refl _ _).alloc (Nat.le_refl _) _)
 have HX:Hid (w1.heap[w.heap.size]?=some (.cells (wsA X) 273 (0,0))):=hid (by rw [←hw1];exact heap_alloc_new w _)
 have hw1':w.alloc (.cells #[.int .u64 (X 0:Nat),.int .u64 (X 1:Nat),.int .u64 (X 2:Nat),.int .u64 (X 3:Nat)] 273)=w1:=hw1
 rw [hw1']
 have hsz1:w.heap.size < w1.heap.size:=block_lt HX.out
 clear hw1 hw1'
 go_loopw [3,4,5] (fun v _ i wr=>∃k:Nat,k≤256∧i=.int .i64 k∧Hid (Own w1 wr 5 1 v ((all256.take k).filter p).length (byteCells ((all256.take k).filter p)))) (fun _ _ i _=>256 - (intOf i).toNat)
 case atStart=>exact⟨0,Nat.zero_le _,rfl,Own.nil_ _ _ _⟩
 case round =>
 obtain⟨k,hk,rfl,HO⟩:=hrel
 have hszr:=HO.out.size
 by_cases hlt:k < 256
 ·have hbn:(UInt8.ofNat k).toNat=k:=by simp;omega
  have HH:Hid (∀W,Calls Tryz.prog 221 #[.agg #[.int .u64 (X 0:Nat),.int .u64 (X 1:Nat),.int .u64 (X 2:Nat),.int .u64 (X 3:Nat)],.int .u8 (k:Int)] W fun e w'=>e=.returned (.bool (p (UInt8.ofNat k)))∧Below W.heap.size W w'):=hid (fun W=>by
   have:=so_has X p (UInt8.ofNat k) W HP.out
   rwa [hbn] at this)
  have hx:=(HO.out.below.block w.heap.size hsz1).trans HX.out
  obtain⟨c0,c1,c2,c3⟩:=ws_cells hx
  have hwr:IntKind.u8.wrap (k:Int)=(k:Int):=by rw [IntKind.wrap_u8];omega
  have hwm:(k:Int)%256=(k:Int):=by omega
  have HT:=hid (all_take256 p k hlt)
  have HFl:=hid (filter_le p k)
  clear hx hbn
  cases hq:p (UInt8.ofNat k)
  ·rw [hq] at HH HT
   rw [if_neg (by simp),List.append_nil] at HT
   clear hq
   go_wp2_with (go_at_call 221;refine (HH.out _).mono ?_;rintro e w2 ⟨rfl,hb⟩;have HO2:=hid (HO.out.call hb);clear hb)
   go_roundw
   case rel=>exact⟨k+1,by omega,by go_num,by rw [HT.out];exact HO2⟩
   case measure=>simp [intOf];omega
  rw [hq] at HH HT
  rw [if_pos rfl] at HT
  clear hq
  go_wp2_with (first | (go_at_call 221;refine (HH.out _).mono ?_;rintro e w2 ⟨rfl,hb⟩;have HO2:=hid (HO.out.call hb);clear hb) | (at_builtin;refine wpList_push1 rfl _ _ 213 rfl w1.heap.size 5 i0 (.int .u8 0) 1 Tryz.underlying213 hi hz0 hz1 hz2 rfl _ _ _ rfl HO2.out.own _ rfl rfl (by have:=HFl.out;unfold maxLen;omega) (by have:=HFl.out;omega) HO2.out.size ?_;intro g cap w3 hown hg;have HO3:=hid (HO2.out.push hown hg);clear hown hg))
  go_roundw
  case rel =>
   refine⟨k+1,by omega,by go_num,?_⟩
   have e:(UInt8.ofNat k).toNat=k:=by simp;omega
   have:=HO3.out
   rw [HT.out,←bytes_snoc,List.length_append,e]
   exact this
  case measure=>simp [intOf];omega
 obtain rfl:k=256:=by omega
 have HT:Hid (all256.take 256=all256):=hid (List.take_of_length_le (by rw [all_len];exact Nat.le_refl _))
 rw [HT.out] at HO
 go_wp2_with fail
 go_ret
 exact⟨_,rfl,HO.out.from_ HB1.out⟩
def close? (l:List UInt8):Option Nat:=l.findIdx? (fun c=>c.toNat==93)
theorem byte_eq93 (c:UInt8):(c==93)=(c.toNat==93):=by
 rw [Bool.eq_iff_iff,beq_iff_eq,beq_iff_eq,←UInt8.toNat_inj];rfl
theorem index93 (l:List UInt8):Lib.indexByte l 93=match close? l with | none=>-1 | some n=>(n:Int):=by
 unfold close?
 induction l with
 | nil=>rfl
 | cons b l ih =>
  rw [List.findIdx?_cons,Lib.indexByte,byte_eq93]
  cases hb:(b.toNat==93)
  ·rw [ih]
   cases List.findIdx? (fun c=>c.toNat==93) l<;>simp<;>omega
  simp
theorem close_lt {l:List UInt8} {n:Nat} (h:close? l=some n):n < l.length:=by
 unfold close? at h
 exact (List.findIdx?_eq_some_iff_findIdx_eq.1 h).1
theorem close_at {l:List UInt8} {n:Nat} (h:close? l=some n):l.take (n+1)=l.take n++[93]:=by
 have hl:=close_lt h
 have h1:=(List.findIdx?_eq_some_iff_getElem.1 h)
 obtain⟨hlt,hp,-⟩:=h1
 rw [List.take_succ_eq_append_getElem hlt]
 congr 2
 rw [←UInt8.toNat_inj]
 simpa using hp
def badItem (l:List UInt8) (n:Nat):Prop:=n=0∨(n=1∧(l.getD 0 0).toNat=94)
instance (l:List UInt8) (n:Nat):Decidable (badItem l n):=inferInstanceAs (Decidable (_∨_))
theorem adm_hat (l:List UInt8) (b:UInt8) (hl:l≠[]):admB (91::94::(l++[93])) b=!(l.contains b):=by
 obtain⟨a,l,rfl⟩:=List.exists_cons_of_ne_nil hl
 show (!((a::(l++[93])).dropLast.contains b))=_
 rw [←List.cons_append,List.dropLast_concat]
theorem adm_plain (c:UInt8) (l:List UInt8) (b:UInt8) (hc:c.toNat≠94):admB (91::c::(l++[93])) b=(c::l).contains b:=by
 unfold admB
 simp only []
 rw [if_neg hc,←List.cons_append,List.dropLast_concat]
theorem br_hat {l:List UInt8} {n:Nat} (hc:close? l=some n) {l1:List UInt8} (h0:l.take n=94::l1):(badItem l n↔l1=[])∧(l1≠[]→∀b,admB (91::l.take (n+1)) b=!(l1.contains b)):=by
 have hl:=close_lt hc
 have hlen:n=l1.length+1:=by
  have:=congrArg List.length h0
  rw [List.length_take] at this;simp at this;omega
 have hh:l.getD 0 0=94:=by
  rcases l with _ | ⟨c,l⟩
  ·simp at hl
  rw [hlen] at h0;simp at h0;simp [h0.1]
 refine⟨⟨fun h=>?_,fun h=>?_⟩,fun h b=>?_⟩
 ·rcases h with h | ⟨h,_⟩
  ·omega
  exact List.eq_nil_of_length_eq_zero (by omega)
 ·exact .inr ⟨by rw [hlen,h];rfl,by rw [hh];rfl⟩
 rw [close_at hc,h0];exact adm_hat l1 b h
theorem br_plain {l:List UInt8} {n:Nat} (hc:close? l=some n) (h:∀l1,l.take n≠94::l1):(badItem l n↔l.take n=[])∧(l.take n≠[]→∀b,admB (91::l.take (n+1)) b=(l.take n).contains b):=by
 have hl:=close_lt hc
 have hlen:(l.take n).length=n:=by rw [List.length_take];omega
 refine⟨⟨fun hb=>?_,fun hb=>.inl (by rw [hb] at hlen;exact hlen.symm)⟩,fun hne b=>?_⟩
 ·rcases hb with hb | ⟨h1,h2⟩
  ·rw [hb];rfl
  exfalso
  rcases l with _ | ⟨c,l⟩
  ·simp at hl
  refine h [] ?_
  rw [h1]
  simp at h2 ⊢
  rw [←UInt8.toNat_inj];exact h2
 rw [close_at hc]
 obtain⟨c,l1,h1⟩:=List.exists_cons_of_ne_nil hne
 rw [h1]
 exact adm_plain c l1 b (fun e=>h l1 (by rw [h1];congr 1;rw [←UInt8.toNat_inj];exact e))
theorem pre94 {c:UInt8} {l:List UInt8} (h:Lib.hasPrefix (c::l) [94]=true):c=94:=by
 unfold Lib.hasPrefix at h
 rw [List.isPrefixOf_cons_cons] at h
 have:=(Bool.and_eq_true _ _▸h).1
 exact (eq_of_beq this).symm
theorem str_nonempty (l:List UInt8) (h:l≠[]):(⟨l.toArray⟩:ByteArray).toList.isEmpty=false:=by
 rw [Lib.toList_data]
 cases l with
 | nil=>exact absurd rfl h
 | cons a l=>rfl
theorem so_ofA (s:ByteArray) (w:World) (hs:s.size≤1048576) :
 Calls Tryz.prog 219 #[.string s] w fun e w'=>∃X:Ws,e=.returned (.agg #[.int .u64 (X 0:Nat),.int .u64 (X 1:Nat),.int .u64 (X 2:Nat),.int .u64 (X 3:Nat)])∧HasP X (fun b=>s.data.toList.contains b)∧Below w.heap.size w w':=so_of s w hs
theorem so_otherA (X:Ws) (p:UInt8→Bool) (w:World) (h:HasP X p) :
  Calls Tryz.prog 186 #[.agg #[.int .u64 (X 0:Nat),.int .u64 (X 1:Nat),.int .u64 (X 2:Nat),.int .u64 (X 3:Nat)]] w fun e w'=>∃Y:Ws,e=.returned (.agg #[.int .u64 (Y 0:Nat),.int .u64 (Y 1:Nat),.int .u64 (Y 2:Nat),.int .u64 (Y 3:Nat)])∧HasP Y (fun b=>!p b)∧Below w.heap.size w w' :=
 (so_other X p w h).mono fun _ _ ⟨he,hb⟩=>⟨not4 X,he,h.not,hb⟩
theorem zero_cells {w w2:World} {X:Ws} (hb:Below (w.alloc (.cells (wsA X) 273)).heap.size (w.alloc (.cells (wsA X) 273)) w2) :
  w2.heap[w.heap.size]?=some (.cells (wsA X) 273 (0,0))∧w.heap.size < w2.heap.size:=by
 have h:=(hb.block w.heap.size (by simp)).trans (heap_alloc_new w _)
 exact⟨h,block_lt h⟩
def BrP (l:List UInt8) (at_:Nat) (w:World) (e:Ending) (w':World):Prop :=
 Below w.heap.size w w'∧match close? l with
  | none=>∃(X:Ws) (i:Int),e=.returned (.tuple #[.agg #[.int .u64 (X 0:Nat),.int .u64 (X 1:Nat),.int .u64 (X 2:Nat),.int .u64 (X 3:Nat)],.int .i64 i,.bool false])
  | some n=>if badItem l n then ∃(X:Ws) (i:Int),e=.returned (.tuple #[.agg #[.int .u64 (X 0:Nat),.int .u64 (X 1:Nat),.int .u64 (X 2:Nat),.int .u64 (X 3:Nat)],.int .i64 i,.bool false])
    else ∃X:Ws,e=.returned (.tuple #[.agg #[.int .u64 (X 0:Nat),.int .u64 (X 1:Nat),.int .u64 (X 2:Nat),.int .u64 (X 3:Nat)],.int .i64 ((at_+n+1:Nat):Int),.bool true])∧HasP X (admB (91::l.take (n+1)))
theorem so_bracket (s:ByteArray) (at_:Nat) (w:World) (hs:s.size≤1048576) (ha:at_≤s.size) :
  Calls Tryz.prog 185 #[.string s,.int .i64 at_] w (BrP (s.data.toList.drop at_) at_ w):=by
 unfold BrP
 have HX:=hid (fun W=>Tryz.strings_IndexByte (s.extract at_ s.size) 93 W)
 have he:(s.extract at_ s.size).data.toList=s.data.toList.drop at_:=Lib.extract_to_end s at_
 rw [he] at HX
 rw [show (93:Int).toNat.toUInt8=93 from rfl,index93] at HX
 cases hc:close? (s.data.toList.drop at_) with
 | none =>
  rw [hc] at HX
  dsimp only at HX ⊢
  clear hc he
  go_enter Tryz.func185,Tryz.ntmps185
  go_wp2_with (go_at_call 217;refine (HX.out _).mono ?_;rintro e w' ⟨rfl,rfl⟩)
  refine bodyPost_ret (v:=.tuple #[clV (fun _=>0),.int .i64 0,.bool false]) (by simp [results,Tryz.results185,go_sem];rfl) rfl ?_
  exact⟨(Below.refl _ _).alloc (Nat.le_refl _) _,fun _=>0,0,rfl⟩
 | some n =>
  rw [hc] at HX
  dsimp only at HX ⊢
  have hlt:=close_lt hc
  rw [List.length_drop,len_toList] at hlt
  have hn1:¬(n:Int) < 0:=by omega
  have hsum:IntKind.i64.wrap ((at_:Int)+(n:Int))=(at_:Int)+(n:Int):=by rw [IntKind.wrap_i64];omega
  have hx0:(s.extract at_ (at_+n)).data.toList=(s.data.toList.drop at_).take n:=by rw [extract_mkS,mkS_data,Nat.add_sub_cancel_left]
  have HC:=hid (fun W=>Tryz.strings_CutPrefix (s.extract at_ (at_+n)) ⟨#[94]⟩ W)
  rw [hx0] at HC
  have hmx:((⟨#[94]⟩:ByteArray).data.toList)=[94]:=rfl
  rw [hmx] at HC
  have hle:at_+n≤s.size:=by omega
  by_cases hhat:∃l1,(s.data.toList.drop at_).take n=94::l1
  ·obtain⟨l1,h0⟩:=hhat
   obtain⟨hb1,hb2⟩:=br_hat hc h0
   rw [h0] at HC
   rw [show Lib.hasPrefix (94::l1) [94]=true by simp [Lib.hasPrefix],show Lib.trimPrefix (94::l1) [94]=l1 by simp [Lib.trimPrefix,Lib.hasPrefix]] at HC
   have HO:=hid (fun W=>so_ofA ⟨l1.toArray⟩ W (by show l1.toArray.size≤_;have:=congrArg List.length h0;rw [List.length_take] at this;simp at this;simp;omega))
   have HB2:=hid hb2
   have HB1:=hid hb1
   have hnat:IntKind.i64.wrap ((at_:Int)+(n:Int)+1)=((at_+n+1:Nat):Int):=by rw [IntKind.wrap_i64];omega
   clear hb1 hb2 h0 hc he hx0 hmx
   by_cases hl1:l1=[]
   ·simp only [if_pos (HB1.out.2 hl1)]
    subst hl1
    go_enter Tryz.func185,Tryz.ntmps185
    go_wp2_with (first
     | (go_at_call 217;refine (HX.out _).mono ?_;rintro e w' ⟨rfl,rfl⟩)
     | (go_at_call 218;refine (HC.out _).mono ?_;rintro e w' ⟨rfl,rfl⟩)
     | (go_at_call 219;refine (HO.out _).mono ?_;rintro e w2 ⟨X,rfl,hX,hb⟩;have HXX:=hid hX;have HBw:=hid (((Below.refl _ w).alloc (Nat.le_refl _) _).trans (hb.mono (by simp)));obtain⟨hz,hzl⟩:=zero_cells (X:=fun _=>0) hb;have HZ2:=hid hz;skip;clear hX hb hz))
    refine (so_otherA X _ _ HXX.out).mono ?_
    rintro e w3 ⟨Y,rfl,hY,hb3⟩
    have HY:=hid hY
    have hsz2:w2.heap.size < (w2.alloc (.cells (wsA X) 273)).heap.size:=by simp
    have HZ3:Hid (w3.heap[w.heap.size]?=some (.cells (wsA (fun _=>0)) 273 (0,0))):=hid ((hb3.block w.heap.size (Nat.lt_trans hzl hsz2)).trans ((Below.heap_alloc w2 _ w.heap.size hzl).trans HZ2.out))
    obtain⟨hx3,hx3l⟩:=zero_cells (X:=X) hb3
    have HX3:=hid hx3
    have HBz:=hid ((HBw.out.alloc HBw.out.size (.cells (wsA X) 273)).trans (hb3.mono (Nat.le_trans HBw.out.size (Nat.le_of_lt hsz2))))
    obtain⟨a0,a1,a2,a3⟩:=ws_cells HZ3.out
    have zz0:=frozen_of_heap HZ3.out 0
    have zz1:=frozen_of_heap HZ3.out 1
    have zz2:=frozen_of_heap HZ3.out 2
    have zz3:=frozen_of_heap HZ3.out 3
    obtain⟨b0,b1,b2,b3⟩:=ws_cells HX3.out
    have yy0:=frozen_of_heap HX3.out 0
    have yy1:=frozen_of_heap HX3.out 1
    have yy2:=frozen_of_heap HX3.out 2
    have yy3:=frozen_of_heap HX3.out 3
    have ne1:¬w.heap.size=w2.heap.size:=Nat.ne_of_lt hzl
    have ne2:¬w2.heap.size=w.heap.size:=fun h=>ne1 h.symm
    have hle2:=HBw.out.size
    clear hY hb3 hx3 hsz2
    go_wp2_with fail
    refine bodyPost_ret (v:=.tuple #[clV Y,.int .i64 ((at_+n+1:Nat):Int),.bool false]) (by simp [results,Tryz.results185,go_sem,a0,a1,a2,a3,hzl];first | rfl | exact⟨rfl,hl1⟩) rfl ?_
    refine⟨?_,Y,_,rfl⟩
    exact (((((((HBz.out.setCell hle2 _).setCell hle2 _).setCell hle2 _).setCell hle2 _).setCell (Nat.le_refl _) _).setCell (Nat.le_refl _) _).setCell (Nat.le_refl _) _).setCell (Nat.le_refl _) _
   simp only [if_neg (fun h=>hl1 (HB1.out.1 h))]
   have hne:=str_nonempty l1 hl1
   go_enter Tryz.func185,Tryz.ntmps185
   go_wp2_with (first
    | (go_at_call 217;refine (HX.out _).mono ?_;rintro e w' ⟨rfl,rfl⟩)
    | (go_at_call 218;refine (HC.out _).mono ?_;rintro e w' ⟨rfl,rfl⟩)
    | (go_at_call 219;refine (HO.out _).mono ?_;rintro e w2 ⟨X,rfl,hX,hb⟩;have HXX:=hid hX;have HBw:=hid (((Below.refl _ w).alloc (Nat.le_refl _) _).trans (hb.mono (by simp)));obtain⟨hz,hzl⟩:=zero_cells (X:=fun _=>0) hb;have HZ2:=hid hz;skip;clear hX hb hz))
   refine (so_otherA X _ _ HXX.out).mono ?_
   rintro e w3 ⟨Y,rfl,hY,hb3⟩
   have HY:=hid hY
   have hsz2:w2.heap.size < (w2.alloc (.cells (wsA X) 273)).heap.size:=by simp
   have HZ3:Hid (w3.heap[w.heap.size]?=some (.cells (wsA (fun _=>0)) 273 (0,0))):=hid ((hb3.block w.heap.size (Nat.lt_trans hzl hsz2)).trans ((Below.heap_alloc w2 _ w.heap.size hzl).trans HZ2.out))
   obtain⟨hx3,hx3l⟩:=zero_cells (X:=X) hb3
   have HX3:=hid hx3
   have HBz:=hid ((HBw.out.alloc HBw.out.size (.cells (wsA X) 273)).trans (hb3.mono (Nat.le_trans HBw.out.size (Nat.le_of_lt hsz2))))
   obtain⟨a0,a1,a2,a3⟩:=ws_cells HZ3.out
   have zz0:=frozen_of_heap HZ3.out 0
   have zz1:=frozen_of_heap HZ3.out 1
   have zz2:=frozen_of_heap HZ3.out 2
   have zz3:=frozen_of_heap HZ3.out 3
   obtain⟨b0,b1,b2,b3⟩:=ws_cells HX3.out
   have yy0:=frozen_of_heap HX3.out 0
   have yy1:=frozen_of_heap HX3.out 1
   have yy2:=frozen_of_heap HX3.out 2
   have yy3:=frozen_of_heap HX3.out 3
   have ne1:¬w.heap.size=w2.heap.size:=Nat.ne_of_lt hzl
   have ne2:¬w2.heap.size=w.heap.size:=fun h=>ne1 h.symm
   have hle2:=HBw.out.size
   clear hY hb3 hx3 hsz2
   go_wp2_with fail
   refine bodyPost_ret (v:=.tuple #[clV Y,.int .i64 ((at_+n+1:Nat):Int),.bool true]) (by simp [results,Tryz.results185,go_sem,a0,a1,a2,a3,hzl];first | rfl | exact⟨rfl,hl1⟩) rfl ?_
   refine⟨?_,Y,rfl,HY.out.ext (fun b=>(HB2.out hl1 b).symm)⟩
   exact (((((((HBz.out.setCell hle2 _).setCell hle2 _).setCell hle2 _).setCell hle2 _).setCell (Nat.le_refl _) _).setCell (Nat.le_refl _) _).setCell (Nat.le_refl _) _).setCell (Nat.le_refl _) _
  have hpl:=br_plain hc (fun l1 h=>hhat ⟨l1,h⟩)
  obtain⟨hb1,hb2⟩:=hpl
  obtain⟨l0,hl0⟩:∃l0,(s.data.toList.drop at_).take n=l0:=⟨_,rfl⟩
  rw [hl0] at HC hb1 hb2 hhat
  have hnp:Lib.hasPrefix l0 [94]=false:=by
   cases hq:Lib.hasPrefix l0 [94]
   ·rfl
   exfalso
   rcases l0 with _ | ⟨c0,l0⟩
   ·simp [Lib.hasPrefix] at hq
   refine hhat ⟨l0,?_⟩
   rw [pre94 hq]
  rw [hnp,show Lib.trimPrefix l0 [94]=l0 by rw [Lib.trimPrefix,hnp];rfl] at HC
  have HO:=hid (fun W=>so_ofA ⟨l0.toArray⟩ W (by have h1:=congrArg List.length hl0;rw [List.length_take,List.length_drop,len_toList] at h1;show l0.toArray.size≤1048576;rw [List.size_toArray];omega))
  have HB2:=hid hb2
  have HB1:=hid hb1
  have hnat:IntKind.i64.wrap ((at_:Int)+(n:Int)+1)=((at_+n+1:Nat):Int):=by rw [IntKind.wrap_i64];omega
  clear hb1 hb2 hl0 hc he hx0 hmx hnp hhat
  by_cases hl1:l0=[]
  ·simp only [if_pos (HB1.out.2 hl1)]
   subst hl1
   go_enter Tryz.func185,Tryz.ntmps185
   go_wp2_with (first
    | (go_at_call 217;refine (HX.out _).mono ?_;rintro e w' ⟨rfl,rfl⟩)
    | (go_at_call 218;refine (HC.out _).mono ?_;rintro e w' ⟨rfl,rfl⟩)
    | (go_at_call 219;refine (HO.out _).mono ?_;rintro e w2 ⟨X,rfl,hX,hb⟩;have HXX:=hid hX;have HBw:=hid (((Below.refl _ w).alloc (Nat.le_refl _) _).trans (hb.mono (by simp)));obtain⟨hz,hzl⟩:=zero_cells (X:=fun _=>0) hb;have HZ2:=hid hz;obtain⟨a0,a1,a2,a3⟩:=ws_cells HZ2.out;have zz0:=frozen_of_heap HZ2.out 0;have zz1:=frozen_of_heap HZ2.out 1;have zz2:=frozen_of_heap HZ2.out 2;have zz3:=frozen_of_heap HZ2.out 3;have ne1:¬w.heap.size=w2.heap.size:=Nat.ne_of_lt hzl;have ne2:¬w2.heap.size=w.heap.size:=fun h=>ne1 h.symm;clear hX hb hz))
   refine bodyPost_ret (v:=.tuple #[clV X,.int .i64 ((at_+n+1:Nat):Int),.bool false]) (by simp [results,Tryz.results185,go_sem,a0,a1,a2,a3,hzl];first | rfl | exact⟨rfl,hl1⟩) rfl ?_
   refine⟨?_,X,_,rfl⟩
   exact ((((HBw.out.setCell (Nat.le_refl _) _).setCell (Nat.le_refl _) _).setCell (Nat.le_refl _) _).setCell (Nat.le_refl _) _).alloc (Nat.le_of_lt (by simp [World.setCell];exact hzl)) _
  simp only [if_neg (fun h=>hl1 (HB1.out.1 h))]
  have hne:=str_nonempty l0 hl1
  go_enter Tryz.func185,Tryz.ntmps185
  go_wp2_with (first
   | (go_at_call 217;refine (HX.out _).mono ?_;rintro e w' ⟨rfl,rfl⟩)
   | (go_at_call 218;refine (HC.out _).mono ?_;rintro e w' ⟨rfl,rfl⟩)
   | (go_at_call 219;refine (HO.out _).mono ?_;rintro e w2 ⟨X,rfl,hX,hb⟩;have HXX:=hid hX;have HBw:=hid (((Below.refl _ w).alloc (Nat.le_refl _) _).trans (hb.mono (by simp)));obtain⟨hz,hzl⟩:=zero_cells (X:=fun _=>0) hb;have HZ2:=hid hz;obtain⟨a0,a1,a2,a3⟩:=ws_cells HZ2.out;have zz0:=frozen_of_heap HZ2.out 0;have zz1:=frozen_of_heap HZ2.out 1;have zz2:=frozen_of_heap HZ2.out 2;have zz3:=frozen_of_heap HZ2.out 3;have ne1:¬w.heap.size=w2.heap.size:=Nat.ne_of_lt hzl;have ne2:¬w2.heap.size=w.heap.size:=fun h=>ne1 h.symm;clear hX hb hz))
  refine bodyPost_ret (v:=.tuple #[clV X,.int .i64 ((at_+n+1:Nat):Int),.bool true]) (by simp [results,Tryz.results185,go_sem,a0,a1,a2,a3,hzl];first | rfl | exact⟨rfl,hl1⟩) rfl ?_
  refine⟨?_,X,rfl,HXX.out.ext (fun b=>(HB2.out hl1 b).symm)⟩
  exact ((((HBw.out.setCell (Nat.le_refl _) _).setCell (Nat.le_refl _) _).setCell (Nat.le_refl _) _).setCell (Nat.le_refl _) _).alloc (Nat.le_of_lt (by simp [World.setCell];exact hzl)) _
end Go.Proofs.YtfkblpjfknfgbaaGreatDoor
