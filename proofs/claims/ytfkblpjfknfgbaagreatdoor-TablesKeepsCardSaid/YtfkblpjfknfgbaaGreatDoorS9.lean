/-
 Parts of the proof: AF16, AF22, FR12.
-/
import Derived.Test.YtfkblpjfknfgbaaGreatDoorRows
import Derived.Test.YtfkblpjfknfgbaaGreatDoorS8
import Derived.Test.YtfkblpjfknfgbaaGreatDoorS3
set_option linter.unusedVariables false
set_option linter.unusedSimpArgs false
set_option maxHeartbeats 8000000
set_option maxRecDepth 100000
open Go.Maps Go.RowKit
open Go.Lib (hid cell_of_heap frozen_of_heap)
open Go.World (block_lt_of_cell?)
namespace Go.Proofs.YtfkblpjfknfgbaaGreatDoor
theorem ClW.froz {w W:World} {b:Nat} {f k:Int} {cr:Bool} {fi n:Int} (h:ClW w W b f k cr fi n):W.frozen? ⟨b,0,none⟩=false∧W.frozen? ⟨b,1,none⟩=false∧W.frozen? ⟨b,2,none⟩=false∧W.frozen? ⟨b,3,none⟩=false∧W.frozen? ⟨b,4,none⟩=false:=⟨h.fz _,h.fz _,h.fz _,h.fz _,h.fz _⟩
theorem freshR_ok {F:Fl} {s:ByteArray} {f:Int} (hf:freshR F s=.ok f):f≠0∧0≤f∧f≤65535∧definedB F f=false:=by
 unfold freshR at hf
 have b:=oneF_bd F.kind s.data.toList
 have z:=oneF_pos F.kind s.data.toList
 split at hf
 ·cases hf
 rename_i h2
 split at hf
 ·cases hf
 rename_i h3
 injection hf with hf
 subst hf
 exact⟨z (by simpa using h2),b.1,b.2,by simpa using h3⟩
theorem head_rd2 {w:World} {L:List Nat} (hL:∀x∈L,x < w.heap.size) (s u:ByteArray):∀w',Kept L (w.alloc (.cells #[.string s,.string u] 9)) w'→Rd w' 1 (.slice (some ⟨w.heap.size,0,none⟩) 2 2) [s,u].length (strV [s,u]):=by
 intro w' hk
 refine⟨rfl,_,2,rfl,Nat.le_refl _,.inr ⟨_,0,rfl,fun j u hj=>?_⟩⟩
 have h1:=hk.at (heap_alloc_new w (.cells #[.string s,.string _] 9)) (fun hm=>absurd (hL _ hm) (by omega))
 rw [Nat.zero_add,cell_of_row _ w.heap.size j _ 9 (0,0) h1]
 simpa [strV] using hj
theorem so_class (w0:World) (L:List Nat) (i:Ids) (E:Int) (kh k:Nat) (S:Sx) (fv:Value) (row:List ByteArray) (m0:Int) (w:World) (h:RM w0 w L i E kh (k+1) S) (hr:RowF1 w0 fv row) (hl:row.length=4) (hm0:w0.cell? ⟨0,0,none⟩=some (.int .i64 m0)) :
  Calls Tryz.prog 82 #[.pointer (some ⟨i.rb,0,none⟩),fv] w (HeadP w0 L i E kh k (classR E S row) w):=by
 have HSz:=hid (fieldAt_le hr.each)
 obtain⟨g,o,c,rfl,hc,hcells⟩:=hr.cells (by omega)
 have HD:Hid (∀j,j < 4→∀W,Below w.heap.size w W→W.cell? ⟨g,o+j,none⟩=some (.string (fieldAt row j))):=hid (fun j hj W hW=>field_in (hcells j (by omega)) (h.base.trans (hW.mono h.base.size)))
 have HFR:Hid (∀W,Below w.heap.size w W→Calls Tryz.prog 113 #[.pointer (some ⟨i.rb,0,none⟩),.string (fieldAt row 1)] W (OutW S.line W (Value.int .u16) (freshR S.fl (fieldAt row 1)))):=hid (fun W hW=>so_fresh w0 L i E kh (k+1) S (fieldAt row 1) W (h.below hW) (Nat.le_trans (HSz.out 1) (by decide)))
 have HMu:Hid (∀W b c,Below w.heap.size w W→c≠0→Calls Tryz.prog 46 #[.pointer (some ⟨i.rb,0,none⟩),.bool b,.int .i64 c] W (MustP b S.line c W)):=hid (fun W b c hb hc=>so_must i.rb S.line b c W hc (h.below hb).r2)
 have HNu:Hid (∀W,Below w.heap.size w W→Calls Tryz.prog 114 #[.pointer (some ⟨i.rb,0,none⟩),.string (fieldAt row 3),.int .i64 1024] W (OutW S.line W (Value.int .i64) (numR_ (fieldAt row 3) 1024))):=hid (fun W hW=>so_rdNumber i.rb S.line (fieldAt row 3) 1024 W (Nat.le_trans (HSz.out 3) (by unfold maxLen;omega)) (by decide) (by decide) (h.below hW).r2)
 have HH:=hid h
 have HM0:=hid hm0
 obtain⟨hbd,v,hm⟩:=h
 obtain⟨rs,hrs1,hrs2,hrs3⟩:=hm.rls
 obtain⟨AR,cpR,hvR⟩:=own_slice hrs2.1
 have hlr:rs.length=S.fl.rls.length:=by rw [←hrs1];simp
 have HS:Hid (∀W,Below w.heap.size w W→W.cell? ⟨i.rb,0,none⟩=some (.pointer (some ⟨i.fb,0,none⟩))∧W.cell? ⟨i.fb,12,none⟩=some (.slice AR S.fl.rls.length cpR)∧W.cell? ⟨g,o+1,none⟩=some (.string (fieldAt row 1))):=hid (fun W hW=>⟨(hm.below hW).r0,by rw [(hm.below hW).f12,hvR,hlr],HD.out 1 (by decide) W hW⟩)
 rw [hl] at hc ⊢
 have HM:=hid hm
 have HB:=hid hbd
 have HR2:=hid hr
 have HD0:Hid (∀j,j < 4→w0.cell? ⟨g,o+j,none⟩=some (.string (fieldAt row j))):=hid (fun j hj=>hcells j (by omega))
 clear hcells hr hm0 hm hbd hrs1 hrs2 hrs3 hvR hlr rs
 cases hfr:freshR S.fl (fieldAt row 1) with
 | error e =>
  have HRe:Hid (classR E S row=.error (S.line,e)):=hid (by rw [classR,hfr])
  rw [hfr] at HFR
  unfold OutW at HFR
  clear hfr
  go_enter Tryz.func82,Tryz.ntmps82
  go_wp2_with fail
  refine wp_region_held_drew (S:=fun W'=>W'.cell? ⟨i.rb,0,none⟩=some (.pointer (some ⟨i.fb,0,none⟩))∧W'.cell? ⟨i.fb,12,none⟩=some (.slice AR S.fl.rls.length cpR)∧W'.cell? ⟨g,o+1,none⟩=some (.string (fieldAt row 1))) (by kernel_rfl) ?_ (fun hHeld=>?_)
  ·exact HS.out _ drew_below
  refine tkA 0 (some 6) hHeld ?_;try simp only [put_norm]
  refine tkA 1 (some 7) hHeld ?_;try simp only [put_norm]
  refine tkA 2 (some 8) hHeld ?_;try simp only [put_norm]
  refine tkA 3 (some 9) hHeld ?_;try simp only [put_norm]
  refine tkA 5 (some 11) hHeld ?_;try simp only [put_norm]
  refine tkA 6 (some 12) hHeld ?_;try simp only [put_norm]
  refine tkA 7 (some 13) hHeld ?_;try simp only [put_norm]
  refine tkA 8 (some 14) hHeld ?_;try simp only [put_norm]
  refine tkA 9 (some 15) hHeld ?_;try simp only [put_norm]
  refine tkA 10 (some 16) hHeld ?_;try simp only [put_norm]
  refine tkA 11 (some 17) hHeld ?_;try simp only [put_norm]
  refine tkA 12 (some 18) hHeld ?_;try simp only [put_norm]
  refine tkA 13 (some 19) hHeld ?_;try simp only [put_norm]
  refine wpAnyH_ready (rs:=[4,15]) (by kernel_rfl) (by simp) ?_
  refine AllReadyH.cons rfl (fun K hK=>?_) ?_
  ·go_simp
   refine (HFR.out _ (by first | exact drew_below | exact drew_below.alloc (Nat.le_refl _) _)).mono ?_
   rintro e w1 ⟨hb,rfl⟩
   exact⟨rfl,L,Go2.of_below (by first | exact drew_below.trans hb | exact (drew_below.alloc (Nat.le_refl _) _).trans (hb.mono (by simp))),by rw [HRe.out]⟩
  refine AllReadyH.cons rfl (fun K hK=>?_) ?_
  ·go_simp
   refine hK.out _ _ ?_ (fun hHeld=>?_)
   ·first | exact HS.out _ (drew_below.alloc (Nat.le_refl _) _)
   clear hK K
   refine rdy1 4 (fun K hK=>?_)
   go_simp
   refine (HFR.out _ (by first | exact drew_below | exact drew_below.alloc (Nat.le_refl _) _)).mono ?_
   rintro e w1 ⟨hb,rfl⟩
   exact⟨rfl,L,Go2.of_below (by first | exact drew_below.trans hb | exact (drew_below.alloc (Nat.le_refl _) _).trans (hb.mono (by simp))),by rw [HRe.out]⟩
  exact AllReadyH.nil
 | ok f =>
  obtain⟨f0,f1,f2,f3⟩:f≠0∧0≤f∧f≤65535∧definedB S.fl f=false:=freshR_ok hfr
  have HF:=hid (⟨f0,f1,f2,f3⟩:f≠0∧0≤f∧f≤65535∧definedB S.fl f=false)
  rw [hfr] at HFR
  unfold OutW at HFR
  clear f0 f1 f2 f3
  obtain⟨R,hR⟩:∃R,classR E S row=R:=⟨_,rfl⟩
  have HR0:Hid (R=if fieldAt row 2≠⟨#[89]⟩∧fieldAt row 2≠⟨#[78]⟩ then .error (S.line,114)
  else if numErr (fieldAt row 3).data.toList 1024≠0 then .error (S.line,13)
  else if 1024 < (S.fl.rls.length:Int)+numVal (fieldAt row 3).data.toList 1024 then .error (S.line,117)
  else groupR E (fun r=>decide (r.take 2=[fieldAt row 0,fieldAt row 1])) (ruleIn ⟨f,if fieldAt row 0=kSFX then 2 else 1,decide (fieldAt row 2=⟨#[89]⟩),S.fl.rls.length,numVal (fieldAt row 3).data.toList 1024⟩)
   (numVal (fieldAt row 3).data.toList 1024).toNat { S with fl:={ S.fl with cls:=S.fl.cls++[⟨f,if fieldAt row 0=kSFX then 2 else 1,decide (fieldAt row 2=⟨#[89]⟩),S.fl.rls.length,numVal (fieldAt row 3).data.toList 1024⟩] } }):=hid (by rw [←hR,classR,hfr])
  rw [hR]
  clear hR hfr
  obtain⟨Kd,hKd⟩:∃k:Int,(if fieldAt row 0=kSFX then (2:Int) else 1)=k:=⟨_,rfl⟩
  rw [hKd] at HR0
  have HKd:=hid hKd
  clear hKd
  obtain⟨fi,hfi⟩:∃n:Nat,S.fl.rls.length=n:=⟨_,rfl⟩
  have HFi:=hid hfi
  rw [hfi] at HS HR0
  have hfi2:fi≤65536:=by have:=HB.out.rls;omega
  clear hfi
  have HC0:Hid (∀W:World,Below w.heap.size w W→ClW w (W.alloc (.cells #[.int .u16 f,.int .i64 1,.bool false,.int .i64 (fi:Int),.int .i64 0] 99)) W.heap.size f 1 false fi 0):=hid (fun W hW=>ClW.fresh_ hW)
  have HC1:Hid (∀W:World,Below w.heap.size w W→ClW w (W.alloc (.cells #[.int .u16 0,.int .i64 0,.bool false,.int .i64 0,.int .i64 0] 99)) W.heap.size 0 0 false 0 0):=hid (fun W hW=>ClW.fresh_ hW)
  go_enter Tryz.func82,Tryz.ntmps82
  go_upto_region 0 with fail
  go_cut [4] from 6 to 20 (fun p W=>∃b,p=.pointer (some ⟨b,0,none⟩)∧Hid (ClW w W b f 1 false (fi:Int) 0))
  case first =>
   go_wp2_with fail
   refine wp_region_held_drew (S:=fun W'=>W'.cell? ⟨i.rb,0,none⟩=some (.pointer (some ⟨i.fb,0,none⟩))∧W'.cell? ⟨i.fb,12,none⟩=some (.slice AR fi cpR)∧W'.cell? ⟨g,o+1,none⟩=some (.string (fieldAt row 1))) (by kernel_rfl) ?_ (fun hHeld=>?_)
   ·exact HS.out _ drew_below
   refine tkA 0 (some 6) hHeld ?_;try simp only [put_norm]
   refine tkA 1 (some 7) hHeld ?_;try simp only [put_norm]
   refine tkA 2 (some 8) hHeld ?_;try simp only [put_norm]
   refine tkA 3 (some 9) hHeld ?_;try simp only [put_norm]
   refine tkA 5 (some 11) hHeld ?_;try simp only [put_norm]
   refine tkA 6 (some 12) hHeld ?_;try simp only [put_norm]
   refine tkA 7 (some 13) hHeld ?_;try simp only [put_norm]
   refine tkA 8 (some 14) hHeld ?_;try simp only [put_norm]
   refine tkA 9 (some 15) hHeld ?_;try simp only [put_norm]
   refine tkA 10 (some 16) hHeld ?_;try simp only [put_norm]
   refine tkA 11 (some 17) hHeld ?_;try simp only [put_norm]
   refine tkA 12 (some 18) hHeld ?_;try simp only [put_norm]
   refine tkA 13 (some 19) hHeld ?_;try simp only [put_norm]
   refine wpAnyH_ready (rs:=[4,15]) (by kernel_rfl) (by simp) ?_
   refine AllReadyH.cons rfl (fun K hK=>?_) ?_
   ·go_simp
    refine (HFR.out _ (by first | exact drew_below | exact drew_below.alloc (Nat.le_refl _) _)).mono ?_
    rintro e w1 ⟨hb,rfl⟩
    have HB1:Hid (Below w.heap.size w w1):=hid (by first | exact drew_below.trans hb | exact (drew_below.alloc (Nat.le_refl _) _).trans (hb.mono (by simp)))
    try (have HCz:Hid (ClW w w1 w.heap.size 0 0 false 0 0):=hid ((HC1.out w.drew drew_below).later hb))
    clear hb
    refine hK.out _ _ ?_ (fun hHeld=>?_)
    ·exact HS.out _ HB1.out
    refine tkA 14 (some 20) hHeld ?_;try simp only [put_norm]
    refine rdy1 15 (fun K hK=>?_)
    go_simp
    refine hK.out _ _ ?_ (fun hHeld=>?_)
    ·first | exact HS.out _ (drew_below.alloc (Nat.le_refl _) _) | exact HS.out _ (HB1.out.alloc HB1.out.size _)
    clear hK K
    refine rdy1 16 (fun K hK=>?_)
    try (have q0:=HCz.out.c0;have q1:=HCz.out.c1;have q2:=HCz.out.c2;have q3:=HCz.out.c3;have q4:=HCz.out.c4;obtain⟨z0,z1,z2,z3,z4⟩:=HCz.out.froz)
    go_simp
    refine hK.out _ _ ?_ (fun hHeld=>?_)
    ·first | exact HS.out _ (HB1.out.alloc HB1.out.size _) | exact HS.out _ (HCz.out.fill f 1 false fi 0).below
    clear hK K
    refine wpAnyH_done (by kernel_rfl) ?_ _
    go_wp2_with fail
    go_meet
    first | exact⟨_,rfl,hid (HC0.out _ HB1.out)⟩ | exact⟨_,rfl,hid (HCz.out.fill f 1 false fi 0)⟩
   refine AllReadyH.cons rfl (fun K hK=>?_) ?_
   ·go_simp
    refine hK.out _ _ ?_ (fun hHeld=>?_)
    ·first | exact HS.out _ (drew_below.alloc (Nat.le_refl _) _) | exact HS.out _ (HB1.out.alloc HB1.out.size _)
    clear hK K
    refine rdy1 4 (fun K hK=>?_)
    go_simp
    refine (HFR.out _ (by first | exact drew_below | exact drew_below.alloc (Nat.le_refl _) _)).mono ?_
    rintro e w1 ⟨hb,rfl⟩
    have HB1:Hid (Below w.heap.size w w1):=hid (by first | exact drew_below.trans hb | exact (drew_below.alloc (Nat.le_refl _) _).trans (hb.mono (by simp)))
    try (have HCz:Hid (ClW w w1 w.heap.size 0 0 false 0 0):=hid ((HC1.out w.drew drew_below).later hb))
    clear hb
    refine hK.out _ _ ?_ (fun hHeld=>?_)
    ·exact HS.out _ HB1.out
    clear hK K
    refine tkA 14 (some 20) hHeld ?_;try simp only [put_norm]
    refine rdy1 16 (fun K hK=>?_)
    try (have q0:=HCz.out.c0;have q1:=HCz.out.c1;have q2:=HCz.out.c2;have q3:=HCz.out.c3;have q4:=HCz.out.c4;obtain⟨z0,z1,z2,z3,z4⟩:=HCz.out.froz)
    go_simp
    refine hK.out _ _ ?_ (fun hHeld=>?_)
    ·first | exact HS.out _ (HB1.out.alloc HB1.out.size _) | exact HS.out _ (HCz.out.fill f 1 false fi 0).below
    clear hK K
    refine wpAnyH_done (by kernel_rfl) ?_ _
    go_wp2_with fail
    go_meet
    first | exact⟨_,rfl,hid (HC0.out _ HB1.out)⟩ | exact⟨_,rfl,hid (HCz.out.fill f 1 false fi 0)⟩
   exact AllReadyH.nil
  case rest =>
  obtain⟨b,rfl,HC2⟩:=hcut
  have d0:=HD.out 0 (by decide) _ HC2.out.below
  rw [Nat.add_zero] at d0
  have fz1:=HC2.out.fz 1
  have cz1:=HC2.out.c1
  obtain⟨Bz,hBz⟩:∃B,((fieldAt row 0).toList==[83,70,88])=B:=⟨_,rfl⟩
  go_upto_if 24 with fail
  go_cut [] from 25 to 25 (fun W=>Hid (ClW w W b f Kd false (fi:Int) 0))
  case first =>
   cases Bz
   ·have hk:Kd=1:=by
     rw [←HKd.out,if_neg]
     intro e
     rw [e,Lib.toList_data] at hBz
     exact absurd hBz (by decide)
    subst hk
    go_wp2_with fail
    all_goals go_meet
    all_goals exact HC2
   have hk:Kd=2:=by
    rw [←HKd.out,if_pos]
    exact ((mk_eq_iff [83,70,88] (fieldAt row 0)).2 (eq_of_beq hBz).symm).symm
   subst hk
   go_wp2_with fail
   all_goals go_meet
   all_goals exact hid (HC2.out.setKind 2)
  case rest =>
  have HC3:=hcut
  clear hcut HC2 d0 fz1 cz1 hBz
  have d2:=HD.out 2 (by decide) _ HC3.out.below
  have d3:=HD.out 3 (by decide) _ HC3.out.below
  by_cases hYN:fieldAt row 2≠⟨#[89]⟩∧fieldAt row 2≠⟨#[78]⟩
  ·have HRe:Hid (R=.error (S.line,114)):=hid (by rw [HR0.out,if_pos hYN])
   have e1:=str_ne _ [89] hYN.1
   have e2:=str_ne _ [78] hYN.2
   clear hYN
   go_wp2_with fail
   refine (HMu.out _ _ _ HC3.out.below (by decide)).mono ?_
   rintro e w9 ⟨⟨hx,-⟩ | ⟨-,rfl⟩,rfl⟩
   ·exact absurd hx (by simp)
   exact⟨rfl,L,Go2.of_below HC3.out.below,by rw [HRe.out]⟩
  obtain⟨cr,hcr⟩:∃B,((fieldAt row 2).toList==[89])=B:=⟨_,rfl⟩
  have hcr2:decide (fieldAt row 2=⟨#[89]⟩)=cr:=by
   rw [←hcr,Bool.eq_iff_iff,decide_eq_true_iff,beq_iff_eq]
   exact⟨fun e=>((mk_eq_iff [89] _).1 e.symm).symm,fun e=>((mk_eq_iff [89] (fieldAt row 2)).2 e.symm).symm⟩
  have hN:cr=false→((fieldAt row 2).toList==[78])=true:=fun h=>by
   have hy:fieldAt row 2≠⟨#[89]⟩:=by rw [h] at hcr2;simpa using hcr2
   have hn:fieldAt row 2=⟨#[78]⟩:=Classical.not_not.1 (fun e=>hYN ⟨hy,e⟩)
   rw [beq_iff_eq];exact ((mk_eq_iff [78] _).1 hn.symm).symm
  have HNN:=hid hN
  have HR1:=HR0.out
  rw [if_neg hYN,hcr2] at HR1
  have HR4:=hid HR1
  clear hYN hN hcr2 HR1 HR0
  go_upto_region 3 with fail
  go_cut [] from 26 to 37 (fun W=>W=wc)
  case first =>
   cases cr
   ·have e2:=HNN.out rfl
    go_wp2_with (go_at_call 46;refine (HMu.out _ _ _ HC3.out.below (by decide)).mono ?_;rintro e w9 ⟨⟨-,rfl⟩ | ⟨hx,-⟩,rfl⟩)
    all_goals go_meet
    all_goals rfl
   go_wp2_with (go_at_call 46;refine (HMu.out _ _ _ HC3.out.below (by decide)).mono ?_;rintro e w9 ⟨⟨-,rfl⟩ | ⟨hx,-⟩,rfl⟩)
   all_goals go_meet
   all_goals rfl
  case rest =>
  subst hcut
  have cz2:=HC3.out.c2
  have fz2:=HC3.out.fz 2
  go_upto_region 5 with fail
  have HC4:=hid (HC3.out.setCross cr)
  have d3':=HD.out 3 (by decide) _ HC4.out.below
  have HN4:=hid (HNu.out _ HC4.out.below)
  clear cz2 fz2 d2 d3
  unfold numR_ at HN4
  rcases numErr_13 (fieldAt row 3).data.toList 1024 with hq | hq
  rotate_left
  ·have HRe:Hid (R=.error (S.line,13)):=hid (by rw [HR4.out,if_pos (by rw [hq];decide)])
   rw [if_pos (by rw [hq];decide)] at HN4
   unfold OutW at HN4
   clear hq
   go_wp2_with fail
   refine HN4.out.mono ?_
   rintro e w5 ⟨hb5,rfl⟩
   exact⟨rfl,L,Go2.of_below (HC4.out.below.trans (hb5.mono HC4.out.below.size)),by rw [HRe.out]⟩
  have hq0:¬(numErr (fieldAt row 3).data.toList 1024≠0):=by rw [hq];decide
  have HR5:=hid HR4.out
  rw [if_neg hq0] at HN4 HR5
  unfold OutW at HN4
  clear hq HR4 hq0
  obtain⟨b0,b1⟩:=numVal_bd (fieldAt row 3).data.toList 1024 (by decide)
  obtain⟨n,hn⟩:∃n:Nat,numVal (fieldAt row 3).data.toList 1024=n:=⟨_,(Int.toNat_of_nonneg b0).symm⟩
  rw [hn] at HN4 HR5 b1
  rw [Int.toNat_natCast] at HR5
  have hn2:n≤1024:=by omega
  clear hn b0 b1
  have hwr:IntKind.i64.wrap ((fi:Int)+(n:Int))=(fi:Int)+(n:Int):=by rw [IntKind.wrap_i64];omega
  by_cases hsum:(1024:Int) < (fi:Int)+(n:Int)
  ·have HRe:Hid (R=.error (S.line,117)):=hid (by rw [HR5.out,if_pos hsum])
   go_wp2_with (go_at_call 114;refine HN4.out.mono ?_;rintro e w5 ⟨hb5,rfl⟩;have HC5:=hid (HC4.out.later hb5);have cz3:=HC5.out.c3;have cz4:=HC5.out.c4;have fz4:=HC5.out.fz 4;clear hb5)
   have HC6:=hid (HC5.out.setCount (n:Int))
   refine (HMu.out _ _ _ HC6.out.below (by decide)).mono ?_
   rintro e w9 ⟨⟨hx,-⟩ | ⟨-,rfl⟩,rfl⟩
   ·exact absurd hx (by simp;omega)
   exact⟨rfl,L,Go2.of_below HC6.out.below,by rw [HRe.out]⟩
  have HR6:=hid HR5.out
  rw [if_neg hsum] at HR6
  clear HR5
  have hsum2:(fi:Int)+(n:Int)≤1024:=by omega
  clear hsum
  go_upto_region 6 with (go_at_call 114;refine HN4.out.mono ?_;rintro e w5 ⟨hb5,rfl⟩;have HC5:=hid (HC4.out.later hb5);have cz3:=HC5.out.c3;have cz4:=HC5.out.c4;have fz4:=HC5.out.fz 4;clear hb5)
  have HC6:=hid (HC5.out.setCount (n:Int))
  go_cut [] from 26 to 56 (fun W=>Hid (ClW w W b f Kd cr (fi:Int) (n:Int)))
  case first =>
   go_wp2_with (go_at_call 46;refine (HMu.out _ _ _ HC6.out.below (by decide)).mono ?_;rintro e w9 ⟨⟨-,rfl⟩ | ⟨hx,-⟩,rfl⟩)
   all_goals go_meet
   all_goals exact HC6
  case rest =>
  have HMq:=hid (HM.out.below hcut.out.below)
  have HCb:=hid (hcut.out.cb (fun x hx=>(HM.out.hl x hx).2))
  have HGq:=hid (Go2.of_below (L:=L) hcut.out.below)
  clear hcut hwr hsum2 d3'
  obtain⟨f0,f1,f2,f3⟩:=HF.out
  have HT0:Hid (takenF S.fl f=0):=hid (by unfold takenF;rw [if_neg f0,f3];rfl)
  go_upto_region 7 with fail
  go_cut [] from 57 to 64 (fun W=>Hid (RMv w0 W L i v E S (S.fl.rls.map (·.line)) (fun t=>if t=f then 1 else takenF S.fl t) (nzF S.fl+S.fl.cls.length+1) (clsIx S.fl.cls) S.fl.cls.length)∧Hid (ClB W L b ⟨f,Kd,cr,(fi:Int),(n:Int)⟩)∧Hid (Go2 L w L W))
  case first =>
   have c5:=HMq.out.r5
   obtain⟨k0,-⟩:=HCb.out.cells
   have hlk:=(HMq.out.below (drew_below (w:=wc))).taken.look f ⟨f1,f2⟩
   rw [HT0.out] at hlk
   obtain⟨w7,hst,hcn,hkp⟩:=(HMq.out.below (drew_below (w:=wc))).taken.store f ⟨f1,f2⟩ 1 (by decide) (by have:=HB.out.cls;unfold nzF nz1;(repeat' split)<;>omega)
   have HM7:=hid ((HMq.out.below (drew_below (w:=wc))).setTaken hkp hcn)
   have HG7:=hid (show Go2 L wc L w7 from (Go2.of_below drew_below).trans ⟨hkp.mono (by intro x hx;simp at hx;subst hx;exact HMq.out.tbL),fun x hx=>.inl hx⟩)
   clear hcn hkp
   go_wp2_with fail
   go_region
   all_goals go_wp2_with fail
   all_goals go_meet
   all_goals exact⟨HM7,hid (HCb.out.go HG7.out),hid (HGq.out.trans HG7.out)⟩
  case rest =>
  obtain⟨HM8,HC8,HG8⟩:=hcut
  clear HMq HCb HGq HT0
  go_upto_region 8 with fail
  go_cut [] from 57 to 82 (fun W=>Hid (RMv w0 W L i v E S (S.fl.rls.map (·.line)) (fun t=>if t=f then 1 else takenF S.fl t) (nzF S.fl+S.fl.cls.length+1) (fun t=>if t=f then some S.fl.cls.length else clsIx S.fl.cls t) (S.fl.cls.length+1))∧Hid (ClB W L b ⟨f,Kd,cr,(fi:Int),(n:Int)⟩)∧Hid (Go2 L w L W))
  case first =>
   have c0:=HM8.out.r0
   have c11:=HM8.out.f11
   have c13:=HM8.out.f13
   obtain⟨A8,cp8,hv8⟩:=own_slice HM8.out.cls.1
   rw [hv8] at c11
   obtain⟨k0,-⟩:=HC8.out.cells
   obtain⟨w9,hst,hcn,hkp⟩:=(HM8.out.below (drew_below (w:=wc))).cmap.store f ⟨f1,f2⟩ S.fl.cls.length (by have:=HB.out.cls;omega) (by have:=HB.out.cls;omega)
   have HM9:=hid ((HM8.out.below (drew_below (w:=wc))).setCmap hkp hcn)
   have HG9:=hid (show Go2 L wc L w9 from (Go2.of_below drew_below).trans ⟨hkp.mono (by intro x hx;simp at hx;subst hx;exact HM8.out.mbL),fun x hx=>.inl hx⟩)
   clear hcn hkp hv8
   go_wp2_with fail
   go_region
   all_goals go_wp2_with fail
   all_goals go_meet
   all_goals exact⟨HM9,hid (HC8.out.go HG9.out),hid (HG8.out.trans HG9.out)⟩
  case rest =>
  obtain⟨HM10,HC10,HG10⟩:=hcut
  clear HM8 HC8 HG8
  go_upto_region 9 with fail
  go_cut [] from 57 to 100 (fun W=>∃L',Hid (RM w0 W L' i E kh k { S with fl:={ S.fl with cls:=S.fl.cls++[⟨f,Kd,cr,(fi:Int),(n:Int)⟩] } })∧Hid (ClB W L' b ⟨f,Kd,cr,(fi:Int),(n:Int)⟩)∧Hid (Go2 L w L' W))
  case first =>
   obtain⟨ic,hi,hz0,hz1,hz2⟩:=info_parts class_info2
   obtain⟨A3,cp3,hv3⟩:=own_slice HM10.out.cls.1
   have c0:=HM10.out.r0
   have c9:=HM10.out.f11
   rw [hv3] at c9
   have HO3:=hid HM10.out.cls.1
   rw [hv3] at HO3
   have hfl3:=(HM10.out.hl _ HM10.out.fbL).2
   have HV3:=hid hv3
   have hcl3:S.fl.cls.length≤65536:=by have:=HB.out.cls;omega
   have HSs:Hid (∀W,Below wc.heap.size wc W→(W.cell? ⟨i.rb,0,none⟩=some (.pointer (some ⟨i.fb,0,none⟩))∧W.cell? ⟨b,0,none⟩=some (.int .u16 f)∧W.cell? ⟨b,1,none⟩=some (.int .i64 Kd)∧W.cell? ⟨b,2,none⟩=some (.bool cr)∧W.cell? ⟨b,3,none⟩=some (.int .i64 (fi:Int))∧W.cell? ⟨b,4,none⟩=some (.int .i64 (n:Int)))):=hid (fun W hW=>⟨(HM10.out.below hW).r0,(HC10.out.go (Go2.of_below hW)).cells⟩)
   clear hv3
   go_wp2_with fail
   refine wp_region_held_drew (S:=fun W'=>W'.cell? ⟨i.rb,0,none⟩=some (.pointer (some ⟨i.fb,0,none⟩))∧W'.cell? ⟨b,0,none⟩=some (.int .u16 f)∧W'.cell? ⟨b,1,none⟩=some (.int .i64 Kd)∧W'.cell? ⟨b,2,none⟩=some (.bool cr)∧W'.cell? ⟨b,3,none⟩=some (.int .i64 (fi:Int))∧W'.cell? ⟨b,4,none⟩=some (.int .i64 (n:Int))) (by kernel_rfl) ?_ (fun hHeld=>?_)
   ·exact HSs.out _ drew_below
   refine tkA 0 (some 83) hHeld ?_;try simp only [put_norm]
   refine tkA 1 (some 84) hHeld ?_;try simp only [put_norm]
   refine tkA 2 (some 85) hHeld ?_;try simp only [put_norm]
   refine tkA 3 (some 86) hHeld ?_;try simp only [put_norm]
   refine tkA 4 (some 87) hHeld ?_;try simp only [put_norm]
   refine tkA 5 (some 88) hHeld ?_;try simp only [put_norm]
   refine tkA 6 (some 89) hHeld ?_;try simp only [put_norm]
   refine tkA 7 (some 90) hHeld ?_;try simp only [put_norm]
   refine tkA 8 (some 91) hHeld ?_;try simp only [put_norm]
   refine tkA 9 (some 92) hHeld ?_;try simp only [put_norm]
   refine tkA 10 (some 93) hHeld ?_;try simp only [put_norm]
   refine tkA 12 (some 95) hHeld ?_;try simp only [put_norm]
   refine wpAnyH_ready (rs:=[11,13]) (by kernel_rfl) (by simp) ?_
   refine AllReadyH.cons rfl (fun K hK=>?_) ?_
   ·go_simp
    refine hK.out _ _ ?_ (fun hHeld=>?_)
    ·first | exact HSs.out _ drew_below | exact HSs.out _ (drew_below.alloc (Nat.le_refl _) _) | exact⟨HMF.out.r0,HCF.out.cells⟩
    clear hK K
    refine rdy1 13 (fun K hK=>?_)
    go_simp
    refine hK.out _ _ ?_ (fun hHeld=>?_)
    ·first | exact HSs.out _ drew_below | exact HSs.out _ (drew_below.alloc (Nat.le_refl _) _) | exact⟨HMF.out.r0,HCF.out.cells⟩
    clear hK K
    refine rdy1 14 (fun K hK=>?_)
    refine step_pushL (w:=wc.drew) (by rfl) _ _ 80 (by rfl) 0 99 ic _ 5 40 Tryz.underlying80 hi hz0 hz1 hz2 rfl (by decide) (.slice A3 S.fl.cls.length cp3) S.fl.cls.length _ (by rfl) HO3.out #[.int .u16 f,.int .i64 Kd,.bool cr,.int .i64 (fi:Int),.int .i64 (n:Int)] (by rfl) (by intro x hx;simp at hx;rcases hx with rfl | rfl | rfl | rfl | rfl<;>rfl) (by rfl) (by unfold maxLen;omega) (by omega) (Nat.zero_le _) ?_
    intro gg cc w9 hown hg9 hloc
    rw [←HV3.out] at hg9 hloc
    obtain⟨L9,hG9,hM9⟩:=(HM10.out.below drew_below).push_cls ⟨f,Kd,cr,(fi:Int),(n:Int)⟩ hg9 hloc hown
    have hf9:=(HM10.out.below (drew_below (w:=wc))).file_grown hg9 ((HM10.out.below (drew_below (w:=wc))).ty_cls) (by decide)
    have hr9:=(HM10.out.below (drew_below (w:=wc))).rdr_grown hg9 ((HM10.out.below (drew_below (w:=wc))).ty_cls) (by decide)
    have hb9:=(HC10.out.go (Go2.of_below (drew_below (w:=wc)))).grown hg9 HM10.out.cls.2
    have c9'':w9.cell? ⟨i.fb,11,none⟩=some (.slice A3 S.fl.cls.length cp3):=by rw [cell_of_heap hf9];exact congrArg some HV3.out
    have z9:w9.frozen? ⟨i.fb,11,none⟩=false:=frozen_of_heap hf9 11
    have HMF:=hid hM9
    have HG9:=hid hG9
    have HCF:=hid ((HC10.out.go (Go2.of_below drew_below)).go hG9)
    have HS9:Hid (w9.cell? ⟨i.rb,0,none⟩=some (.pointer (some ⟨i.fb,0,none⟩))∧w9.cell? ⟨b,0,none⟩=some (.int .u16 f)∧w9.cell? ⟨b,1,none⟩=some (.int .i64 Kd)∧w9.cell? ⟨b,2,none⟩=some (.bool cr)∧w9.cell? ⟨b,3,none⟩=some (.int .i64 (fi:Int))∧w9.cell? ⟨b,4,none⟩=some (.int .i64 (n:Int))):=hid ⟨by rw [cell_of_heap hr9];rfl,cl_cells hb9⟩
    clear hown hg9 hloc hG9 hM9 hf9 hr9 hb9
    refine hK.out _ _ ?_ (fun hHeld=>?_)
    ·exact HS9.out
    clear hK K
    refine tkA 15 (some 98) hHeld ?_;try simp only [put_norm]
    refine tkA 16 (some 99) hHeld ?_;try simp only [put_norm]
    refine tkA 17 (some 100) hHeld ?_;try simp only [put_norm]
    refine rdy1 18 (fun K hK=>?_)
    go_simp
    refine hK.out _ _ ?_ (fun hHeld=>?_)
    ·first | exact HSs.out _ drew_below | exact HSs.out _ (drew_below.alloc (Nat.le_refl _) _) | exact⟨HMF.out.r0,HCF.out.cells⟩
    clear hK K
    refine wpAnyH_done (by kernel_rfl) ?_ _
    go_wp2_with fail
    go_meet
    exact⟨_,hid (RM.of_cls HB.out ⟨by show 0 < f;omega,f2⟩ f3 HMF.out),HCF,hid ((HG10.out.trans (Go2.of_below drew_below)).trans HG9.out)⟩
   refine AllReadyH.cons rfl (fun K hK=>?_) ?_
   ·go_simp
    refine hK.out _ _ ?_ (fun hHeld=>?_)
    ·first | exact HSs.out _ drew_below | exact HSs.out _ (drew_below.alloc (Nat.le_refl _) _) | exact⟨HMF.out.r0,HCF.out.cells⟩
    clear hK K
    refine rdy1 11 (fun K hK=>?_)
    go_simp
    refine hK.out _ _ ?_ (fun hHeld=>?_)
    ·first | exact HSs.out _ drew_below | exact HSs.out _ (drew_below.alloc (Nat.le_refl _) _) | exact⟨HMF.out.r0,HCF.out.cells⟩
    clear hK K
    refine rdy1 14 (fun K hK=>?_)
    refine step_pushL (w:=wc.drew) (by rfl) _ _ 80 (by rfl) 0 99 ic _ 5 40 Tryz.underlying80 hi hz0 hz1 hz2 rfl (by decide) (.slice A3 S.fl.cls.length cp3) S.fl.cls.length _ (by rfl) HO3.out #[.int .u16 f,.int .i64 Kd,.bool cr,.int .i64 (fi:Int),.int .i64 (n:Int)] (by rfl) (by intro x hx;simp at hx;rcases hx with rfl | rfl | rfl | rfl | rfl<;>rfl) (by rfl) (by unfold maxLen;omega) (by omega) (Nat.zero_le _) ?_
    intro gg cc w9 hown hg9 hloc
    rw [←HV3.out] at hg9 hloc
    obtain⟨L9,hG9,hM9⟩:=(HM10.out.below drew_below).push_cls ⟨f,Kd,cr,(fi:Int),(n:Int)⟩ hg9 hloc hown
    have hf9:=(HM10.out.below (drew_below (w:=wc))).file_grown hg9 ((HM10.out.below (drew_below (w:=wc))).ty_cls) (by decide)
    have hr9:=(HM10.out.below (drew_below (w:=wc))).rdr_grown hg9 ((HM10.out.below (drew_below (w:=wc))).ty_cls) (by decide)
    have hb9:=(HC10.out.go (Go2.of_below (drew_below (w:=wc)))).grown hg9 HM10.out.cls.2
    have c9'':w9.cell? ⟨i.fb,11,none⟩=some (.slice A3 S.fl.cls.length cp3):=by rw [cell_of_heap hf9];exact congrArg some HV3.out
    have z9:w9.frozen? ⟨i.fb,11,none⟩=false:=frozen_of_heap hf9 11
    have HMF:=hid hM9
    have HG9:=hid hG9
    have HCF:=hid ((HC10.out.go (Go2.of_below drew_below)).go hG9)
    have HS9:Hid (w9.cell? ⟨i.rb,0,none⟩=some (.pointer (some ⟨i.fb,0,none⟩))∧w9.cell? ⟨b,0,none⟩=some (.int .u16 f)∧w9.cell? ⟨b,1,none⟩=some (.int .i64 Kd)∧w9.cell? ⟨b,2,none⟩=some (.bool cr)∧w9.cell? ⟨b,3,none⟩=some (.int .i64 (fi:Int))∧w9.cell? ⟨b,4,none⟩=some (.int .i64 (n:Int))):=hid ⟨by rw [cell_of_heap hr9];rfl,cl_cells hb9⟩
    clear hown hg9 hloc hG9 hM9 hf9 hr9 hb9
    refine hK.out _ _ ?_ (fun hHeld=>?_)
    ·exact HS9.out
    clear hK K
    refine tkA 15 (some 98) hHeld ?_;try simp only [put_norm]
    refine tkA 16 (some 99) hHeld ?_;try simp only [put_norm]
    refine tkA 17 (some 100) hHeld ?_;try simp only [put_norm]
    refine rdy1 18 (fun K hK=>?_)
    go_simp
    refine hK.out _ _ ?_ (fun hHeld=>?_)
    ·first | exact HSs.out _ drew_below | exact HSs.out _ (drew_below.alloc (Nat.le_refl _) _) | exact⟨HMF.out.r0,HCF.out.cells⟩
    clear hK K
    refine wpAnyH_done (by kernel_rfl) ?_ _
    go_wp2_with fail
    go_meet
    exact⟨_,hid (RM.of_cls HB.out ⟨by show 0 < f;omega,f2⟩ f3 HMF.out),HCF,hid ((HG10.out.trans (Go2.of_below drew_below)).trans HG9.out)⟩
   exact AllReadyH.nil
  case rest =>
  obtain⟨L1,HM11,HC11,HG11⟩:=hcut
  clear HM10 HC10 HG10
  have HRg:Hid (groupR E (fun r=>decide (r.take 2=[fieldAt row 0,fieldAt row 1])) (ruleIn ⟨f,Kd,cr,(fi:Int),(n:Int)⟩) n { S with fl:={ S.fl with cls:=S.fl.cls++[⟨f,Kd,cr,(fi:Int),(n:Int)⟩] } }=R):=hid HR6.out.symm
  clear HR6 HH HM HB HFR HMu HNu HF f0 f1 f2 f3 HKd HNN HFi HC0 HC1 HS
  obtain⟨-,-,-,-,q4⟩:=HC11.out.cells
  obtain⟨cl,hcl⟩:∃c:Cl,(⟨f,Kd,cr,(fi:Int),(n:Int)⟩:Cl)=c:=⟨_,rfl⟩
  rw [hcl] at HRg HM11 HC11
  have hcn:n=n:=rfl
  clear hcl hcn
  go_wp2_with fail
  go_loopw [5,103] (fun _ x wr=>∃(m:Nat) (S':Sx) (L':List Nat),m≤n∧x=.int .i64 m∧Hid (RM w0 wr L' i E kh k S')∧Hid (ClB wr L' b cl)∧Hid (Go2 L w L' wr)∧Hid (groupR E (fun r=>decide (r.take 2=[fieldAt row 0,fieldAt row 1])) (ruleIn cl) (n - m) S'=R)) (fun _ x _=>n - (intOf x).toNat)
  case atStart=>exact⟨0,_,L1,Nat.zero_le _,rfl,HM11,HC11,HG11,HRg⟩
  case round =>
  obtain⟨m,S',L',hm,rfl,HRM,HCb,HGo,HGr⟩:=hrel
  by_cases hlt:m < n
  ·have hnm:n - m=(n - (m+1))+1:=by omega
   have hcase:(∃l2,R=.error (l2,116)∧Calls Tryz.prog 115 #[.pointer (some ⟨i.rb,0,none⟩),.slice (some ⟨wr.heap.size,0,none⟩) 2 2] ((wr.drew).alloc (.cells #[.string (fieldAt row 0),.string (fieldAt row 1)] 9)) (fun e w'=>Go2 L' ((wr.drew).alloc (.cells #[.string (fieldAt row 0),.string (fieldAt row 1)] 9)) L' w'∧e=.panicked [flt l2 116])) ∨
     (∃l rw_ rest,S'.rows=(l,rw_)::rest∧R=(match ruleIn cl S'.fl l rw_ with
      | .error c=>.error (l,c)
      | .ok F=>groupR E (fun r=>decide (r.take 2=[fieldAt row 0,fieldAt row 1])) (ruleIn cl) (n - (m+1)) { fl:=F,rows:=rest,heads:=S'.heads,line:=l })∧Calls Tryz.prog 115 #[.pointer (some ⟨i.rb,0,none⟩),.slice (some ⟨wr.heap.size,0,none⟩) 2 2] ((wr.drew).alloc (.cells #[.string (fieldAt row 0),.string (fieldAt row 1)] 9)) (fun e w'=>Go2 L' ((wr.drew).alloc (.cells #[.string (fieldAt row 0),.string (fieldAt row 1)] 9)) L' w'∧∃fv,e=.returned fv∧Rd w0 1 fv rw_.length (strV rw_)∧RM w0 w' L' i E (kh+1) (k+1) { S' with rows:=rest,line:=l })):=by
    have hIn:=so_inner w0 L' i E kh k S' (.slice (some ⟨wr.heap.size,0,none⟩) 2 2) [fieldAt row 0,fieldAt row 1] ((wr.drew).alloc (.cells #[.string (fieldAt row 0),.string (fieldAt row 1)] 9)) (HRM.out.below (drew_below.alloc (Nat.le_refl _) _))
     (head_rd2 (w:=wr.drew) (fun x hx=>by obtain⟨_,v,hv⟩:=HRM.out;exact (hv.hl x hx).2) _ _) (show 2≤1048576 by decide)
    unfold InnerP at hIn
    rcases hrows:S'.rows with _ | ⟨⟨l,rw_⟩,rest⟩
    ·rw [hrows] at hIn
     exact .inl ⟨E,by rw [←HGr.out,hnm,groupR,hrows],hIn⟩
    rw [hrows] at hIn
    dsimp only at hIn
    have hl2:[fieldAt row 0,fieldAt row 1].length=2:=rfl
    rw [hl2] at hIn
    by_cases hh:rw_.take 2=[fieldAt row 0,fieldAt row 1]
    ·refine .inr ⟨l,rw_,rest,rfl,?_,hIn.mono ?_⟩
     ·rw [←HGr.out,hnm,groupR,hrows];dsimp only;rw [if_pos (decide_eq_true hh)];rfl
     rintro e w' ⟨h1,h2⟩
     rw [if_pos hh] at h2
     exact⟨h1,h2⟩
    refine .inl ⟨l,?_,hIn.mono ?_⟩
    ·rw [←HGr.out,hnm,groupR,hrows];dsimp only;rw [if_neg (by simpa using hh)]
    rintro e w' ⟨h1,h2⟩
    rw [if_neg hh] at h2
    exact⟨h1,h2⟩
   have HS12:Hid (∀W,Below wr.heap.size wr W→(W.cell? ⟨g,o,none⟩=some (.string (fieldAt row 0))∧W.cell? ⟨g,o+1,none⟩=some (.string (fieldAt row 1)))):=hid (fun W hW=>⟨field_in (HD0.out 0 (by decide)) (HRM.out.below hW).base,field_in (HD0.out 1 (by decide)) (HRM.out.below hW).base⟩)
   have HGo2:=hid (HGo.out.trans (Go2.of_below (L:=L') (drew_below.alloc (Nat.le_refl _) (.cells #[.string (fieldAt row 0),.string (fieldAt row 1)] 9))))
   have HCb2:=hid (HCb.out.go (Go2.of_below (drew_below.alloc (Nat.le_refl _) (.cells #[.string (fieldAt row 0),.string (fieldAt row 1)] 9))))
   rcases hcase with ⟨l2,hRe,hIn⟩ | ⟨l,rw_,rest,hrows,hRe,hIn⟩
   ·have HRe:=hid hRe
    have HIn:=hid hIn
    clear hRe hIn hnm
    go_wp2_with fail
    refine wp_region_held_drew (S:=fun W'=>W'.cell? ⟨g,o,none⟩=some (.string (fieldAt row 0))∧W'.cell? ⟨g,o+1,none⟩=some (.string (fieldAt row 1))) (by kernel_rfl) ?_ (fun hHeld=>?_)
    ·exact HS12.out _ drew_below
    refine tkA 0 (some 105) hHeld ?_;try simp only [put_norm]
    refine tkA 1 (some 106) hHeld ?_;try simp only [put_norm]
    refine tkA 2 (some 107) hHeld ?_;try simp only [put_norm]
    refine tkA 3 (some 108) hHeld ?_;try simp only [put_norm]
    refine tkA 4 (some 109) hHeld ?_;try simp only [put_norm]
    refine tkA 5 (some 110) hHeld ?_;try simp only [put_norm]
    refine tkA 6 (some 111) hHeld ?_;try simp only [put_norm]
    refine rdy1 7 (fun K hK=>?_)
    go_simp
    refine hK.out _ _ ?_ (fun hHeld=>?_)
    ·first | exact HS12.out _ drew_below | exact HS12.out _ (drew_below.alloc (Nat.le_refl _) _)
    clear hK K
    refine rdy1 8 (fun K hK=>?_)
    go_simp
    refine HIn.out.mono ?_
    rintro e w9 ⟨hg9,rfl⟩
    exact⟨rfl,L',HGo2.out.trans hg9,by rw [HRe.out]⟩
   have HBd:=hid HRM.out.1
   have HRW:Hid (∀fv,Rd w0 1 fv rw_.length (strV rw_)→RowF1 w0 fv rw_):=hid (fun fv h=>rowF1_of HBd.out hrows h)
   obtain⟨S2,hS2⟩:∃S2,({ S' with rows:=rest,line:=l }:Sx)=S2:=⟨_,rfl⟩
   have hln:S2.line=l:=by rw [←hS2]
   have HR7:Hid (R=match ruleIn cl S2.fl S2.line rw_ with
    | .error c=>.error (S2.line,c)
    | .ok F=>groupR E (fun r=>decide (r.take 2=[fieldAt row 0,fieldAt row 1])) (ruleIn cl) (n - (m+1)) { S2 with fl:=F }):=hid (by rw [hRe,←hS2])
   rw [hS2] at hIn
   have HIn:=hid hIn
   clear hRe hIn hnm hS2 hln hrows
   go_upto_region 12 with fail
   go_cut [5] from 105 to 113 (fun p W=>Hid (RowF1 w0 p rw_)∧Hid (RM w0 W L' i E (kh+1) (k+1) S2)∧Hid (ClB W L' b cl)∧Hid (Go2 L w L' W))
   case first =>
    go_wp2_with fail
    refine wp_region_held_drew (S:=fun W'=>W'.cell? ⟨g,o,none⟩=some (.string (fieldAt row 0))∧W'.cell? ⟨g,o+1,none⟩=some (.string (fieldAt row 1))) (by kernel_rfl) ?_ (fun hHeld=>?_)
    ·exact HS12.out _ drew_below
    refine tkA 0 (some 105) hHeld ?_;try simp only [put_norm]
    refine tkA 1 (some 106) hHeld ?_;try simp only [put_norm]
    refine tkA 2 (some 107) hHeld ?_;try simp only [put_norm]
    refine tkA 3 (some 108) hHeld ?_;try simp only [put_norm]
    refine tkA 4 (some 109) hHeld ?_;try simp only [put_norm]
    refine tkA 5 (some 110) hHeld ?_;try simp only [put_norm]
    refine tkA 6 (some 111) hHeld ?_;try simp only [put_norm]
    refine rdy1 7 (fun K hK=>?_)
    go_simp
    refine hK.out _ _ ?_ (fun hHeld=>?_)
    ·first | exact HS12.out _ drew_below | exact HS12.out _ (drew_below.alloc (Nat.le_refl _) _)
    clear hK K
    refine rdy1 8 (fun K hK=>?_)
    go_simp
    refine HIn.out.mono ?_
    rintro e w9 ⟨hg9,fv,rfl,hrd,hrm⟩
    have HRw:=hid (HRW.out _ hrd)
    have HRM9:=hid hrm
    have HG9:=hid hg9
    clear hg9 hrd hrm
    refine hK.out _ _ ?_ (fun hHeld=>?_)
    ·exact⟨field_in (HD0.out 0 (by decide)) HRM9.out.base,field_in (HD0.out 1 (by decide)) HRM9.out.base⟩
    clear hK K
    refine tkA 9 (some 5) hHeld ?_;try simp only [put_norm]
    refine wpAnyH_done (by kernel_rfl) ?_ _
    go_wp2_with fail
    go_meet
    exact⟨HRw,HRM9,hid (HCb2.out.go HG9.out),hid (HGo2.out.trans HG9.out)⟩
   case rest =>
   obtain⟨HRw,HRM3,HCb3,HGo3⟩:=hcut
   clear HIn HRM HCb HGo HGo2 HCb2 HS12 HRW HBd HGr
   obtain⟨hbd3,v3,hm3⟩:=HRM3.out
   obtain⟨us3,hF3⟩:=hm3.fileF hbd3.sets
   have HMv:=hid hm3
   have HBd3:=hid hbd3
   have HRu:Hid (∀W,Below wc.heap.size wc W→Calls Tryz.prog 118 #[.pointer (some ⟨i.rb,0,none⟩),.agg #[.int .u16 cl.flag,.int .i64 cl.kind,.bool cl.cross,.int .i64 cl.first,.int .i64 cl.count],u5] W (RuleP (ruleR S2.fl cl S2.line rw_) S2.line W)):=hid (fun W hW =>
    so_rule i.rb i.fb S2.line S2.fl v3.als us3 cl _ rw_ m0 W (HMv.out.below hW).r2 (HMv.out.below hW).r0 (hF3.later hW) ⟨HRw.out.rd.keep (HMv.out.below hW).base,HRw.out.len,HRw.out.each⟩ (by have:=HBd3.out.als;omega) (((HMv.out.below hW).base.cell (block_lt_of_cell? w0 _ HM0.out)).trans HM0.out))
   have HS13:Hid (∀W,Below wc.heap.size wc W→(W.cell? ⟨i.rb,0,none⟩=some (.pointer (some ⟨i.fb,0,none⟩))∧W.cell? ⟨b,0,none⟩=some (.int .u16 cl.flag)∧W.cell? ⟨b,1,none⟩=some (.int .i64 cl.kind)∧W.cell? ⟨b,2,none⟩=some (.bool cl.cross)∧W.cell? ⟨b,3,none⟩=some (.int .i64 cl.first)∧W.cell? ⟨b,4,none⟩=some (.int .i64 cl.count))):=hid (fun W hW=>⟨(HMv.out.below hW).r0,(HCb3.out.go (Go2.of_below hW)).cells⟩)
   have c0:=HMv.out.r0
   obtain⟨rs3,hrs1,hrs2,hrs3⟩:=hm3.rls
   obtain⟨A3,cp3,hv3⟩:=own_slice hrs2.1
   have c9:=hm3.f12
   rw [hv3] at c9
   have HV3:=hid hv3
   have HRs1:=hid hrs1
   have HRo:=hid hrs2.1
   have hrl3:rs3.length≤65536:=by have h1:=hbd3.rls;have h2:rs3.length=S2.fl.rls.length:=by rw [←hrs1];simp
                                  omega
   clear hm3 hbd3 hF3 hrs1 hrs2 hrs3 hv3
   cases hru:ruleR S2.fl cl S2.line rw_ with
   | error e =>
    have HRe:Hid (R=.error (S2.line,e)):=hid (by rw [HR7.out,ruleIn,hru])
    rw [hru] at HRu
    unfold RuleP at HRu
    clear hru
    go_wp2_with fail
    refine wp_region_held_drew (S:=fun W'=>W'.cell? ⟨i.rb,0,none⟩=some (.pointer (some ⟨i.fb,0,none⟩))∧W'.cell? ⟨b,0,none⟩=some (.int .u16 cl.flag)∧W'.cell? ⟨b,1,none⟩=some (.int .i64 cl.kind)∧W'.cell? ⟨b,2,none⟩=some (.bool cl.cross)∧W'.cell? ⟨b,3,none⟩=some (.int .i64 cl.first)∧W'.cell? ⟨b,4,none⟩=some (.int .i64 cl.count)) (by kernel_rfl) ?_ (fun hHeld=>?_)
    ·exact HS13.out _ drew_below
    refine tkA 0 (some 114) hHeld ?_;try simp only [put_norm]
    refine tkA 1 (some 115) hHeld ?_;try simp only [put_norm]
    refine tkA 2 (some 116) hHeld ?_;try simp only [put_norm]
    refine tkA 3 (some 117) hHeld ?_;try simp only [put_norm]
    refine tkA 4 (some 118) hHeld ?_;try simp only [put_norm]
    refine tkA 5 (some 119) hHeld ?_;try simp only [put_norm]
    refine tkA 6 (some 120) hHeld ?_;try simp only [put_norm]
    refine tkA 7 (some 121) hHeld ?_;try simp only [put_norm]
    refine tkA 8 (some 122) hHeld ?_;try simp only [put_norm]
    refine tkA 9 (some 123) hHeld ?_;try simp only [put_norm]
    refine tkA 10 (some 124) hHeld ?_;try simp only [put_norm]
    refine tkA 12 (some 126) hHeld ?_;try simp only [put_norm]
    refine tkA 13 (some 127) hHeld ?_;try simp only [put_norm]
    refine tkA 14 (some 128) hHeld ?_;try simp only [put_norm]
    refine wpAnyH_ready (rs:=[11,15]) (by kernel_rfl) (by simp) ?_
    refine AllReadyH.cons rfl (fun K hK=>?_) ?_
    ·go_simp
     refine hK.out _ _ ?_ (fun hHeld=>?_)
     ·first | exact HS13.out _ drew_below
     clear hK K
     refine rdy1 15 (fun K hK=>?_)
     go_simp
     refine (HRu.out _ drew_below).mono ?_
     rintro e9 w9 ⟨hb9,rfl⟩
     exact⟨rfl,L',HGo3.out.trans (Go2.of_below (drew_below.trans hb9)),by rw [HRe.out]⟩
    refine AllReadyH.cons rfl (fun K hK=>?_) ?_
    ·go_simp
     refine (HRu.out _ drew_below).mono ?_
     rintro e9 w9 ⟨hb9,rfl⟩
     exact⟨rfl,L',HGo3.out.trans (Go2.of_below (drew_below.trans hb9)),by rw [HRe.out]⟩
    exact AllReadyH.nil
   | ok r =>
    have HRn:=hid (ruleR_next hru HBd3.out.sets)
    have HRe:Hid (groupR E (fun r=>decide (r.take 2=[fieldAt row 0,fieldAt row 1])) (ruleIn cl) (n - (m+1)) { S2 with fl:={ S2.fl with rls:=S2.fl.rls++[r] } }=R):=hid (by rw [HR7.out,ruleIn,hru])
    rw [hru] at HRu
    unfold RuleP at HRu
    clear hru
    obtain⟨ir,hi,hz0,hz1,hz2⟩:=info_parts rule_info
    go_upto_region 13 with fail
    go_cut [] from 114 to 134 (fun W=>∃L2 v2,Hid (RMv w0 W L2 i v2 E { S2 with fl:={ S2.fl with rls:=S2.fl.rls++[r] } } (S2.fl.rls.map (·.line)) (takenF S2.fl) (nzF S2.fl+S2.fl.cls.length) (clsIx S2.fl.cls) S2.fl.cls.length)∧Hid (ClB W L2 b cl)∧Hid (Go2 L w L2 W))
    case first =>
     go_wp2_with fail
     refine wp_region_held_drew (S:=fun W'=>W'.cell? ⟨i.rb,0,none⟩=some (.pointer (some ⟨i.fb,0,none⟩))∧W'.cell? ⟨b,0,none⟩=some (.int .u16 cl.flag)∧W'.cell? ⟨b,1,none⟩=some (.int .i64 cl.kind)∧W'.cell? ⟨b,2,none⟩=some (.bool cl.cross)∧W'.cell? ⟨b,3,none⟩=some (.int .i64 cl.first)∧W'.cell? ⟨b,4,none⟩=some (.int .i64 cl.count)) (by kernel_rfl) ?_ (fun hHeld=>?_)
     ·exact HS13.out _ drew_below
     refine tkA 0 (some 114) hHeld ?_;try simp only [put_norm]
     refine tkA 1 (some 115) hHeld ?_;try simp only [put_norm]
     refine tkA 2 (some 116) hHeld ?_;try simp only [put_norm]
     refine tkA 3 (some 117) hHeld ?_;try simp only [put_norm]
     refine tkA 4 (some 118) hHeld ?_;try simp only [put_norm]
     refine tkA 5 (some 119) hHeld ?_;try simp only [put_norm]
     refine tkA 6 (some 120) hHeld ?_;try simp only [put_norm]
     refine tkA 7 (some 121) hHeld ?_;try simp only [put_norm]
     refine tkA 8 (some 122) hHeld ?_;try simp only [put_norm]
     refine tkA 9 (some 123) hHeld ?_;try simp only [put_norm]
     refine tkA 10 (some 124) hHeld ?_;try simp only [put_norm]
     refine tkA 12 (some 126) hHeld ?_;try simp only [put_norm]
     refine tkA 13 (some 127) hHeld ?_;try simp only [put_norm]
     refine tkA 14 (some 128) hHeld ?_;try simp only [put_norm]
     refine wpAnyH_ready (rs:=[11,15]) (by kernel_rfl) (by simp) ?_
     refine AllReadyH.cons rfl (fun K hK=>?_) ?_
     ·go_simp
      refine hK.out _ _ ?_ (fun hHeld=>?_)
      ·first | exact HS13.out _ drew_below | exact HS13.out _ HB4.out | exact HS13.out _ (HB4.out.alloc HB4.out.size _) | exact⟨HMF.out.r0,HCF.out.cells⟩
      clear hK K
      refine rdy1 15 (fun K hK=>?_)
      go_simp
      refine (HRu.out _ drew_below).mono ?_
      rintro e4 w4 ⟨hb4,nv,rfl,hfn⟩
      have HB4:Hid (Below wc.heap.size wc w4):=hid (drew_below.trans hb4)
      have HFO:=hid (FO.of_fn (L:=L') (w:=wc.drew) hfn (fun x hx=>(HMv.out.hl x hx).2))
      obtain⟨pu,cu,rfl⟩:∃p c,nv=.slice p r.next.length c:=by obtain⟨p,c,h1,-⟩:=hfn;exact⟨p,c,h1⟩
      have c9':w4.cell? ⟨i.fb,12,none⟩=some (.slice A3 rs3.length cp3):=(HB4.out.cell (block_lt_of_cell? wc _ c9)).trans c9
      have HO4:=hid (own_below HRo.out HB4.out)
      rw [HV3.out] at HO4
      have HM4:=hid (HMv.out.below HB4.out)
      have hfl4:=(HM4.out.hl _ HM4.out.fbL).2
      have HC4':=hid (HCb3.out.go (Go2.of_below HB4.out))
      clear hb4 hfn
      refine hK.out _ _ ?_ (fun hHeld=>?_)
      ·exact HS13.out _ HB4.out
      clear hK K
      refine rdy1 16 (fun K hK=>?_)
      go_simp
      refine hK.out _ _ ?_ (fun hHeld=>?_)
      ·first | exact HS13.out _ drew_below | exact HS13.out _ HB4.out | exact HS13.out _ (HB4.out.alloc HB4.out.size _) | exact⟨HMF.out.r0,HCF.out.cells⟩
      clear hK K
      refine rdy1 17 (fun K hK=>?_)
      refine step_pushL (w:=w4) (by rfl) _ _ 81 (by rfl) 0 31 ir _ 7 88 Tryz.underlying81 hi hz0 hz1 hz2 rfl (by decide) (.slice A3 rs3.length cp3) rs3.length _ (by rfl) HO4.out #[.int .i64 r.kind,.int .u16 r.flag,.bool r.cross,.string r.strip,.string r.add,.string r.cond,.slice pu r.next.length cu] (by rfl) (by intro x hx;simp at hx;rcases hx with rfl | rfl | rfl | rfl | rfl | rfl | rfl<;>rfl) (by rfl) (by unfold maxLen;omega) (by omega) (Nat.zero_le _) ?_
      intro gg cc w9 hown hg9 hloc
      rw [←HV3.out] at hg9 hloc
      obtain⟨L9,hG9,hM9⟩:=HM4.out.push_rls r (.slice pu r.next.length cu) HFO.out hg9 hloc (fun rs' hrs' hus=>by have e0:rs'.length=rs3.length:=by { have:=congrArg List.length hrs';have h2:=congrArg List.length HRs1.out;simp at this h2;omega };have e1:rlsCells rs3=rlsCells rs':=own_uniq HO4.out (show w4.ownsRow 0 31 7 (.slice A3 rs3.length cp3) rs3.length (rlsCells rs') by rw [←HV3.out,←e0];exact hus);rw [e0,←e1];exact hown)
      have hf9:=HM4.out.file_grown hg9 HM4.out.ty_rls (by decide)
      have hr9:=HM4.out.rdr_grown hg9 HM4.out.ty_rls (by decide)
      have hb9:=HC4'.out.grown hg9 (by obtain⟨_,_,h,_⟩:=HM4.out.rls;exact h.2)
      have c9'':w9.cell? ⟨i.fb,12,none⟩=some (.slice A3 rs3.length cp3):=by rw [cell_of_heap hf9];exact congrArg some HV3.out
      have z9:w9.frozen? ⟨i.fb,12,none⟩=false:=frozen_of_heap hf9 12
      have HMF:=hid hM9
      have HG9:=hid hG9
      have HCF:=hid (HC4'.out.go hG9)
      have HS9:Hid (w9.cell? ⟨i.rb,0,none⟩=some (.pointer (some ⟨i.fb,0,none⟩))∧w9.cell? ⟨b,0,none⟩=some (.int .u16 cl.flag)∧w9.cell? ⟨b,1,none⟩=some (.int .i64 cl.kind)∧w9.cell? ⟨b,2,none⟩=some (.bool cl.cross)∧w9.cell? ⟨b,3,none⟩=some (.int .i64 cl.first)∧w9.cell? ⟨b,4,none⟩=some (.int .i64 cl.count)):=hid ⟨by rw [cell_of_heap hr9];rfl,cl_cells hb9⟩
      clear hown hg9 hloc hG9 hM9 hf9 hr9 hb9
      refine hK.out _ _ ?_ (fun hHeld=>?_)
      ·exact HS9.out
      clear hK K
      refine tkA 18 (some 132) hHeld ?_;try simp only [put_norm]
      refine tkA 19 (some 133) hHeld ?_;try simp only [put_norm]
      refine tkA 20 (some 134) hHeld ?_;try simp only [put_norm]
      refine rdy1 21 (fun K hK=>?_)
      go_simp
      refine hK.out _ _ ?_ (fun hHeld=>?_)
      ·first | exact HS13.out _ drew_below | exact HS13.out _ HB4.out | exact HS13.out _ (HB4.out.alloc HB4.out.size _) | exact⟨HMF.out.r0,HCF.out.cells⟩
      clear hK K
      refine wpAnyH_done (by kernel_rfl) ?_ _
      go_wp2_with fail
      go_meet
      exact⟨_,_,HMF,HCF,hid ((HGo3.out.trans (Go2.of_below HB4.out)).trans HG9.out)⟩
     refine AllReadyH.cons rfl (fun K hK=>?_) ?_
     ·go_simp
      refine (HRu.out _ drew_below).mono ?_
      rintro e4 w4 ⟨hb4,nv,rfl,hfn⟩
      have HB4:Hid (Below wc.heap.size wc w4):=hid (drew_below.trans hb4)
      have HFO:=hid (FO.of_fn (L:=L') (w:=wc.drew) hfn (fun x hx=>(HMv.out.hl x hx).2))
      obtain⟨pu,cu,rfl⟩:∃p c,nv=.slice p r.next.length c:=by obtain⟨p,c,h1,-⟩:=hfn;exact⟨p,c,h1⟩
      have c9':w4.cell? ⟨i.fb,12,none⟩=some (.slice A3 rs3.length cp3):=(HB4.out.cell (block_lt_of_cell? wc _ c9)).trans c9
      have HO4:=hid (own_below HRo.out HB4.out)
      rw [HV3.out] at HO4
      have HM4:=hid (HMv.out.below HB4.out)
      have hfl4:=(HM4.out.hl _ HM4.out.fbL).2
      have HC4':=hid (HCb3.out.go (Go2.of_below HB4.out))
      clear hb4 hfn
      refine hK.out _ _ ?_ (fun hHeld=>?_)
      ·exact HS13.out _ HB4.out
      refine wpAnyH_ready (rs:=[11,16]) (by kernel_rfl) (by simp) ?_
      refine AllReadyH.cons rfl (fun K hK=>?_) ?_
      ·go_simp
       refine hK.out _ _ ?_ (fun hHeld=>?_)
       ·first | exact HS13.out _ drew_below | exact HS13.out _ HB4.out | exact HS13.out _ (HB4.out.alloc HB4.out.size _) | exact⟨HMF.out.r0,HCF.out.cells⟩
       clear hK K
       refine rdy1 16 (fun K hK=>?_)
       go_simp
       refine hK.out _ _ ?_ (fun hHeld=>?_)
       ·first | exact HS13.out _ drew_below | exact HS13.out _ HB4.out | exact HS13.out _ (HB4.out.alloc HB4.out.size _) | exact⟨HMF.out.r0,HCF.out.cells⟩
       clear hK K
       refine rdy1 17 (fun K hK=>?_)
       refine step_pushL (w:=w4) (by rfl) _ _ 81 (by rfl) 0 31 ir _ 7 88 Tryz.underlying81 hi hz0 hz1 hz2 rfl (by decide) (.slice A3 rs3.length cp3) rs3.length _ (by rfl) HO4.out #[.int .i64 r.kind,.int .u16 r.flag,.bool r.cross,.string r.strip,.string r.add,.string r.cond,.slice pu r.next.length cu] (by rfl) (by intro x hx;simp at hx;rcases hx with rfl | rfl | rfl | rfl | rfl | rfl | rfl<;>rfl) (by rfl) (by unfold maxLen;omega) (by omega) (Nat.zero_le _) ?_
       intro gg cc w9 hown hg9 hloc
       rw [←HV3.out] at hg9 hloc
       obtain⟨L9,hG9,hM9⟩:=HM4.out.push_rls r (.slice pu r.next.length cu) HFO.out hg9 hloc (fun rs' hrs' hus=>by have e0:rs'.length=rs3.length:=by { have:=congrArg List.length hrs';have h2:=congrArg List.length HRs1.out;simp at this h2;omega };have e1:rlsCells rs3=rlsCells rs':=own_uniq HO4.out (show w4.ownsRow 0 31 7 (.slice A3 rs3.length cp3) rs3.length (rlsCells rs') by rw [←HV3.out,←e0];exact hus);rw [e0,←e1];exact hown)
       have hf9:=HM4.out.file_grown hg9 HM4.out.ty_rls (by decide)
       have hr9:=HM4.out.rdr_grown hg9 HM4.out.ty_rls (by decide)
       have hb9:=HC4'.out.grown hg9 (by obtain⟨_,_,h,_⟩:=HM4.out.rls;exact h.2)
       have c9'':w9.cell? ⟨i.fb,12,none⟩=some (.slice A3 rs3.length cp3):=by rw [cell_of_heap hf9];exact congrArg some HV3.out
       have z9:w9.frozen? ⟨i.fb,12,none⟩=false:=frozen_of_heap hf9 12
       have HMF:=hid hM9
       have HG9:=hid hG9
       have HCF:=hid (HC4'.out.go hG9)
       have HS9:Hid (w9.cell? ⟨i.rb,0,none⟩=some (.pointer (some ⟨i.fb,0,none⟩))∧w9.cell? ⟨b,0,none⟩=some (.int .u16 cl.flag)∧w9.cell? ⟨b,1,none⟩=some (.int .i64 cl.kind)∧w9.cell? ⟨b,2,none⟩=some (.bool cl.cross)∧w9.cell? ⟨b,3,none⟩=some (.int .i64 cl.first)∧w9.cell? ⟨b,4,none⟩=some (.int .i64 cl.count)):=hid ⟨by rw [cell_of_heap hr9];rfl,cl_cells hb9⟩
       clear hown hg9 hloc hG9 hM9 hf9 hr9 hb9
       refine hK.out _ _ ?_ (fun hHeld=>?_)
       ·exact HS9.out
       clear hK K
       refine tkA 18 (some 132) hHeld ?_;try simp only [put_norm]
       refine tkA 19 (some 133) hHeld ?_;try simp only [put_norm]
       refine tkA 20 (some 134) hHeld ?_;try simp only [put_norm]
       refine rdy1 21 (fun K hK=>?_)
       go_simp
       refine hK.out _ _ ?_ (fun hHeld=>?_)
       ·first | exact HS13.out _ drew_below | exact HS13.out _ HB4.out | exact HS13.out _ (HB4.out.alloc HB4.out.size _) | exact⟨HMF.out.r0,HCF.out.cells⟩
       clear hK K
       refine wpAnyH_done (by kernel_rfl) ?_ _
       go_wp2_with fail
       go_meet
       exact⟨_,_,HMF,HCF,hid ((HGo3.out.trans (Go2.of_below HB4.out)).trans HG9.out)⟩
      refine AllReadyH.cons rfl (fun K hK=>?_) ?_
      ·go_simp
       refine hK.out _ _ ?_ (fun hHeld=>?_)
       ·first | exact HS13.out _ drew_below | exact HS13.out _ HB4.out | exact HS13.out _ (HB4.out.alloc HB4.out.size _) | exact⟨HMF.out.r0,HCF.out.cells⟩
       clear hK K
       refine rdy1 11 (fun K hK=>?_)
       go_simp
       refine hK.out _ _ ?_ (fun hHeld=>?_)
       ·first | exact HS13.out _ drew_below | exact HS13.out _ HB4.out | exact HS13.out _ (HB4.out.alloc HB4.out.size _) | exact⟨HMF.out.r0,HCF.out.cells⟩
       clear hK K
       refine rdy1 17 (fun K hK=>?_)
       refine step_pushL (w:=w4) (by rfl) _ _ 81 (by rfl) 0 31 ir _ 7 88 Tryz.underlying81 hi hz0 hz1 hz2 rfl (by decide) (.slice A3 rs3.length cp3) rs3.length _ (by rfl) HO4.out #[.int .i64 r.kind,.int .u16 r.flag,.bool r.cross,.string r.strip,.string r.add,.string r.cond,.slice pu r.next.length cu] (by rfl) (by intro x hx;simp at hx;rcases hx with rfl | rfl | rfl | rfl | rfl | rfl | rfl<;>rfl) (by rfl) (by unfold maxLen;omega) (by omega) (Nat.zero_le _) ?_
       intro gg cc w9 hown hg9 hloc
       rw [←HV3.out] at hg9 hloc
       obtain⟨L9,hG9,hM9⟩:=HM4.out.push_rls r (.slice pu r.next.length cu) HFO.out hg9 hloc (fun rs' hrs' hus=>by have e0:rs'.length=rs3.length:=by { have:=congrArg List.length hrs';have h2:=congrArg List.length HRs1.out;simp at this h2;omega };have e1:rlsCells rs3=rlsCells rs':=own_uniq HO4.out (show w4.ownsRow 0 31 7 (.slice A3 rs3.length cp3) rs3.length (rlsCells rs') by rw [←HV3.out,←e0];exact hus);rw [e0,←e1];exact hown)
       have hf9:=HM4.out.file_grown hg9 HM4.out.ty_rls (by decide)
       have hr9:=HM4.out.rdr_grown hg9 HM4.out.ty_rls (by decide)
       have hb9:=HC4'.out.grown hg9 (by obtain⟨_,_,h,_⟩:=HM4.out.rls;exact h.2)
       have c9'':w9.cell? ⟨i.fb,12,none⟩=some (.slice A3 rs3.length cp3):=by rw [cell_of_heap hf9];exact congrArg some HV3.out
       have z9:w9.frozen? ⟨i.fb,12,none⟩=false:=frozen_of_heap hf9 12
       have HMF:=hid hM9
       have HG9:=hid hG9
       have HCF:=hid (HC4'.out.go hG9)
       have HS9:Hid (w9.cell? ⟨i.rb,0,none⟩=some (.pointer (some ⟨i.fb,0,none⟩))∧w9.cell? ⟨b,0,none⟩=some (.int .u16 cl.flag)∧w9.cell? ⟨b,1,none⟩=some (.int .i64 cl.kind)∧w9.cell? ⟨b,2,none⟩=some (.bool cl.cross)∧w9.cell? ⟨b,3,none⟩=some (.int .i64 cl.first)∧w9.cell? ⟨b,4,none⟩=some (.int .i64 cl.count)):=hid ⟨by rw [cell_of_heap hr9];rfl,cl_cells hb9⟩
       clear hown hg9 hloc hG9 hM9 hf9 hr9 hb9
       refine hK.out _ _ ?_ (fun hHeld=>?_)
       ·exact HS9.out
       clear hK K
       refine tkA 18 (some 132) hHeld ?_;try simp only [put_norm]
       refine tkA 19 (some 133) hHeld ?_;try simp only [put_norm]
       refine tkA 20 (some 134) hHeld ?_;try simp only [put_norm]
       refine rdy1 21 (fun K hK=>?_)
       go_simp
       refine hK.out _ _ ?_ (fun hHeld=>?_)
       ·first | exact HS13.out _ drew_below | exact HS13.out _ HB4.out | exact HS13.out _ (HB4.out.alloc HB4.out.size _) | exact⟨HMF.out.r0,HCF.out.cells⟩
       clear hK K
       refine wpAnyH_done (by kernel_rfl) ?_ _
       go_wp2_with fail
       go_meet
       exact⟨_,_,HMF,HCF,hid ((HGo3.out.trans (Go2.of_below HB4.out)).trans HG9.out)⟩
      exact AllReadyH.nil
     exact AllReadyH.nil
    case rest =>
    obtain⟨L2,v2,HM5,HC5',HG5⟩:=hcut
    obtain⟨nx,hnx⟩:∃nx,S2.fl.rls.map (·.line)=nx:=⟨_,rfl⟩
    rw [hnx] at HM5
    have HNx:=hid hnx
    have hnl:nx.length≤65536:=by rw [←hnx,List.length_map];have:=HBd3.out.rls;omega
    clear hnx
    obtain⟨A5,cp5,hv5⟩:=own_slice HM5.out.nxs.1
    have c6:=HM5.out.r6
    rw [hv5] at c6
    have HV5:=hid hv5
    have HO5:=hid HM5.out.nxs.1
    rw [hv5] at HO5
    have hrb5:=(HM5.out.hl _ HM5.out.rbL).2
    obtain⟨ii,hi2,hy0,hy1,hy2⟩:=info_parts int_info2
    have HS14:Hid (∀W,Below wc.heap.size wc W→W.cell? ⟨i.rb,2,none⟩=some (.int .i64 S2.line)):=hid (fun W hW=>(HM5.out.below hW).r2)
    clear hv5
    go_wp2_with fail
    refine wp_region_held_drew (S:=fun W'=>W'.cell? ⟨i.rb,2,none⟩=some (.int .i64 S2.line)) (by kernel_rfl) ?_ (fun hHeld=>?_)
    ·exact HS14.out _ drew_below
    refine tkA 0 (some 135) hHeld ?_;try simp only [put_norm]
    refine tkA 1 (some 136) hHeld ?_;try simp only [put_norm]
    refine tkA 2 (some 137) hHeld ?_;try simp only [put_norm]
    refine tkA 3 (some 138) hHeld ?_;try simp only [put_norm]
    refine tkA 5 (some 140) hHeld ?_;try simp only [put_norm]
    refine tkA 6 (some 141) hHeld ?_;try simp only [put_norm]
    refine tkA 7 (some 142) hHeld ?_;try simp only [put_norm]
    refine tkA 8 (some 143) hHeld ?_;try simp only [put_norm]
    refine wpAnyH_ready (rs:=[4,9]) (by kernel_rfl) (by simp) ?_
    refine AllReadyH.cons rfl (fun K hK=>?_) ?_
    ·go_simp
     refine hK.out _ _ ?_ (fun hHeld=>?_)
     ·first | exact HS14.out _ drew_below | exact HS14.out _ (drew_below.alloc (Nat.le_refl _) _) | exact HMF.out.r2
     clear hK K
     refine rdy1 9 (fun K hK=>?_)
     go_simp
     refine hK.out _ _ ?_ (fun hHeld=>?_)
     ·first | exact HS14.out _ drew_below | exact HS14.out _ (drew_below.alloc (Nat.le_refl _) _) | exact HMF.out.r2
     clear hK K
     refine rdy1 10 (fun K hK=>?_)
     refine step_pushL (w:=wc.drew) (by rfl) _ _ 39 (by rfl) 0 3 ii _ 1 8 Tryz.underlying39 hi2 hy0 hy1 hy2 rfl (by decide) (.slice A5 nx.length cp5) nx.length _ (by rfl) HO5.out #[.int .i64 S2.line] (by rfl) (by intro x hx;simp at hx;subst hx;rfl) (by rfl) (by unfold maxLen;omega) (by omega) (Nat.zero_le _) ?_
     intro gg cc w9 hown hg9 hloc
     rw [←HV5.out] at hg9 hloc
     obtain⟨L9,hG9,hM9⟩:=(HM5.out.below drew_below).push_nxs S2.line hg9 hloc hown
     have hr9:=(HM5.out.below (drew_below (w:=wc))).rdr_grown hg9 ((HM5.out.below (drew_below (w:=wc))).ty_nxs) (by decide)
     have c9'':w9.cell? ⟨i.rb,6,none⟩=some (.slice A5 nx.length cp5):=by rw [cell_of_heap hr9];exact congrArg some HV5.out
     have z9:w9.frozen? ⟨i.rb,6,none⟩=false:=frozen_of_heap hr9 6
     have HMF:=hid hM9
     have HG9:=hid hG9
     have HCF:=hid ((HC5'.out.go (Go2.of_below drew_below)).go hG9)
     have HS9:Hid (w9.cell? ⟨i.rb,2,none⟩=some (.int .i64 S2.line)):=hid (by rw [cell_of_heap hr9];rfl)
     clear hown hg9 hloc hG9 hM9 hr9
     refine hK.out _ _ ?_ (fun hHeld=>?_)
     ·exact HS9.out
     clear hK K
     refine tkA 11 (some 146) hHeld ?_;try simp only [put_norm]
     refine tkA 12 (some 147) hHeld ?_;try simp only [put_norm]
     refine rdy1 13 (fun K hK=>?_)
     go_simp
     refine hK.out _ _ ?_ (fun hHeld=>?_)
     ·first | exact HS14.out _ drew_below | exact HS14.out _ (drew_below.alloc (Nat.le_refl _) _) | exact HMF.out.r2
     clear hK K
     refine wpAnyH_done (by kernel_rfl) ?_ _
     go_wp2_with fail
     go_roundw
     case rel=>exact⟨m+1,_,L9,by omega,by go_num,hid (RM.of_rls HBd3.out HRn.out HNx.out HMF.out),HCF,hid ((HG5.out.trans (Go2.of_below drew_below)).trans HG9.out),HRe⟩
     case measure=>simp [intOf];omega
    refine AllReadyH.cons rfl (fun K hK=>?_) ?_
    ·go_simp
     refine hK.out _ _ ?_ (fun hHeld=>?_)
     ·first | exact HS14.out _ drew_below | exact HS14.out _ (drew_below.alloc (Nat.le_refl _) _) | exact HMF.out.r2
     clear hK K
     refine rdy1 4 (fun K hK=>?_)
     go_simp
     refine hK.out _ _ ?_ (fun hHeld=>?_)
     ·first | exact HS14.out _ drew_below | exact HS14.out _ (drew_below.alloc (Nat.le_refl _) _) | exact HMF.out.r2
     clear hK K
     refine rdy1 10 (fun K hK=>?_)
     refine step_pushL (w:=wc.drew) (by rfl) _ _ 39 (by rfl) 0 3 ii _ 1 8 Tryz.underlying39 hi2 hy0 hy1 hy2 rfl (by decide) (.slice A5 nx.length cp5) nx.length _ (by rfl) HO5.out #[.int .i64 S2.line] (by rfl) (by intro x hx;simp at hx;subst hx;rfl) (by rfl) (by unfold maxLen;omega) (by omega) (Nat.zero_le _) ?_
     intro gg cc w9 hown hg9 hloc
     rw [←HV5.out] at hg9 hloc
     obtain⟨L9,hG9,hM9⟩:=(HM5.out.below drew_below).push_nxs S2.line hg9 hloc hown
     have hr9:=(HM5.out.below (drew_below (w:=wc))).rdr_grown hg9 ((HM5.out.below (drew_below (w:=wc))).ty_nxs) (by decide)
     have c9'':w9.cell? ⟨i.rb,6,none⟩=some (.slice A5 nx.length cp5):=by rw [cell_of_heap hr9];exact congrArg some HV5.out
     have z9:w9.frozen? ⟨i.rb,6,none⟩=false:=frozen_of_heap hr9 6
     have HMF:=hid hM9
     have HG9:=hid hG9
     have HCF:=hid ((HC5'.out.go (Go2.of_below drew_below)).go hG9)
     have HS9:Hid (w9.cell? ⟨i.rb,2,none⟩=some (.int .i64 S2.line)):=hid (by rw [cell_of_heap hr9];rfl)
     clear hown hg9 hloc hG9 hM9 hr9
     refine hK.out _ _ ?_ (fun hHeld=>?_)
     ·exact HS9.out
     clear hK K
     refine tkA 11 (some 146) hHeld ?_;try simp only [put_norm]
     refine tkA 12 (some 147) hHeld ?_;try simp only [put_norm]
     refine rdy1 13 (fun K hK=>?_)
     go_simp
     refine hK.out _ _ ?_ (fun hHeld=>?_)
     ·first | exact HS14.out _ drew_below | exact HS14.out _ (drew_below.alloc (Nat.le_refl _) _) | exact HMF.out.r2
     clear hK K
     refine wpAnyH_done (by kernel_rfl) ?_ _
     go_wp2_with fail
     go_roundw
     case rel=>exact⟨m+1,_,L9,by omega,by go_num,hid (RM.of_rls HBd3.out HRn.out HNx.out HMF.out),HCF,hid ((HG5.out.trans (Go2.of_below drew_below)).trans HG9.out),HRe⟩
     case measure=>simp [intOf];omega
    exact AllReadyH.nil
  obtain rfl:m=n:=by omega
  have HRe:Hid (R=.ok S'):=hid (by rw [←HGr.out,Nat.sub_self,groupR])
  go_wp2_with fail
  go_end0
  exact⟨L',HGo.out,by rw [HRe.out];exact⟨rfl,HRM.out⟩⟩
def SpInv (S:Sx):Prop:=∀n,n < 5→spAt S.fl n≠0→keyS (3+n)∈S.heads
theorem group_keeps {end_:Int} {ok:List ByteArray→Bool} {inn:Fl→Int→List ByteArray→Except Int Fl} (hi:∀F l r F',inn F l r=.ok F'→spAt F'=spAt F):∀(n:Nat) (S S':Sx),groupR end_ ok inn n S=.ok S'→S'.heads=S.heads∧spAt S'.fl=spAt S.fl
 | 0,S,S',h=>by rw [groupR] at h;cases h;exact⟨rfl,rfl⟩
 | n+1,S,S',h=>by
   rw [groupR] at h
   split at h
   ·cases h
   ·split at h
    ·split at h
     ·cases h
     ·rename_i hF
      obtain⟨h1,h2⟩:=group_keeps hi n _ S' h
      exact⟨h1,h2.trans (hi _ _ _ _ hF)⟩
    ·cases h
theorem rep_keeps (F:Fl) (l:Int) (r:List ByteArray) (F':Fl) (h:repR_ F l r=.ok F'):spAt F'=spAt F:=by
 unfold repR_ at h
 split at h
 ·cases h
 split at h
 ·cases h
 split at h
 ·cases h
 cases h;rfl
theorem alias_keeps (F:Fl) (l:Int) (r:List ByteArray) (F':Fl) (h:aliasR F l r=.ok F'):spAt F'=spAt F:=by
 unfold aliasR at h
 split at h
 ·cases h
 split at h
 ·cases h
 cases h;rfl
theorem ruleIn_keeps (c:Cl) (F:Fl) (l:Int) (r:List ByteArray) (F':Fl) (h:ruleIn c F l r=.ok F'):spAt F'=spAt F:=by
 unfold ruleIn at h
 split at h
 ·cases h
 cases h;rfl
theorem onFl_ok {l:Int} {S S':Sx} {x:Except Int Fl} (h:onFl l S x=.ok S'):∃F,x=.ok F∧S'={ S with fl:=F }:=by
 cases x with
 | error e=>cases h
 | ok F=>cases h;exact⟨F,rfl,rfl⟩
theorem head_keeps {end_:Int} {S S':Sx} {row:List ByteArray} {k:Nat} (h:headR end_ S row k=.ok S'):S'.heads=S.heads∧∀n,n < 5→spAt S'.fl n≠0→spAt S.fl n≠0∨k=3+n:=by
 unfold headR at h
 split at h
 ·obtain⟨F,hF,rfl⟩:=onFl_ok h
  refine⟨rfl,fun n _ hn=>.inl ?_⟩
  unfold kindR at hF
  split at hF
  ·cases hF
  split at hF
  ·cases hF
  cases hF;exact hn
 split at h
 ·obtain⟨F,hF,rfl⟩:=onFl_ok h
  refine⟨rfl,fun n _ hn=>.inl ?_⟩
  unfold setR at hF
  split at hF
  ·cases hF
  cases hF;exact hn
 split at h
 ·obtain⟨F,hF,rfl⟩:=onFl_ok h
  refine⟨rfl,fun n _ hn=>.inl ?_⟩
  unfold tryR at hF
  split at hF
  ·cases hF
  cases hF;exact hn
 split at h
 ·rename_i h0 h1 h2 h8
  obtain⟨F,hF,rfl⟩:=onFl_ok h
  refine⟨rfl,fun n hn5 hn=>?_⟩
  unfold specialR at hF
  split at hF
  ·cases hF
  cases hF
  by_cases hk:k=3+n
  ·exact .inr hk
  left
  have hn':spAt (setSp S.fl (k - 3) _) n≠0:=hn
  rw [setSp_at _ _ (by omega),if_neg (by omega)] at hn'
  exact hn'
 split at h
 ·obtain⟨F,hF,rfl⟩:=onFl_ok h
  refine⟨rfl,fun n _ hn=>.inl ?_⟩
  unfold leastR at hF
  split at hF
  ·cases hF
  cases hF;exact hn
 split at h
 ·unfold repsG at h
  split at h
  ·cases h
  obtain⟨h1,h2⟩:=group_keeps rep_keeps _ _ _ h
  exact⟨h1,fun n _ hn=>.inl (by rwa [h2] at hn)⟩
 split at h
 ·unfold aliasG at h
  split at h
  ·cases h
  split at h
  ·cases h
  obtain⟨h1,h2⟩:=group_keeps alias_keeps _ _ _ h
  exact⟨h1,fun n _ hn=>.inl (by rwa [h2] at hn)⟩
 unfold classR at h
 split at h
 ·cases h
 split at h
 ·cases h
 split at h
 ·cases h
 split at h
 ·cases h
 obtain⟨h1,h2⟩:=group_keeps (ruleIn_keeps _) _ _ _ h
 exact⟨h1,fun n _ hn=>.inl (by rw [h2] at hn;exact hn)⟩
theorem group_rows {end_:Int} {ok:List ByteArray→Bool} {inn:Fl→Int→List ByteArray→Except Int Fl}:∀(n:Nat) (S S':Sx),groupR end_ ok inn n S=.ok S'→S'.rows.length≤S.rows.length
 | 0,S,S',h=>by rw [groupR] at h;cases h;exact Nat.le_refl _
 | n+1,S,S',h=>by
   rw [groupR] at h
   split at h
   ·cases h
   ·rename_i hr
    split at h
    ·split at h
     ·cases h
     ·have h1:=group_rows n _ S' h
      rw [hr,List.length_cons]
      exact Nat.le_trans h1 (Nat.le_succ _)
    ·cases h
theorem head_rows {end_:Int} {S S':Sx} {row:List ByteArray} {k:Nat} (h:headR end_ S row k=.ok S'):S'.rows.length≤S.rows.length:=by
 unfold headR at h
 repeat (split at h;· (obtain⟨F,hF,rfl⟩:=onFl_ok h;exact Nat.le_refl _))
 split at h
 ·unfold repsG at h
  split at h
  ·cases h
  exact group_rows _ _ _ h
 split at h
 ·unfold aliasG at h
  split at h
  ·cases h
  split at h
  ·cases h
  exact group_rows _ _ _ h
 unfold classR at h
 split at h
 ·cases h
 split at h
 ·cases h
 split at h
 ·cases h
 split at h
 ·cases h
 have:=group_rows _ _ _ h
 exact this
theorem Bd.pushHead {kh k:Nat} {S:Sx} (h:Bd (kh+1) k S) (x:ByteArray) (hx:x.size≤65536):Bd kh k { S with heads:=S.heads++[x] } :=
 ⟨h.row,by have:=h.heads;show (S.heads++[x]).length+S.rows.length+kh≤65536;rw [List.length_append];show S.heads.length+1+S.rows.length+kh≤65536;omega,fun y hy=>by
  rcases List.mem_append.1 hy with hy | hy
  ·exact h.headS y hy
  ·simp at hy;subst hy;exact hx,h.reps,h.als,h.cls,h.rls,h.flags,h.sets,h.nexts,h.kind,h.sp,h.line⟩
theorem SpInv.step {end_:Int} {S S':Sx} {row:List ByteArray} {l:Int} {rest:List Row} (h:SpInv S) (hS:stepR end_ S l row rest=.ok S'):SpInv S':=by
 have h13:keyN (fieldAt row 0)≠13:=fun e=>by rw [stepR,if_pos e] at hS;cases hS
 unfold stepR at hS
 split at hS
 ·cases hS
 split at hS
 ·cases hS
 split at hS
 ·cases hS
 split at hS
 ·cases hS
 rename_i S2 hS2
 cases hS
 obtain⟨h1,h2⟩:=head_keeps hS2
 intro n hn hne
 show keyS (3+n)∈S2.heads++[fieldAt row 0]
 rw [h1]
 rcases h2 n hn hne with h3 | h3
 ·exact List.mem_append.2 (.inl (h n hn h3))
 refine List.mem_append.2 (.inr ?_)
 rw [List.mem_singleton,←h3]
 exact (key_of _ h13).symm
theorem widthN_of (k:Nat):widthN k=2∧k < 11∨widthN k=4∧11≤k:=by
 unfold widthN
 by_cases h:k < 11
 ·rw [if_pos h];exact .inl ⟨rfl,h⟩
 rw [if_neg h];exact .inr ⟨rfl,by omega⟩
theorem so_head (w0:World) (L:List Nat) (i:Ids) (E:Int) (kh k:Nat) (S:Sx) (fv:Value) (row:List ByteArray) (m0:Int) (n:Nat) (w:World) (h:RM w0 w L i E kh (k+1) S) (hr:RowF1 w0 fv row) (hm0:w0.cell? ⟨0,0,none⟩=some (.int .i64 m0))
  (hn:n < 13) (hk:fieldAt row 0=keyS n) (hl:row.length=widthN n) (hsp:∀j,n=3+j→j < 5→spAt S.fl j=0) :
  Calls Tryz.prog (hdF n) #[.pointer (some ⟨i.rb,0,none⟩),fv] w (HeadP w0 L i E kh k (headR E S row n) w):=by
 rcases n with _ | _ | _ | _ | _ | _ | _ | _ | _ | _ | _ | _ | _ | n
 ·exact so_kind w0 L i E kh k S fv row w h hr hl
 ·exact so_charset w0 L i E kh k S fv row w h hr hl
 ·exact so_try w0 L i E kh k S fv row w h hr hl
 ·exact so_special w0 L i E kh k S fv row 0 w h hr hl (by decide) hk (hsp 0 rfl (by decide))
 ·exact so_special w0 L i E kh k S fv row 1 w h hr hl (by decide) hk (hsp 1 rfl (by decide))
 ·exact so_special w0 L i E kh k S fv row 2 w h hr hl (by decide) hk (hsp 2 rfl (by decide))
 ·exact so_special w0 L i E kh k S fv row 3 w h hr hl (by decide) hk (hsp 3 rfl (by decide))
 ·exact so_special w0 L i E kh k S fv row 4 w h hr hl (by decide) hk (hsp 4 rfl (by decide))
 ·exact so_least w0 L i E kh k S fv row w h hr hl
 ·exact so_reps w0 L i E kh k S fv row w h hr hl
 ·exact so_aliases w0 L i E kh k S fv row m0 w h hr hl hm0
 ·exact so_class w0 L i E kh k S fv row m0 w h hr hl hm0
 ·exact so_class w0 L i E kh k S fv row m0 w h hr hl hm0
 omega
theorem enter_hd (k:Nat) (hk:k < 13) (args:Array Value) (W:World):(callFunc (hdF k) args).run Tryz.prog W=.ok (.enter (hdF k) args) W:=by
 rcases k with _ | _ | _ | _ | _ | _ | _ | _ | _ | _ | _ | _ | _ | k
 ·show (callFunc 75 args).run Tryz.prog W=_;kernel_rfl
 ·show (callFunc 76 args).run Tryz.prog W=_;kernel_rfl
 ·show (callFunc 77 args).run Tryz.prog W=_;kernel_rfl
 ·show (callFunc 78 args).run Tryz.prog W=_;kernel_rfl
 ·show (callFunc 78 args).run Tryz.prog W=_;kernel_rfl
 ·show (callFunc 78 args).run Tryz.prog W=_;kernel_rfl
 ·show (callFunc 78 args).run Tryz.prog W=_;kernel_rfl
 ·show (callFunc 78 args).run Tryz.prog W=_;kernel_rfl
 ·show (callFunc 79 args).run Tryz.prog W=_;kernel_rfl
 ·show (callFunc 80 args).run Tryz.prog W=_;kernel_rfl
 ·show (callFunc 81 args).run Tryz.prog W=_;kernel_rfl
 ·show (callFunc 82 args).run Tryz.prog W=_;kernel_rfl
 ·show (callFunc 82 args).run Tryz.prog W=_;kernel_rfl
 omega
abbrev readDefer (bb eb:Nat):Deferred:={ target:=.fn (Fn.func 43) #[.pointer (some ⟨bb,0,none⟩),.pointer (some ⟨eb,0,none⟩)],args:=#[] }
theorem results_read (bb eb:Nat) (x y0 y1 y2:Value) (w:World) (tmps:Array Value) (h2:tmps[2]?.getD undef=.pointer (some ⟨bb,0,none⟩)) (h3:tmps[3]?.getD undef=.pointer (some ⟨eb,0,none⟩))
  (hb:w.heap[bb]?=some (.cells #[x] 57 (0,0))) (he:w.heap[eb]?=some (.cells #[y0,y1,y2] 60 (0,0))) :
  (results Tryz.f16 tmps).run Tryz.prog w=.ok (.tuple #[x,.agg #[y0,y1,y2]]) w:=by
 have b0:w.cell? ⟨bb,0,none⟩=some x:=by rw [cell_of_heap hb];rfl
 have e0:w.cell? ⟨eb,0,none⟩=some y0:=by rw [cell_of_heap he];rfl
 have e1:w.cell? ⟨eb,1,none⟩=some y1:=by rw [cell_of_heap he];rfl
 have e2:w.cell? ⟨eb,2,none⟩=some y2:=by rw [cell_of_heap he];rfl
 simp [results,Tryz.results16,go_sem,h2,h3,b0,e0,e1,e2]
theorem leave_flt (bb eb:Nat) (x y0 y1 y2:Value) (line c:Int) (W:World) (tmps:Array Value) (R:Ending→World→Prop) (h2:tmps[2]?.getD undef=.pointer (some ⟨bb,0,none⟩)) (h3:tmps[3]?.getD undef=.pointer (some ⟨eb,0,none⟩))
  (hb:W.heap[bb]?=some (.cells #[x] 57 (0,0))) (he:W.heap[eb]?=some (.cells #[y0,y1,y2] 60 (0,0))) (hne:bb≠eb)
  (hR:∀W',Kept [bb,eb] W W'→R (.returned (.tuple #[.pointer none,.agg #[.int .i64 1,.int .i64 line,.int .i64 c]])) W') :
  bodyPostD Tryz.prog Tryz.f16 R (Exit.panic [flt line c]) { tmps:=tmps,defers:=[readDefer bb eb] } W:=by
 show Leaves Tryz.prog Tryz.f16 tmps R [readDefer bb eb] (.panicking [flt line c]) W
 refine leaves_cons (f:=43) (args:=#[.pointer (some ⟨bb,0,none⟩),.pointer (some ⟨eb,0,none⟩)]) (by simp) (by simp [go_sem]) ?_
 refine (catch_flt bb eb x y0 y1 y2 line c [] W hb he hne).mono ?_
 rintro e u' w'' ⟨rfl,rfl,hk,hb',he'⟩
 simp only [settle]
 exact⟨_,results_read bb eb _ _ _ _ w'' tmps h2 h3 hb' he',hR w'' hk⟩
theorem leave_ret (bb eb:Nat) (x y0 y1 y2:Value) (W:World) (tmps:Array Value) (R:Ending→World→Prop) (h2:tmps[2]?.getD undef=.pointer (some ⟨bb,0,none⟩)) (h3:tmps[3]?.getD undef=.pointer (some ⟨eb,0,none⟩))
  (hb:W.heap[bb]?=some (.cells #[x] 57 (0,0))) (he:W.heap[eb]?=some (.cells #[y0,y1,y2] 60 (0,0)))
  (hR:∀W',Below W.heap.size W W'→R (.returned (.tuple #[x,.agg #[y0,y1,y2]])) W') :
  bodyPostD Tryz.prog Tryz.f16 R Exit.ret { tmps:=tmps,defers:=[readDefer bb eb] } W:=by
 show Leaves Tryz.prog Tryz.f16 tmps R [readDefer bb eb] .returning W
 refine leaves_cons (f:=43) (args:=#[.pointer (some ⟨bb,0,none⟩),.pointer (some ⟨eb,0,none⟩)]) (by simp) (by simp [go_sem]) ?_
 refine (catch_noF bb eb W).mono ?_
 rintro e u' w'' ⟨rfl,rfl,hbl⟩
 exact⟨_,results_read bb eb _ _ _ _ w'' tmps h2 h3 ((hbl.block _ (block_lt hb)).trans hb) ((hbl.block _ (block_lt he)).trans he),hR w'' hbl⟩
theorem leave_nowF (bb eb:Nat) (x y0 y1 y2:Value) (W:World) (tmps:Array Value) (R:Ending→World→Prop) (h2:tmps[2]?.getD undef=.pointer (some ⟨bb,0,none⟩)) (h3:tmps[3]?.getD undef=.pointer (some ⟨eb,0,none⟩))
  (hb:W.heap[bb]?=some (.cells #[x] 57 (0,0))) (he:W.heap[eb]?=some (.cells #[y0,y1,y2] 60 (0,0)))
  (hR:R (.returned (.tuple #[x,.agg #[y0,y1,y2]])) W) :
  bodyPostD Tryz.prog Tryz.f16 R Exit.ret { tmps:=tmps,defers:=[] } W :=
 ⟨_,results_read bb eb _ _ _ _ W tmps h2 h3 hb he,hR⟩
def PanicF (bb eb:Nat) (K:List PanicEntry→World→Prop) (Q:Exit→Act→World→Prop):Exit→Act→World→Prop
 | .panic c,a,W=>a.tmps[2]?.getD undef=.pointer (some ⟨bb,0,none⟩)∧a.tmps[3]?.getD undef=.pointer (some ⟨eb,0,none⟩)∧a.defers=[readDefer bb eb]∧K c W
 | e,a,W=>Q e a W
theorem PanicF.put {bb eb:Nat} {K:List PanicEntry→World→Prop} {Q:Exit→Act→World→Prop} {c:List PanicEntry} {a:Act} {W:World} {d:Option Tmp} {v:Value} (hd:d≠some 2∧d≠some 3) (h:PanicF bb eb K Q (.panic c) (a.put d v) W):PanicF bb eb K Q (.panic c) a W:=by
 obtain⟨h2,h3,hdf,hk⟩:=h
 cases d with
 | none=>exact⟨h2,h3,hdf,hk⟩
 | some t =>
  have e2:t≠2:=fun e=>hd.1 (by rw [e])
  have e3:t≠3:=fun e=>hd.2 (by rw [e])
  simp only [Act.put] at h2 h3 hdf
  rw [Array.getElem?_setIfInBounds_ne e2] at h2
  rw [Array.getElem?_setIfInBounds_ne e3] at h3
  exact⟨h2,h3,hdf,hk⟩
theorem PanicF.imp {bb eb:Nat} {K:List PanicEntry→World→Prop} {Q:Exit→Act→World→Prop}
  (h:∀c tmps W,tmps[2]?.getD undef=.pointer (some ⟨bb,0,none⟩)→tmps[3]?.getD undef=.pointer (some ⟨eb,0,none⟩)→K c W→Q (.panic c) { tmps:=tmps,defers:=[readDefer bb eb] } W) :
  ∀e a W,PanicF bb eb K Q e a W→Q e a W:=by
 rintro e ⟨tmps,ds⟩ W hq
 cases e with
 | panic c =>
  obtain⟨h2,h3,hdf,hk⟩:=hq
  simp only at hdf
  subst hdf
  exact h c tmps W h2 h3 hk
 | _=>exact hq
theorem IS.of_own' {B e size n:Nat} {w:World} {v:Value} {xs:List Value} (h:w.ownsRow B e size v n xs) (_:True):∃p c,v=.slice p n c:=by
 rcases h.2 with ⟨rfl,h0⟩ | ⟨g,cap,cur,rfl,_⟩
 ·exact⟨none,0,by rw [h0]⟩
 exact⟨_,cap,rfl⟩
theorem take_le_snoc (zs:List Int) (k:Nat) (h:k < zs.length):(zs.take (k+1)).map (Value.int .i64)=(zs.take k).map (Value.int .i64)++[Value.int .i64 (zs.getD k 0)]:=by
 rw [List.take_add_one,List.getElem?_eq_getElem h,List.map_append]
 simp [List.getD,h]
theorem own_lower {B B' e size n:Nat} {w:World} {v:Value} {xs:List Value} (h:w.ownsRow B e size v n xs) (hB:B'≤B):w.ownsRow B' e size v n xs:=by
 refine⟨h.1,?_⟩
 rcases h.2 with h0 | ⟨g,cap,cur,hv,hb,rest⟩
 ·exact .inl h0
 exact .inr ⟨g,cap,cur,hv,Nat.le_trans hB hb,rest⟩
theorem so_rReadO (kind:Int) (s:ByteArray) (w:World) (hs:s.size≤4194304) :
  Calls Tryz.prog 181 #[.int .i64 kind,.string s] w fun e w'=>∃v',e=.returned (.tuple #[v',.int .i64 (readF kind s.data.toList).2])∧w'.ownsRow w.heap.size 3 1 v' (readF kind s.data.toList).1.length ((readF kind s.data.toList).1.map (Value.int .i64))∧Below w.heap.size w w':=by
 obtain⟨i0,hi,hz0,hz1,hz2⟩:=info_parts int_info
 have inil:∀w':World,w'.ownsRow w.heap.size 3 1 (.slice none 0 0) ([]:List Int).length (([]:List Int).map (Value.int .i64)):=fun w'=>World.ownsRow_nil _ _ _ _
 rcases kind_cases kind with ⟨h,hk⟩ | ⟨h,hk⟩
 ·have HK:=hid h
  have HKK:=hid hk
  have k1:¬kind < 1:=by omega
  have k2:¬3 < kind:=by omega
  clear h hk
  by_cases h0:s.size=0
  ·have hR:=hid (show readF kind s.data.toList=([],31) by rw [readF,if_neg (by rw [HK.out];decide),if_pos (isEmpty0 s h0)])
   have he:((s.size:Int)==0)=true:=by rw [h0];rfl
   clear h0
   go_enter Tryz.func181,Tryz.ntmps181
   go_wp2_with fail
   go_ret2
   exact⟨_,by rw [hR.out];rfl,by rw [hR.out];exact inil _,Below.refl _ _⟩
  have he:((s.size:Int)==0)=false:=by rw [beq_eq_false_iff_ne];omega
  have HE:=hid (show ¬s.data.toList=[] by intro e;have:=len_toList s;rw [e] at this;simp at this;omega)
  have HR:=hid (show readF kind s.data.toList=if (numsF kind s.data.toList).contains 0=true then ([],31) else if 64 < (numsF kind s.data.toList).length then ([],32) else (canon (numsF kind s.data.toList),0) by rw [readF,if_neg (by rw [HK.out];decide),if_neg HE.out])
  have hNS:=numsOf kind s
  have hPS:=fun p hp=>piece_size kind s p hp
  have hln:=piecesOf_len kind s.data.toList
  rw [len_toList] at hln
  have hnl:(numsF kind s.data.toList).length=(piecesS kind s).length:=by rw [←hNS];simp
  have hD:=hid (fun (x:Int) hx=>(⟨(numsF_bd kind s.data.toList x hx).1,by have:=(numsF_bd kind s.data.toList x hx).2;omega⟩:0≤x∧x≤4611686018427387904))
  rw [←piecesS_len] at hln
  generalize hzs:numsF kind s.data.toList=zs at *
  have HZS:=hid hzs
  clear hzs
  obtain⟨ss,hss⟩:∃ss,piecesS kind s=ss:=⟨_,rfl⟩
  have HSS:=hid hss
  rw [hss] at hNS hPS hln hnl
  have HNS:=hid hNS
  have HPS:=hid hPS
  clear hNS hPS hss h0
  generalize hr:readF kind s.data.toList=r at *
  have HRr:=hid hr
  clear hr
  go_enter Tryz.func181,Tryz.ntmps181
  go_wp2_with (go_at_call 211;refine (so_parts kind s _ HKK.out hs).mono ?_;rw [HSS.out];rintro e w1 ⟨v1,rfl,⟨hl1,A,cap,rfl,hcap,hcells⟩,b1⟩;have HC:=hid hcells;have B1:=hid b1;clear hl1 hcells b1)
  have hs1:=B1.out.size
  go_loopw [6,8,9] (fun o i _ wr=>∃k q:Nat,k≤ss.length∧q=min k 65∧i=.int .i64 k∧Hid (∀j,j < k→zs.getD j 0≠0)∧Hid (Own w1 wr 3 1 o q ((zs.take q).map (Value.int .i64)))) (fun _ i _ _=>ss.length - (intOf i).toNat)
  case atStart=>exact⟨0,0,Nat.zero_le _,rfl,rfl,(fun j hj=>absurd hj (Nat.not_lt_zero _)),Own.nil_ _ _ _⟩
  case round =>
  obtain⟨k,q,hkk,hq0,rfl,HN,HO⟩:=hrel
  have hsz:=HO.out.size
  by_cases hlt:k < ss.length
  ·obtain⟨g,o,rfl,hc⟩:=HC.out.resolve_left (by omega)
   have c0:=hc k (.string ss[k]) (strV_get ss k hlt)
   have hcell:=(HO.out.below.cell (block_lt_of_cell? w1 _ c0)).trans c0
   have hps:=HPS.out ss[k] (List.getElem_mem hlt)
   have hkz:k < zs.length:=by omega
   have hz:zs.getD k 0=numF kind ss[k].data.toList:=by
    have:=HNS.out
    simp only [←this,List.getD,List.getElem?_map,List.getElem?_eq_getElem hlt]
    rfl
   have hpm:ss[k].size≤maxLen:=by unfold maxLen;omega
   clear hc c0 hps
   generalize ss[k]=p at *
   by_cases hq:numF kind p.data.toList=0
   ·have hfin:=hid (show r=([],31) by rw [HR.out,if_pos (a_zero zs k hkz (by rw [hz,hq]))])
    have HQ:=hid hq
    clear hq hz
    go_wp2_with (go_at_call 208;refine (so_Value kind p _ HKK.out hpm).mono ?_;rw [HQ.out];rintro e w2 ⟨rfl,n,rfl⟩)
    go_ret2
    exact⟨_,by rw [hfin.out];rfl,by rw [hfin.out];exact inil _,B1.out.trans (below_drewN (HO.out.below.mono hs1) n)⟩
   obtain⟨x,hx⟩:∃x,numF kind p.data.toList=x:=⟨_,rfl⟩
   have HX:=hid hx
   rw [hx] at hq hz
   have hne:(x==0)=false:=by rw [beq_eq_false_iff_ne];exact hq
   have HZ:=hid hz
   have hv:=IS.of_own' HO.out.own trivial
   obtain⟨p9,c9,rfl⟩:=hv
   clear hx hq hz
   by_cases h65:k < 65
   ·have hqk:q=k:=by omega
    subst hqk
    clear hq0
    have hle:(q:Int)≤64:=by omega
    have HM:=hid (take_le_snoc zs q hkz)
    go_wp2_with (first
     | (go_at_call 208;refine (so_Value kind p _ HKK.out hpm).mono ?_;rw [HX.out];rintro e w2 ⟨rfl,n,hw2⟩;have HO2:=hid (show Own w1 w2 _ _ _ _ _ by rw [hw2];exact HO.out.drewN n);clear hw2)
     | (at_builtin;refine wpList_push1 rfl _ _ 39 rfl w1.heap.size 3 i0 (.int .i64 0) 8 Tryz.underlying39 hi hz0 hz1 hz2 rfl _ q _ rfl HO2.out.own _ rfl rfl (by unfold maxLen;omega) (by omega) HO2.out.size ?_;intro gg cap2 w5 hown hg5;have HO':=hid (HO2.out.push hown hg5);clear hown hg5))
    go_roundw
    case rel =>
     refine⟨q+1,q+1,by omega,by omega,by go_num,(fun j hj=>?_),hid (by rw [HM.out,HZ.out];exact HO'.out)⟩
     by_cases e:j=q
     ·subst e;rw [HZ.out];intro e;rw [e] at hne;simp at hne
     exact HN.out j (by omega)
    case measure=>simp only [intOf];omega
   have hqk:q=65:=by omega
   subst hqk
   clear hq0
   go_wp2_with (go_at_call 208;refine (so_Value kind p _ HKK.out hpm).mono ?_;rw [HX.out];rintro e w2 ⟨rfl,n,hw2⟩;have HO2:=hid (show Own w1 w2 _ _ _ _ _ by rw [hw2];exact HO.out.drewN n);clear hw2)
   go_roundw
   case rel =>
    refine⟨k+1,65,by omega,by omega,by go_num,(fun j hj=>?_),hid HO2.out⟩
    by_cases e:j=k
    ·subst e;rw [HZ.out];intro e;rw [e] at hne;simp at hne
    exact HN.out j (by omega)
   case measure=>simp only [intOf];omega
  have hke:k=ss.length:=by omega
  subst hke
  have hno:=no_zero zs (fun j hj=>HN.out j (by omega))
  by_cases h64:64 < zs.length
  ·have hfin:=hid (show r=([],32) by rw [HR.out,if_neg (by rw [hno];decide),if_pos h64])
   have h64':(64:Int) < (ss.length:Int):=by omega
   go_wp2
   go_ret2
   exact⟨_,by rw [hfin.out];rfl,by rw [hfin.out];exact inil _,B1.out.trans (HO.out.below.mono hs1)⟩
  have hfin:=hid (show r=(canon zs,0) by rw [HR.out,if_neg (by rw [hno];decide),if_neg h64])
  have h64':¬(64:Int) < (ss.length:Int):=by omega
  have hqz:q=zs.length:=by omega
  rw [hqz,List.take_length] at HO
  have HI:=hid (IS.of_own (e:=3) HO.out.own)
  have hv:=HI.out
  obtain⟨p9,c9,rfl,-⟩:=hv
  have hz2:zs.length*8≤140737488355328:=by omega
  clear hqz hq0 hnl h64
  go_wp2_with (go_at_call 212;refine (so_rOfO _ zs _ HI.out hD.out hz2).mono ?_;rintro e w2 ⟨v2,rfl,h2,b2⟩;have H2:=hid h2;have B2:=hid b2;clear h2 b2)
  go_ret2
  exact⟨_,by rw [hfin.out];rfl,by rw [hfin.out];exact own_lower H2.out (Nat.le_trans hs1 hsz),(B1.out.trans (HO.out.below.mono hs1)).trans (B2.out.mono (Nat.le_trans hs1 hsz))⟩
 have hR:=hid (show readF kind s.data.toList=([],30) by rw [readF,if_pos h])
 rcases hk with hk | hk
 ·go_enter Tryz.func181,Tryz.ntmps181
  go_wp2_with fail
  go_ret2
  exact⟨_,by rw [hR.out];rfl,by rw [hR.out];exact inil _,Below.refl _ _⟩
 have k1:¬kind < 1:=by omega
 go_enter Tryz.func181,Tryz.ntmps181
 go_wp2_with fail
 go_ret2
 exact⟨_,by rw [hR.out];rfl,by rw [hR.out];exact inil _,Below.refl _ _⟩
end Go.Proofs.YtfkblpjfknfgbaaGreatDoor
