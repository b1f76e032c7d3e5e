import Derived.Test.YtfkblpjfknfgbaaGreatDoorRows
import Derived.Test.YtfkblpjfknfgbaaGreatDoorQ8
import Derived.Test.YtfkblpjfknfgbaaGreatDoorQ3
set_option linter.unusedVariables false
set_option linter.unusedSimpArgs false
set_option maxHeartbeats 8000000
set_option maxRecDepth 100000
open Go.Maps Go.RowKit
open Go.Lib (hid cell_of_heap frozen_of_heap)
open Go.World (block_lt_of_cell?)
namespace Go.Proofs.YtfkblpjfknfgbaaGreatDoor
theorem mH.WZ {w W:World} {b:Nat} {f k:Int} {cr:Bool} {fi n:Int} (h:mH w W b f k cr fi n):W.frozen? ⟨b,0,none⟩=false∧W.frozen? ⟨b,1,none⟩=false∧W.frozen? ⟨b,2,none⟩=false∧W.frozen? ⟨b,3,none⟩=false∧W.frozen? ⟨b,4,none⟩=false:=⟨h.fz _,h.fz _,h.fz _,h.fz _,h.fz _⟩
theorem qw {F:Fl} {s:ByteArray} {f:Int} (hf:gq F s=.ok f):f≠0∧0≤f∧f≤65535∧aM F f=false:=by
 unfold gq at hf
 have b:=BH F.kind s.data.toList;have z:=yP F.kind s.data.toList
 split at hf
 ·cases hf
 rename_i h2
 split at hf
 ·cases hf
 rename_i h3
 injection hf with hf
 subst hf
 exact⟨z (by simpa using h2),b.1,b.2,by simpa using h3⟩
theorem OD {w:World} {L:List Nat} (hL:∀x∈L,x < w.heap.size) (s u:ByteArray):∀w',Kept L (w.alloc (.cells #[.string s,.string u] 9)) w'→Rd w' 1 (.slice (some ⟨w.heap.size,0,none⟩) 2 2) [s,u].length (bn [s,u]):=by
 intro w' hk
 refine⟨rfl,_,2,rfl,Nat.le_refl _,.inr ⟨_,0,rfl,fun j u hj=>?_⟩⟩
 have h1:=hk.at (heap_alloc_new w (.cells #[.string s,.string _] 9)) (fun hm=>absurd (hL _ hm) (by omega))
 rw [Nat.zero_add,cell_of_row _ w.heap.size j _ 9 (0,0) h1]
 simpa [bn] using hj
theorem E_ (w0:World) (L:List Nat) (i:Ids) (E:Int) (kh k:Nat) (S:Sx) (fv:Value) (row:List ByteArray) (m0:Int) (w:World) (h:RM w0 w L i E kh (k+1) S) (hr:b_ w0 fv row) (hl:row.length=4) (hm0:w0.cell? ⟨0,0,none⟩=some (.int .i64 m0)) :
  Calls Tryz.prog 82 #[.pointer (some ⟨i.rb,0,none⟩),fv] w (pF w0 L i E kh k (fK E S row) w):=by
 have o7:=hid (aL hr.each)
 obtain⟨g,o,c,rfl,hc,hcells⟩:=hr.cells (by omega)
 have HD:Hid (∀j,j < 4→∀W,Below w.heap.size w W→W.cell? ⟨g,o+j,none⟩=some (.string (fieldAt row j))):=hid (fun j hj W hW=>aD (hcells j (by omega)) (h.base.trans (hW.mono h.base.size)))
 have Jd:Hid (∀W,Below w.heap.size w W→Calls Tryz.prog 113 #[.pointer (some ⟨i.rb,0,none⟩),.string (fieldAt row 1)] W (oC S.line W (Value.int .u16) (gq S.fl (fieldAt row 1)))):=hid (fun W hW=>EL w0 L i E kh (k+1) S (fieldAt row 1) W (h.below hW) (Nat.le_trans (o7.o 1) (by decide)))
 have IB:Hid (∀W b c,Below w.heap.size w W→c≠0→Calls Tryz.prog 46 #[.pointer (some ⟨i.rb,0,none⟩),.bool b,.int .i64 c] W (lX b S.line c W)):=hid (fun W b c hb hc=>aY i.rb S.line b c W hc (h.below hb).r2)
 have HNu:Hid (∀W,Below w.heap.size w W→Calls Tryz.prog 114 #[.pointer (some ⟨i.rb,0,none⟩),.string (fieldAt row 3),.int .i64 1024] W (oC S.line W (Value.int .i64) (pX (fieldAt row 3) 1024))):=hid (fun W hW=>l6 i.rb S.line (fieldAt row 3) 1024 W (Nat.le_trans (o7.o 3) (by unfold maxLen;omega)) (by decide) (by decide) (h.below hW).r2)
 have HH:=hid h;have Qe:=hid hm0;obtain⟨hbd,v,hm⟩:=h;obtain⟨rs,pG,qO,xR⟩:=hm.rls;obtain⟨AR,Mg,Dy⟩:=aF qO.1
 have hlr:rs.length=S.fl.rls.length:=by rw [←pG];simp
 have HS:Hid (∀W,Below w.heap.size w W→W.cell? ⟨i.rb,0,none⟩=some (.pointer (some ⟨i.fb,0,none⟩))∧W.cell? ⟨i.fb,12,none⟩=some (.slice AR S.fl.rls.length Mg)∧W.cell? ⟨g,o+1,none⟩=some (.string (fieldAt row 1))):=hid (fun W hW=>⟨(hm.below hW).r0,by rw [(hm.below hW).f12,Dy,hlr],HD.o 1 (by decide) W hW⟩)
 rw [hl] at hc ⊢;have HM:=hid hm;have HB:=hid hbd;have HR2:=hid hr
 have HD0:Hid (∀j,j < 4→w0.cell? ⟨g,o+j,none⟩=some (.string (fieldAt row j))):=hid (fun j hj=>hcells j (by omega))
 clear hcells hr hm0 hm hbd pG qO xR Dy hlr rs
 cases hfr:gq S.fl (fieldAt row 1) with
 | error e =>
  have bF:Hid (fK E S row=.error (S.line,e)):=hid (by rw [fK,hfr])
  rw [hfr] at Jd;unfold oC at Jd;clear hfr
  go_enter Tryz.func82,Tryz.ntmps82
  go_wp2_with fail
  refine wp_region_held_drew (S:=fun W'=>W'.cell? ⟨i.rb,0,none⟩=some (.pointer (some ⟨i.fb,0,none⟩))∧W'.cell? ⟨i.fb,12,none⟩=some (.slice AR S.fl.rls.length Mg)∧W'.cell? ⟨g,o+1,none⟩=some (.string (fieldAt row 1))) (by kernel_rfl) ?_ (fun hHeld=>?_)
  ·exact HS.o _ ah
  refine aA 0 (some 6) hHeld ?_;try simp only [aj]
  refine aA 1 (some 7) hHeld ?_;try simp only [aj]
  refine aA 2 (some 8) hHeld ?_;try simp only [aj]
  refine aA 3 (some 9) hHeld ?_;try simp only [aj]
  refine aA 5 (some 11) hHeld ?_;try simp only [aj]
  refine aA 6 (some 12) hHeld ?_;try simp only [aj]
  refine aA 7 (some 13) hHeld ?_;try simp only [aj]
  refine aA 8 (some 14) hHeld ?_;try simp only [aj]
  refine aA 9 (some 15) hHeld ?_;try simp only [aj]
  refine aA 10 (some 16) hHeld ?_;try simp only [aj]
  refine aA 11 (some 17) hHeld ?_;try simp only [aj]
  refine aA 12 (some 18) hHeld ?_;try simp only [aj]
  refine aA 13 (some 19) hHeld ?_;try simp only [aj]
  refine wpAnyH_ready (rs:=[4,15]) (by kernel_rfl) (by simp) ?_
  refine AllReadyH.cons rfl (fun K hK=>?_) ?_
  ·go_simp
   refine (Jd.o _ (by first | exact ah | exact ah.alloc (Nat.le_refl _) _)).mono ?_
   rintro e w1 ⟨hb,rfl⟩
   exact⟨rfl,L,aZ.of_below (by first | exact ah.trans hb | exact (ah.alloc (Nat.le_refl _) _).trans (hb.mono (by simp))),by rw [bF.o]⟩
  refine AllReadyH.cons rfl (fun K hK=>?_) ?_
  ·go_simp
   refine hK.out _ _ ?_ (fun hHeld=>?_)
   ·first | exact HS.o _ (ah.alloc (Nat.le_refl _) _)
   clear hK K
   refine aP 4 (fun K hK=>?_)
   go_simp
   refine (Jd.o _ (by first | exact ah | exact ah.alloc (Nat.le_refl _) _)).mono ?_
   rintro e w1 ⟨hb,rfl⟩
   exact⟨rfl,L,aZ.of_below (by first | exact ah.trans hb | exact (ah.alloc (Nat.le_refl _) _).trans (hb.mono (by simp))),by rw [bF.o]⟩
  exact AllReadyH.nil
 | ok f =>
  obtain⟨f0,f1,f2,f3⟩:f≠0∧0≤f∧f≤65535∧aM S.fl f=false:=qw hfr
  have HF:=hid (⟨f0,f1,f2,f3⟩:f≠0∧0≤f∧f≤65535∧aM S.fl f=false);rw [hfr] at Jd;unfold oC at Jd;clear f0 f1 f2 f3;obtain⟨R,hR⟩:∃R,fK E S row=R:=⟨_,rfl⟩
  have F3:Hid (R=if fieldAt row 2≠⟨#[89]⟩∧fieldAt row 2≠⟨#[78]⟩ then .error (S.line,114)
  else if bI (fieldAt row 3).data.toList 1024≠0 then .error (S.line,13)
  else if 1024 < (S.fl.rls.length:Int)+aJ (fieldAt row 3).data.toList 1024 then .error (S.line,117)
  else aO E (fun r=>decide (r.take 2=[fieldAt row 0,fieldAt row 1])) (bZ ⟨f,if fieldAt row 0=dY then 2 else 1,decide (fieldAt row 2=⟨#[89]⟩),S.fl.rls.length,aJ (fieldAt row 3).data.toList 1024⟩)
   (aJ (fieldAt row 3).data.toList 1024).toNat { S with fl:={ S.fl with cls:=S.fl.cls++[⟨f,if fieldAt row 0=dY then 2 else 1,decide (fieldAt row 2=⟨#[89]⟩),S.fl.rls.length,aJ (fieldAt row 3).data.toList 1024⟩] } }):=hid (by rw [←hR,fK,hfr])
  rw [hR];clear hR hfr
  obtain⟨Kd,Sm⟩:∃k:Int,(if fieldAt row 0=dY then (2:Int) else 1)=k:=⟨_,rfl⟩
  rw [Sm] at F3;have Sn:=hid Sm;clear Sm;obtain⟨fi,hfi⟩:∃n:Nat,S.fl.rls.length=n:=⟨_,rfl⟩;have HFi:=hid hfi;rw [hfi] at HS F3
  have Yt:fi≤65536:=by have:=HB.o.rls;omega
  clear hfi
  have Z5:Hid (∀W:World,Below w.heap.size w W→mH w (W.alloc (.cells #[.int .u16 f,.int .i64 1,.bool false,.int .i64 (fi:Int),.int .i64 0] 99)) W.heap.size f 1 false fi 0):=hid (fun W hW=>mH.Ow hW)
  have Uw:Hid (∀W:World,Below w.heap.size w W→mH w (W.alloc (.cells #[.int .u16 0,.int .i64 0,.bool false,.int .i64 0,.int .i64 0] 99)) W.heap.size 0 0 false 0 0):=hid (fun W hW=>mH.Ow hW)
  go_enter Tryz.func82,Tryz.ntmps82
  go_upto_region 0 with fail
  go_cut [4] from 6 to 20 (fun p W=>∃b,p=.pointer (some ⟨b,0,none⟩)∧Hid (mH w W b f 1 false (fi:Int) 0))
  case first =>
   go_wp2_with fail
   refine wp_region_held_drew (S:=fun W'=>W'.cell? ⟨i.rb,0,none⟩=some (.pointer (some ⟨i.fb,0,none⟩))∧W'.cell? ⟨i.fb,12,none⟩=some (.slice AR fi Mg)∧W'.cell? ⟨g,o+1,none⟩=some (.string (fieldAt row 1))) (by kernel_rfl) ?_ (fun hHeld=>?_)
   ·exact HS.o _ ah
   refine aA 0 (some 6) hHeld ?_;try simp only [aj]
   refine aA 1 (some 7) hHeld ?_;try simp only [aj]
   refine aA 2 (some 8) hHeld ?_;try simp only [aj]
   refine aA 3 (some 9) hHeld ?_;try simp only [aj]
   refine aA 5 (some 11) hHeld ?_;try simp only [aj]
   refine aA 6 (some 12) hHeld ?_;try simp only [aj]
   refine aA 7 (some 13) hHeld ?_;try simp only [aj]
   refine aA 8 (some 14) hHeld ?_;try simp only [aj]
   refine aA 9 (some 15) hHeld ?_;try simp only [aj]
   refine aA 10 (some 16) hHeld ?_;try simp only [aj]
   refine aA 11 (some 17) hHeld ?_;try simp only [aj]
   refine aA 12 (some 18) hHeld ?_;try simp only [aj]
   refine aA 13 (some 19) hHeld ?_;try simp only [aj]
   refine wpAnyH_ready (rs:=[4,15]) (by kernel_rfl) (by simp) ?_
   refine AllReadyH.cons rfl (fun K hK=>?_) ?_
   ·go_simp
    refine (Jd.o _ (by first | exact ah | exact ah.alloc (Nat.le_refl _) _)).mono ?_
    rintro e w1 ⟨hb,rfl⟩
    have HB1:Hid (Below w.heap.size w w1):=hid (by first | exact ah.trans hb | exact (ah.alloc (Nat.le_refl _) _).trans (hb.mono (by simp)))
    try (have lM:Hid (mH w w1 w.heap.size 0 0 false 0 0):=hid ((Uw.o w.drew ah).later hb))
    clear hb
    refine hK.out _ _ ?_ (fun hHeld=>?_)
    ·exact HS.o _ HB1.o
    refine aA 14 (some 20) hHeld ?_;try simp only [aj]
    refine aP 15 (fun K hK=>?_)
    go_simp
    refine hK.out _ _ ?_ (fun hHeld=>?_)
    ·first | exact HS.o _ (ah.alloc (Nat.le_refl _) _) | exact HS.o _ (HB1.o.alloc HB1.o.size _)
    clear hK K
    refine aP 16 (fun K hK=>?_)
    try (have q0:=lM.o.c0;have q1:=lM.o.c1;have q2:=lM.o.c2;have q3:=lM.o.c3;have q4:=lM.o.c4;obtain⟨z0,z1,z2,z3,z4⟩:=lM.o.WZ)
    go_simp
    refine hK.out _ _ ?_ (fun hHeld=>?_)
    ·first | exact HS.o _ (HB1.o.alloc HB1.o.size _) | exact HS.o _ (lM.o.fill f 1 false fi 0).below
    clear hK K
    refine wpAnyH_done (by kernel_rfl) ?_ _
    go_wp2_with fail
    go_meet
    first | exact⟨_,rfl,hid (Z5.o _ HB1.o)⟩ | exact⟨_,rfl,hid (lM.o.fill f 1 false fi 0)⟩
   refine AllReadyH.cons rfl (fun K hK=>?_) ?_
   ·go_simp
    refine hK.out _ _ ?_ (fun hHeld=>?_)
    ·first | exact HS.o _ (ah.alloc (Nat.le_refl _) _) | exact HS.o _ (HB1.o.alloc HB1.o.size _)
    clear hK K
    refine aP 4 (fun K hK=>?_)
    go_simp
    refine (Jd.o _ (by first | exact ah | exact ah.alloc (Nat.le_refl _) _)).mono ?_
    rintro e w1 ⟨hb,rfl⟩
    have HB1:Hid (Below w.heap.size w w1):=hid (by first | exact ah.trans hb | exact (ah.alloc (Nat.le_refl _) _).trans (hb.mono (by simp)))
    try (have lM:Hid (mH w w1 w.heap.size 0 0 false 0 0):=hid ((Uw.o w.drew ah).later hb))
    clear hb
    refine hK.out _ _ ?_ (fun hHeld=>?_)
    ·exact HS.o _ HB1.o
    clear hK K
    refine aA 14 (some 20) hHeld ?_;try simp only [aj]
    refine aP 16 (fun K hK=>?_)
    try (have q0:=lM.o.c0;have q1:=lM.o.c1;have q2:=lM.o.c2;have q3:=lM.o.c3;have q4:=lM.o.c4;obtain⟨z0,z1,z2,z3,z4⟩:=lM.o.WZ)
    go_simp
    refine hK.out _ _ ?_ (fun hHeld=>?_)
    ·first | exact HS.o _ (HB1.o.alloc HB1.o.size _) | exact HS.o _ (lM.o.fill f 1 false fi 0).below
    clear hK K
    refine wpAnyH_done (by kernel_rfl) ?_ _
    go_wp2_with fail
    go_meet
    first | exact⟨_,rfl,hid (Z5.o _ HB1.o)⟩ | exact⟨_,rfl,hid (lM.o.fill f 1 false fi 0)⟩
   exact AllReadyH.nil
  case rest =>
  obtain⟨b,rfl,UL⟩:=hcut
  have d0:=HD.o 0 (by decide) _ UL.o.below
  rw [Nat.add_zero] at d0;have fz1:=UL.o.fz 1;have cz1:=UL.o.c1;obtain⟨Bz,Ad⟩:∃B,((fieldAt row 0).toList==[83,70,88])=B:=⟨_,rfl⟩
  go_upto_if 24 with fail
  go_cut [] from 25 to 25 (fun W=>Hid (mH w W b f Kd false (fi:Int) 0))
  case first =>
   cases Bz
   ·have hk:Kd=1:=by
     rw [←Sn.o,if_neg]
     intro e
     rw [e,Lib.toList_data] at Ad
     exact absurd Ad (by decide)
    subst hk
    go_wp2_with fail
    all_goals go_meet
    all_goals exact UL
   have hk:Kd=2:=by
    rw [←Sn.o,if_pos]
    exact ((mI [83,70,88] (fieldAt row 0)).2 (eq_of_beq Ad).symm).symm
   subst hk
   go_wp2_with fail
   all_goals go_meet
   all_goals exact hid (UL.o.setKind 2)
  case rest =>
  have Le:=hcut
  clear hcut UL d0 fz1 cz1 Ad
  have d2:=HD.o 2 (by decide) _ Le.o.below
  have d3:=HD.o 3 (by decide) _ Le.o.below
  by_cases TW:fieldAt row 2≠⟨#[89]⟩∧fieldAt row 2≠⟨#[78]⟩
  ·have bF:Hid (R=.error (S.line,114)):=hid (by rw [F3.o,if_pos TW])
   have e1:=gM _ [89] TW.1;have e2:=gM _ [78] TW.2;clear TW
   go_wp2_with fail
   refine (IB.o _ _ _ Le.o.below (by decide)).mono ?_
   rintro e w9 ⟨⟨hx,-⟩ | ⟨-,rfl⟩,rfl⟩
   ·exact absurd hx (by simp)
   exact⟨rfl,L,aZ.of_below Le.o.below,by rw [bF.o]⟩
  obtain⟨cr,hcr⟩:∃B,((fieldAt row 2).toList==[89])=B:=⟨_,rfl⟩
  have QT:decide (fieldAt row 2=⟨#[89]⟩)=cr:=by
   rw [←hcr,Bool.eq_iff_iff,decide_eq_true_iff,beq_iff_eq]
   exact⟨fun e=>((mI [89] _).1 e.symm).symm,fun e=>((mI [89] (fieldAt row 2)).2 e.symm).symm⟩
  have hN:cr=false→((fieldAt row 2).toList==[78])=true:=fun h=>by
   have hy:fieldAt row 2≠⟨#[89]⟩:=by rw [h] at QT;simpa using QT
   have hn:fieldAt row 2=⟨#[78]⟩:=Classical.not_not.1 (fun e=>TW ⟨hy,e⟩)
   rw [beq_iff_eq];exact ((mI [78] _).1 hn.symm).symm
  have HNN:=hid hN;have HR1:=F3.o;rw [if_neg TW,QT] at HR1;have HR4:=hid HR1;clear TW hN QT HR1 F3
  go_upto_region 3 with fail
  go_cut [] from 26 to 37 (fun W=>W=wc)
  case first =>
   cases cr
   ·have e2:=HNN.o rfl
    go_wp2_with (go_at_call 46;refine (IB.o _ _ _ Le.o.below (by decide)).mono ?_;rintro e w9 ⟨⟨-,rfl⟩ | ⟨hx,-⟩,rfl⟩)
    all_goals go_meet
    all_goals rfl
   go_wp2_with (go_at_call 46;refine (IB.o _ _ _ Le.o.below (by decide)).mono ?_;rintro e w9 ⟨⟨-,rfl⟩ | ⟨hx,-⟩,rfl⟩)
   all_goals go_meet
   all_goals rfl
  case rest =>
  subst hcut
  have cz2:=Le.o.c2;have fz2:=Le.o.fz 2
  go_upto_region 5 with fail
  have UM:=hid (Le.o.Ov cr)
  have d3':=HD.o 3 (by decide) _ UM.o.below
  have Jz:=hid (HNu.o _ UM.o.below);clear cz2 fz2 d2 d3;unfold pX at Jz
  rcases dK (fieldAt row 3).data.toList 1024 with hq | hq
  rotate_left
  ·have bF:Hid (R=.error (S.line,13)):=hid (by rw [HR4.o,if_pos (by rw [hq];decide)])
   rw [if_pos (by rw [hq];decide)] at Jz
   unfold oC at Jz;clear hq
   go_wp2_with fail
   refine Jz.o.mono ?_
   rintro e w5 ⟨hb5,rfl⟩
   exact⟨rfl,L,aZ.of_below (UM.o.below.trans (hb5.mono UM.o.below.size)),by rw [bF.o]⟩
  have hq0:¬(bI (fieldAt row 3).data.toList 1024≠0):=by rw [hq];decide
  have UN:=hid HR4.o;rw [if_neg hq0] at Jz UN;unfold oC at Jz;clear hq HR4 hq0
  obtain⟨b0,b1⟩:=dJ (fieldAt row 3).data.toList 1024 (by decide)
  obtain⟨n,hn⟩:∃n:Nat,aJ (fieldAt row 3).data.toList 1024=n:=⟨_,(Int.toNat_of_nonneg b0).symm⟩;rw [hn] at Jz UN b1;rw [Int.toNat_natCast] at UN
  have hn2:n≤1024:=by omega
  clear hn b0 b1
  have hwr:IntKind.i64.wrap ((fi:Int)+(n:Int))=(fi:Int)+(n:Int):=by rw [IntKind.wrap_i64];omega
  by_cases hsum:(1024:Int) < (fi:Int)+(n:Int)
  ·have bF:Hid (R=.error (S.line,117)):=hid (by rw [UN.o,if_pos hsum])
   go_wp2_with (go_at_call 114;refine Jz.o.mono ?_;rintro e w5 ⟨hb5,rfl⟩;have Li:=hid (UM.o.later hb5);have cz3:=Li.o.c3;have cz4:=Li.o.c4;have fz4:=Li.o.fz 4;clear hb5)
   have W_:=hid (Li.o.EZ (n:Int))
   refine (IB.o _ _ _ W_.o.below (by decide)).mono ?_
   rintro e w9 ⟨⟨hx,-⟩ | ⟨-,rfl⟩,rfl⟩
   ·exact absurd hx (by simp;omega)
   exact⟨rfl,L,aZ.of_below W_.o.below,by rw [bF.o]⟩
  have Fu:=hid UN.o;rw [if_neg hsum] at Fu;clear UN
  have Xa:(fi:Int)+(n:Int)≤1024:=by omega
  clear hsum
  go_upto_region 6 with (go_at_call 114;refine Jz.o.mono ?_;rintro e w5 ⟨hb5,rfl⟩;have Li:=hid (UM.o.later hb5);have cz3:=Li.o.c3;have cz4:=Li.o.c4;have fz4:=Li.o.fz 4;clear hb5)
  have W_:=hid (Li.o.EZ (n:Int))
  go_cut [] from 26 to 56 (fun W=>Hid (mH w W b f Kd cr (fi:Int) (n:Int)))
  case first =>
   go_wp2_with (go_at_call 46;refine (IB.o _ _ _ W_.o.below (by decide)).mono ?_;rintro e w9 ⟨⟨-,rfl⟩ | ⟨hx,-⟩,rfl⟩)
   all_goals go_meet
   all_goals exact W_
  case rest =>
  have Iw:=hid (HM.o.below hcut.out.below)
  have UO:=hid (hcut.out.cb (fun x hx=>(HM.o.hl x hx).2))
  have HGq:=hid (aZ.of_below (L:=L) hcut.out.below);clear hcut hwr Xa d3';obtain⟨f0,f1,f2,f3⟩:=HF.o
  have HT0:Hid (cB S.fl f=0):=hid (by unfold cB;rw [if_neg f0,f3];rfl)
  go_upto_region 7 with fail
  go_cut [] from 57 to 64 (fun W=>Hid (bR w0 W L i v E S (S.fl.rls.map (·.line)) (fun t=>if t=f then 1 else cB S.fl t) (CQ S.fl+S.fl.cls.length+1) (eH S.fl.cls) S.fl.cls.length)∧Hid (Je W L b ⟨f,Kd,cr,(fi:Int),(n:Int)⟩)∧Hid (aZ L w L W))
  case first =>
   have c5:=Iw.o.r5
   obtain⟨k0,-⟩:=UO.o.cells;have hlk:=(Iw.o.below (ah (w:=wc))).taken.look f ⟨f1,f2⟩;rw [HT0.o] at hlk
   obtain⟨w7,hst,hcn,hkp⟩:=(Iw.o.below (ah (w:=wc))).taken.store f ⟨f1,f2⟩ 1 (by decide) (by have:=HB.o.cls;unfold CQ Rv;(repeat' split)<;>omega)
   have kC:=hid ((Iw.o.below (ah (w:=wc))).EJ hkp hcn)
   have Xm:=hid (show aZ L wc L w7 from (aZ.of_below ah).trans ⟨hkp.mono (by intro x hx;simp at hx;subst hx;exact Iw.o.Fy),fun x hx=>.inl hx⟩)
   clear hcn hkp
   go_wp2_with fail
   go_region
   all_goals go_wp2_with fail
   all_goals go_meet
   all_goals exact⟨kC,hid (UO.o.go Xm.o),hid (HGq.o.trans Xm.o)⟩
  case rest =>
  obtain⟨OV,Vh,Xn⟩:=hcut
  clear Iw UO HGq HT0
  go_upto_region 8 with fail
  go_cut [] from 57 to 82 (fun W=>Hid (bR w0 W L i v E S (S.fl.rls.map (·.line)) (fun t=>if t=f then 1 else cB S.fl t) (CQ S.fl+S.fl.cls.length+1) (fun t=>if t=f then some S.fl.cls.length else eH S.fl.cls t) (S.fl.cls.length+1))∧Hid (Je W L b ⟨f,Kd,cr,(fi:Int),(n:Int)⟩)∧Hid (aZ L w L W))
  case first =>
   have c0:=OV.o.r0
   have c11:=OV.o.f11;have c13:=OV.o.f13;obtain⟨A8,LW,X0⟩:=aF OV.o.cls.1;rw [X0] at c11;obtain⟨k0,-⟩:=Vh.o.cells
   obtain⟨w9,hst,hcn,hkp⟩:=(OV.o.below (ah (w:=wc))).qN.store f ⟨f1,f2⟩ S.fl.cls.length (by have:=HB.o.cls;omega) (by have:=HB.o.cls;omega)
   have YD:=hid ((OV.o.below (ah (w:=wc))).Qv hkp hcn)
   have nU:=hid (show aZ L wc L w9 from (aZ.of_below ah).trans ⟨hkp.mono (by intro x hx;simp at hx;subst hx;exact OV.o.Fg),fun x hx=>.inl hx⟩)
   clear hcn hkp X0
   go_wp2_with fail
   go_region
   all_goals go_wp2_with fail
   all_goals go_meet
   all_goals exact⟨YD,hid (Vh.o.go nU.o),hid (Xn.o.trans nU.o)⟩
  case rest =>
  obtain⟨nk,K7,TY⟩:=hcut
  clear OV Vh Xn
  go_upto_region 9 with fail
  go_cut [] from 57 to 100 (fun W=>∃L',Hid (RM w0 W L' i E kh k { S with fl:={ S.fl with cls:=S.fl.cls++[⟨f,Kd,cr,(fi:Int),(n:Int)⟩] } })∧Hid (Je W L' b ⟨f,Kd,cr,(fi:Int),(n:Int)⟩)∧Hid (aZ L w L' W))
  case first =>
   obtain⟨ic,hi,hz0,hz1,hz2⟩:=info_parts vD
   obtain⟨A3,gW,hv3⟩:=aF nk.o.cls.1;have c0:=nk.o.r0;have c9:=nk.o.f11;rw [hv3] at c9;have lK:=hid nk.o.cls.1;rw [hv3] at lK;have ZP:=(nk.o.hl _ nk.o.oh).2;have j3:=hid hv3
   have Mi:S.fl.cls.length≤65536:=by have:=HB.o.cls;omega
   have qQ:Hid (∀W,Below wc.heap.size wc W→(W.cell? ⟨i.rb,0,none⟩=some (.pointer (some ⟨i.fb,0,none⟩))∧W.cell? ⟨b,0,none⟩=some (.int .u16 f)∧W.cell? ⟨b,1,none⟩=some (.int .i64 Kd)∧W.cell? ⟨b,2,none⟩=some (.bool cr)∧W.cell? ⟨b,3,none⟩=some (.int .i64 (fi:Int))∧W.cell? ⟨b,4,none⟩=some (.int .i64 (n:Int)))):=hid (fun W hW=>⟨(nk.o.below hW).r0,(K7.o.go (aZ.of_below hW)).cells⟩)
   clear hv3
   go_wp2_with fail
   refine wp_region_held_drew (S:=fun W'=>W'.cell? ⟨i.rb,0,none⟩=some (.pointer (some ⟨i.fb,0,none⟩))∧W'.cell? ⟨b,0,none⟩=some (.int .u16 f)∧W'.cell? ⟨b,1,none⟩=some (.int .i64 Kd)∧W'.cell? ⟨b,2,none⟩=some (.bool cr)∧W'.cell? ⟨b,3,none⟩=some (.int .i64 (fi:Int))∧W'.cell? ⟨b,4,none⟩=some (.int .i64 (n:Int))) (by kernel_rfl) ?_ (fun hHeld=>?_)
   ·exact qQ.o _ ah
   refine aA 0 (some 83) hHeld ?_;try simp only [aj]
   refine aA 1 (some 84) hHeld ?_;try simp only [aj]
   refine aA 2 (some 85) hHeld ?_;try simp only [aj]
   refine aA 3 (some 86) hHeld ?_;try simp only [aj]
   refine aA 4 (some 87) hHeld ?_;try simp only [aj]
   refine aA 5 (some 88) hHeld ?_;try simp only [aj]
   refine aA 6 (some 89) hHeld ?_;try simp only [aj]
   refine aA 7 (some 90) hHeld ?_;try simp only [aj]
   refine aA 8 (some 91) hHeld ?_;try simp only [aj]
   refine aA 9 (some 92) hHeld ?_;try simp only [aj]
   refine aA 10 (some 93) hHeld ?_;try simp only [aj]
   refine aA 12 (some 95) hHeld ?_;try simp only [aj]
   refine wpAnyH_ready (rs:=[11,13]) (by kernel_rfl) (by simp) ?_
   refine AllReadyH.cons rfl (fun K hK=>?_) ?_
   ·go_simp
    refine hK.out _ _ ?_ (fun hHeld=>?_)
    ·first | exact qQ.o _ ah | exact qQ.o _ (ah.alloc (Nat.le_refl _) _) | exact⟨dZ.o.r0,uj.o.cells⟩
    clear hK K
    refine aP 13 (fun K hK=>?_)
    go_simp
    refine hK.out _ _ ?_ (fun hHeld=>?_)
    ·first | exact qQ.o _ ah | exact qQ.o _ (ah.alloc (Nat.le_refl _) _) | exact⟨dZ.o.r0,uj.o.cells⟩
    clear hK K
    refine aP 14 (fun K hK=>?_)
    refine aW (w:=wc.drew) (by rfl) _ _ 80 (by rfl) 0 99 ic _ 5 40 Tryz.underlying80 hi hz0 hz1 hz2 rfl (by decide) (.slice A3 S.fl.cls.length gW) S.fl.cls.length _ (by rfl) lK.o #[.int .u16 f,.int .i64 Kd,.bool cr,.int .i64 (fi:Int),.int .i64 (n:Int)] (by rfl) (by intro x hx;simp at hx;rcases hx with rfl | rfl | rfl | rfl | rfl<;>rfl) (by rfl) (by unfold maxLen;omega) (by omega) (Nat.zero_le _) ?_
    intro gg cc w9 hown bM hloc
    rw [←j3.o] at bM hloc;obtain⟨L9,kD,kK⟩:=(nk.o.below ah).sJ ⟨f,Kd,cr,(fi:Int),(n:Int)⟩ bM hloc hown
    have jD:=(nk.o.below (ah (w:=wc))).bX bM ((nk.o.below (ah (w:=wc))).eu) (by decide)
    have nP:=(nk.o.below (ah (w:=wc))).dx bM ((nk.o.below (ah (w:=wc))).eu) (by decide)
    have ze:=(K7.o.go (aZ.of_below (ah (w:=wc)))).grown bM nk.o.cls.2
    have nI:w9.cell? ⟨i.fb,11,none⟩=some (.slice A3 S.fl.cls.length gW):=by rw [cell_of_heap jD];exact congrArg some j3.o
    have z9:w9.frozen? ⟨i.fb,11,none⟩=false:=frozen_of_heap jD 11;have dZ:=hid kK;have nU:=hid kD;have uj:=hid ((K7.o.go (aZ.of_below ah)).go kD)
    have uf:Hid (w9.cell? ⟨i.rb,0,none⟩=some (.pointer (some ⟨i.fb,0,none⟩))∧w9.cell? ⟨b,0,none⟩=some (.int .u16 f)∧w9.cell? ⟨b,1,none⟩=some (.int .i64 Kd)∧w9.cell? ⟨b,2,none⟩=some (.bool cr)∧w9.cell? ⟨b,3,none⟩=some (.int .i64 (fi:Int))∧w9.cell? ⟨b,4,none⟩=some (.int .i64 (n:Int))):=hid ⟨by rw [cell_of_heap nP];rfl,qg ze⟩
    clear hown bM hloc kD kK jD nP ze
    refine hK.out _ _ ?_ (fun hHeld=>?_)
    ·exact uf.o
    clear hK K
    refine aA 15 (some 98) hHeld ?_;try simp only [aj]
    refine aA 16 (some 99) hHeld ?_;try simp only [aj]
    refine aA 17 (some 100) hHeld ?_;try simp only [aj]
    refine aP 18 (fun K hK=>?_)
    go_simp
    refine hK.out _ _ ?_ (fun hHeld=>?_)
    ·first | exact qQ.o _ ah | exact qQ.o _ (ah.alloc (Nat.le_refl _) _) | exact⟨dZ.o.r0,uj.o.cells⟩
    clear hK K
    refine wpAnyH_done (by kernel_rfl) ?_ _
    go_wp2_with fail
    go_meet
    exact⟨_,hid (RM.Ox HB.o ⟨by show 0 < f;omega,f2⟩ f3 dZ.o),uj,hid ((TY.o.trans (aZ.of_below ah)).trans nU.o)⟩
   refine AllReadyH.cons rfl (fun K hK=>?_) ?_
   ·go_simp
    refine hK.out _ _ ?_ (fun hHeld=>?_)
    ·first | exact qQ.o _ ah | exact qQ.o _ (ah.alloc (Nat.le_refl _) _) | exact⟨dZ.o.r0,uj.o.cells⟩
    clear hK K
    refine aP 11 (fun K hK=>?_)
    go_simp
    refine hK.out _ _ ?_ (fun hHeld=>?_)
    ·first | exact qQ.o _ ah | exact qQ.o _ (ah.alloc (Nat.le_refl _) _) | exact⟨dZ.o.r0,uj.o.cells⟩
    clear hK K
    refine aP 14 (fun K hK=>?_)
    refine aW (w:=wc.drew) (by rfl) _ _ 80 (by rfl) 0 99 ic _ 5 40 Tryz.underlying80 hi hz0 hz1 hz2 rfl (by decide) (.slice A3 S.fl.cls.length gW) S.fl.cls.length _ (by rfl) lK.o #[.int .u16 f,.int .i64 Kd,.bool cr,.int .i64 (fi:Int),.int .i64 (n:Int)] (by rfl) (by intro x hx;simp at hx;rcases hx with rfl | rfl | rfl | rfl | rfl<;>rfl) (by rfl) (by unfold maxLen;omega) (by omega) (Nat.zero_le _) ?_
    intro gg cc w9 hown bM hloc
    rw [←j3.o] at bM hloc;obtain⟨L9,kD,kK⟩:=(nk.o.below ah).sJ ⟨f,Kd,cr,(fi:Int),(n:Int)⟩ bM hloc hown
    have jD:=(nk.o.below (ah (w:=wc))).bX bM ((nk.o.below (ah (w:=wc))).eu) (by decide)
    have nP:=(nk.o.below (ah (w:=wc))).dx bM ((nk.o.below (ah (w:=wc))).eu) (by decide)
    have ze:=(K7.o.go (aZ.of_below (ah (w:=wc)))).grown bM nk.o.cls.2
    have nI:w9.cell? ⟨i.fb,11,none⟩=some (.slice A3 S.fl.cls.length gW):=by rw [cell_of_heap jD];exact congrArg some j3.o
    have z9:w9.frozen? ⟨i.fb,11,none⟩=false:=frozen_of_heap jD 11;have dZ:=hid kK;have nU:=hid kD;have uj:=hid ((K7.o.go (aZ.of_below ah)).go kD)
    have uf:Hid (w9.cell? ⟨i.rb,0,none⟩=some (.pointer (some ⟨i.fb,0,none⟩))∧w9.cell? ⟨b,0,none⟩=some (.int .u16 f)∧w9.cell? ⟨b,1,none⟩=some (.int .i64 Kd)∧w9.cell? ⟨b,2,none⟩=some (.bool cr)∧w9.cell? ⟨b,3,none⟩=some (.int .i64 (fi:Int))∧w9.cell? ⟨b,4,none⟩=some (.int .i64 (n:Int))):=hid ⟨by rw [cell_of_heap nP];rfl,qg ze⟩
    clear hown bM hloc kD kK jD nP ze
    refine hK.out _ _ ?_ (fun hHeld=>?_)
    ·exact uf.o
    clear hK K
    refine aA 15 (some 98) hHeld ?_;try simp only [aj]
    refine aA 16 (some 99) hHeld ?_;try simp only [aj]
    refine aA 17 (some 100) hHeld ?_;try simp only [aj]
    refine aP 18 (fun K hK=>?_)
    go_simp
    refine hK.out _ _ ?_ (fun hHeld=>?_)
    ·first | exact qQ.o _ ah | exact qQ.o _ (ah.alloc (Nat.le_refl _) _) | exact⟨dZ.o.r0,uj.o.cells⟩
    clear hK K
    refine wpAnyH_done (by kernel_rfl) ?_ _
    go_wp2_with fail
    go_meet
    exact⟨_,hid (RM.Ox HB.o ⟨by show 0 < f;omega,f2⟩ f3 dZ.o),uj,hid ((TY.o.trans (aZ.of_below ah)).trans nU.o)⟩
   exact AllReadyH.nil
  case rest =>
  obtain⟨L1,Xb,T9,Z6⟩:=hcut
  clear nk K7 TY
  have Us:Hid (aO E (fun r=>decide (r.take 2=[fieldAt row 0,fieldAt row 1])) (bZ ⟨f,Kd,cr,(fi:Int),(n:Int)⟩) n { S with fl:={ S.fl with cls:=S.fl.cls++[⟨f,Kd,cr,(fi:Int),(n:Int)⟩] } }=R):=hid Fu.o.symm
  clear Fu HH HM HB Jd IB HNu HF f0 f1 f2 f3 Sn HNN HFi Z5 Uw HS;obtain⟨-,-,-,-,q4⟩:=T9.o.cells;obtain⟨cl,hcl⟩:∃c:Cl,(⟨f,Kd,cr,(fi:Int),(n:Int)⟩:Cl)=c:=⟨_,rfl⟩;rw [hcl] at Us Xb T9;have hcn:n=n:=rfl;clear hcl hcn
  go_wp2_with fail
  go_loopw [5,103] (fun _ x wr=>∃(m:Nat) (S':Sx) (L':List Nat),m≤n∧x=.int .i64 m∧Hid (RM w0 wr L' i E kh k S')∧Hid (Je wr L' b cl)∧Hid (aZ L w L' wr)∧Hid (aO E (fun r=>decide (r.take 2=[fieldAt row 0,fieldAt row 1])) (bZ cl) (n - m) S'=R)) (fun _ x _=>n - (intOf x).toNat)
  case atStart=>exact⟨0,_,L1,Nat.zero_le _,rfl,Xb,T9,Z6,Us⟩
  case round =>
  obtain⟨m,S',L',hm,rfl,pE,UO,xJ,Ai⟩:=hrel
  by_cases hlt:m < n
  ·have hnm:n - m=(n - (m+1))+1:=by omega
   have hcase:(∃l2,R=.error (l2,116)∧Calls Tryz.prog 115 #[.pointer (some ⟨i.rb,0,none⟩),.slice (some ⟨wr.heap.size,0,none⟩) 2 2] ((wr.drew).alloc (.cells #[.string (fieldAt row 0),.string (fieldAt row 1)] 9)) (fun e w'=>aZ L' ((wr.drew).alloc (.cells #[.string (fieldAt row 0),.string (fieldAt row 1)] 9)) L' w'∧e=.panicked [F5 l2 116])) ∨
     (∃l dM rest,S'.rows=(l,dM)::rest∧R=(match bZ cl S'.fl l dM with
      | .error c=>.error (l,c)
      | .ok F=>aO E (fun r=>decide (r.take 2=[fieldAt row 0,fieldAt row 1])) (bZ cl) (n - (m+1)) { fl:=F,rows:=rest,heads:=S'.heads,line:=l })∧Calls Tryz.prog 115 #[.pointer (some ⟨i.rb,0,none⟩),.slice (some ⟨wr.heap.size,0,none⟩) 2 2] ((wr.drew).alloc (.cells #[.string (fieldAt row 0),.string (fieldAt row 1)] 9)) (fun e w'=>aZ L' ((wr.drew).alloc (.cells #[.string (fieldAt row 0),.string (fieldAt row 1)] 9)) L' w'∧∃fv,e=.returned fv∧Rd w0 1 fv dM.length (bn dM)∧RM w0 w' L' i E (kh+1) (k+1) { S' with rows:=rest,line:=l })):=by
    have hIn:=yQ w0 L' i E kh k S' (.slice (some ⟨wr.heap.size,0,none⟩) 2 2) [fieldAt row 0,fieldAt row 1] ((wr.drew).alloc (.cells #[.string (fieldAt row 0),.string (fieldAt row 1)] 9)) (pE.o.below (ah.alloc (Nat.le_refl _) _))
     (OD (w:=wr.drew) (fun x hx=>by obtain⟨_,v,hv⟩:=pE.o;exact (hv.hl x hx).2) _ _) (show 2≤1048576 by decide)
    unfold r_ at hIn
    rcases hrows:S'.rows with _ | ⟨⟨l,dM⟩,rest⟩
    ·rw [hrows] at hIn
     exact .inl ⟨E,by rw [←Ai.o,hnm,aO,hrows],hIn⟩
    rw [hrows] at hIn;dsimp only at hIn;have hl2:[fieldAt row 0,fieldAt row 1].length=2:=rfl;rw [hl2] at hIn
    by_cases hh:dM.take 2=[fieldAt row 0,fieldAt row 1]
    ·refine .inr ⟨l,dM,rest,rfl,?_,hIn.mono ?_⟩
     ·rw [←Ai.o,hnm,aO,hrows];dsimp only;rw [if_pos (decide_eq_true hh)];rfl
     rintro e w' ⟨h1,h2⟩
     rw [if_pos hh] at h2
     exact⟨h1,h2⟩
    refine .inl ⟨l,?_,hIn.mono ?_⟩
    ·rw [←Ai.o,hnm,aO,hrows];dsimp only;rw [if_neg (by simpa using hh)]
    rintro e w' ⟨h1,h2⟩
    rw [if_neg hh] at h2
    exact⟨h1,h2⟩
   have rT:Hid (∀W,Below wr.heap.size wr W→(W.cell? ⟨g,o,none⟩=some (.string (fieldAt row 0))∧W.cell? ⟨g,o+1,none⟩=some (.string (fieldAt row 1)))):=hid (fun W hW=>⟨aD (HD0.o 0 (by decide)) (pE.o.below hW).base,aD (HD0.o 1 (by decide)) (pE.o.below hW).base⟩)
   have qU:=hid (xJ.o.trans (aZ.of_below (L:=L') (ah.alloc (Nat.le_refl _) (.cells #[.string (fieldAt row 0),.string (fieldAt row 1)] 9))));have Xc:=hid (UO.o.go (aZ.of_below (ah.alloc (Nat.le_refl _) (.cells #[.string (fieldAt row 0),.string (fieldAt row 1)] 9))))
   rcases hcase with ⟨l2,hRe,hIn⟩ | ⟨l,dM,rest,hrows,hRe,hIn⟩
   ·have bF:=hid hRe
    have oG:=hid hIn;clear hRe hIn hnm
    go_wp2_with fail
    refine wp_region_held_drew (S:=fun W'=>W'.cell? ⟨g,o,none⟩=some (.string (fieldAt row 0))∧W'.cell? ⟨g,o+1,none⟩=some (.string (fieldAt row 1))) (by kernel_rfl) ?_ (fun hHeld=>?_)
    ·exact rT.o _ ah
    refine aA 0 (some 105) hHeld ?_;try simp only [aj]
    refine aA 1 (some 106) hHeld ?_;try simp only [aj]
    refine aA 2 (some 107) hHeld ?_;try simp only [aj]
    refine aA 3 (some 108) hHeld ?_;try simp only [aj]
    refine aA 4 (some 109) hHeld ?_;try simp only [aj]
    refine aA 5 (some 110) hHeld ?_;try simp only [aj]
    refine aA 6 (some 111) hHeld ?_;try simp only [aj]
    refine aP 7 (fun K hK=>?_)
    go_simp
    refine hK.out _ _ ?_ (fun hHeld=>?_)
    ·first | exact rT.o _ ah | exact rT.o _ (ah.alloc (Nat.le_refl _) _)
    clear hK K
    refine aP 8 (fun K hK=>?_)
    go_simp
    refine oG.o.mono ?_
    rintro e w9 ⟨bM,rfl⟩
    exact⟨rfl,L',qU.o.trans bM,by rw [bF.o]⟩
   have zy:=hid pE.o.1
   have HRW:Hid (∀fv,Rd w0 1 fv dM.length (bn dM)→b_ w0 fv dM):=hid (fun fv h=>mU zy.o hrows h)
   obtain⟨S2,hS2⟩:∃S2,({ S' with rows:=rest,line:=l }:Sx)=S2:=⟨_,rfl⟩
   have hln:S2.line=l:=by rw [←hS2]
   have HR7:Hid (R=match bZ cl S2.fl S2.line dM with
    | .error c=>.error (S2.line,c)
    | .ok F=>aO E (fun r=>decide (r.take 2=[fieldAt row 0,fieldAt row 1])) (bZ cl) (n - (m+1)) { S2 with fl:=F }):=hid (by rw [hRe,←hS2])
   rw [hS2] at hIn;have oG:=hid hIn;clear hRe hIn hnm hS2 hln hrows
   go_upto_region 12 with fail
   go_cut [5] from 105 to 113 (fun p W=>Hid (b_ w0 p dM)∧Hid (RM w0 W L' i E (kh+1) (k+1) S2)∧Hid (Je W L' b cl)∧Hid (aZ L w L' W))
   case first =>
    go_wp2_with fail
    refine wp_region_held_drew (S:=fun W'=>W'.cell? ⟨g,o,none⟩=some (.string (fieldAt row 0))∧W'.cell? ⟨g,o+1,none⟩=some (.string (fieldAt row 1))) (by kernel_rfl) ?_ (fun hHeld=>?_)
    ·exact rT.o _ ah
    refine aA 0 (some 105) hHeld ?_;try simp only [aj]
    refine aA 1 (some 106) hHeld ?_;try simp only [aj]
    refine aA 2 (some 107) hHeld ?_;try simp only [aj]
    refine aA 3 (some 108) hHeld ?_;try simp only [aj]
    refine aA 4 (some 109) hHeld ?_;try simp only [aj]
    refine aA 5 (some 110) hHeld ?_;try simp only [aj]
    refine aA 6 (some 111) hHeld ?_;try simp only [aj]
    refine aP 7 (fun K hK=>?_)
    go_simp
    refine hK.out _ _ ?_ (fun hHeld=>?_)
    ·first | exact rT.o _ ah | exact rT.o _ (ah.alloc (Nat.le_refl _) _)
    clear hK K
    refine aP 8 (fun K hK=>?_)
    go_simp
    refine oG.o.mono ?_
    rintro e w9 ⟨bM,fv,rfl,hrd,hrm⟩
    have sP:=hid (HRW.o _ hrd);have T_:=hid hrm;have nU:=hid bM;clear bM hrd hrm
    refine hK.out _ _ ?_ (fun hHeld=>?_)
    ·exact⟨aD (HD0.o 0 (by decide)) T_.o.base,aD (HD0.o 1 (by decide)) T_.o.base⟩
    clear hK K
    refine aA 9 (some 5) hHeld ?_;try simp only [aj]
    refine wpAnyH_done (by kernel_rfl) ?_ _
    go_wp2_with fail
    go_meet
    exact⟨sP,T_,hid (Xc.o.go nU.o),hid (qU.o.trans nU.o)⟩
   case rest =>
   obtain⟨sP,om,Ua,nO⟩:=hcut
   clear oG pE UO xJ qU Xc rT HRW zy Ai;obtain⟨tT,v3,uS⟩:=om.o;obtain⟨XW,hF3⟩:=uS.WV tT.sets;have O1:=hid uS;have OE:=hid tT
   have RH:Hid (∀W,Below wc.heap.size wc W→Calls Tryz.prog 118 #[.pointer (some ⟨i.rb,0,none⟩),.agg #[.int .u16 cl.flag,.int .i64 cl.kind,.bool cl.cross,.int .i64 cl.first,.int .i64 cl.count],u5] W (ET (bK S2.fl cl S2.line dM) S2.line W)):=hid (fun W hW =>
    QJ i.rb i.fb S2.line S2.fl v3.aI XW cl _ dM m0 W (O1.o.below hW).r2 (O1.o.below hW).r0 (hF3.later hW) ⟨sP.o.rd.keep (O1.o.below hW).base,sP.o.len,sP.o.each⟩ (by have:=OE.o.aI;omega) (((O1.o.below hW).base.cell (block_lt_of_cell? w0 _ Qe.o)).trans Qe.o))
   have gI:Hid (∀W,Below wc.heap.size wc W→(W.cell? ⟨i.rb,0,none⟩=some (.pointer (some ⟨i.fb,0,none⟩))∧W.cell? ⟨b,0,none⟩=some (.int .u16 cl.flag)∧W.cell? ⟨b,1,none⟩=some (.int .i64 cl.kind)∧W.cell? ⟨b,2,none⟩=some (.bool cl.cross)∧W.cell? ⟨b,3,none⟩=some (.int .i64 cl.first)∧W.cell? ⟨b,4,none⟩=some (.int .i64 cl.count))):=hid (fun W hW=>⟨(O1.o.below hW).r0,(Ua.o.go (aZ.of_below hW)).cells⟩)
   have c0:=O1.o.r0;obtain⟨vY,pG,qO,xR⟩:=uS.rls;obtain⟨A3,gW,hv3⟩:=aF qO.1;have c9:=uS.f12;rw [hv3] at c9;have j3:=hid hv3;have ML:=hid pG;have LJ:=hid qO.1
   have hrl3:vY.length≤65536:=by have h1:=tT.rls;have h2:vY.length=S2.fl.rls.length:=by rw [←pG];simp
                                 omega
   clear uS tT hF3 pG qO xR hv3
   cases Ub:bK S2.fl cl S2.line dM with
   | error e =>
    have bF:Hid (R=.error (S2.line,e)):=hid (by rw [HR7.o,bZ,Ub])
    rw [Ub] at RH;unfold ET at RH;clear Ub
    go_wp2_with fail
    refine wp_region_held_drew (S:=fun W'=>W'.cell? ⟨i.rb,0,none⟩=some (.pointer (some ⟨i.fb,0,none⟩))∧W'.cell? ⟨b,0,none⟩=some (.int .u16 cl.flag)∧W'.cell? ⟨b,1,none⟩=some (.int .i64 cl.kind)∧W'.cell? ⟨b,2,none⟩=some (.bool cl.cross)∧W'.cell? ⟨b,3,none⟩=some (.int .i64 cl.first)∧W'.cell? ⟨b,4,none⟩=some (.int .i64 cl.count)) (by kernel_rfl) ?_ (fun hHeld=>?_)
    ·exact gI.o _ ah
    refine aA 0 (some 114) hHeld ?_;try simp only [aj]
    refine aA 1 (some 115) hHeld ?_;try simp only [aj]
    refine aA 2 (some 116) hHeld ?_;try simp only [aj]
    refine aA 3 (some 117) hHeld ?_;try simp only [aj]
    refine aA 4 (some 118) hHeld ?_;try simp only [aj]
    refine aA 5 (some 119) hHeld ?_;try simp only [aj]
    refine aA 6 (some 120) hHeld ?_;try simp only [aj]
    refine aA 7 (some 121) hHeld ?_;try simp only [aj]
    refine aA 8 (some 122) hHeld ?_;try simp only [aj]
    refine aA 9 (some 123) hHeld ?_;try simp only [aj]
    refine aA 10 (some 124) hHeld ?_;try simp only [aj]
    refine aA 12 (some 126) hHeld ?_;try simp only [aj]
    refine aA 13 (some 127) hHeld ?_;try simp only [aj]
    refine aA 14 (some 128) hHeld ?_;try simp only [aj]
    refine wpAnyH_ready (rs:=[11,15]) (by kernel_rfl) (by simp) ?_
    refine AllReadyH.cons rfl (fun K hK=>?_) ?_
    ·go_simp
     refine hK.out _ _ ?_ (fun hHeld=>?_)
     ·first | exact gI.o _ ah
     clear hK K
     refine aP 15 (fun K hK=>?_)
     go_simp
     refine (RH.o _ ah).mono ?_
     rintro e9 w9 ⟨ze,rfl⟩
     exact⟨rfl,L',nO.o.trans (aZ.of_below (ah.trans ze)),by rw [bF.o]⟩
    refine AllReadyH.cons rfl (fun K hK=>?_) ?_
    ·go_simp
     refine (RH.o _ ah).mono ?_
     rintro e9 w9 ⟨ze,rfl⟩
     exact⟨rfl,L',nO.o.trans (aZ.of_below (ah.trans ze)),by rw [bF.o]⟩
    exact AllReadyH.nil
   | ok r =>
    have HRn:=hid (xI Ub OE.o.sets)
    have bF:Hid (aO E (fun r=>decide (r.take 2=[fieldAt row 0,fieldAt row 1])) (bZ cl) (n - (m+1)) { S2 with fl:={ S2.fl with rls:=S2.fl.rls++[r] } }=R):=hid (by rw [HR7.o,bZ,Ub])
    rw [Ub] at RH;unfold ET at RH;clear Ub;obtain⟨ir,hi,hz0,hz1,hz2⟩:=info_parts Ay
    go_upto_region 13 with fail
    go_cut [] from 114 to 134 (fun W=>∃L2 v2,Hid (bR w0 W L2 i v2 E { S2 with fl:={ S2.fl with rls:=S2.fl.rls++[r] } } (S2.fl.rls.map (·.line)) (cB S2.fl) (CQ S2.fl+S2.fl.cls.length) (eH S2.fl.cls) S2.fl.cls.length)∧Hid (Je W L2 b cl)∧Hid (aZ L w L2 W))
    case first =>
     go_wp2_with fail
     refine wp_region_held_drew (S:=fun W'=>W'.cell? ⟨i.rb,0,none⟩=some (.pointer (some ⟨i.fb,0,none⟩))∧W'.cell? ⟨b,0,none⟩=some (.int .u16 cl.flag)∧W'.cell? ⟨b,1,none⟩=some (.int .i64 cl.kind)∧W'.cell? ⟨b,2,none⟩=some (.bool cl.cross)∧W'.cell? ⟨b,3,none⟩=some (.int .i64 cl.first)∧W'.cell? ⟨b,4,none⟩=some (.int .i64 cl.count)) (by kernel_rfl) ?_ (fun hHeld=>?_)
     ·exact gI.o _ ah
     refine aA 0 (some 114) hHeld ?_;try simp only [aj]
     refine aA 1 (some 115) hHeld ?_;try simp only [aj]
     refine aA 2 (some 116) hHeld ?_;try simp only [aj]
     refine aA 3 (some 117) hHeld ?_;try simp only [aj]
     refine aA 4 (some 118) hHeld ?_;try simp only [aj]
     refine aA 5 (some 119) hHeld ?_;try simp only [aj]
     refine aA 6 (some 120) hHeld ?_;try simp only [aj]
     refine aA 7 (some 121) hHeld ?_;try simp only [aj]
     refine aA 8 (some 122) hHeld ?_;try simp only [aj]
     refine aA 9 (some 123) hHeld ?_;try simp only [aj]
     refine aA 10 (some 124) hHeld ?_;try simp only [aj]
     refine aA 12 (some 126) hHeld ?_;try simp only [aj]
     refine aA 13 (some 127) hHeld ?_;try simp only [aj]
     refine aA 14 (some 128) hHeld ?_;try simp only [aj]
     refine wpAnyH_ready (rs:=[11,15]) (by kernel_rfl) (by simp) ?_
     refine AllReadyH.cons rfl (fun K hK=>?_) ?_
     ·go_simp
      refine hK.out _ _ ?_ (fun hHeld=>?_)
      ·first | exact gI.o _ ah | exact gI.o _ fF.o | exact gI.o _ (fF.o.alloc fF.o.size _) | exact⟨dZ.o.r0,uj.o.cells⟩
      clear hK K
      refine aP 15 (fun K hK=>?_)
      go_simp
      refine (RH.o _ ah).mono ?_
      rintro e4 w4 ⟨hb4,nv,rfl,hfn⟩
      have fF:Hid (Below wc.heap.size wc w4):=hid (ah.trans hb4)
      have Qx:=hid (FO.Ja (L:=L') (w:=wc.drew) hfn (fun x hx=>(O1.o.hl x hx).2))
      obtain⟨pu,cu,rfl⟩:∃p c,nv=.slice p r.next.length c:=by obtain⟨p,c,h1,-⟩:=hfn;exact⟨p,c,h1⟩
      have c9':w4.cell? ⟨i.fb,12,none⟩=some (.slice A3 vY.length gW):=(fF.o.cell (block_lt_of_cell? wc _ c9)).trans c9;have za:=hid (own_below LJ.o fF.o);rw [j3.o] at za;have iV:=hid (O1.o.below fF.o);have TI:=(iV.o.hl _ iV.o.oh).2;have Ic:=hid (Ua.o.go (aZ.of_below fF.o));clear hb4 hfn
      refine hK.out _ _ ?_ (fun hHeld=>?_)
      ·exact gI.o _ fF.o
      clear hK K
      refine aP 16 (fun K hK=>?_)
      go_simp
      refine hK.out _ _ ?_ (fun hHeld=>?_)
      ·first | exact gI.o _ ah | exact gI.o _ fF.o | exact gI.o _ (fF.o.alloc fF.o.size _) | exact⟨dZ.o.r0,uj.o.cells⟩
      clear hK K
      refine aP 17 (fun K hK=>?_)
      refine aW (w:=w4) (by rfl) _ _ 81 (by rfl) 0 31 ir _ 7 88 Tryz.underlying81 hi hz0 hz1 hz2 rfl (by decide) (.slice A3 vY.length gW) vY.length _ (by rfl) za.o #[.int .i64 r.kind,.int .u16 r.flag,.bool r.cross,.string r.strip,.string r.add,.string r.cond,.slice pu r.next.length cu] (by rfl) (by intro x hx;simp at hx;rcases hx with rfl | rfl | rfl | rfl | rfl | rfl | rfl<;>rfl) (by rfl) (by unfold maxLen;omega) (by omega) (Nat.zero_le _) ?_
      intro gg cc w9 hown bM hloc
      rw [←j3.o] at bM hloc
      obtain⟨L9,kD,kK⟩:=iV.o.oZ r (.slice pu r.next.length cu) Qx.o bM hloc (fun rs' OG zL=>by have e0:rs'.length=vY.length:=by { have:=congrArg List.length OG;have h2:=congrArg List.length ML.o;simp at this h2;omega };have e1:aK vY=aK rs':=lg za.o (show w4.ownsRow 0 31 7 (.slice A3 vY.length gW) vY.length (aK rs') by rw [←j3.o,←e0];exact zL);rw [e0,←e1];exact hown)
      have jD:=iV.o.bX bM iV.o.dQ (by decide)
      have nP:=iV.o.dx bM iV.o.dQ (by decide)
      have ze:=Ic.o.grown bM (by obtain⟨_,_,h,_⟩:=iV.o.rls;exact h.2)
      have nI:w9.cell? ⟨i.fb,12,none⟩=some (.slice A3 vY.length gW):=by rw [cell_of_heap jD];exact congrArg some j3.o
      have z9:w9.frozen? ⟨i.fb,12,none⟩=false:=frozen_of_heap jD 12;have dZ:=hid kK;have nU:=hid kD;have uj:=hid (Ic.o.go kD)
      have uf:Hid (w9.cell? ⟨i.rb,0,none⟩=some (.pointer (some ⟨i.fb,0,none⟩))∧w9.cell? ⟨b,0,none⟩=some (.int .u16 cl.flag)∧w9.cell? ⟨b,1,none⟩=some (.int .i64 cl.kind)∧w9.cell? ⟨b,2,none⟩=some (.bool cl.cross)∧w9.cell? ⟨b,3,none⟩=some (.int .i64 cl.first)∧w9.cell? ⟨b,4,none⟩=some (.int .i64 cl.count)):=hid ⟨by rw [cell_of_heap nP];rfl,qg ze⟩
      clear hown bM hloc kD kK jD nP ze
      refine hK.out _ _ ?_ (fun hHeld=>?_)
      ·exact uf.o
      clear hK K
      refine aA 18 (some 132) hHeld ?_;try simp only [aj]
      refine aA 19 (some 133) hHeld ?_;try simp only [aj]
      refine aA 20 (some 134) hHeld ?_;try simp only [aj]
      refine aP 21 (fun K hK=>?_)
      go_simp
      refine hK.out _ _ ?_ (fun hHeld=>?_)
      ·first | exact gI.o _ ah | exact gI.o _ fF.o | exact gI.o _ (fF.o.alloc fF.o.size _) | exact⟨dZ.o.r0,uj.o.cells⟩
      clear hK K
      refine wpAnyH_done (by kernel_rfl) ?_ _
      go_wp2_with fail
      go_meet
      exact⟨_,_,dZ,uj,hid ((nO.o.trans (aZ.of_below fF.o)).trans nU.o)⟩
     refine AllReadyH.cons rfl (fun K hK=>?_) ?_
     ·go_simp
      refine (RH.o _ ah).mono ?_
      rintro e4 w4 ⟨hb4,nv,rfl,hfn⟩
      have fF:Hid (Below wc.heap.size wc w4):=hid (ah.trans hb4)
      have Qx:=hid (FO.Ja (L:=L') (w:=wc.drew) hfn (fun x hx=>(O1.o.hl x hx).2))
      obtain⟨pu,cu,rfl⟩:∃p c,nv=.slice p r.next.length c:=by obtain⟨p,c,h1,-⟩:=hfn;exact⟨p,c,h1⟩
      have c9':w4.cell? ⟨i.fb,12,none⟩=some (.slice A3 vY.length gW):=(fF.o.cell (block_lt_of_cell? wc _ c9)).trans c9;have za:=hid (own_below LJ.o fF.o);rw [j3.o] at za;have iV:=hid (O1.o.below fF.o);have TI:=(iV.o.hl _ iV.o.oh).2;have Ic:=hid (Ua.o.go (aZ.of_below fF.o));clear hb4 hfn
      refine hK.out _ _ ?_ (fun hHeld=>?_)
      ·exact gI.o _ fF.o
      refine wpAnyH_ready (rs:=[11,16]) (by kernel_rfl) (by simp) ?_
      refine AllReadyH.cons rfl (fun K hK=>?_) ?_
      ·go_simp
       refine hK.out _ _ ?_ (fun hHeld=>?_)
       ·first | exact gI.o _ ah | exact gI.o _ fF.o | exact gI.o _ (fF.o.alloc fF.o.size _) | exact⟨dZ.o.r0,uj.o.cells⟩
       clear hK K
       refine aP 16 (fun K hK=>?_)
       go_simp
       refine hK.out _ _ ?_ (fun hHeld=>?_)
       ·first | exact gI.o _ ah | exact gI.o _ fF.o | exact gI.o _ (fF.o.alloc fF.o.size _) | exact⟨dZ.o.r0,uj.o.cells⟩
       clear hK K
       refine aP 17 (fun K hK=>?_)
       refine aW (w:=w4) (by rfl) _ _ 81 (by rfl) 0 31 ir _ 7 88 Tryz.underlying81 hi hz0 hz1 hz2 rfl (by decide) (.slice A3 vY.length gW) vY.length _ (by rfl) za.o #[.int .i64 r.kind,.int .u16 r.flag,.bool r.cross,.string r.strip,.string r.add,.string r.cond,.slice pu r.next.length cu] (by rfl) (by intro x hx;simp at hx;rcases hx with rfl | rfl | rfl | rfl | rfl | rfl | rfl<;>rfl) (by rfl) (by unfold maxLen;omega) (by omega) (Nat.zero_le _) ?_
       intro gg cc w9 hown bM hloc
       rw [←j3.o] at bM hloc
       obtain⟨L9,kD,kK⟩:=iV.o.oZ r (.slice pu r.next.length cu) Qx.o bM hloc (fun rs' OG zL=>by have e0:rs'.length=vY.length:=by { have:=congrArg List.length OG;have h2:=congrArg List.length ML.o;simp at this h2;omega };have e1:aK vY=aK rs':=lg za.o (show w4.ownsRow 0 31 7 (.slice A3 vY.length gW) vY.length (aK rs') by rw [←j3.o,←e0];exact zL);rw [e0,←e1];exact hown)
       have jD:=iV.o.bX bM iV.o.dQ (by decide)
       have nP:=iV.o.dx bM iV.o.dQ (by decide)
       have ze:=Ic.o.grown bM (by obtain⟨_,_,h,_⟩:=iV.o.rls;exact h.2)
       have nI:w9.cell? ⟨i.fb,12,none⟩=some (.slice A3 vY.length gW):=by rw [cell_of_heap jD];exact congrArg some j3.o
       have z9:w9.frozen? ⟨i.fb,12,none⟩=false:=frozen_of_heap jD 12;have dZ:=hid kK;have nU:=hid kD;have uj:=hid (Ic.o.go kD)
       have uf:Hid (w9.cell? ⟨i.rb,0,none⟩=some (.pointer (some ⟨i.fb,0,none⟩))∧w9.cell? ⟨b,0,none⟩=some (.int .u16 cl.flag)∧w9.cell? ⟨b,1,none⟩=some (.int .i64 cl.kind)∧w9.cell? ⟨b,2,none⟩=some (.bool cl.cross)∧w9.cell? ⟨b,3,none⟩=some (.int .i64 cl.first)∧w9.cell? ⟨b,4,none⟩=some (.int .i64 cl.count)):=hid ⟨by rw [cell_of_heap nP];rfl,qg ze⟩
       clear hown bM hloc kD kK jD nP ze
       refine hK.out _ _ ?_ (fun hHeld=>?_)
       ·exact uf.o
       clear hK K
       refine aA 18 (some 132) hHeld ?_;try simp only [aj]
       refine aA 19 (some 133) hHeld ?_;try simp only [aj]
       refine aA 20 (some 134) hHeld ?_;try simp only [aj]
       refine aP 21 (fun K hK=>?_)
       go_simp
       refine hK.out _ _ ?_ (fun hHeld=>?_)
       ·first | exact gI.o _ ah | exact gI.o _ fF.o | exact gI.o _ (fF.o.alloc fF.o.size _) | exact⟨dZ.o.r0,uj.o.cells⟩
       clear hK K
       refine wpAnyH_done (by kernel_rfl) ?_ _
       go_wp2_with fail
       go_meet
       exact⟨_,_,dZ,uj,hid ((nO.o.trans (aZ.of_below fF.o)).trans nU.o)⟩
      refine AllReadyH.cons rfl (fun K hK=>?_) ?_
      ·go_simp
       refine hK.out _ _ ?_ (fun hHeld=>?_)
       ·first | exact gI.o _ ah | exact gI.o _ fF.o | exact gI.o _ (fF.o.alloc fF.o.size _) | exact⟨dZ.o.r0,uj.o.cells⟩
       clear hK K
       refine aP 11 (fun K hK=>?_)
       go_simp
       refine hK.out _ _ ?_ (fun hHeld=>?_)
       ·first | exact gI.o _ ah | exact gI.o _ fF.o | exact gI.o _ (fF.o.alloc fF.o.size _) | exact⟨dZ.o.r0,uj.o.cells⟩
       clear hK K
       refine aP 17 (fun K hK=>?_)
       refine aW (w:=w4) (by rfl) _ _ 81 (by rfl) 0 31 ir _ 7 88 Tryz.underlying81 hi hz0 hz1 hz2 rfl (by decide) (.slice A3 vY.length gW) vY.length _ (by rfl) za.o #[.int .i64 r.kind,.int .u16 r.flag,.bool r.cross,.string r.strip,.string r.add,.string r.cond,.slice pu r.next.length cu] (by rfl) (by intro x hx;simp at hx;rcases hx with rfl | rfl | rfl | rfl | rfl | rfl | rfl<;>rfl) (by rfl) (by unfold maxLen;omega) (by omega) (Nat.zero_le _) ?_
       intro gg cc w9 hown bM hloc
       rw [←j3.o] at bM hloc
       obtain⟨L9,kD,kK⟩:=iV.o.oZ r (.slice pu r.next.length cu) Qx.o bM hloc (fun rs' OG zL=>by have e0:rs'.length=vY.length:=by { have:=congrArg List.length OG;have h2:=congrArg List.length ML.o;simp at this h2;omega };have e1:aK vY=aK rs':=lg za.o (show w4.ownsRow 0 31 7 (.slice A3 vY.length gW) vY.length (aK rs') by rw [←j3.o,←e0];exact zL);rw [e0,←e1];exact hown)
       have jD:=iV.o.bX bM iV.o.dQ (by decide)
       have nP:=iV.o.dx bM iV.o.dQ (by decide)
       have ze:=Ic.o.grown bM (by obtain⟨_,_,h,_⟩:=iV.o.rls;exact h.2)
       have nI:w9.cell? ⟨i.fb,12,none⟩=some (.slice A3 vY.length gW):=by rw [cell_of_heap jD];exact congrArg some j3.o
       have z9:w9.frozen? ⟨i.fb,12,none⟩=false:=frozen_of_heap jD 12;have dZ:=hid kK;have nU:=hid kD;have uj:=hid (Ic.o.go kD)
       have uf:Hid (w9.cell? ⟨i.rb,0,none⟩=some (.pointer (some ⟨i.fb,0,none⟩))∧w9.cell? ⟨b,0,none⟩=some (.int .u16 cl.flag)∧w9.cell? ⟨b,1,none⟩=some (.int .i64 cl.kind)∧w9.cell? ⟨b,2,none⟩=some (.bool cl.cross)∧w9.cell? ⟨b,3,none⟩=some (.int .i64 cl.first)∧w9.cell? ⟨b,4,none⟩=some (.int .i64 cl.count)):=hid ⟨by rw [cell_of_heap nP];rfl,qg ze⟩
       clear hown bM hloc kD kK jD nP ze
       refine hK.out _ _ ?_ (fun hHeld=>?_)
       ·exact uf.o
       clear hK K
       refine aA 18 (some 132) hHeld ?_;try simp only [aj]
       refine aA 19 (some 133) hHeld ?_;try simp only [aj]
       refine aA 20 (some 134) hHeld ?_;try simp only [aj]
       refine aP 21 (fun K hK=>?_)
       go_simp
       refine hK.out _ _ ?_ (fun hHeld=>?_)
       ·first | exact gI.o _ ah | exact gI.o _ fF.o | exact gI.o _ (fF.o.alloc fF.o.size _) | exact⟨dZ.o.r0,uj.o.cells⟩
       clear hK K
       refine wpAnyH_done (by kernel_rfl) ?_ _
       go_wp2_with fail
       go_meet
       exact⟨_,_,dZ,uj,hid ((nO.o.trans (aZ.of_below fF.o)).trans nU.o)⟩
      exact AllReadyH.nil
     exact AllReadyH.nil
    case rest =>
    obtain⟨L2,v2,sW,Xd,FY⟩:=hcut
    obtain⟨nx,hnx⟩:∃nx,S2.fl.rls.map (·.line)=nx:=⟨_,rfl⟩
    rw [hnx] at sW;have OW:=hid hnx
    have hnl:nx.length≤65536:=by rw [←hnx,List.length_map];have:=OE.o.rls;omega
    clear hnx;obtain⟨A5,X5,hv5⟩:=aF sW.o.nxs.1;have c6:=sW.o.r6;rw [hv5] at c6;have HV5:=hid hv5;have UY:=hid sW.o.nxs.1;rw [hv5] at UY;have adv:=(sW.o.hl _ sW.o.vN).2;obtain⟨ii,hi2,hy0,hy1,hy2⟩:=info_parts KZ
    have iW:Hid (∀W,Below wc.heap.size wc W→W.cell? ⟨i.rb,2,none⟩=some (.int .i64 S2.line)):=hid (fun W hW=>(sW.o.below hW).r2)
    clear hv5
    go_wp2_with fail
    refine wp_region_held_drew (S:=fun W'=>W'.cell? ⟨i.rb,2,none⟩=some (.int .i64 S2.line)) (by kernel_rfl) ?_ (fun hHeld=>?_)
    ·exact iW.o _ ah
    refine aA 0 (some 135) hHeld ?_;try simp only [aj]
    refine aA 1 (some 136) hHeld ?_;try simp only [aj]
    refine aA 2 (some 137) hHeld ?_;try simp only [aj]
    refine aA 3 (some 138) hHeld ?_;try simp only [aj]
    refine aA 5 (some 140) hHeld ?_;try simp only [aj]
    refine aA 6 (some 141) hHeld ?_;try simp only [aj]
    refine aA 7 (some 142) hHeld ?_;try simp only [aj]
    refine aA 8 (some 143) hHeld ?_;try simp only [aj]
    refine wpAnyH_ready (rs:=[4,9]) (by kernel_rfl) (by simp) ?_
    refine AllReadyH.cons rfl (fun K hK=>?_) ?_
    ·go_simp
     refine hK.out _ _ ?_ (fun hHeld=>?_)
     ·first | exact iW.o _ ah | exact iW.o _ (ah.alloc (Nat.le_refl _) _) | exact dZ.o.r2
     clear hK K
     refine aP 9 (fun K hK=>?_)
     go_simp
     refine hK.out _ _ ?_ (fun hHeld=>?_)
     ·first | exact iW.o _ ah | exact iW.o _ (ah.alloc (Nat.le_refl _) _) | exact dZ.o.r2
     clear hK K
     refine aP 10 (fun K hK=>?_)
     refine aW (w:=wc.drew) (by rfl) _ _ 39 (by rfl) 0 3 ii _ 1 8 Tryz.underlying39 hi2 hy0 hy1 hy2 rfl (by decide) (.slice A5 nx.length X5) nx.length _ (by rfl) UY.o #[.int .i64 S2.line] (by rfl) (by intro x hx;simp at hx;subst hx;rfl) (by rfl) (by unfold maxLen;omega) (by omega) (Nat.zero_le _) ?_
     intro gg cc w9 hown bM hloc
     rw [←HV5.o] at bM hloc;obtain⟨L9,kD,kK⟩:=(sW.o.below ah).EK S2.line bM hloc hown
     have nP:=(sW.o.below (ah (w:=wc))).dx bM ((sW.o.below (ah (w:=wc))).kI) (by decide)
     have nI:w9.cell? ⟨i.rb,6,none⟩=some (.slice A5 nx.length X5):=by rw [cell_of_heap nP];exact congrArg some HV5.o
     have z9:w9.frozen? ⟨i.rb,6,none⟩=false:=frozen_of_heap nP 6;have dZ:=hid kK;have nU:=hid kD;have uj:=hid ((Xd.o.go (aZ.of_below ah)).go kD)
     have uf:Hid (w9.cell? ⟨i.rb,2,none⟩=some (.int .i64 S2.line)):=hid (by rw [cell_of_heap nP];rfl)
     clear hown bM hloc kD kK nP
     refine hK.out _ _ ?_ (fun hHeld=>?_)
     ·exact uf.o
     clear hK K
     refine aA 11 (some 146) hHeld ?_;try simp only [aj]
     refine aA 12 (some 147) hHeld ?_;try simp only [aj]
     refine aP 13 (fun K hK=>?_)
     go_simp
     refine hK.out _ _ ?_ (fun hHeld=>?_)
     ·first | exact iW.o _ ah | exact iW.o _ (ah.alloc (Nat.le_refl _) _) | exact dZ.o.r2
     clear hK K
     refine wpAnyH_done (by kernel_rfl) ?_ _
     go_wp2_with fail
     go_roundw
     case rel=>exact⟨m+1,_,L9,by omega,by go_num,hid (RM.Oy OE.o HRn.o OW.o dZ.o),uj,hid ((FY.o.trans (aZ.of_below ah)).trans nU.o),bF⟩
     case measure=>simp [intOf];omega
    refine AllReadyH.cons rfl (fun K hK=>?_) ?_
    ·go_simp
     refine hK.out _ _ ?_ (fun hHeld=>?_)
     ·first | exact iW.o _ ah | exact iW.o _ (ah.alloc (Nat.le_refl _) _) | exact dZ.o.r2
     clear hK K
     refine aP 4 (fun K hK=>?_)
     go_simp
     refine hK.out _ _ ?_ (fun hHeld=>?_)
     ·first | exact iW.o _ ah | exact iW.o _ (ah.alloc (Nat.le_refl _) _) | exact dZ.o.r2
     clear hK K
     refine aP 10 (fun K hK=>?_)
     refine aW (w:=wc.drew) (by rfl) _ _ 39 (by rfl) 0 3 ii _ 1 8 Tryz.underlying39 hi2 hy0 hy1 hy2 rfl (by decide) (.slice A5 nx.length X5) nx.length _ (by rfl) UY.o #[.int .i64 S2.line] (by rfl) (by intro x hx;simp at hx;subst hx;rfl) (by rfl) (by unfold maxLen;omega) (by omega) (Nat.zero_le _) ?_
     intro gg cc w9 hown bM hloc
     rw [←HV5.o] at bM hloc;obtain⟨L9,kD,kK⟩:=(sW.o.below ah).EK S2.line bM hloc hown
     have nP:=(sW.o.below (ah (w:=wc))).dx bM ((sW.o.below (ah (w:=wc))).kI) (by decide)
     have nI:w9.cell? ⟨i.rb,6,none⟩=some (.slice A5 nx.length X5):=by rw [cell_of_heap nP];exact congrArg some HV5.o
     have z9:w9.frozen? ⟨i.rb,6,none⟩=false:=frozen_of_heap nP 6;have dZ:=hid kK;have nU:=hid kD;have uj:=hid ((Xd.o.go (aZ.of_below ah)).go kD)
     have uf:Hid (w9.cell? ⟨i.rb,2,none⟩=some (.int .i64 S2.line)):=hid (by rw [cell_of_heap nP];rfl)
     clear hown bM hloc kD kK nP
     refine hK.out _ _ ?_ (fun hHeld=>?_)
     ·exact uf.o
     clear hK K
     refine aA 11 (some 146) hHeld ?_;try simp only [aj]
     refine aA 12 (some 147) hHeld ?_;try simp only [aj]
     refine aP 13 (fun K hK=>?_)
     go_simp
     refine hK.out _ _ ?_ (fun hHeld=>?_)
     ·first | exact iW.o _ ah | exact iW.o _ (ah.alloc (Nat.le_refl _) _) | exact dZ.o.r2
     clear hK K
     refine wpAnyH_done (by kernel_rfl) ?_ _
     go_wp2_with fail
     go_roundw
     case rel=>exact⟨m+1,_,L9,by omega,by go_num,hid (RM.Oy OE.o HRn.o OW.o dZ.o),uj,hid ((FY.o.trans (aZ.of_below ah)).trans nU.o),bF⟩
     case measure=>simp [intOf];omega
    exact AllReadyH.nil
  obtain rfl:m=n:=by omega
  have bF:Hid (R=.ok S'):=hid (by rw [←Ai.o,Nat.sub_self,aO])
  go_wp2_with fail
  go_end0
  exact⟨L',xJ.o,by rw [bF.o];exact⟨rfl,pE.o⟩⟩
def Aq (S:Sx):Prop:=∀n,n < 5→dX S.fl n≠0→h_ (3+n)∈S.heads
theorem l7 {end_:Int} {ok:List ByteArray→Bool} {inn:Fl→Int→List ByteArray→Except Int Fl} (hi:∀F l r F',inn F l r=.ok F'→dX F'=dX F):∀(n:Nat) (S S':Sx),aO end_ ok inn n S=.ok S'→S'.heads=S.heads∧dX S'.fl=dX S.fl
 | 0,S,S',h=>by rw [aO] at h;cases h;exact⟨rfl,rfl⟩
 | n+1,S,S',h=>by
   rw [aO] at h
   split at h
   ·cases h
   ·split at h
    ·split at h
     ·cases h
     ·rename_i hF
      obtain⟨h1,h2⟩:=l7 hi n _ S' h
      exact⟨h1,h2.trans (hi _ _ _ _ hF)⟩
    ·cases h
theorem K8 (F:Fl) (l:Int) (r:List ByteArray) (F':Fl) (h:gV F l r=.ok F'):dX F'=dX F:=by
 unfold gV at h
 split at h
 ·cases h
 split at h
 ·cases h
 split at h
 ·cases h
 cases h;rfl
theorem Fa (F:Fl) (l:Int) (r:List ByteArray) (F':Fl) (h:eT F l r=.ok F'):dX F'=dX F:=by
 unfold eT at h
 split at h
 ·cases h
 split at h
 ·cases h
 cases h;rfl
theorem CG (c:Cl) (F:Fl) (l:Int) (r:List ByteArray) (F':Fl) (h:bZ c F l r=.ok F'):dX F'=dX F:=by
 unfold bZ at h
 split at h
 ·cases h
 cases h;rfl
theorem jh {l:Int} {S S':Sx} {x:Except Int Fl} (h:jw l S x=.ok S'):∃F,x=.ok F∧S'={ S with fl:=F }:=by
 cases x with
 | error e=>cases h
 | ok F=>cases h;exact⟨F,rfl,rfl⟩
theorem Ie {end_:Int} {S S':Sx} {row:List ByteArray} {k:Nat} (h:iy end_ S row k=.ok S'):S'.heads=S.heads∧∀n,n < 5→dX S'.fl n≠0→dX S.fl n≠0∨k=3+n:=by
 unfold iy at h
 split at h
 ·obtain⟨F,hF,rfl⟩:=jh h
  refine⟨rfl,fun n _ hn=>.inl ?_⟩
  unfold kL at hF
  split at hF
  ·cases hF
  split at hF
  ·cases hF
  cases hF;exact hn
 split at h
 ·obtain⟨F,hF,rfl⟩:=jh h
  refine⟨rfl,fun n _ hn=>.inl ?_⟩
  unfold oW at hF
  split at hF
  ·cases hF
  cases hF;exact hn
 split at h
 ·obtain⟨F,hF,rfl⟩:=jh h
  refine⟨rfl,fun n _ hn=>.inl ?_⟩
  unfold xO at hF
  split at hF
  ·cases hF
  cases hF;exact hn
 split at h
 ·rename_i h0 h1 h2 h8
  obtain⟨F,hF,rfl⟩:=jh h
  refine⟨rfl,fun n L8 hn=>?_⟩
  unfold gX at hF
  split at hF
  ·cases hF
  cases hF
  by_cases hk:k=3+n
  ·exact .inr hk
  left
  have hn':dX (eG S.fl (k - 3) _) n≠0:=hn
  rw [mV _ _ (by omega),if_neg (by omega)] at hn'
  exact hn'
 split at h
 ·obtain⟨F,hF,rfl⟩:=jh h
  refine⟨rfl,fun n _ hn=>.inl ?_⟩
  unfold jI at hF
  split at hF
  ·cases hF
  cases hF;exact hn
 split at h
 ·unfold nW at h
  split at h
  ·cases h
  obtain⟨h1,h2⟩:=l7 K8 _ _ _ h
  exact⟨h1,fun n _ hn=>.inl (by rwa [h2] at hn)⟩
 split at h
 ·unfold jf at h
  split at h
  ·cases h
  split at h
  ·cases h
  obtain⟨h1,h2⟩:=l7 Fa _ _ _ h
  exact⟨h1,fun n _ hn=>.inl (by rwa [h2] at hn)⟩
 unfold fK at h
 split at h
 ·cases h
 split at h
 ·cases h
 split at h
 ·cases h
 split at h
 ·cases h
 obtain⟨h1,h2⟩:=l7 (CG _) _ _ _ h
 exact⟨h1,fun n _ hn=>.inl (by rw [h2] at hn;exact hn)⟩
theorem nR {end_:Int} {ok:List ByteArray→Bool} {inn:Fl→Int→List ByteArray→Except Int Fl}:∀(n:Nat) (S S':Sx),aO end_ ok inn n S=.ok S'→S'.rows.length≤S.rows.length
 | 0,S,S',h=>by rw [aO] at h;cases h;exact Nat.le_refl _
 | n+1,S,S',h=>by
   rw [aO] at h
   split at h
   ·cases h
   ·rename_i hr
    split at h
    ·split at h
     ·cases h
     ·have h1:=nR n _ S' h
      rw [hr,List.length_cons]
      exact Nat.le_trans h1 (Nat.le_succ _)
    ·cases h
theorem Aw {end_:Int} {S S':Sx} {row:List ByteArray} {k:Nat} (h:iy end_ S row k=.ok S'):S'.rows.length≤S.rows.length:=by
 unfold iy at h
 repeat (split at h;· (obtain⟨F,hF,rfl⟩:=jh h;exact Nat.le_refl _))
 split at h
 ·unfold nW at h
  split at h
  ·cases h
  exact nR _ _ _ h
 split at h
 ·unfold jf at h
  split at h
  ·cases h
  split at h
  ·cases h
  exact nR _ _ _ h
 unfold fK at h
 split at h
 ·cases h
 split at h
 ·cases h
 split at h
 ·cases h
 split at h
 ·cases h
 have:=nR _ _ _ h
 exact this
theorem Bd.pushHead {kh k:Nat} {S:Sx} (h:Bd (kh+1) k S) (x:ByteArray) (hx:x.size≤65536):Bd kh k { S with heads:=S.heads++[x] } :=
 ⟨h.row,by have:=h.heads;show (S.heads++[x]).length+S.rows.length+kh≤65536;rw [List.length_append];show S.heads.length+1+S.rows.length+kh≤65536;omega,fun y hy=>by
  rcases List.mem_append.1 hy with hy | hy
  ·exact h.vM y hy
  ·simp at hy;subst hy;exact hx,h.au,h.aI,h.cls,h.rls,h.flags,h.sets,h.nexts,h.kind,h.sp,h.line⟩
theorem Aq.step {end_:Int} {S S':Sx} {row:List ByteArray} {l:Int} {rest:List Row} (h:Aq S) (hS:iN end_ S l row rest=.ok S'):Aq S':=by
 have uD:bV (fieldAt row 0)≠13:=fun e=>by rw [iN,if_pos e] at hS;cases hS
 unfold iN at hS
 split at hS
 ·cases hS
 split at hS
 ·cases hS
 split at hS
 ·cases hS
 split at hS
 ·cases hS
 rename_i S2 hS2
 cases hS
 obtain⟨h1,h2⟩:=Ie hS2
 intro n hn hne
 show h_ (3+n)∈S2.heads++[fieldAt row 0]
 rw [h1]
 rcases h2 n hn hne with h3 | h3
 ·exact List.mem_append.2 (.inl (h n hn h3))
 refine List.mem_append.2 (.inr ?_)
 rw [List.mem_singleton,←h3]
 exact (nA _ uD).symm
theorem Au (k:Nat):gL k=2∧k < 11∨gL k=4∧11≤k:=by
 unfold gL
 by_cases h:k < 11
 ·rw [if_pos h];exact .inl ⟨rfl,h⟩
 rw [if_neg h];exact .inr ⟨rfl,by omega⟩
theorem PK (w0:World) (L:List Nat) (i:Ids) (E:Int) (kh k:Nat) (S:Sx) (fv:Value) (row:List ByteArray) (m0:Int) (n:Nat) (w:World) (h:RM w0 w L i E kh (k+1) S) (hr:b_ w0 fv row) (hm0:w0.cell? ⟨0,0,none⟩=some (.int .i64 m0))
  (hn:n < 13) (hk:fieldAt row 0=h_ n) (hl:row.length=gL n) (hsp:∀j,n=3+j→j < 5→dX S.fl j=0) :
  Calls Tryz.prog (hdF n) #[.pointer (some ⟨i.rb,0,none⟩),fv] w (pF w0 L i E kh k (iy E S row n) w):=by
 rcases n with _ | _ | _ | _ | _ | _ | _ | _ | _ | _ | _ | _ | _ | n
 ·exact QK w0 L i E kh k S fv row w h hr hl
 ·exact G_ w0 L i E kh k S fv row w h hr hl
 ·exact TH w0 L i E kh k S fv row w h hr hl
 ·exact lJ w0 L i E kh k S fv row 0 w h hr hl (by decide) hk (hsp 0 rfl (by decide))
 ·exact lJ w0 L i E kh k S fv row 1 w h hr hl (by decide) hk (hsp 1 rfl (by decide))
 ·exact lJ w0 L i E kh k S fv row 2 w h hr hl (by decide) hk (hsp 2 rfl (by decide))
 ·exact lJ w0 L i E kh k S fv row 3 w h hr hl (by decide) hk (hsp 3 rfl (by decide))
 ·exact lJ w0 L i E kh k S fv row 4 w h hr hl (by decide) hk (hsp 4 rfl (by decide))
 ·exact NQ w0 L i E kh k S fv row w h hr hl
 ·exact Qw w0 L i E kh k S fv row w h hr hl
 ·exact He w0 L i E kh k S fv row m0 w h hr hl hm0
 ·exact E_ w0 L i E kh k S fv row m0 w h hr hl hm0
 ·exact E_ w0 L i E kh k S fv row m0 w h hr hl hm0
 omega
theorem MK (k:Nat) (hk:k < 13) (args:Array Value) (W:World):(callFunc (hdF k) args).run Tryz.prog W=.ok (.enter (hdF k) args) W:=by
 rcases k with _ | _ | _ | _ | _ | _ | _ | _ | _ | _ | _ | _ | _ | k
 ·show (callFunc 75 args).run Tryz.prog W=_;kernel_rfl
 ·show (callFunc 76 args).run Tryz.prog W=_;kernel_rfl
 ·show (callFunc 77 args).run Tryz.prog W=_;kernel_rfl
 ·show (callFunc 78 args).run Tryz.prog W=_;kernel_rfl
 ·show (callFunc 78 args).run Tryz.prog W=_;kernel_rfl
 ·show (callFunc 78 args).run Tryz.prog W=_;kernel_rfl
 ·show (callFunc 78 args).run Tryz.prog W=_;kernel_rfl
 ·show (callFunc 78 args).run Tryz.prog W=_;kernel_rfl
 ·show (callFunc 79 args).run Tryz.prog W=_;kernel_rfl
 ·show (callFunc 80 args).run Tryz.prog W=_;kernel_rfl
 ·show (callFunc 81 args).run Tryz.prog W=_;kernel_rfl
 ·show (callFunc 82 args).run Tryz.prog W=_;kernel_rfl
 ·show (callFunc 82 args).run Tryz.prog W=_;kernel_rfl
 omega
abbrev jJ (bb eb:Nat):Deferred:={ target:=.fn (Fn.func 43) #[.pointer (some ⟨bb,0,none⟩),.pointer (some ⟨eb,0,none⟩)],args:=#[] }
theorem results_read (bb eb:Nat) (x y0 y1 y2:Value) (w:World) (tmps:Array Value) (h2:tmps[2]?.getD undef=.pointer (some ⟨bb,0,none⟩)) (h3:tmps[3]?.getD undef=.pointer (some ⟨eb,0,none⟩))
  (hb:w.heap[bb]?=some (.cells #[x] 57 (0,0))) (he:w.heap[eb]?=some (.cells #[y0,y1,y2] 60 (0,0))) :
  (results Tryz.f16 tmps).run Tryz.prog w=.ok (.tuple #[x,.agg #[y0,y1,y2]]) w:=by
 have b0:w.cell? ⟨bb,0,none⟩=some x:=by rw [cell_of_heap hb];rfl
 have e0:w.cell? ⟨eb,0,none⟩=some y0:=by rw [cell_of_heap he];rfl
 have e1:w.cell? ⟨eb,1,none⟩=some y1:=by rw [cell_of_heap he];rfl
 have e2:w.cell? ⟨eb,2,none⟩=some y2:=by rw [cell_of_heap he];rfl
 simp [results,Tryz.results16,go_sem,h2,h3,b0,e0,e1,e2]
theorem JQ (bb eb:Nat) (x y0 y1 y2:Value) (line c:Int) (W:World) (tmps:Array Value) (R:Ending→World→Prop) (h2:tmps[2]?.getD undef=.pointer (some ⟨bb,0,none⟩)) (h3:tmps[3]?.getD undef=.pointer (some ⟨eb,0,none⟩))
  (hb:W.heap[bb]?=some (.cells #[x] 57 (0,0))) (he:W.heap[eb]?=some (.cells #[y0,y1,y2] 60 (0,0))) (hne:bb≠eb)
  (hR:∀W',Kept [bb,eb] W W'→R (.returned (.tuple #[.pointer none,.agg #[.int .i64 1,.int .i64 line,.int .i64 c]])) W') :
  bodyPostD Tryz.prog Tryz.f16 R (Exit.panic [F5 line c]) { tmps:=tmps,defers:=[jJ bb eb] } W:=by
 show Leaves Tryz.prog Tryz.f16 tmps R [jJ bb eb] (.panicking [F5 line c]) W
 refine leaves_cons (f:=43) (args:=#[.pointer (some ⟨bb,0,none⟩),.pointer (some ⟨eb,0,none⟩)]) (by simp) (by simp [go_sem]) ?_
 refine (K5 bb eb x y0 y1 y2 line c [] W hb he hne).mono ?_
 rintro e u' w'' ⟨rfl,rfl,hk,hb',he'⟩
 simp only [settle]
 exact⟨_,results_read bb eb _ _ _ _ w'' tmps h2 h3 hb' he',hR w'' hk⟩
theorem JU (bb eb:Nat) (x y0 y1 y2:Value) (W:World) (tmps:Array Value) (R:Ending→World→Prop) (h2:tmps[2]?.getD undef=.pointer (some ⟨bb,0,none⟩)) (h3:tmps[3]?.getD undef=.pointer (some ⟨eb,0,none⟩))
  (hb:W.heap[bb]?=some (.cells #[x] 57 (0,0))) (he:W.heap[eb]?=some (.cells #[y0,y1,y2] 60 (0,0)))
  (hR:∀W',Below W.heap.size W W'→R (.returned (.tuple #[x,.agg #[y0,y1,y2]])) W') :
  bodyPostD Tryz.prog Tryz.f16 R Exit.ret { tmps:=tmps,defers:=[jJ bb eb] } W:=by
 show Leaves Tryz.prog Tryz.f16 tmps R [jJ bb eb] .returning W
 refine leaves_cons (f:=43) (args:=#[.pointer (some ⟨bb,0,none⟩),.pointer (some ⟨eb,0,none⟩)]) (by simp) (by simp [go_sem]) ?_
 refine (K6 bb eb W).mono ?_
 rintro e u' w'' ⟨rfl,rfl,hbl⟩
 exact⟨_,results_read bb eb _ _ _ _ w'' tmps h2 h3 ((hbl.block _ (block_lt hb)).trans hb) ((hbl.block _ (block_lt he)).trans he),hR w'' hbl⟩
theorem F7 (bb eb:Nat) (x y0 y1 y2:Value) (W:World) (tmps:Array Value) (R:Ending→World→Prop) (h2:tmps[2]?.getD undef=.pointer (some ⟨bb,0,none⟩)) (h3:tmps[3]?.getD undef=.pointer (some ⟨eb,0,none⟩))
  (hb:W.heap[bb]?=some (.cells #[x] 57 (0,0))) (he:W.heap[eb]?=some (.cells #[y0,y1,y2] 60 (0,0)))
  (hR:R (.returned (.tuple #[x,.agg #[y0,y1,y2]])) W) :
  bodyPostD Tryz.prog Tryz.f16 R Exit.ret { tmps:=tmps,defers:=[] } W :=
 ⟨_,results_read bb eb _ _ _ _ W tmps h2 h3 hb he,hR⟩
def aT (bb eb:Nat) (K:List PanicEntry→World→Prop) (Q:Exit→Act→World→Prop):Exit→Act→World→Prop
 | .panic c,a,W=>a.tmps[2]?.getD undef=.pointer (some ⟨bb,0,none⟩)∧a.tmps[3]?.getD undef=.pointer (some ⟨eb,0,none⟩)∧a.defers=[jJ bb eb]∧K c W
 | e,a,W=>Q e a W
theorem aT.put {bb eb:Nat} {K:List PanicEntry→World→Prop} {Q:Exit→Act→World→Prop} {c:List PanicEntry} {a:Act} {W:World} {d:Option Tmp} {v:Value} (hd:d≠some 2∧d≠some 3) (h:aT bb eb K Q (.panic c) (a.put d v) W):aT bb eb K Q (.panic c) a W:=by
 obtain⟨h2,h3,hdf,hk⟩:=h
 cases d with
 | none=>exact⟨h2,h3,hdf,hk⟩
 | some t =>
  have e2:t≠2:=fun e=>hd.1 (by rw [e])
  have e3:t≠3:=fun e=>hd.2 (by rw [e])
  simp only [Act.put] at h2 h3 hdf
  rw [Array.getElem?_setIfInBounds_ne e2] at h2
  rw [Array.getElem?_setIfInBounds_ne e3] at h3
  exact⟨h2,h3,hdf,hk⟩
theorem aT.imp {bb eb:Nat} {K:List PanicEntry→World→Prop} {Q:Exit→Act→World→Prop}
  (h:∀c tmps W,tmps[2]?.getD undef=.pointer (some ⟨bb,0,none⟩)→tmps[3]?.getD undef=.pointer (some ⟨eb,0,none⟩)→K c W→Q (.panic c) { tmps:=tmps,defers:=[jJ bb eb] } W) :
  ∀e a W,aT bb eb K Q e a W→Q e a W:=by
 rintro e ⟨tmps,ds⟩ W hq
 cases e with
 | panic c =>
  obtain⟨h2,h3,hdf,hk⟩:=hq
  simp only at hdf
  subst hdf
  exact h c tmps W h2 h3 hk
 | _=>exact hq
theorem IS.QU {B e size n:Nat} {w:World} {v:Value} {xs:List Value} (h:w.ownsRow B e size v n xs) (_:True):∃p c,v=.slice p n c:=by
 rcases h.2 with ⟨rfl,h0⟩ | ⟨g,cap,cur,rfl,_⟩
 ·exact⟨none,0,by rw [h0]⟩
 exact⟨_,cap,rfl⟩
theorem CJ (zs:List Int) (k:Nat) (h:k < zs.length):(zs.take (k+1)).map (Value.int .i64)=(zs.take k).map (Value.int .i64)++[Value.int .i64 (zs.getD k 0)]:=by
 rw [List.take_add_one,List.getElem?_eq_getElem h,List.map_append]
 simp [List.getD,h]
theorem K9 {B B' e size n:Nat} {w:World} {v:Value} {xs:List Value} (h:w.ownsRow B e size v n xs) (hB:B'≤B):w.ownsRow B' e size v n xs:=by
 refine⟨h.1,?_⟩
 rcases h.2 with h0 | ⟨g,cap,cur,hv,hb,rest⟩
 ·exact .inl h0
 exact .inr ⟨g,cap,cur,hv,Nat.le_trans hB hb,rest⟩
theorem zT (kind:Int) (s:ByteArray) (w:World) (hs:s.size≤4194304) :
  Calls Tryz.prog 181 #[.int .i64 kind,.string s] w fun e w'=>∃v',e=.returned (.tuple #[v',.int .i64 (bS kind s.data.toList).2])∧w'.ownsRow w.heap.size 3 1 v' (bS kind s.data.toList).1.length ((bS kind s.data.toList).1.map (Value.int .i64))∧Below w.heap.size w w':=by
 obtain⟨i0,hi,hz0,hz1,hz2⟩:=info_parts Eu
 have OH:∀w':World,w'.ownsRow w.heap.size 3 1 (.slice none 0 0) ([]:List Int).length (([]:List Int).map (Value.int .i64)):=fun w'=>World.ownsRow_nil _ _ _ _
 rcases kW kind with ⟨h,hk⟩ | ⟨h,hk⟩
 ·have HK:=hid h
  have HKK:=hid hk
  have k1:¬kind < 1:=by omega
  have k2:¬3 < kind:=by omega
  clear h hk
  by_cases h0:s.size=0
  ·have hR:=hid (show bS kind s.data.toList=([],31) by rw [bS,if_neg (by rw [HK.o];decide),if_pos (oK s h0)])
   have he:((s.size:Int)==0)=true:=by rw [h0];rfl
   clear h0
   go_enter Tryz.func181,Tryz.ntmps181
   go_wp2_with fail
   go_ret2
   exact⟨_,by rw [hR.out];rfl,by rw [hR.out];exact OH _,Below.refl _ _⟩
  have he:((s.size:Int)==0)=false:=by rw [beq_eq_false_iff_ne];omega
  have HE:=hid (show ¬s.data.toList=[] by intro e;have:=ak s;rw [e] at this;simp at this;omega)
  have HR:=hid (show bS kind s.data.toList=if (j_ kind s.data.toList).contains 0=true then ([],31) else if 64 < (j_ kind s.data.toList).length then ([],32) else (canon (j_ kind s.data.toList),0) by rw [bS,if_neg (by rw [HK.o];decide),if_neg HE.o])
  have Qp:=numsOf kind s
  have TA:=fun p hp=>yK kind s p hp
  have hln:=ny kind s.data.toList;rw [ak] at hln
  have hnl:(j_ kind s.data.toList).length=(bU kind s).length:=by rw [←Qp];simp
  have hD:=hid (fun (x:Int) hx=>(⟨(yL kind s.data.toList x hx).1,by have:=(yL kind s.data.toList x hx).2;omega⟩:0≤x∧x≤4611686018427387904))
  rw [←oO] at hln
  generalize hzs:j_ kind s.data.toList=zs at *
  have HZS:=hid hzs;clear hzs;obtain⟨ss,hss⟩:∃ss,bU kind s=ss:=⟨_,rfl⟩;have Zz:=hid hss;rw [hss] at Qp TA hln hnl;have ZA:=hid Qp;have ZB:=hid TA;clear Qp TA hss h0
  generalize hr:bS kind s.data.toList=r at *
  have zx:=hid hr;clear hr
  go_enter Tryz.func181,Tryz.ntmps181
  go_wp2_with (go_at_call 211;refine (Lx kind s _ HKK.o hs).mono ?_;rw [Zz.o];rintro e w1 ⟨v1,rfl,⟨hl1,A,cap,rfl,hcap,hcells⟩,b1⟩;have HC:=hid hcells;have B1:=hid b1;clear hl1 hcells b1)
  have hs1:=B1.out.size
  go_loopw [6,8,9] (fun o i _ wr=>∃k q:Nat,k≤ss.length∧q=min k 65∧i=.int .i64 k∧Hid (∀j,j < k→zs.getD j 0≠0)∧Hid (Own w1 wr 3 1 o q ((zs.take q).map (Value.int .i64)))) (fun _ i _ _=>ss.length - (intOf i).toNat)
  case atStart=>exact⟨0,0,Nat.zero_le _,rfl,rfl,(fun j hj=>absurd hj (Nat.not_lt_zero _)),Own.fP _ _ _⟩
  case round =>
  obtain⟨k,q,hkk,hq0,rfl,HN,HO⟩:=hrel
  have hsz:=HO.o.size
  by_cases hlt:k < ss.length
  ·obtain⟨g,o,rfl,hc⟩:=HC.o.resolve_left (by omega)
   have c0:=hc k (.string ss[k]) (iX ss k hlt);have hcell:=(HO.o.below.cell (block_lt_of_cell? w1 _ c0)).trans c0;have hps:=ZB.o ss[k] (List.getElem_mem hlt)
   have hkz:k < zs.length:=by omega
   have hz:zs.getD k 0=iE kind ss[k].data.toList:=by
    have:=ZA.o
    simp only [←this,List.getD,List.getElem?_map,List.getElem?_eq_getElem hlt]
    rfl
   have hpm:ss[k].size≤maxLen:=by unfold maxLen;omega
   clear hc c0 hps
   generalize ss[k]=p at *
   by_cases hq:iE kind p.data.toList=0
   ·have hfin:=hid (show r=([],31) by rw [HR.o,if_pos (NG zs k hkz (by rw [hz,hq]))])
    have HQ:=hid hq;clear hq hz
    go_wp2_with (go_at_call 208;refine (oM kind p _ HKK.o hpm).mono ?_;rw [HQ.o];rintro e w2 ⟨rfl,n,rfl⟩)
    go_ret2
    exact⟨_,by rw [hfin.out];rfl,by rw [hfin.out];exact OH _,B1.out.trans (below_drewN (HO.o.below.mono hs1) n)⟩
   obtain⟨x,hx⟩:∃x,iE kind p.data.toList=x:=⟨_,rfl⟩;have HX:=hid hx;rw [hx] at hq hz
   have hne:(x==0)=false:=by rw [beq_eq_false_iff_ne];exact hq
   have HZ:=hid hz;have hv:=IS.QU HO.o.own trivial;obtain⟨p9,c9,rfl⟩:=hv;clear hx hq hz
   by_cases h65:k < 65
   ·have hqk:q=k:=by omega
    subst hqk
    clear hq0
    have hle:(q:Int)≤64:=by omega
    have HM:=hid (CJ zs q hkz)
    go_wp2_with (first
     | (go_at_call 208;refine (oM kind p _ HKK.o hpm).mono ?_;rw [HX.o];rintro e w2 ⟨rfl,n,hw2⟩;have fG:=hid (show Own w1 w2 _ _ _ _ _ by rw [hw2];exact HO.o.drewN n);clear hw2)
     | (at_builtin;refine aB rfl _ _ 39 rfl w1.heap.size 3 i0 (.int .i64 0) 8 Tryz.underlying39 hi hz0 hz1 hz2 rfl _ q _ rfl fG.o.own _ rfl rfl (by unfold maxLen;omega) (by omega) fG.o.size ?_;intro gg cap2 w5 hown hg5;have tZ:=hid (fG.o.push hown hg5);clear hown hg5))
    go_roundw
    case rel =>
     refine⟨q+1,q+1,by omega,by omega,by go_num,(fun j hj=>?_),hid (by rw [HM.o,HZ.o];exact tZ.o)⟩
     by_cases e:j=q
     ·subst e;rw [HZ.o];intro e;rw [e] at hne;simp at hne
     exact HN.o j (by omega)
    case measure=>simp only [intOf];omega
   have hqk:q=65:=by omega
   subst hqk
   clear hq0
   go_wp2_with (go_at_call 208;refine (oM kind p _ HKK.o hpm).mono ?_;rw [HX.o];rintro e w2 ⟨rfl,n,hw2⟩;have fG:=hid (show Own w1 w2 _ _ _ _ _ by rw [hw2];exact HO.o.drewN n);clear hw2)
   go_roundw
   case rel =>
    refine⟨k+1,65,by omega,by omega,by go_num,(fun j hj=>?_),hid fG.o⟩
    by_cases e:j=k
    ·subst e;rw [HZ.o];intro e;rw [e] at hne;simp at hne
    exact HN.o j (by omega)
   case measure=>simp only [intOf];omega
  have hke:k=ss.length:=by omega
  subst hke
  have hno:=IY zs (fun j hj=>HN.o j (by omega))
  by_cases h64:64 < zs.length
  ·have hfin:=hid (show r=([],32) by rw [HR.o,if_neg (by rw [hno];decide),if_pos h64])
   have Wq:(64:Int) < (ss.length:Int):=by omega
   go_wp2
   go_ret2
   exact⟨_,by rw [hfin.out];rfl,by rw [hfin.out];exact OH _,B1.out.trans (HO.o.below.mono hs1)⟩
  have hfin:=hid (show r=(canon zs,0) by rw [HR.o,if_neg (by rw [hno];decide),if_neg h64])
  have Wq:¬(64:Int) < (ss.length:Int):=by omega
  have hqz:q=zs.length:=by omega
  rw [hqz,List.take_length] at HO;have HI:=hid (IS.aN (e:=3) HO.o.own);have hv:=HI.o;obtain⟨p9,c9,rfl,-⟩:=hv
  have hz2:zs.length*8≤140737488355328:=by omega
  clear hqz hq0 hnl h64
  go_wp2_with (go_at_call 212;refine (Qo _ zs _ HI.o hD.out hz2).mono ?_;rintro e w2 ⟨v2,rfl,h2,b2⟩;have H2:=hid h2;have B2:=hid b2;clear h2 b2)
  go_ret2
  exact⟨_,by rw [hfin.out];rfl,by rw [hfin.out];exact K9 H2.o (Nat.le_trans hs1 hsz),(B1.out.trans (HO.o.below.mono hs1)).trans (B2.out.mono (Nat.le_trans hs1 hsz))⟩
 have hR:=hid (show bS kind s.data.toList=([],30) by rw [bS,if_pos h])
 rcases hk with hk | hk
 ·go_enter Tryz.func181,Tryz.ntmps181
  go_wp2_with fail
  go_ret2
  exact⟨_,by rw [hR.out];rfl,by rw [hR.out];exact OH _,Below.refl _ _⟩
 have k1:¬kind < 1:=by omega
 go_enter Tryz.func181,Tryz.ntmps181
 go_wp2_with fail
 go_ret2
 exact⟨_,by rw [hR.out];rfl,by rw [hR.out];exact OH _,Below.refl _ _⟩
end Go.Proofs.YtfkblpjfknfgbaaGreatDoor
