import Derived.Test.YtfkblpjfknfgbaaGreatDoorRows
import Derived.Test.YtfkblpjfknfgbaaGreatDoorQ7
import Derived.Deep.CutRange
import Derived.Test.YtfkblpjfknfgbaaGreatDoorQ5
import Derived.Test.YtfkblpjfknfgbaaGreatDoorQ0
import Derived.Carry
import Derived.Tactics
import Derived.Tactics2
import Derived.Defers
import Derived.Recover
import Derived.Laws.Pointers
import Derived.Test.YtfkblpjfknfgbaaGreatDoorQ6
set_option linter.unusedVariables false
set_option linter.unusedSimpArgs false
set_option maxHeartbeats 8000000
set_option maxRecDepth 100000
open Go.Maps Go.RowKit Go.WideMaps
open Go.Lib (hid cell_of_heap frozen_of_heap)
open Go.World (block_lt_of_cell?)
namespace Go.Proofs.YtfkblpjfknfgbaaGreatDoor
theorem TS (w:World) (c:Cl):XS w c ⟨#[]⟩ ⟨#[]⟩ ⟨#[46]⟩ (.slice none 0 0) (((w.alloc (.cells #[.int .u16 c.flag,.int .i64 c.kind,.bool c.cross,.int .i64 c.first,.int .i64 c.count] 99)).alloc (.cells yU 31)).alloc (.cells (EU c ⟨#[]⟩ ⟨#[]⟩ ⟨#[46]⟩ (.slice none 0 0)) 31)):=by
 refine⟨(((Below.refl _ _).alloc (Nat.le_refl _) _).alloc (by simp) _).alloc (by simp only [World.size_alloc];omega) _,?_,?_,?_⟩
 ·rw [Below.heap_alloc _ _ w.heap.size (by simp only [World.size_alloc];omega),Below.heap_alloc _ _ w.heap.size (by simp)]
  exact heap_alloc_new w _
 ·rw [Below.heap_alloc _ _ (w.heap.size+1) (by simp)]
  have:=heap_alloc_new (w.alloc (.cells #[.int .u16 c.flag,.int .i64 c.kind,.bool c.cross,.int .i64 c.first,.int .i64 c.count] 99)) (.cells yU 31)
  rwa [World.size_alloc] at this
 have:=heap_alloc_new ((w.alloc (.cells #[.int .u16 c.flag,.int .i64 c.kind,.bool c.cross,.int .i64 c.first,.int .i64 c.count] 99)).alloc (.cells yU 31)) (.cells (EU c ⟨#[]⟩ ⟨#[]⟩ ⟨#[46]⟩ (.slice none 0 0)) 31)
 rwa [World.size_alloc,World.size_alloc] at this
theorem XS.Oj {w W:World} {c:Cl} {strip add cond:ByteArray} {nv:Value} (h:XS w c strip add cond nv W) :
  W.cell? ⟨w.heap.size+2,0,none⟩=some (.int .i64 c.kind)∧W.cell? ⟨w.heap.size+2,1,none⟩=some (.int .u16 c.flag)∧W.cell? ⟨w.heap.size+2,2,none⟩=some (.bool c.cross)∧W.cell? ⟨w.heap.size+2,3,none⟩=some (.string strip)∧W.cell? ⟨w.heap.size+2,4,none⟩=some (.string add)∧W.cell? ⟨w.heap.size+2,5,none⟩=some (.string cond)∧W.cell? ⟨w.heap.size+2,6,none⟩=some nv:=by
 refine⟨?_,?_,?_,?_,?_,?_,?_⟩<;>(rw [cell_of_heap h.x];rfl)
theorem XS.Ol {w W:World} {c:Cl} {strip add cond:ByteArray} {nv:Value} (h:XS w c strip add cond nv W) :
  W.cell? ⟨w.heap.size+1,0,none⟩=some (.int .i64 0)∧W.cell? ⟨w.heap.size+1,1,none⟩=some (.int .u16 0)∧W.cell? ⟨w.heap.size+1,2,none⟩=some (.bool false)∧W.cell? ⟨w.heap.size+1,3,none⟩=some (.string ⟨#[]⟩)∧W.cell? ⟨w.heap.size+1,4,none⟩=some (.string ⟨#[]⟩)∧W.cell? ⟨w.heap.size+1,5,none⟩=some (.string ⟨#[]⟩)∧W.cell? ⟨w.heap.size+1,6,none⟩=some (.slice none 0 0):=by
 refine⟨?_,?_,?_,?_,?_,?_,?_⟩<;>(rw [cell_of_heap h.res];rfl)
theorem FN.setCell {B b j:Nat} {W:World} {v u:Value} {zs:List Int} (h:FN B W v zs) (hx:b < B):FN B (W.setCell ⟨b,j,none⟩ u) v zs:=by
 obtain⟨p,c,hv,hc,h⟩:=h
 refine⟨p,c,hv,hc,h.imp id ?_⟩
 rintro⟨g,off,hp,h1,h2⟩
 refine⟨g,off,hp,h1,fun i hi=>?_⟩
 obtain⟨h3,h4⟩:=h2 i hi;have hlt:=block_lt_of_cell? _ _ h3
 have hk:=(f_ W b j u).block g hlt (by simp;omega)
 exact⟨(World.cell?_of_block hk).trans h3,(World.frozen?_of_block hk).trans h4⟩
theorem XS.answer {w W:World} {c:Cl} {strip add cond:ByteArray} {nv:Value} {next:List Int} (h:XS w c strip add cond nv W) (hn:FN (w.heap.size+3) W nv next) (line:Int) :
  ∀W' e,W'=((((((W.setCell ⟨w.heap.size+1,0,none⟩ (.int .i64 c.kind)).setCell ⟨w.heap.size+1,1,none⟩ (.int .u16 c.flag)).setCell ⟨w.heap.size+1,2,none⟩ (.bool c.cross)).setCell ⟨w.heap.size+1,3,none⟩ (.string strip)).setCell ⟨w.heap.size+1,4,none⟩ (.string add)).setCell ⟨w.heap.size+1,5,none⟩ (.string cond)).setCell ⟨w.heap.size+1,6,none⟩ nv →
   e=.returned (.agg #[.int .i64 c.kind,.int .u16 c.flag,.bool c.cross,.string strip,.string add,.string cond,nv])→ET (.ok ⟨c.kind,c.flag,c.cross,strip,add,cond,next,line⟩) line w e W':=by
 rintro W' e rfl rfl
 refine⟨?_,nv,rfl,?_⟩
 ·exact ((((((h.below.setCell (by simp) _).setCell (by simp) _).setCell (by simp) _).setCell (by simp) _).setCell (by simp) _).setCell (by simp) _).setCell (by simp) _
 exact (((((((hn.setCell (by omega)).setCell (by omega)).setCell (by omega)).setCell (by omega)).setCell (by omega)).setCell (by omega)).setCell (by omega)).mono (by omega)
theorem XS.RF {w W:World} {c:Cl} {strip add cond:ByteArray} {nv:Value} (h:XS w c strip add cond nv W) :
  W.frozen? ⟨w.heap.size+1,0,none⟩=false∧W.frozen? ⟨w.heap.size+1,1,none⟩=false∧W.frozen? ⟨w.heap.size+1,2,none⟩=false∧W.frozen? ⟨w.heap.size+1,3,none⟩=false∧W.frozen? ⟨w.heap.size+1,4,none⟩=false∧W.frozen? ⟨w.heap.size+1,5,none⟩=false∧W.frozen? ⟨w.heap.size+1,6,none⟩=false :=
 ⟨frozen_of_heap h.res _,frozen_of_heap h.res _,frozen_of_heap h.res _,frozen_of_heap h.res _,frozen_of_heap h.res _,frozen_of_heap h.res _,frozen_of_heap h.res _⟩
theorem FN.later {B:Nat} {W W':World} {v:Value} {zs:List Int} (h:FN B W v zs) (hb:Below W.heap.size W W'):FN B W' v zs:=by
 obtain⟨p,c,hv,hc,h⟩:=h
 refine⟨p,c,hv,hc,h.imp id ?_⟩
 rintro⟨g,off,hp,h1,h2⟩
 refine⟨g,off,hp,h1,fun i hi=>?_⟩
 obtain⟨h3,h4⟩:=h2 i hi;have hk:=hb.block g (block_lt_of_cell? _ _ h3)
 exact⟨(World.cell?_of_block hk).trans h3,(World.frozen?_of_block hk).trans h4⟩
theorem qd:∀(n:Nat) (l:List UInt8) (e:Int),dV n l=.error e→e=41
 | 0,l,e,h=>by simp [dV] at h
 | n+1,[],e,h=>by simp [dV] at h
 | n+1,b::l,e,h=>by
   unfold dV at h
   split at h
   ·split at h
    ·cases h;rfl
    ·split at h
     ·cases h;rfl
     ·split at h
      ·rename_i h2;cases h;exact qd n _ _ h2
      ·cases h
   ·split at h
    ·rename_i h2;cases h;exact qd n _ _ h2
    ·cases h
theorem uF {l:List UInt8} {e:Int} (h:gT l=.error e):(e==0)=false:=by
 unfold gT at h
 split at h
 ·cases h;rfl
 split at h
 ·cases h
 split at h
 ·rename_i h2;cases h;rw [qd _ _ _ h2];rfl
 split at h
 ·cases h;rfl
 cases h
theorem Ah {l:List UInt8} {ts:List (List UInt8)} (h:gT l=.ok ts):ts.length≤16:=by
 unfold gT at h
 split at h
 ·cases h
 split at h
 ·cases h;exact Nat.zero_le _
 split at h
 ·cases h
 split at h
 ·cases h
 cases h;omega
theorem xW.later {w W:World} {fb:Nat} {kind:Int} {av:Value} {us:List Value} {al:List (List Int)} (h:xW w fb kind av us al) (hb:Below w.heap.size w W):xW W fb kind av us al :=
 ⟨(hb.cell (block_lt_of_cell? _ _ h.kind)).trans h.kind,(hb.cell (block_lt_of_cell? _ _ h.aI)).trans h.aI,h.row.keep hb,fun k u a hu ha=>(h.sets k u a hu ha).keep hb,h.NR⟩
theorem QJ (rb fb:Nat) (line:Int) (F:Fl) (av:Value) (us:List Value) (c:Cl) (fv:Value) (row:List ByteArray) (m0:Int) (w:World) (h2:w.cell? ⟨rb,2,none⟩=some (.int .i64 line)) (h0:w.cell? ⟨rb,0,none⟩=some (.pointer (some ⟨fb,0,none⟩)))
  (hF:xW w fb F.kind av us F.aI) (hr:b_ w fv row) (hal:F.aI.length≤65536) (hm0:w.cell? ⟨0,0,none⟩=some (.int .i64 m0)) :
  Calls Tryz.prog 118 #[.pointer (some ⟨rb,0,none⟩),.agg #[.int .u16 c.flag,.int .i64 c.kind,.bool c.cross,.int .i64 c.first,.int .i64 c.count],fv] w (ET (bK F c line row) line w):=by
 have hxs:=TS w c
 unfold yU at hxs;have TT:=hxs;clear hxs
 rw [show EU c ⟨#[]⟩ ⟨#[]⟩ ⟨#[46]⟩ (.slice none 0 0)=#[.int .i64 c.kind,.int .u16 c.flag,.bool c.cross,.string ⟨#[]⟩,.string ⟨#[]⟩,.string ⟨#[46]⟩,.slice none 0 0] from rfl] at TT
 have UK:=hid TT;clear TT
 have HM:Hid (∀W b k,Below w.heap.size w W→k≠0→Calls Tryz.prog 46 #[.pointer (some ⟨rb,0,none⟩),.bool b,.int .i64 k] W (lX b line k W)):=hid (fun W b k hb hk=>aY rb line b k W hk ((hb.cell (block_lt_of_cell? _ _ h2)).trans h2))
 have hB1:Below w.heap.size w ((w.alloc (.cells #[.int .u16 c.flag,.int .i64 c.kind,.bool c.cross,.int .i64 c.first,.int .i64 c.count] 99)).alloc (.cells yU 31)):=((Below.refl _ _).alloc (Nat.le_refl _) _).alloc (by simp) _
 unfold yU at hB1;have HB1:=hid hB1;clear hB1
 by_cases hlen:row.length≠4∧row.length≠5
 ·have bF:=hid (Oi (F:=F) (c:=c) (line:=line) hlen)
  have e4:((row.length:Int)==4)=false:=by rw [beq_eq_false_iff_ne];omega
  have e5:((row.length:Int)==5)=false:=by rw [beq_eq_false_iff_ne];omega
  obtain⟨-,A,cp,rfl,-,-⟩:=hr.rd;clear hlen
  go_enter Tryz.func118,Tryz.ntmps118
  go_wp2_with fail
  refine (HM.o _ false 111 HB1.o (by decide)).mono ?_
  rintro e w9 ⟨⟨hx,-⟩ | ⟨-,rfl⟩,rfl⟩
  ·exact absurd hx (by simp)
  exact⟨rfl,HB1.o,by rw [bF.o]⟩
 have Uv:Hid (∀W k,Below w.heap.size w W→k≠0→Calls Tryz.prog 46 #[.pointer (some ⟨rb,0,none⟩),.bool true,.int .i64 k] W fun e w'=>e=.returned (.tuple #[])∧w'=W):=hid (fun W k hb hk=>(HM.o W true k hb hk).mono (by
  rintro e w' ⟨⟨-,rfl⟩ | ⟨hx,-⟩,rfl⟩
  ·exact⟨rfl,rfl⟩
  cases hx))
 obtain⟨g,o,cp,rfl,hcp,hcells⟩:=hr.cells (by omega)
 have WS:=hid hcells;clear hcells;obtain⟨n,hn⟩:∃n,row.length=n:=⟨_,rfl⟩;rw [hn] at hcp WS hlen ⊢
 have d2:=WS.o 2 (by omega)
 have d3:=WS.o 3 (by omega)
 have hn':n=4∨n=5:=by omega
 clear hlen
 have HP:Hid (∀W,Below w.heap.size w W→Calls Tryz.prog 117 #[.pointer (some ⟨rb,0,none⟩),.string (fieldAt row 2)] W (oC line W Value.string (bL true (fieldAt row 2)))):=hid (fun W hb=>g_ rb line (fieldAt row 2) W (Nat.le_trans (aL hr.each 2) (by decide)) ((hb.cell (block_lt_of_cell? _ _ h2)).trans h2))
 have hd2:∀W,Below w.heap.size w W→W.cell? ⟨g,o+2,none⟩=some (.string (fieldAt row 2)):=fun W hb=>(hb.cell (block_lt_of_cell? _ _ d2)).trans d2
 have d2':=hd2 _ UK.o.below
 cases hp:bL true (fieldAt row 2) with
 | error e =>
  have bF:=hid (xG (F:=F) (c:=c) (line:=line) (row:=row) (by rw [hn];omega) hp)
  rw [hp] at HP;unfold oC at HP;clear hp
  rcases hn' with rfl | rfl
  all_goals
   go_enter Tryz.func118,Tryz.ntmps118
   go_upto_region 3 with (go_at_call 46;refine (Uv.o _ _ HB1.o (by decide)).mono ?_;rintro e w2 ⟨rfl,rfl⟩)
   go_wp2_with fail
   refine (HP.o _ UK.o.below).mono ?_
   rintro e9 w9 ⟨ze,rfl⟩
   exact⟨rfl,UK.o.below.trans (ze.mono UK.o.below.size),by rw [bF.o]⟩
 | ok strip =>
  have bF:=hid (Io (F:=F) (c:=c) (line:=line) (row:=row) (by rw [hn];omega) hp)
  rw [hp] at HP;unfold oC at HP;clear hp
  rcases hn' with rfl | rfl
  all_goals
   go_enter Tryz.func118,Tryz.ntmps118
   go_upto_region 3 with (go_at_call 46;refine (Uv.o _ _ HB1.o (by decide)).mono ?_;rintro e w2 ⟨rfl,rfl⟩)
   go_cut [] from 33 to 38 (fun W=>Hid (XS w c strip ⟨#[]⟩ ⟨#[46]⟩ (.slice none 0 0) W))
   case first =>
    go_wp2_with (go_at_call 117;refine (HP.o _ UK.o.below).mono ?_;rintro e w3 ⟨hb3,rfl⟩;have ku:=hid (UK.o.later hb3);obtain⟨u3,hu3,hf3⟩:=ku.o.XZ 3 (by decide);clear hb3)
    all_goals go_meet
    all_goals exact ku.o.xE
   case rest =>
   have Dv:=hcut
   have d3':=(Dv.o.below.cell (block_lt_of_cell? _ _ d3)).trans d3;have hl4:=(Dv.o.below.cell (block_lt_of_cell? _ _ h2)).trans h2
   have HW:=hid (xY (fieldAt row 3) wc (Nat.le_trans (aL hr.each 3) (by decide)))
   clear hcut;rcases hw:eB (fieldAt row 3).data.toList with ⟨wd,rest,cut,ew⟩;rw [hw] at HW
   by_cases OL:ew=0
   ·subst OL
    unfold jY at HW;dsimp only at HW
    have sP:Hid (bK F c line row=match o8 wd with
     | .error e=>.error e
     | .ok add=>Q7 F c line row strip add rest cut):=hid (by rw [bF.o,Ab,hw];rfl)
    obtain⟨Bz,Ad⟩:∃B,((mkS wd).toList==[48])=B:=⟨_,rfl⟩;have hwl:=(iM (fieldAt row 3).data.toList).1;rw [hw,ak] at hwl
    have o7:=hid (show (mkS wd).size≤140737488355328 by rw [aG];exact Nat.le_trans hwl (Nat.le_trans (aL hr.each 3) (by decide)))
    have HHw:=hid hw;clear hwl hw
    go_upto_if 52 with (first | (go_at_call 84;refine HW.o.mono ?_;rintro e w4 ⟨rfl,hb4⟩;have OZ:=hid (Dv.o.later hb4);have jK:=hid hb4;have hl5:=(OZ.o.below.cell (block_lt_of_cell? _ _ h2)).trans h2;clear hb4) | (go_at_call 83;refine (dW rb line 0 _ hl5).mono ?_;rintro e w5 ⟨⟨-,rfl⟩ | ⟨hx,-⟩,rfl⟩))
    cases ha:o8 wd with
    | error e =>
     have Di:Hid (bK F c line row=.error e):=hid (by rw [sP.o,ha])
     have hz:mkS wd≠jZ:=fun h=>by rw [o8,if_pos h] at ha;cases ha
     have Yf:Bz=false:=by
      rw [←Ad,beq_eq_false_iff_ne]
      intro h3
      rw [Lib.toList_data] at h3;have h4:wd=[48]:=h3
      exact hz (by rw [h4];rfl)
     subst Yf
     have hfit:r9 (mkS wd)=.error e:=by
      rw [o8,if_neg hz] at ha
      rw [r9]
      by_cases hf:jX (mkS wd)≠0
      ·rw [if_pos hf] at ha ⊢;cases ha;rfl
      rw [if_neg hf] at ha;cases ha
     have Lb:=hid (Cx rb line (mkS wd) w4 o7.o hl5);rw [hfit] at Lb;unfold oC at Lb;clear hz hfit ha
     go_wp2_with fail
     refine Lb.o.mono ?_
     rintro e9 w9 ⟨ze,rfl⟩
     exact⟨rfl,OZ.o.below.trans (ze.mono OZ.o.below.size),by rw [Di.o]⟩
    | ok add =>
     have U3:Hid (bK F c line row=match nextR F c.kind rest cut with
      | .error e=>.error e
      | .ok next=>qX c line row strip add next):=hid (by rw [sP.o,ha];rfl)
     have U4:=hid ha;clear ha
     go_cut [] from 53 to 56 (fun W=>Hid (XS w c strip add ⟨#[46]⟩ (.slice none 0 0) W))
     case first =>
      cases Bz
      ·have hz:mkS wd≠jZ:=fun e=>by
        rw [e,Lib.toList_data] at Ad
        exact absurd Ad (by decide)
       have hadd:add=mkS wd∧r9 (mkS wd)=.ok (mkS wd):=by
        have h:=U4.o
        rw [o8,if_neg hz] at h
        by_cases hf:jX (mkS wd)≠0
        ·rw [if_pos hf] at h;cases h
        rw [if_neg hf] at h
        cases h
        exact⟨rfl,by rw [r9,if_neg hf]⟩
       obtain⟨rfl,hfit⟩:=hadd;have Lb:=hid (Cx rb line (mkS wd) w4 o7.o hl5);rw [hfit] at Lb;unfold oC at Lb;clear hz hfit
       go_wp2_with (go_at_call 151;refine Lb.o.mono ?_;rintro e w6 ⟨hb6,rfl⟩;have Mh:=hid (OZ.o.later hb6);obtain⟨u6,hu6,hf6⟩:=Mh.o.XZ 4 (by decide);clear hb6)
       all_goals go_meet
       all_goals exact Mh.o.FT
      have hz:mkS wd=jZ:=by
       have h3:(mkS wd).toList=[48]:=by simpa using Ad
       rw [Lib.toList_data] at h3;have h4:wd=[48]:=h3;rw [h4];rfl
      have hadd:add=⟨#[]⟩:=by
       have h:=U4.o
       rw [o8,if_pos hz] at h
       cases h;rfl
      subst hadd
      clear hz
      go_wp2_with fail
      all_goals go_meet
      all_goals exact OZ
     case rest =>
     have sQ:=hcut
     have XF:=(sQ.o.below.cell (block_lt_of_cell? _ _ h2)).trans h2;clear hcut
     have L6:Hid (cut=true→c.kind=2→Calls Tryz.prog 34 #[.pointer (some ⟨fb,0,none⟩),.string (mkS rest)] wc (EM (aQ F (mkS rest)) wc)):=hid (fun _ _=>by
      have hwl:=(iM (fieldAt row 3).data.toList).2
      rw [HHw.o,ak] at hwl;rw [Az]
      exact tC fb F.kind m0 av us F.aI (mkS rest) wc (hF.later sQ.o.below) hal (by rw [aG];exact Nat.le_trans hwl (Nat.le_trans (aL hr.each 3) (by decide))) ((sQ.o.below.cell (block_lt_of_cell? _ _ hm0)).trans hm0))
     obtain⟨k0,k1,k2⟩:=sQ.o.cells;have hr0:=(sQ.o.below.cell (block_lt_of_cell? _ _ h0)).trans h0
     cases hnx:nextR F c.kind rest cut with
     | error e =>
      have Di:Hid (bK F c line row=.error e):=hid (by rw [U3.o,hnx])
      cases cut
      ·rw [nextR,if_neg (by simp)] at hnx;cases hnx
      rw [nextR,if_pos rfl] at hnx
      by_cases hk2:c.kind=2
      ·have hfl:(aQ F (mkS rest)).2=e∧e≠0:=by
        rw [if_neg (by omega)] at hnx
        by_cases h:(aQ F (mkS rest)).2≠0
        ·rw [if_pos h] at hnx;cases hnx;exact⟨rfl,h⟩
        rw [if_neg h] at hnx;cases hnx
       have ek:(c.kind==2)=true:=by rw [hk2];rfl
       have TU:=hid (L6.o rfl hk2);unfold EM at TU;rw [hfl.1] at TU
       have Dw:Hid ((e==0)=false):=hid (by rw [beq_eq_false_iff_ne];exact hfl.2)
       clear hfl hk2 hnx
       go_wp2_with (first | (go_at_call 46;refine (Uv.o _ _ sQ.o.below (by decide)).mono ?_;rintro e w2 ⟨rfl,rfl⟩) | (go_at_call 34;refine TU.o.mono ?_;rintro e6 w6 ⟨v6,rfl,hv6,hb6⟩;have Dx:=hid (sQ.o.later hb6);have ZV:=(Dx.o.below.cell (block_lt_of_cell? _ _ h2)).trans h2;obtain⟨p6,c6,ZW,-⟩:=hv6;subst ZW;clear hb6))
       refine (dW rb line e _ ZV).mono ?_
       rw [Dw.o]
       rintro e w9 ⟨⟨hx,-⟩ | ⟨-,rfl⟩,rfl⟩
       ·exact absurd hx (by simp)
       exact⟨rfl,Dx.o.below,by rw [Di.o]⟩
      have he:e=118:=by rw [if_pos hk2] at hnx;cases hnx;rfl
      subst he
      have ek:(c.kind==2)=false:=by rw [beq_eq_false_iff_ne];exact hk2
      clear hk2 hnx
      go_wp2_with fail
      refine (HM.o _ false 118 sQ.o.below (by decide)).mono ?_
      rintro e w9 ⟨⟨hx,-⟩ | ⟨-,rfl⟩,rfl⟩
      ·exact absurd hx (by simp)
      exact⟨rfl,sQ.o.below,by rw [Di.o]⟩
     | ok next =>
      have R8:Hid (bK F c line row=qX c line row strip add next):=hid (by rw [U3.o,hnx])
      go_upto_if 57 with fail
      go_cut [] from 58 to 76 (fun W=>∃nv,Hid (XS w c strip add ⟨#[46]⟩ nv W)∧Hid (FN (w.heap.size+3) W nv next))
      case first =>
       cases cut
       ·have hnn:next=[]:=by
         unfold nextR at hnx
         rw [if_neg (by simp)] at hnx
         cases hnx;rfl
        subst hnn
        go_wp2_with fail
        all_goals go_meet
        all_goals exact⟨_,sQ,hid (FN.nil _ _ _ _)⟩
       have hk2:c.kind=2:=by
        unfold nextR at hnx
        rw [if_pos rfl] at hnx
        by_cases h:c.kind≠2
        ·rw [if_pos h] at hnx;cases hnx
        omega
       have hfl:(aQ F (mkS rest)).2=0∧next=(aQ F (mkS rest)).1:=by
        unfold nextR at hnx
        rw [if_pos rfl,if_neg (by omega)] at hnx
        by_cases h:(aQ F (mkS rest)).2≠0
        ·rw [if_pos h] at hnx;cases hnx
        rw [if_neg h] at hnx
        cases hnx
        exact⟨by omega,rfl⟩
       have ek:(c.kind==2)=true:=by rw [hk2];rfl
       have TU:=hid (L6.o rfl hk2);unfold EM at TU;rw [hfl.1,←hfl.2] at TU;clear hfl hk2 hnx
       go_wp2_with (first | (go_at_call 46;refine (Uv.o _ _ sQ.o.below (by decide)).mono ?_;rintro e w2 ⟨rfl,rfl⟩) | (go_at_call 34;refine TU.o.mono ?_;rintro e w6 ⟨v6,rfl,hv6,hb6⟩;have U5:=hid hv6;have Dx:=hid (sQ.o.later hb6);have ZV:=(Dx.o.below.cell (block_lt_of_cell? _ _ h2)).trans h2;obtain⟨u6,hu6,hf6⟩:=Dx.o.XZ 6 (by decide);obtain⟨p6,c6,ZW,-⟩:=hv6;subst ZW;clear hb6) | (go_at_call 83;refine (dW rb line 0 _ ZV).mono ?_;rintro e w5 ⟨⟨-,rfl⟩ | ⟨hx,-⟩,rfl⟩))
       all_goals go_meet
       all_goals exact⟨_,hid Dx.o.wG,hid ((FN.setCell U5.o sQ.o.size).mono sQ.o.size)⟩
      case rest =>
      obtain⟨nv,vQ,Uj⟩:=hcut
      clear hnx hr0 k0 k1 k2 L6;obtain⟨p9,c9,Yh,-⟩:=Uj.o
      subst Yh
      first
       | (have Yi:row.length=4:=hn
          have BK:Hid (bK F c line row=.ok ⟨c.kind,c.flag,c.cross,strip,add,⟨#[46]⟩,next,line⟩):=hid (by rw [R8.o,qX,je,if_neg (by omega)])
          obtain⟨x0,x1,x2,x3,x4,x5,x6⟩:=vQ.o.Oj;obtain⟨z0,z1,z2,z3,z4,z5,z6⟩:=vQ.o.Ol;obtain⟨y0,y1,y2,y3,y4,y5,y6⟩:=vQ.o.RF
          go_wp2_with fail
          refine bodyPost_ret (v:=.agg #[.int .i64 c.kind,.int .u16 c.flag,.bool c.cross,.string strip,.string add,.string ⟨#[46]⟩,.slice p9 next.length c9]) (by simp [results,Tryz.results118,go_sem,z0,z1,z2,z3,z4,z5,z6];try rfl) rfl ?_
          rw [BK.o]
          exact vQ.o.answer Uj.o line _ _ rfl rfl)
       | (have L8:row.length=5:=hn
          have d4:=(vQ.o.below.cell (block_lt_of_cell? _ _ (WS.o 4 (by omega)))).trans (WS.o 4 (by omega))
          have hl9:=(vQ.o.below.cell (block_lt_of_cell? _ _ h2)).trans h2;have hs4:=aL hr.each 4
          have WT:=hid (kS rb line (fieldAt row 4) wc (Nat.le_trans hs4 (by decide)) hl9)
          cases hf:fitAll (fieldAt row 4)
          ·have BK:Hid (bK F c line row=.error 21):=hid (by rw [R8.o,qX,je,if_pos L8,if_pos hf])
           rw [hf] at WT;clear hf L8
           go_wp2_with fail
           refine WT.o.mono ?_
           rintro e w9 ⟨⟨hx,-⟩ | ⟨-,rfl⟩,rfl⟩
           ·exact absurd hx (by simp)
           exact⟨rfl,vQ.o.below,by rw [BK.o]⟩
          rw [hf] at WT
          have U6:Hid (bK F c line row=match gT (fieldAt row 4).data.toList with
           | .error e=>.error e
           | .ok ts=>.ok ⟨c.kind,c.flag,c.cross,strip,add,mkS (dF ts),next,line⟩):=hid (by rw [R8.o,qX,je,if_pos L8,if_neg (by rw [hf];simp)];cases gT (fieldAt row 4).data.toList<;>rfl)
          have HPo:Hid (Calls Tryz.prog 111 #[.pointer (some ⟨rb,0,none⟩),.string (fieldAt row 4)] wc fun e w'=>e=.returned (.tuple #[])∧wc=w'):=hid (WT.o.mono (by
           rintro e w' ⟨⟨-,rfl⟩ | ⟨hx,-⟩,rfl⟩
           ·exact⟨rfl,rfl⟩
           cases hx))
          have L_:=hid (EO (fieldAt row 4) wc);unfold yS at L_;clear hf WT L8
          cases hc:gT (fieldAt row 4).data.toList with
          | error e =>
           have BK:Hid (bK F c line row=.error e):=hid (by rw [U6.o,hc])
           rw [hc] at L_;have Dw:Hid ((e==0)=false):=hid (uF hc);clear hc
           go_wp2_with (first | (go_at_call 111;refine HPo.o.mono ?_;rintro e8 w8 ⟨rfl,rfl⟩) | (go_at_call 152;refine L_.o.mono ?_;rintro e8 w8 ⟨mQ,rfl⟩;have zn:=hid (vQ.o.later mQ);clear mQ))
           have BL:=hid (zn.o.later ((Below.refl _ _).alloc (Nat.le_refl _) (.cells #[.slice none 0 0] 246)))
           refine (dW rb line e _ ((BL.o.below.cell (block_lt_of_cell? _ _ h2)).trans h2)).mono ?_
           rw [Dw.o]
           rintro e w9 ⟨⟨hx,-⟩ | ⟨-,rfl⟩,rfl⟩
           ·exact absurd hx (by simp)
           exact⟨rfl,BL.o.below,by rw [BK.o]⟩
          | ok ts =>
           have BK:Hid (bK F c line row=.ok ⟨c.kind,c.flag,c.cross,strip,add,mkS (dF ts),next,line⟩):=hid (by rw [U6.o,hc])
           rw [hc] at L_;have Yj:=hid (Ah hc);clear hc
           go_wp2_with (first | (go_at_call 111;refine HPo.o.mono ?_;rintro e8 w8 ⟨rfl,rfl⟩) | (go_at_call 152;refine L_.o.mono ?_;rintro e8 w8 ⟨mQ,v8,n8,Xs,rfl,rfl,hXs,how⟩;have zn:=hid (vQ.o.later mQ);have JB:=hid (Uj.o.later mQ);obtain⟨A8,LW,X0⟩:=aF how;subst X0;have HPR:Hid (Og w8 (.slice A8 ts.length LW) ts):=hid ⟨Xs,hXs,Rd.aN how⟩;clear mQ how hXs))
           have BL:=hid (zn.o.later ((Below.refl _ _).alloc (Nat.le_refl _) (.cells #[.slice A8 ts.length LW] 246)));have Ma:=hid (JB.o.later ((Below.refl _ _).alloc (Nat.le_refl _) (.cells #[.slice A8 ts.length LW] 246)));have ZX:=hid (HPR.o.keep ((Below.refl _ _).alloc (Nat.le_refl _) (.cells #[.slice A8 ts.length LW] 246)));have ZY:=(BL.o.below.cell (block_lt_of_cell? _ _ h2)).trans h2
           refine (dW rb line 0 _ ZY).mono ?_
           rintro e w5 ⟨⟨-,rfl⟩ | ⟨hx,-⟩,rfl⟩
           rotate_left
           ·cases hx
           go_wp2_with (go_at_call 153;refine (Oh _ ts _ ZX.o (Nat.le_trans Yj.o (by decide))).mono ?_;rintro e8 zo ⟨rfl,FU⟩;have zq:=hid (BL.o.later FU);have R_:=hid (Ma.o.later FU);clear FU;obtain⟨x0,x1,x2,x3,x4,x5,x6⟩:=zq.o.Oj;obtain⟨z0,z1,z2,z3,z4,z5,z6⟩:=zq.o.Ol;obtain⟨y0,y1,y2,y3,y4,y5,y6⟩:=zq.o.RF;obtain⟨u5,hu5,hf5⟩:=zq.o.XZ 5 (by decide);clear hu5)
           refine bodyPost_ret (v:=.agg #[.int .i64 c.kind,.int .u16 c.flag,.bool c.cross,.string strip,.string add,.string (mkS (dF ts)),.slice p9 next.length c9]) (by simp [results,Tryz.results118,go_sem,z0,z1,z2,z3,z4,z5,z6];try rfl) rfl ?_
           rw [BK.o]
           exact (zq.o.sO (s:=mkS (dF ts))).answer (R_.o.setCell (by omega)) line _ _ rfl rfl)
   have BK:Hid (bK F c line row=.error ew):=hid (by rw [bF.o,Ab,hw];dsimp only;rw [if_pos OL])
   have Dw:Hid ((ew==0)=false):=hid (by rw [beq_eq_false_iff_ne];exact OL)
   unfold jY at HW;dsimp only at HW;clear hw OL
   go_wp2_with (go_at_call 84;refine HW.o.mono ?_;rintro e4 w4 ⟨rfl,hb4⟩;have OZ:=hid (Dv.o.later hb4);have hl5:=(OZ.o.below.cell (block_lt_of_cell? _ _ h2)).trans h2;clear hb4)
   refine (dW rb line ew _ hl5).mono ?_
   rw [Dw.o]
   rintro e w9 ⟨⟨hx,-⟩ | ⟨-,rfl⟩,rfl⟩
   ·exact absurd hx (by simp)
   exact⟨rfl,OZ.o.below,by rw [BK.o]⟩
def jE:List ByteArray:=[vJ,lZ,vK,vL,pW,wH,og,dY]
theorem EX (s:ByteArray):lV (bV s)=true↔s∈jE:=by
 constructor
 ·intro h
  have uD:bV s≠13:=fun e=>by rw [e] at h;exact absurd h (by decide)
  rw [nA s uD];have hle:=qo s
  generalize bV s=n at h hle uD
  have:∀n,n < 13→lV n=true→h_ n∈jE:=by decide
  exact this n (by omega) h
 intro h
 have:∀x∈jE,lV (bV x)=true:=by decide
 exact this s h
theorem Om (heads:List ByteArray) (k:Nat) (hk:k < 8) (h:heads.count (jE.getD k dY)≠0):heads.any (fun h=>lV (bV h))=true:=by
 rw [List.any_eq_true]
 have hm:jE.getD k dY∈jE:=by
  have:∀k,k < 8→jE.getD k dY∈jE:=by decide
  exact this k hk
 refine⟨jE.getD k dY,List.count_pos_iff.1 (by omega),(EX _).2 hm⟩
theorem KX (heads:List ByteArray) (h:∀j,j < 8→heads.count (jE.getD j dY)=0):heads.any (fun h=>lV (bV h))=false:=by
 rw [List.any_eq_false]
 intro x hx hl
 obtain⟨j,hj,rfl⟩:=List.getElem_of_mem ((EX x).1 hl)
 have:=h j hj
 rw [show jE.getD j dY=jE[j] by simp [List.getD,hj]] at this
 exact absurd hx (List.count_eq_zero.1 this)
theorem KY:∀j,j < 8→(jE.getD j dY).size≤maxLen:=by
 have:∀j,j < 8→(jE.getD j dY).size≤100:=by decide
 intro j hj;have:=this j hj;unfold maxLen;omega
def Jc:List ByteArray:=[o_,vw,Dz]
theorem Oo (s:ByteArray):Lib.idxOfS Jc s+1=kindOf s:=by
 unfold kindOf Jc Lib.idxOfS
 by_cases h1:s=o_
 ·subst h1;rfl
 by_cases h2:s=vw
 ·subst h2;rfl
 by_cases h3:s=Dz
 ·subst h3;rfl
 rw [if_neg h1,if_neg h2,if_neg h3];simp [Lib.idxFromS,Ne.symm h1,Ne.symm h2,Ne.symm h3]
theorem QK (w0:World) (L:List Nat) (i:Ids) (E:Int) (kh k:Nat) (S:Sx) (fv:Value) (row:List ByteArray) (w:World) (h:RM w0 w L i E kh (k+1) S) (hr:b_ w0 fv row) (hl:row.length=2) :
  Calls Tryz.prog 75 #[.pointer (some ⟨i.rb,0,none⟩),fv] w (pF w0 L i E kh k (jw S.line S (kL S (fieldAt row 1))) w):=by
 have hsz:=aL hr.each 1
 obtain⟨g,o,c,rfl,hc,hcells⟩:=hr.cells (by omega)
 have d1:=aD (hcells 1 (by omega)) h.base
 obtain⟨hbd,v,hm⟩:=h;have hb1:Below w.heap.size w (w.alloc (.cells #[.string vJ,.string lZ,.string vK,.string vL,.string pW,.string wH,.string og,.string dY] 9)):=(Below.refl _ _).alloc (Nat.le_refl _) _;have iA:=hid (hm.below hb1);have HB1:=hid hb1
 have HC:Hid (∀j,j < 8→(w.alloc (.cells #[.string vJ,.string lZ,.string vK,.string vL,.string pW,.string wH,.string og,.string dY] 9)).cell? ⟨w.heap.size,j,none⟩=some (.string (jE.getD j dY))):=hid (by
  intro j hj
  rw [cell_of_row _ w.heap.size j _ 9 (0,0) (heap_alloc_new w _)]
  rcases j with _ | _ | _ | _ | _ | _ | _ | _ | j<;>first | rfl | omega)
 have HB:=hid hbd;rw [hl] at hc ⊢;have D1:=hid d1;clear hcells hm hbd hr hb1 d1
 go_enter Tryz.func75,Tryz.ntmps75
 go_wp2_with fail
 obtain⟨w1,hw1⟩:∃w1,w.alloc (.cells #[.string vJ,.string lZ,.string vK,.string vL,.string pW,.string wH,.string og,.string dY] 9)=w1:=⟨_,rfl⟩;rw [hw1] at iA HB1 HC ⊢;clear hw1;have c4:=iA.o.r4
 have HN:Hid (S.heads.any (fun h=>lV (bV h))=true→kL S (fieldAt row 1)=.error 113):=hid (fun h=>by unfold kL;rw [if_pos h])
 go_loop [5,8] (fun _ i=>∃k:Nat,k≤8∧i=.int .i64 k∧Hid (∀j,j < k→S.heads.count (jE.getD j dY)=0)) (fun _ i=>8 - (intOf i).toNat)
 case atStart=>exact⟨0,Nat.zero_le _,rfl,hid (fun j hj=>absurd hj (Nat.not_lt_zero _))⟩
 case round =>
 obtain⟨k',hk,rfl,HT⟩:=hrel
 by_cases hlt:k' < 8
 ·have hcell:=HC.o k' hlt
  obtain⟨x,hx⟩:∃x,jE.getD k' dY=x:=⟨_,rfl⟩;rw [hx] at hcell
  have hlk:=iA.o.seen.look x (by rw [←hx];exact KY k' hlt)
  have HX:=hid hx;clear hx
  by_cases hq:S.heads.count x=0
  ·rw [hq] at hlk
   have Dl:Hid (∀j,j < k'+1→S.heads.count (jE.getD j dY)=0):=hid (fun j hj=>by
    rcases Nat.lt_or_ge j k' with h | h
    ·exact HT.o j h
    obtain rfl:j=k':=by omega
    rw [HX.o];exact hq)
   clear hq
   go_wp2_with fail
   refine (aY i.rb S.line _ _ _ (by decide) iA.o.r2).mono ?_
   rintro e w' ⟨⟨-,rfl⟩ | ⟨h,-⟩,rfl⟩
   ·go_wp2_with fail
    go_round
    case rel=>exact⟨k'+1,by omega,by go_num,Dl⟩
    case measure=>simp [intOf];omega
   exact absurd h (by decide)
  have hne:((S.heads.count x:Int)==0)=false:=by rw [beq_eq_false_iff_ne];omega
  have HE:=hid (HN.o (Om S.heads k' hlt (by rw [HX.o];exact hq)))
  clear hq
  go_wp2_with fail
  refine (aY i.rb S.line _ _ _ (by decide) iA.o.r2).mono ?_
  rintro e w' ⟨⟨h,-⟩ | ⟨-,rfl⟩,rfl⟩
  ·exact absurd h (by simp)
  exact⟨rfl,L,aZ.of_below HB1.o,by rw [HE.o];rfl⟩
 obtain rfl:k'=8:=by omega
 have HA:=hid (KX S.heads HT.o)
 have HI:Hid (∀W:World,W.heap[w1.heap.size]?=some (.cells #[.string o_,.string vw,.string Dz] 9 (0,0))→Calls Tryz.prog 110 #[.slice (some ⟨w1.heap.size,0,none⟩) 3 3,.string (fieldAt row 1)] W fun e w'=>e=.returned (.int .i64 (kindOf (fieldAt row 1) - 1))∧W=w'):=hid (by
  intro W hW
  refine (Tryz.slices_Index_string w1.heap.size 0 3 3 Jc (fieldAt row 1) W (by decide) (by decide) ?_).mono ?_
  ·intro j hj
   rw [cell_of_row _ w1.heap.size (0+j) _ 9 (0,0) hW];have hj':j < 3:=hj
   rcases j with _ | _ | _ | j<;>first | rfl | omega
  rintro e w' ⟨rfl,rfl⟩
  exact⟨jN (by rw [←Oo];simp [Jc]),rfl⟩)
 obtain⟨n,hn⟩:∃n,kindOf (fieldAt row 1)=n:=⟨_,rfl⟩
 have hn3:0≤n∧n≤3:=by rw [←hn];unfold kindOf;repeat' split
                      all_goals omega
 have HR:Hid (kL S (fieldAt row 1)=if n=0 then .error 114 else .ok { S.fl with kind:=n }):=hid (by unfold kL;rw [if_neg (by rw [HA.o];simp),hn])
 rw [hn] at HI;have d1:=(HB1.o.cell (block_lt_of_cell? w _ D1.out)).trans D1.out;have c0:=iA.o.r0;have e0:=iA.o.f0;have fz:=iA.o.fz 0;have nrf:¬i.rb=i.fb:=iA.o.rf
 have nfr:¬i.fb=i.rb:=fun h=>nrf h.symm
 have nf:¬i.fb=w1.heap.size:=by have:=(iA.o.hl _ iA.o.oh).2;omega
 have nf2:¬w1.heap.size=i.fb:=fun h=>nf h.symm
 have nr:¬i.rb=w1.heap.size:=by have:=(iA.o.hl _ iA.o.vN).2;omega
 have nr2:¬w1.heap.size=i.rb:=fun h=>nr h.symm
 have hfl:=(iA.o.hl _ iA.o.oh).2;have hrl:=(iA.o.hl _ iA.o.vN).2;have hgl:g < w1.heap.size:=block_lt_of_cell? w1 _ d1
 have ng:¬g=w1.heap.size:=by omega
 have ng2:¬w1.heap.size=g:=by omega
 have HF:=hid (iA.o.qJ (F':={ S.fl with kind:=n }) 0 (.int .i64 n) (by rfl) rfl rfl rfl rfl)
 have Fj:=hid (HF.o.below ((Below.refl _ _).alloc (Nat.le_refl _) (.cells #[.string o_,.string vw,.string Dz] 9)).drew)
 have HG:=hid (show aZ L w L (((w1.setCell ⟨i.fb,0,none⟩ (.int .i64 n)).alloc (.cells #[.string o_,.string vw,.string Dz] 9)).drew) from ((aZ.of_below HB1.o).trans ⟨bC iA.o.oh,fun x hx=>.inl hx⟩).trans (aZ.of_below ((Below.refl _ _).alloc (Nat.le_refl _) (.cells #[.string o_,.string vw,.string Dz] 9)).drew))
 have hwr:IntKind.i64.wrap n=n:=by rw [IntKind.wrap_i64];omega
 clear hn
 go_wp2_with fail
 go_region_with (go_at_call 110;refine (HI.o _ (by first | exact heap_alloc_new w1 _ | exact heap_alloc_new w1.drew _)).mono ?_;rintro e w2 ⟨rfl,rfl⟩)
 all_goals
  have WB:=Fj.o.r0;have adi:=Fj.o.f0
  rcases Int.lt_or_le 0 n with h0 | h0
  ·have HR2:Hid (kL S (fieldAt row 1)=.ok { S.fl with kind:=n }):=hid (by rw [HR.o,if_neg (by omega)])
   go_wp2_with fail
   refine (aY i.rb S.line _ _ _ (by decide) Fj.o.r2).mono ?_
   rintro e w' ⟨⟨-,rfl⟩ | ⟨h,-⟩,rfl⟩
   ·go_wp2_with fail
    go_end0
    rw [HR2.o]
    exact⟨L,HG.o,rfl,HB.o.mono.same _ rfl rfl rfl rfl ⟨by show 1≤n;omega,hn3.2⟩ HB.o.sp,v,Fj.o⟩
   exact absurd h (by simp)
  have HR2:Hid (kL S (fieldAt row 1)=.error 114):=hid (by rw [HR.o,if_pos (by omega)])
  go_wp2_with fail
  refine (aY i.rb S.line _ _ _ (by decide) Fj.o.r2).mono ?_
  rintro e w' ⟨⟨h,-⟩ | ⟨-,rfl⟩,rfl⟩
  ·exact absurd h (by simp;omega)
  rw [HR2.o]
  exact⟨rfl,L,HG.o,rfl⟩
def EY:List ByteArray:=[vJ,lZ,vK,vL,pW]
theorem Oq (n:Nat) (hn:n < 5):Lib.idxOfS EY (h_ (3+n))=(n:Int):=by
 have:∀n,n < 5→Lib.idxOfS EY (h_ (3+n))=(n:Int):=by
  intro n hn
  rcases n with _ | _ | _ | _ | _ | n<;>first | rfl | omega
 exact this n hn
theorem QL (i:Ids) (v:Vs) (F:Fl) (n:Nat) (hn:n < 5):(pq i v F)[3+n]?=some (.int .u16 (dX F n)):=by
 rcases n with _ | _ | _ | _ | _ | n<;>first | rfl | omega
theorem H6 (i:Ids) (v:Vs) (F:Fl) (n:Nat) (hn:n < 5) (f:Int):(pq i v F).setIfInBounds (3+n) (.int .u16 f)=pq i v (eG F n f):=by
 rcases n with _ | _ | _ | _ | _ | n<;>first | rfl | omega
theorem bD (F:Fl) (n:Nat) (f:Int):(eG F n f).au=F.au∧(eG F n f).aI=F.aI∧(eG F n f).cls=F.cls∧(eG F n f).rls=F.rls∧(eG F n f).kind=F.kind:=by
 unfold eG;split<;>simp
theorem mV (F:Fl) (n:Nat) (hn:n < 5) (f:Int) (m:Nat):dX (eG F n f) m=if m=n then f else dX F m:=by
 rcases n with _ | _ | _ | _ | _ | n<;>try omega
 all_goals (rcases m with _ | _ | _ | _ | _ | m<;>simp [eG,dX])
theorem gP (F:Fl) (t:Int):aM F t=true↔(∃n,n < 5∧dX F n=t)∨(iF F t).isSome=true:=by
 unfold aM
 simp only [Bool.or_eq_true,beq_iff_eq]
 constructor
 ·rintro (((((h | h) | h) | h) | h) | h)
  ·exact .inl ⟨0,by decide,h⟩
  ·exact .inl ⟨1,by decide,h⟩
  ·exact .inl ⟨2,by decide,h⟩
  ·exact .inl ⟨3,by decide,h⟩
  ·exact .inl ⟨4,by decide,h⟩
  exact .inr h
 rintro (⟨n,hn,h⟩ | h)
 ·rcases n with _ | _ | _ | _ | _ | n
  ·exact .inl (.inl (.inl (.inl (.inl h))))
  ·exact .inl (.inl (.inl (.inl (.inr h))))
  ·exact .inl (.inl (.inl (.inr h)))
  ·exact .inl (.inl (.inr h))
  ·exact .inl (.inr h)
  omega
 exact .inr h
theorem Ot (F:Fl) (n:Nat) (hn:n < 5) (f:Int) (hf:f≠0) (h0:dX F n=0):(fun t=>if t=f then 1 else cB F t)=cB (eG F n f):=by
 funext t
 have hc:iF (eG F n f) t=iF F t:=by unfold iF;rw [(bD F n f).2.2.1]
 by_cases ht:t=f
 ·subst ht
  rw [if_pos rfl,cB,if_neg hf,if_pos ((gP _ _).2 (.inl ⟨n,hn,by rw [mV F n hn,if_pos rfl]⟩))]
 rw [if_neg ht];unfold cB
 by_cases h00:t=0
 ·rw [if_pos h00,if_pos h00]
 rw [if_neg h00,if_neg h00]
 have:aM (eG F n f) t=aM F t:=by
  rw [Bool.eq_iff_iff,gP,gP,hc]
  constructor
  ·rintro (⟨m,hm,h⟩ | h)
   ·rw [mV F n hn] at h
    split at h
    ·exact absurd h.symm ht
    exact .inl ⟨m,hm,h⟩
   exact .inr h
  rintro (⟨m,hm,h⟩ | h)
  ·refine .inl ⟨m,hm,?_⟩
   rw [mV F n hn,if_neg]
   ·exact h
   rintro rfl;exact h00 (h.symm.trans h0)
  exact .inr h
 rw [this]
theorem WU (F:Fl) (n:Nat) (hn:n < 5) (f:Int) (hf:f≠0) (h0:dX F n=0):CQ (eG F n f)=CQ F+1:=by
 rcases n with _ | _ | _ | _ | _ | n<;>try omega
 all_goals
  simp only [dX] at h0;simp [CQ,eG,Rv,h0,hf]
  try omega
theorem lJ (w0:World) (L:List Nat) (i:Ids) (E:Int) (kh k:Nat) (S:Sx) (fv:Value) (row:List ByteArray) (n:Nat) (w:World) (h:RM w0 w L i E kh (k+1) S) (hr:b_ w0 fv row) (hl:row.length=2) (hn:n < 5) (hk:fieldAt row 0=h_ (3+n)) (h0:dX S.fl n=0) :
  Calls Tryz.prog 78 #[.pointer (some ⟨i.rb,0,none⟩),fv] w (pF w0 L i E kh k (jw S.line S (gX S.fl n (fieldAt row 1))) w):=by
 have hsz:=aL hr.each 1
 have Jd:=hid (EL w0 L i E kh (k+1) S (fieldAt row 1) w h (by omega))
 obtain⟨g,o,c,rfl,hc,hcells⟩:=hr.cells (by omega)
 have d0:=hcells 0 (by omega)
 rw [Nat.add_zero] at d0
 have d1:=aD (hcells 1 (by omega)) h.base
 obtain⟨hbd,v,hm⟩:=h;have HM:=hid hm;have HB:=hid hbd;rw [hl] at hc ⊢;rw [hk] at d0;have D0:=hid d0;clear hcells hm hbd hr hk d0;unfold gX
 have hfr:∀f,gq S.fl (fieldAt row 1)=.ok f→f≠0∧0≤f∧f≤65535∧aM S.fl f=false:=fun f hf=>by
  unfold gq at hf
  have b:=BH S.fl.kind (fieldAt row 1).data.toList;have z:=yP S.fl.kind (fieldAt row 1).data.toList
  split at hf
  ·cases hf
  rename_i h2
  split at hf
  ·cases hf
  rename_i h3
  injection hf with hf
  subst hf
  exact⟨z (by simpa using h2),b.1,b.2,by simpa using h3⟩
 cases hq:gq S.fl (fieldAt row 1) with
 | error e =>
  rw [hq] at Jd
  clear hfr hq
  go_enter Tryz.func78,Tryz.ntmps78
  go_wp2_with fail
  refine Jd.o.mono ?_
  rintro e' w' ⟨hb,rfl⟩
  exact⟨rfl,L,aZ.of_below hb,rfl⟩
 | ok f =>
  rw [hq] at Jd
  obtain⟨f0,f1,f2,f3⟩:=hfr f hq
  have HT0:Hid (cB S.fl f=0):=hid (by unfold cB;rw [if_neg f0,f3];rfl)
  have HTK:=hid (Ot S.fl n hn f f0 h0);have HNZ:=hid (WU S.fl n hn f f0 h0);clear hfr hq f3 h0
  go_enter Tryz.func78,Tryz.ntmps78
  go_wp2_with fail
  refine Jd.o.mono ?_
  rintro e' w1 ⟨hb,rfl⟩
  have HB1:=hid hb;have iA:=hid (HM.o.below hb);clear hb;have c5:=iA.o.r5;have hlk:=iA.o.taken.look f ⟨f1,f2⟩;rw [HT0.o] at hlk
  obtain⟨w2,hst,hcn,hkp⟩:=iA.o.taken.store f ⟨f1,f2⟩ 1 (by decide) (by have:=HB.o.cls;unfold CQ Rv;(repeat' split)<;>omega)
  have vC:=hid (iA.o.EJ hkp hcn)
  have Sv:=hid (show aZ L w L w2 from (aZ.of_below HB1.o).trans ⟨hkp.mono (by intro x hx;simp at hx;subst hx;exact iA.o.Fy),fun x hx=>.inl hx⟩)
  clear hcn hkp
  go_wp2_with fail
  have HI:Hid (∀W:World,W.heap[w2.heap.size]?=some (.cells #[.string vJ,.string lZ,.string vK,.string vL,.string pW] 9 (0,0))→Calls Tryz.prog 110 #[.slice (some ⟨w2.heap.size,0,none⟩) 5 5,.string (h_ (3+n))] W fun e w'=>e=.returned (.int .i64 (n:Int))∧W=w'):=hid (by
   intro W hW
   refine (Tryz.slices_Index_string w2.heap.size 0 5 5 EY (h_ (3+n)) W (by decide) (by decide) ?_).mono ?_
   ·intro j hj
    rw [cell_of_row _ w2.heap.size (0+j) _ 9 (0,0) hW];have hj':j < 5:=hj
    rcases j with _ | _ | _ | _ | _ | j<;>first | rfl | omega
   rintro e w' ⟨rfl,rfl⟩
   exact⟨jN (by rw [show EY.take 5=EY from rfl,Oq n hn]),rfl⟩)
  have d0:=(vC.o.base.cell (block_lt_of_cell? w0 _ D0.out)).trans D0.out;have c0:=vC.o.r0
  have en:w2.cell? ⟨i.fb,3+n,none⟩=some (.int .u16 (dX S.fl n)):=by rw [cell_of_heap vC.o.file];exact QL i v S.fl n hn
  have fz:=vC.o.fz (3+n);have hfl:=(vC.o.hl _ vC.o.oh).2;have hrl:=(vC.o.hl _ vC.o.vN).2;have hgl:g < w2.heap.size:=block_lt_of_cell? w2 _ d0;have HF:=hid (vC.o.qJ (F':=eG S.fl n f) (3+n) (.int .u16 f) (H6 i v S.fl n hn f) (bD _ _ _).1 (bD _ _ _).2.1 (bD _ _ _).2.2.1 (bD _ _ _).2.2.2.1)
  have L8:(n:Int) < 5:=by omega
  go_region_with (go_at_call 110;refine (HI.o _ (by first | exact heap_alloc_new w2 _ | exact heap_alloc_new w2.drew _)).mono ?_;rintro e w3 ⟨rfl,rfl⟩)
  all_goals go_end0
  all_goals
   refine⟨L,Sv.o.trans ⟨?_,fun x hx=>.inl hx⟩,rfl,?_,v,?_⟩
   ·exact ((bC vC.o.oh).alloc _).drew
   ·refine HB.o.mono.same _ (bD _ _ _).1 (bD _ _ _).2.1 (bD _ _ _).2.2.1 (bD _ _ _).2.2.2.1 (by rw [(bD _ _ _).2.2.2.2];exact HB.o.kind) (fun m=>?_)
    rw [mV _ _ hn]
    split
    ·exact⟨f1,f2⟩
    exact HB.o.sp m
   have hz:=HF.o.below (((Below.refl _ _).alloc (Nat.le_refl _) (.cells #[.string vJ,.string lZ,.string vK,.string vL,.string pW] 9)).drew);obtain⟨e1,e2,e3,e4,e5⟩:=bD S.fl n f
   show bR w0 _ L i v E _ ((eG S.fl n f).rls.map (·.line)) (cB (eG S.fl n f)) (CQ (eG S.fl n f)+(eG S.fl n f).cls.length) (eH (eG S.fl n f).cls) (eG S.fl n f).cls.length
   rw [e3,e4,←HTK.o,HNZ.o,Nat.add_right_comm]
   exact hz
theorem yV:∀(l:List Int) (lo hi:Int),l.Pairwise (· < ·)→(∀x∈l,lo≤x∧x≤hi)→(l.length:Int)≤hi - lo+1∨l=[]
 | [],_,_,_,_=>.inr rfl
 | [a],lo,hi,_,h=>.inl (by have:=h a (by simp);show (1:Int)≤_;omega)
 | a::b::l,lo,hi,hs,h=>by
   rw [List.pairwise_cons] at hs
   have ha:=h a (by simp)
   rcases yV (b::l) (a+1) hi hs.2 (fun x hx=>⟨by have:=hs.1 x hx;omega,(h x (List.mem_cons_of_mem _ hx)).2⟩) with h1 | h1
   ·left
    rw [List.length_cons]
    omega
   ·cases h1
theorem fZ {a:List Int} (h:canon a=a) (hb:∀x∈a,0≤x∧x≤65535):a.length≤65536:=by
 rcases yV a 0 65535 (by rw [←h];exact jk a) hb with h1 | h1
 ·omega
 rw [h1];exact Nat.zero_le _
theorem Bd.wI {kh k:Nat} {S:Sx} (h:Bd kh (k+1) S) (c:Cl) (hc:0 < c.flag∧c.flag≤65535):Bd kh k { S with fl:={ S.fl with cls:=S.fl.cls++[c] } } :=
 ⟨h.row,h.heads,h.vM,by have:=h.au;show S.fl.au.length+S.rows.length+k≤65536;omega,by have:=h.aI;show S.fl.aI.length+S.rows.length+k≤65536;omega,
  by have:=h.cls;show (S.fl.cls++[c]).length+S.rows.length+k≤65536;rw [List.length_append];show S.fl.cls.length+1+S.rows.length+k≤65536;omega,by have:=h.rls;show S.fl.rls.length+S.rows.length+k≤65536;omega,
  fun b hb=>by
   rcases List.mem_append.1 hb with hb | hb
   ·exact h.flags b hb
   ·simp at hb;subst hb;exact hc,h.sets,h.nexts,h.kind,h.sp,h.line⟩
theorem Bd.Ir {kh k:Nat} {S:Sx} (h:Bd (kh+1) (k+1) S) (r:Rl) (hr:canon r.next=r.next∧∀x∈r.next,0≤x∧x≤65535):Bd kh k { S with fl:={ S.fl with rls:=S.fl.rls++[r] } } :=
 ⟨h.row,by have:=h.heads;show S.heads.length+S.rows.length+kh≤65536;omega,h.vM,by have:=h.au;show S.fl.au.length+S.rows.length+k≤65536;omega,by have:=h.aI;show S.fl.aI.length+S.rows.length+k≤65536;omega,
  by have:=h.cls;show S.fl.cls.length+S.rows.length+k≤65536;omega,by have:=h.rls;show (S.fl.rls++[r]).length+S.rows.length+k≤65536;rw [List.length_append];show S.fl.rls.length+1+S.rows.length+k≤65536;omega,h.flags,h.sets,
  fun b hb=>by
   rcases List.mem_append.1 hb with hb | hb
   ·exact h.nexts b hb
   ·simp at hb;subst hb;exact hr,h.kind,h.sp,h.line⟩
theorem yj {F:Fl} {f:Int} (h:aM F f=false):iF F f=none:=by
 rcases hq:iF F f with _ | c
 ·rfl
 unfold aM at h;rw [hq] at h;simp at h
theorem zK (F:Fl) (c:Cl) (t:Int):aM { F with cls:=F.cls++[c] } t=(aM F t||c.flag==t):=by
 unfold aM iF
 show (F.s0==t||F.s1==t||F.s2==t||F.s3==t||F.s4==t||((F.cls++[c]).find? (fun c=>c.flag==t)).isSome)=_
 rw [List.find?_append]
 rcases hq:F.cls.find? (fun c=>c.flag==t) with _ | d
 ·rcases hc:c.flag==t<;>simp [List.find?,hc]
 simp [hq]
theorem Ou (F:Fl) (c:Cl) (hf:c.flag≠0):(fun t=>if t=c.flag then 1 else cB F t)=cB { F with cls:=F.cls++[c] }:=by
 funext t
 unfold cB;rw [zK]
 by_cases ht:t=c.flag
 ·subst ht
  rw [if_pos rfl,if_neg hf];simp
 have:(c.flag==t)=false:=by rw [beq_eq_false_iff_ne];exact Ne.symm ht
 rw [if_neg ht,this,Bool.or_false]
theorem H7 (cls:List Cl) (c:Cl) (h:eH cls c.flag=none):(fun t=>if t=c.flag then some cls.length else eH cls t)=eH (cls++[c]):=by
 funext t
 unfold eH at h ⊢
 rw [List.findIdx?_append]
 by_cases ht:t=c.flag
 ·subst ht
  rw [if_pos rfl,h];simp [List.findIdx?_cons]
 have:(c.flag==t)=false:=by rw [beq_eq_false_iff_ne];exact Ne.symm ht
 rw [if_neg ht]
 rcases hq:cls.findIdx? (fun c=>c.flag==t) with _ | d
 ·simp [List.findIdx?_cons,this]
 simp [hq]
theorem H8 {F:Fl} {f:Int} (h:iF F f=none):eH F.cls f=none:=by
 unfold eH
 rw [List.findIdx?_eq_none_iff]
 unfold iF at h
 rw [List.find?_eq_none] at h
 intro x hx
 simpa using h x hx
theorem qB (F:Fl) (s:ByteArray) (hs:∀a∈F.aI,∀x∈a,0≤x∧x≤65535):∀x∈(aQ F s).1,0≤x∧x≤65535:=by
 unfold aQ
 split
 ·exact xH _ _
 split
 ·intro x hx;simp at hx
 intro x hx
 rw [List.getD] at hx
 rcases hj:F.aI[(aJ s.data.toList F.aI.length - 1).toNat]? with _ | a
 ·rw [hj] at hx;simp at hx
 rw [hj] at hx;exact hs a (List.mem_of_getElem? hj) x hx
theorem kP (F:Fl) (s:ByteArray) (hs:∀a∈F.aI,canon a=a):canon (aQ F s).1=(aQ F s).1:=by
 unfold aQ
 split
 ·exact o9 _ _
 split
 ·exact iP
 show canon (F.aI.getD _ [])=F.aI.getD _ []
 rw [List.getD]
 rcases hj:F.aI[(aJ s.data.toList F.aI.length - 1).toNat]? with _ | a
 ·exact iP
 exact hs a (List.mem_of_getElem? hj)
theorem xI {F:Fl} {c:Cl} {line:Int} {row:List ByteArray} {r:Rl} (h:bK F c line row=.ok r) (hs:∀a∈F.aI,canon a=a∧∀x∈a,0≤x∧x≤65535):(canon r.next=r.next∧∀x∈r.next,0≤x∧x≤65535)∧r.line=line:=by
 unfold bK at h
 split at h
 ·cases h
 split at h
 ·cases h
 split at h
 split at h
 ·cases h
 split at h
 ·cases h
 split at h
 ·cases h
 rename_i hn
 split at h
 ·cases h
 cases h
 refine⟨?_,rfl⟩
 show canon _=_∧∀x∈_,_
 unfold nextR at hn
 split at hn
 ·split at hn
  ·cases hn
  split at hn
  ·cases hn
  cases hn;exact⟨kP F _ (fun a ha=>(hs a ha).1),qB F _ (fun a ha=>(hs a ha).2)⟩
 cases hn;exact⟨iP,fun x hx=>by simp at hx⟩
theorem bR.WV {w0 w:World} {L:List Nat} {i:Ids} {v:Vs} {E:Int} {S:Sx} {nx:List Int} {tf:Int→Int} {tn cn:Nat} {cf:Int→Option Nat} (h:bR w0 w L i v E S nx tf tn cf cn) (hs:∀a∈S.fl.aI,canon a=a∧∀x∈a,0≤x∧x≤65535) :
  ∃us,xW w i.fb S.fl.kind v.aI us S.fl.aI:=by
 obtain⟨us,h1,h2,h3⟩:=h.aI
 exact⟨us,h.f0,h.f10,Rd.aN h1.1,fun k u a hu ha=>(h3 k u a hu ha).fs,fun a ha=>⟨(hs a ha).1,fZ (hs a ha).1 (hs a ha).2⟩⟩
def RG (f k:Int) (cr:Bool) (fi n:Int):Array Value:=#[.int .u16 f,.int .i64 k,.bool cr,.int .i64 fi,.int .i64 n]
structure mH (w W:World) (b:Nat) (f k:Int) (cr:Bool) (fi n:Int):Prop where
 below:Below w.heap.size w W
 new:w.heap.size≤b
 box:W.heap[b]?=some (.cells (RG f k cr fi n) 99 (0,0))
section
variable {w W W':World} {b:Nat} {f k:Int} {cr:Bool} {fi n:Int}
theorem mH.later (h:mH w W b f k cr fi n) (hb:Below W.heap.size W W'):mH w W' b f k cr fi n :=
 ⟨h.below.trans (hb.mono h.below.size),h.new,(hb.block _ (block_lt h.box)).trans h.box⟩
theorem mH.c0 (h:mH w W b f k cr fi n):W.cell? ⟨b,0,none⟩=some (.int .u16 f):=by rw [cell_of_heap h.box];rfl
theorem mH.c1 (h:mH w W b f k cr fi n):W.cell? ⟨b,1,none⟩=some (.int .i64 k):=by rw [cell_of_heap h.box];rfl
theorem mH.c2 (h:mH w W b f k cr fi n):W.cell? ⟨b,2,none⟩=some (.bool cr):=by rw [cell_of_heap h.box];rfl
theorem mH.c3 (h:mH w W b f k cr fi n):W.cell? ⟨b,3,none⟩=some (.int .i64 fi):=by rw [cell_of_heap h.box];rfl
theorem mH.c4 (h:mH w W b f k cr fi n):W.cell? ⟨b,4,none⟩=some (.int .i64 n):=by rw [cell_of_heap h.box];rfl
theorem mH.fz (h:mH w W b f k cr fi n) (j:Nat):W.frozen? ⟨b,j,none⟩=false:=frozen_of_heap h.box j
theorem mH.setKind (h:mH w W b f k cr fi n) (k':Int):mH w (W.setCell ⟨b,1,none⟩ (.int .i64 k')) b f k' cr fi n :=
 ⟨h.below.setCell h.new _,h.new,heap_setCell_same _ _ _ _ _ _ h.box⟩
theorem mH.Ov (h:mH w W b f k cr fi n) (c':Bool):mH w (W.setCell ⟨b,2,none⟩ (.bool c')) b f k c' fi n :=
 ⟨h.below.setCell h.new _,h.new,heap_setCell_same _ _ _ _ _ _ h.box⟩
theorem mH.EZ (h:mH w W b f k cr fi n) (n':Int):mH w (W.setCell ⟨b,4,none⟩ (.int .i64 n')) b f k cr fi n' :=
 ⟨h.below.setCell h.new _,h.new,heap_setCell_same _ _ _ _ _ _ h.box⟩
theorem mH.fill (h:mH w W b f k cr fi n) (f' k':Int) (c':Bool) (Z0 n':Int):mH w (((((W.setCell ⟨b,0,none⟩ (.int .u16 f')).setCell ⟨b,1,none⟩ (.int .i64 k')).setCell ⟨b,2,none⟩ (.bool c')).setCell ⟨b,3,none⟩ (.int .i64 Z0)).setCell ⟨b,4,none⟩ (.int .i64 n')) b f' k' c' Z0 n':=by
 refine⟨((((h.below.setCell h.new _).setCell h.new _).setCell h.new _).setCell h.new _).setCell h.new _,h.new,?_⟩
 have h1:=heap_setCell_same W b 0 _ 99 (.int .u16 f') h.box;have h2:=heap_setCell_same _ b 1 _ 99 (.int .i64 k') h1;have h3:=heap_setCell_same _ b 2 _ 99 (.bool c') h2;have h4:=heap_setCell_same _ b 3 _ 99 (.int .i64 Z0) h3
 exact heap_setCell_same _ b 4 _ 99 (.int .i64 n') h4
theorem mH.Ow (hb:Below w.heap.size w W):mH w (W.alloc (.cells (RG f k cr fi n) 99)) W.heap.size f k cr fi n :=
 ⟨hb.alloc hb.size _,hb.size,heap_alloc_new W _⟩
end
def Je (W:World) (L:List Nat) (b:Nat) (c:Cl):Prop:=b∉L∧W.heap[b]?=some (.cells #[.int .u16 c.flag,.int .i64 c.kind,.bool c.cross,.int .i64 c.first,.int .i64 c.count] 99 (0,0))
theorem Je.go {W W':World} {L L':List Nat} {b:Nat} {c:Cl} (h:Je W L b c) (hg:aZ L W L' W'):Je W' L' b c :=
 ⟨fun hm=>by
  rcases hg.2 b hm with h1 | h1
  ·exact h.1 h1
  ·have:=block_lt h.2;omega,hg.1.at h.2 h.1⟩
theorem Je.cells {W:World} {L:List Nat} {b:Nat} {c:Cl} (h:Je W L b c):W.cell? ⟨b,0,none⟩=some (.int .u16 c.flag)∧W.cell? ⟨b,1,none⟩=some (.int .i64 c.kind)∧W.cell? ⟨b,2,none⟩=some (.bool c.cross)∧W.cell? ⟨b,3,none⟩=some (.int .i64 c.first)∧W.cell? ⟨b,4,none⟩=some (.int .i64 c.count):=by
 refine⟨?_,?_,?_,?_,?_⟩<;>(rw [cell_of_heap h.2];rfl)
theorem mH.cb {w W:World} {L:List Nat} {b:Nat} {f k:Int} {cr:Bool} {fi n:Int} (h:mH w W b f k cr fi n) (hL:∀x∈L,x < w.heap.size):Je W L b ⟨f,k,cr,fi,n⟩ :=
 ⟨fun hm=>by have:=hL b hm;have:=h.new;omega,h.box⟩
theorem Je.grown {W W1:World} {L:List Nat} {b:Nat} {c:Cl} {r:Option Nat} (h:Je W L b c) (hg:W.grownBy W1 r) (hr:∀g,r=some g→g∈L):W1.heap[b]?=some (.cells #[.int .u16 c.flag,.int .i64 c.kind,.bool c.cross,.int .i64 c.first,.int .i64 c.count] 99 (0,0)) :=
 (hg.block b (block_lt h.2) (fun e=>h.1 (hr b e.symm))).trans h.2
theorem qg {W:World} {b:Nat} {c:Cl} (h:W.heap[b]?=some (.cells #[.int .u16 c.flag,.int .i64 c.kind,.bool c.cross,.int .i64 c.first,.int .i64 c.count] 99 (0,0))):W.cell? ⟨b,0,none⟩=some (.int .u16 c.flag)∧W.cell? ⟨b,1,none⟩=some (.int .i64 c.kind)∧W.cell? ⟨b,2,none⟩=some (.bool c.cross)∧W.cell? ⟨b,3,none⟩=some (.int .i64 c.first)∧W.cell? ⟨b,4,none⟩=some (.int .i64 c.count):=by
 refine⟨?_,?_,?_,?_,?_⟩<;>(rw [cell_of_heap h];rfl)
theorem RM.Ox {w0 w:World} {L:List Nat} {i:Ids} {v:Vs} {E:Int} {kh k:Nat} {S:Sx} {c:Cl} (hb:Bd kh (k+1) S) (hf:0 < c.flag∧c.flag≤65535) (hd:aM S.fl c.flag=false)
  (h:bR w0 w L i v E { S with fl:={ S.fl with cls:=S.fl.cls++[c] } } (S.fl.rls.map (·.line)) (fun t=>if t=c.flag then 1 else cB S.fl t) (CQ S.fl+S.fl.cls.length+1) (fun t=>if t=c.flag then some S.fl.cls.length else eH S.fl.cls t) (S.fl.cls.length+1)) :
  RM w0 w L i E kh k { S with fl:={ S.fl with cls:=S.fl.cls++[c] } }:=by
 refine⟨hb.wI c hf,v,?_⟩
 have e1:=Ou S.fl c (by omega)
 have e2:=H7 S.fl.cls c (H8 (yj hd))
 show bR w0 w L i v E _ (S.fl.rls.map (·.line)) (cB { S.fl with cls:=S.fl.cls++[c] }) (CQ S.fl+(S.fl.cls++[c]).length) (eH (S.fl.cls++[c])) (S.fl.cls++[c]).length
 rw [←e1,←e2,List.length_append]
 exact h
theorem RM.Oy {w0 w:World} {L:List Nat} {i:Ids} {v:Vs} {E:Int} {kh k:Nat} {S:Sx} {r:Rl} {nx:List Int} (hb:Bd (kh+1) (k+1) S) (hr:(canon r.next=r.next∧∀x∈r.next,0≤x∧x≤65535)∧r.line=S.line) (hn:S.fl.rls.map (·.line)=nx)
  (h:bR w0 w L i v E { S with fl:={ S.fl with rls:=S.fl.rls++[r] } } (nx++[S.line]) (cB S.fl) (CQ S.fl+S.fl.cls.length) (eH S.fl.cls) S.fl.cls.length):RM w0 w L i E kh k { S with fl:={ S.fl with rls:=S.fl.rls++[r] } }:=by
 refine⟨hb.Ir r hr.1,v,?_⟩
 show bR w0 w L i v E _ ((S.fl.rls++[r]).map (·.line)) (cB S.fl) (CQ S.fl+S.fl.cls.length) (eH S.fl.cls) S.fl.cls.length
 rw [List.map_append,hn,List.map_singleton,hr.2]
 exact h
theorem vD:(Tryz.prog.info? 99).map (fun i=>(i.zero,i.size,i.bytes))=some (some (.agg #[.int .u16 0,.int .i64 0,.bool false,.int .i64 0,.int .i64 0]),5,40):=by kernel_rfl
theorem Ay:(Tryz.prog.info? 31).map (fun i=>(i.zero,i.size,i.bytes))=some (some (.agg #[.int .i64 0,.int .u16 0,.bool false,.string ByteArray.empty,.string ByteArray.empty,.string ByteArray.empty,.slice none 0 0]),7,88):=by kernel_rfl
theorem KZ:(Tryz.prog.info? 3).map (fun i=>(i.zero,i.size,i.bytes))=some (some (.int .i64 0),1,8):=by kernel_rfl
structure J3 (w:World) (fb:Nat) (cls:List Cl):Prop where
 map:∃mb n,w.cell? ⟨fb,13,none⟩=some (.map (some mb))∧xP w mb n (eH cls)
 row:∃cv,w.cell? ⟨fb,11,none⟩=some cv∧Rd w 5 cv cls.length (bG cls)
theorem xP.below {w w':World} {b n:Nat} {f:Int→Option Nat} (h:xP w b n f) (hb:Below w.heap.size w w'):xP w' b n f:=h.keep (E:=[]) (Kept.of_below hb) (by simp)
theorem J3.later {w w':World} {fb:Nat} {cls:List Cl} (h:J3 w fb cls) (hb:Below w.heap.size w w'):J3 w' fb cls:=by
 obtain⟨mb,n,h1,h2⟩:=h.map
 obtain⟨cv,h3,h4⟩:=h.row
 exact⟨⟨mb,n,(hb.cell (block_lt_of_cell? _ _ h1)).trans h1,h2.below hb⟩,⟨cv,(hb.cell (block_lt_of_cell? _ _ h3)).trans h3,h4.keep hb⟩⟩
theorem bR.Pb {w0 w:World} {L:List Nat} {i:Ids} {v:Vs} {E:Int} {S:Sx} {nx:List Int} {tf:Int→Int} {tn cn:Nat} (h:bR w0 w L i v E S nx tf tn (eH S.fl.cls) cn):J3 w i.fb S.fl.cls :=
 ⟨⟨i.mb,cn,h.f13,h.qN⟩,⟨v.cls,h.f11,Rd.aN h.cls.1⟩⟩
theorem Jf:∀(cls:List Cl) (f:Int),cls.find? (fun c=>c.flag==f)=match eH cls f with | some k=>cls[k]? | none=>none
 | [],f=>rfl
 | c::cls,f=>by
   have ih:=Jf cls f
   unfold eH at ih ⊢
   rw [List.find?_cons,List.findIdx?_cons]
   rcases hc:c.flag==f
   ·simp only [Bool.false_eq_true,if_false]
    rw [ih]
    rcases hq:List.findIdx? (fun c=>c.flag==f) cls with _ | k<;>simp [hq]
   ·rfl
theorem Oz {cls:List Cl} {f:Int} {k:Nat} (h:eH cls f=some k):k < cls.length:=by
 unfold eH at h
 rw [List.findIdx?_eq_some_iff_getElem] at h
 exact h.1
theorem OA:∀(cs:List Cl) (k:Nat) (hk:k < cs.length),(bG cs)[k*5]?=some (.int .u16 cs[k].flag)∧(bG cs)[k*5+1]?=some (.int .i64 cs[k].kind)∧(bG cs)[k*5+2]?=some (.bool cs[k].cross)∧(bG cs)[k*5+3]?=some (.int .i64 cs[k].first)∧(bG cs)[k*5+4]?=some (.int .i64 cs[k].count)
 | [],_,hk=>absurd hk (Nat.not_lt_zero _)
 | c::r,0,_=>⟨rfl,rfl,rfl,rfl,rfl⟩
 | c::r,k+1,hk=>by
   have:=OA r k (by simpa using hk)
   have e:bG (c::r)=[.int .u16 c.flag,.int .i64 c.kind,.bool c.cross,.int .i64 c.first,.int .i64 c.count]++bG r:=by simp [bG]
   have key:∀j,(bG (c::r))[(k+1)*5+j]?=(bG r)[k*5+j]?:=fun j=>by
    rw [e,List.getElem?_append_right (by simp;omega)]
    congr 1
    simp;omega
   refine⟨(key 0).trans this.1,(key 1).trans this.2.1,(key 2).trans this.2.2.1,(key 3).trans this.2.2.2.1,(key 4).trans this.2.2.2.2⟩
def MX (c:Cl):Value:=.agg #[.int .u16 c.flag,.int .i64 c.kind,.bool c.cross,.int .i64 c.first,.int .i64 c.count]
def MV (o:Option Cl):Value:=.tuple #[MX (o.getD xq),.bool o.isSome]
theorem xX (fb:Nat) (cls:List Cl) (x:Int) (w:World) (h:J3 w fb cls) (hx:0≤x∧x≤65535) (hn:cls.length≤65536) :
  Calls Tryz.prog 38 #[.pointer (some ⟨fb,0,none⟩),.int .u16 x] w fun e w'=>e=.returned (MV (cls.find? (fun c=>c.flag==x)))∧Below w.heap.size w w':=by
 obtain⟨mb,n,c13,hp⟩:=h.map
 obtain⟨cv,c11,hrd⟩:=h.row;rw [Jf];obtain⟨-,A,cap,rfl,hcap,hcells⟩:=hrd
 have hlk:∀W,Below w.heap.size w W→(Instr.lookup 114 (.map (some mb)) (.int .u16 x) true).run Tryz.prog W=.ok (.tuple #[.int .i64 (((eH cls x).getD 0:Nat):Int),.bool (eH cls x).isSome]) W:=fun W hW=>(hp.below hW).look x hx
 have hb1:Below w.heap.size w (w.alloc (.cells #[.int .u16 0,.int .i64 0,.bool false,.int .i64 0,.int .i64 0] 99)):=(Below.refl _ _).alloc (Nat.le_refl _) _;have hl:=hlk _ hb1;have e11:=(hb1.cell (block_lt_of_cell? _ _ c11)).trans c11;have e13:=(hb1.cell (block_lt_of_cell? _ _ c13)).trans c13;have HB1:=hid hb1;have HC:=hid hcells;clear hlk hb1 hcells hp h
 rcases hk:eH cls x with _ | k
 ·rw [hk] at hl
  clear hk
  go_enter Tryz.func38,Tryz.ntmps38
  go_wp2_with fail
  refine bodyPost_ret (v:=.tuple #[.agg #[.int .u16 0,.int .i64 0,.bool false,.int .i64 0,.int .i64 0],.bool false]) (by simp [results,Tryz.results38,go_sem];try rfl) rfl ?_
  exact⟨rfl,(Below.refl _ _).alloc (Nat.le_refl _) _⟩
 have hlt:=Oz hk
 have hge:cls[k]?=some cls[k]:=List.getElem?_eq_getElem hlt
 dsimp only;rw [hge];rw [hk] at hl
 obtain⟨g,o,rfl,hc2⟩:=HC.o.resolve_left (by have:=hlt;omega)
 obtain⟨q0,q1,q2,q3,q4⟩:=OA cls k hlt;have d0:=(HB1.o.cell (block_lt_of_cell? _ _ (hc2 _ _ q0))).trans (hc2 _ _ q0);have d1:=(HB1.o.cell (block_lt_of_cell? _ _ (hc2 _ _ q1))).trans (hc2 _ _ q1);rw [←Nat.add_assoc] at d1;have d2:=(HB1.o.cell (block_lt_of_cell? _ _ (hc2 _ _ q2))).trans (hc2 _ _ q2);rw [←Nat.add_assoc] at d2;have d3:=(HB1.o.cell (block_lt_of_cell? _ _ (hc2 _ _ q3))).trans (hc2 _ _ q3);rw [←Nat.add_assoc] at d3;have d4:=(HB1.o.cell (block_lt_of_cell? _ _ (hc2 _ _ q4))).trans (hc2 _ _ q4);rw [←Nat.add_assoc] at d4
 generalize cls[k]=c at *
 clear hk hc2 HC q0 q1 q2 q3 q4 hge
 go_enter Tryz.func38,Tryz.ntmps38
 go_wp2_with fail
 refine bodyPost_ret (v:=.tuple #[.agg #[.int .u16 c.flag,.int .i64 c.kind,.bool c.cross,.int .i64 c.first,.int .i64 c.count],.bool true]) (by simp [results,Tryz.results38,go_sem];try rfl) rfl ?_
 exact⟨rfl,(Below.refl _ _).alloc (Nat.le_refl _) _⟩
theorem Ca:∀(rs:List (Rl×Value)) (k:Nat) (hk:k < rs.length),(aK rs)[k*7]?=some (.int .i64 rs[k].1.kind)∧(aK rs)[k*7+1]?=some (.int .u16 rs[k].1.flag)∧(aK rs)[k*7+2]?=some (.bool rs[k].1.cross)∧(aK rs)[k*7+3]?=some (.string rs[k].1.strip)∧(aK rs)[k*7+4]?=some (.string rs[k].1.add)∧(aK rs)[k*7+5]?=some (.string rs[k].1.cond)∧(aK rs)[k*7+6]?=some rs[k].2
 | [],_,hk=>absurd hk (Nat.not_lt_zero _)
 | c::r,0,_=>⟨rfl,rfl,rfl,rfl,rfl,rfl,rfl⟩
 | c::r,k+1,hk=>by
   have:=Ca r k (by simpa using hk)
   have e:aK (c::r)=[.int .i64 c.1.kind,.int .u16 c.1.flag,.bool c.1.cross,.string c.1.strip,.string c.1.add,.string c.1.cond,c.2]++aK r:=by simp [aK]
   have key:∀j,(aK (c::r))[(k+1)*7+j]?=(aK r)[k*7+j]?:=fun j=>by
    rw [e,List.getElem?_append_right (by simp;omega)]
    congr 1
    simp;omega
   exact⟨(key 0).trans this.1,(key 1).trans this.2.1,(key 2).trans this.2.2.1,(key 3).trans this.2.2.2.1,(key 4).trans this.2.2.2.2.1,(key 5).trans this.2.2.2.2.2.1,(key 6).trans this.2.2.2.2.2.2⟩
theorem bR.QN {w0 w:World} {L:List Nat} {i:Ids} {v:Vs} {E:Int} {S:Sx} {nx:List Int} {tf:Int→Int} {tn cn:Nat} {cf:Int→Option Nat} (h:bR w0 w L i v E S nx tf tn cf cn):Rd w 1 v.nxs nx.length (nx.map (Value.int .i64)):=Rd.aN h.nxs.1
def xS (F:Fl) (k:Nat):Prop:=∀j (h:j < F.rls.length),j < k→F.rls[j].next.all (j4 F)=true
theorem xS.none_ {F:Fl} (h:xS F F.rls.length):l9 F=none:=by
 unfold l9
 rw [Option.map_eq_none_iff,List.find?_eq_none]
 intro r hr
 obtain⟨j,hj,rfl⟩:=List.mem_iff_getElem.1 hr;simp [h j hj hj]
theorem xS.bad {F:Fl} {k:Nat} (h:xS F k) (hk:k < F.rls.length) (hb:F.rls[k].next.all (j4 F)=false):l9 F=some F.rls[k].line:=by
 unfold l9
 have:F.rls.find? (fun r=>!(r.next.all (j4 F)))=some F.rls[k]:=by
  rw [List.find?_eq_some_iff_getElem]
  refine⟨by simp [hb],k,hk,rfl,fun j hj=>?_⟩
  simp [h j (by omega) hj]
 rw [this];rfl
theorem xS.step {F:Fl} {k:Nat} (h:xS F k) (hk:k < F.rls.length) (hb:F.rls[k].next.all (j4 F)=true):xS F (k+1):=by
 intro j hj hjk
 by_cases e:j=k
 ·subst e;exact hb
 exact h j hj (by omega)
theorem bR.f3 {w0 w:World} {L:List Nat} {i:Ids} {v:Vs} {E:Int} {S:Sx} {nx:List Int} {tf:Int→Int} {tn cn:Nat} {cf:Int→Option Nat} (h:bR w0 w L i v E S nx tf tn cf cn):w.cell? ⟨i.fb,3,none⟩=some (.int .u16 S.fl.s0):=by rw [cell_of_heap h.file];rfl
theorem IC (F:Fl) (x:Int) (d:Cl) (is:Bool) (hd:(F.cls.find? (fun c=>c.flag==x)).getD xq=d) (his:(F.cls.find? (fun c=>c.flag==x)).isSome=is):j4 F x=(x==F.s0||(is&&d.kind==2)):=by
 unfold j4 iF
 rcases hq:F.cls.find? (fun c=>c.flag==x) with _ | c
 ·rw [hq] at his hd
  subst his hd
  simp [hq,xq]
 rw [hq] at his hd
 subst his hd
 simp [hq,xq]
def MI (w0:World) (L:List Nat) (i:Ids) (v:Vs) (E:Int) (S:Sx) (w:World) (e:Ending) (w':World):Prop :=
 aZ L w L w'∧match l9 S.fl with
  | some l=>e=.panicked [F5 l 118]
  | none=>e=.returned (.tuple #[])∧∃l,bR w0 w' L i v E { S with line:=l } (S.fl.rls.map (·.line)) (cB S.fl) (CQ S.fl+S.fl.cls.length) (eH S.fl.cls) S.fl.cls.length
theorem MH (w0:World) (L:List Nat) (i:Ids) (v:Vs) (E:Int) (kh k:Nat) (S:Sx) (w:World) (hbd:Bd kh k S) (hm:bR w0 w L i v E S (S.fl.rls.map (·.line)) (cB S.fl) (CQ S.fl+S.fl.cls.length) (eH S.fl.cls) S.fl.cls.length) :
  Calls Tryz.prog 47 #[.pointer (some ⟨i.rb,0,none⟩)] w (MI w0 L i v E S w):=by
 obtain⟨rs,pG,qO,xR⟩:=hm.rls
 obtain⟨AR,Mg,Dy⟩:=aF qO.1
 have hlr:rs.length=S.fl.rls.length:=by rw [←pG];simp
 obtain⟨AN,cpN,X3⟩:=aF hm.nxs.1;rw [List.length_map] at X3;rw [hlr] at Dy;have c0:=hm.r0;have c12:=hm.f12;rw [Dy] at c12
 have Mi:S.fl.cls.length≤65536:=by have h1:=hbd.cls;omega
 obtain⟨n,hn⟩:∃n,S.fl.rls.length=n:=⟨_,rfl⟩
 have hrl3:n≤65536:=by have h1:=hbd.rls;omega
 rw [hn] at c12 Dy X3;have HM:=hid hm;have HB:=hid hbd;have HV:=hid Dy;have HVN:=hid X3;have HN:=hid hn;clear hm hbd Dy pG qO xR hlr X3 hn
 go_enter Tryz.func47,Tryz.ntmps47
 go_wp2_with fail
 go_loopw [2,3,5,6,7,17] (fun _ _ _ _ _ x wr=>∃(m:Nat) (l:Int),m≤n∧x=.int .i64 m∧Hid (bR w0 wr L i v E { S with line:=l } (S.fl.rls.map (·.line)) (cB S.fl) (CQ S.fl+S.fl.cls.length) (eH S.fl.cls) S.fl.cls.length)∧Hid (aZ L w L wr)∧Hid (xS S.fl m)) (fun _ _ _ _ _ x _=>n - (intOf x).toNat)
 case atStart=>exact⟨0,S.line,Nat.zero_le _,rfl,HM,hid (aZ.refl _ _),hid (fun j _ hj=>absurd hj (Nat.not_lt_zero _))⟩
 case round =>
 obtain⟨m,l,hm,rfl,tu,Ai,jr⟩:=hrel
 by_cases hlt:m < n
 ·have hlt2:m < S.fl.rls.length:=by have:=HN.o;omega
  obtain⟨rs,pG,qO,xR⟩:=tu.o.rls
  have hlr:rs.length=S.fl.rls.length:=by have h:=congrArg List.length pG;simpa using h
  have hmr:m < rs.length:=by omega
  have hr1:rs[m].1=S.fl.rls[m]:=by
   have h:rs.map (·.1)=S.fl.rls:=pG
   simp [←h]
  obtain⟨-,A,cap,PS,-,hcells⟩:=Rd.aN qO.1
  have WW:rs.length=n:=by rw [hlr,HN.o]
  rw [HV.o,WW] at PS
  cases PS
  obtain⟨g,o,rfl,hc2⟩:=hcells.resolve_left (by omega)
  obtain⟨q0,q1,q2,q3,q4,q5,q6⟩:=Ca rs m hmr;have d0:=hc2 _ _ q0;have d1:=hc2 _ _ q1;have d2:=hc2 _ _ q2;have d3:=hc2 _ _ q3;have d4:=hc2 _ _ q4;have d5:=hc2 _ _ q5;have d6:=hc2 _ _ q6;rw [←Nat.add_assoc] at d1 d2 d3 d4 d5 d6;have hfo:=xR _ (List.getElem_mem hmr);obtain⟨nv,PU⟩:∃u,rs[m].2=u:=⟨_,rfl⟩;rw [hr1] at d0 d1 d2 d3 d4 d5 hfo;rw [PU] at d6 hfo;clear q0 q1 q2 q3 q4 q5 q6 hc2 hcells PU hr1 hmr hlr WW pG qO xR;obtain⟨-,A,cap,PS,WX,hcells⟩:=tu.o.QN;rw [HVN.o] at PS
  have hln:(S.fl.rls.map (·.line)).length=n:=by rw [List.length_map,HN.o]
  rw [hln] at PS WX hcells
  cases PS
  obtain⟨gN,oN,rfl,hcN⟩:=hcells.resolve_left (by omega)
  have dN:wr.cell? ⟨gN,oN+m,none⟩=some (.int .i64 S.fl.rls[m].line):=hcN m _ (by simp [hlt2])
  obtain⟨r,hr⟩:∃r,S.fl.rls[m]=r:=⟨_,rfl⟩;have HR:Hid (S.fl.rls[m]=r):=hid hr;rw [hr] at d0 d1 d2 d3 d4 d5 hfo dN;clear hr hcN hcells hln;have Sl:=hid hfo;obtain⟨pn,cn,rfl,-⟩:=hfo;have hrb:=(tu.o.hl _ tu.o.vN).2;have Fp:=(tu.o.hl _ tu.o.oh).2;have r2:=tu.o.r2;have r6:=tu.o.r6;rw [HVN.o] at r6;have rz:=tu.o.rz 2;have hb1:Below (wr.setCell ⟨i.rb,2,none⟩ (.int .i64 r.line)).heap.size (wr.setCell ⟨i.rb,2,none⟩ (.int .i64 r.line)) ((wr.setCell ⟨i.rb,2,none⟩ (.int .i64 r.line)).alloc (.cells #[.int .i64 r.kind,.int .u16 r.flag,.bool r.cross,.string r.strip,.string r.add,.string r.cond,.slice pn r.next.length cn] 31)):=(Below.refl _ _).alloc (Nat.le_refl _) _;have iV:=hid ((tu.o.lU r.line).below hb1)
  have hg1:aZ L wr L ((wr.setCell ⟨i.rb,2,none⟩ (.int .i64 r.line)).alloc (.cells #[.int .i64 r.kind,.int .u16 r.flag,.bool r.cross,.string r.strip,.string r.add,.string r.cond,.slice pn r.next.length cn] 31)):=(show aZ L wr L (wr.setCell ⟨i.rb,2,none⟩ (.int .i64 r.line)) from⟨bC tu.o.vN,fun x hx=>.inl hx⟩).trans (aZ.of_below hb1)
  have Xk:=hid (Ai.o.trans hg1);have XK:=hid (Sl.o.keep hg1);clear hb1 hg1;have hgN:gN < wr.heap.size:=block_lt_of_cell? _ _ dN
  have x6:((wr.setCell ⟨i.rb,2,none⟩ (.int .i64 r.line)).alloc (.cells #[.int .i64 r.kind,.int .u16 r.flag,.bool r.cross,.string r.strip,.string r.add,.string r.cond,.slice pn r.next.length cn] 31)).cell? ⟨wr.heap.size,6,none⟩=some (.slice pn r.next.length cn):=by
   have h:=heap_alloc_new (wr.setCell ⟨i.rb,2,none⟩ (.int .i64 r.line)) (.cells #[.int .i64 r.kind,.int .u16 r.flag,.bool r.cross,.string r.strip,.string r.add,.string r.cond,.slice pn r.next.length cn] 31)
   rw [jW] at h;rw [cell_of_heap h];rfl
  have Mh:=hid x6;clear x6
  go_upto_region 3 with fail
  go_cut [] from 18 to 31 (fun W=>Hid (bR w0 W L i v E { S with line:=r.line } (S.fl.rls.map (·.line)) (cB S.fl) (CQ S.fl+S.fl.cls.length) (eH S.fl.cls) S.fl.cls.length)∧Hid (aZ L w L W)∧Hid (FO W L (.slice pn r.next.length cn) r.next)∧W.cell? ⟨wr.heap.size,6,none⟩=some (.slice pn r.next.length cn))
  case first =>
   go_wp2_with fail
   all_goals go_meet
   all_goals exact⟨iV,Xk,XK,Mh.o⟩
  case rest =>
  obtain⟨sW,FY,HF5,x6⟩:=hcut
  have hnb:canon r.next=r.next∧∀x∈r.next,0≤x∧x≤65535:=by rw [←HR.o];exact HB.o.nexts _ (List.getElem_mem hlt2)
  have YO:=hid hnb.2;have hnl:=fZ hnb.1 hnb.2;clear d0 d1 d2 d3 d4 d5 d6 dN r2 r6 rz hrb Fp Sl hgN iV Xk XK Mh hnb
  go_wp2_with fail
  go_loopw [5,6,7,35] (fun _ _ _ x wz=>∃q:Nat,q≤r.next.length∧x=.int .i64 q∧Hid (Below wc.heap.size wc wz)∧Hid ((r.next.take q).all (j4 S.fl)=true)) (fun _ _ _ x _=>r.next.length - (intOf x).toNat)
  case atStart=>exact⟨0,Nat.zero_le _,rfl,hid (Below.refl _ _),hid rfl⟩
  case round =>
  obtain⟨q,hq,rfl,uI,FD⟩:=hrel
  by_cases hlt3:q < r.next.length
  ·obtain⟨x,hx⟩:∃x,r.next[q]=x:=⟨_,rfl⟩
   have hxb:=YO.o _ (List.getElem_mem hlt3);rw [hx] at hxb;obtain⟨p',c',hv',-,hcs⟩:=HF5.o.fs
   cases hv'
   obtain⟨bb,off,rfl,hcs2⟩:=hcs.resolve_left (by omega)
   have e5:=hcs2 q hlt3
   have hgx:r.next.getD q 0=x:=by rw [←hx];simp [List.getD,hlt3]
   rw [hgx] at e5;have d5:=(uI.o.cell (block_lt_of_cell? _ _ e5)).trans e5;have hcl:=xX i.fb S.fl.cls x wr (sW.o.Pb.later uI.o) hxb Mi;have hgo:=IC S.fl x _ _ rfl rfl;unfold MV MX at hcl
   obtain⟨d,hd⟩:∃d,(S.fl.cls.find? (fun c=>c.flag==x)).getD xq=d:=⟨_,rfl⟩
   obtain⟨is,his⟩:∃b,(S.fl.cls.find? (fun c=>c.flag==x)).isSome=b:=⟨_,rfl⟩
   rw [hd,his] at hcl hgo;have oF:=hid hcl;have uH:=hid (sW.o.below uI.o);have z0:=uH.o.r0
   have MN:Hid (∀b,j4 S.fl x=b→(r.next.take (q+1)).all (j4 S.fl)=b):=hid (fun b hb=>by
    rw [List.take_succ_eq_append_getElem hlt3,List.all_append,FD.o,hx];simp [hb])
   have mX:Hid (j4 S.fl x=false→l9 S.fl=some r.line):=hid (fun hb=>by
    rw [←HR.o]
    refine jr.o.bad hlt2 ?_
    rw [HR.o];rw [Bool.eq_false_iff]
    intro h
    rw [List.all_eq_true] at h
    have:=h x (by rw [←hx];exact List.getElem_mem hlt3)
    rw [hb] at this;cases this)
   clear hcl e5 hcs hcs2 hd his hx hgx
   by_cases hs0:x=S.fl.s0
   ·have hb0:(x==S.fl.s0)=true:=by rw [beq_iff_eq];exact hs0
    have Gc:=hid (MN.o true (by rw [hgo,hb0];rfl))
    clear hgo hs0 mX
    go_wp2_with (first
     | (go_at_call 38;refine oF.o.mono ?_;rintro e9 w6 ⟨rfl,hb6⟩;have uJ:=hb6.alloc hb6.size (.cells #[.int .u16 d.flag,.int .i64 d.kind,.bool d.cross,.int .i64 d.first,.int .i64 d.count] 99);have kC:=hid (uH.o.below uJ);have sj:=hid (uI.o.trans (uJ.mono uI.o.size));have z7:=kC.o.r0;have s7:=kC.o.f3;clear hb6 uJ)
     | (go_at_call 46;refine (aY i.rb r.line _ _ _ (by decide) kC.o.r2).mono ?_;rintro e9 w9 ⟨⟨-,rfl⟩ | ⟨hx,-⟩,rfl⟩))
    go_roundw
    case rel=>exact⟨q+1,by omega,by go_num,sj,Gc⟩
    case measure=>simp [intOf];omega
   have hb0:(x==S.fl.s0)=false:=by rw [beq_eq_false_iff_ne];exact hs0
   rw [hb0,Bool.false_or] at hgo;clear hs0
   cases is
   ·have HE:=hid (mX.o hgo)
    clear hgo mX MN
    go_wp2_with (go_at_call 38;refine oF.o.mono ?_;rintro e9 w6 ⟨rfl,hb6⟩;have uJ:=hb6.alloc hb6.size (.cells #[.int .u16 d.flag,.int .i64 d.kind,.bool d.cross,.int .i64 d.first,.int .i64 d.count] 99);have kC:=hid (uH.o.below uJ);have sj:=hid (uI.o.trans (uJ.mono uI.o.size));have z7:=kC.o.r0;have s7:=kC.o.f3;clear hb6 uJ)
    refine (aY i.rb r.line _ _ _ (by decide) kC.o.r2).mono ?_
    rintro e9 w9 ⟨⟨hx,-⟩ | ⟨-,rfl⟩,rfl⟩
    ·exact absurd hx (by simp)
    refine⟨rfl,?_⟩
    unfold MI;rw [HE.o]
    exact⟨FY.o.trans (aZ.of_below sj.o),rfl⟩
   rw [Bool.true_and] at hgo
   by_cases hk2:d.kind=2
   ·have ek:(d.kind==2)=true:=by rw [hk2];rfl
    have Gc:=hid (MN.o true (by rw [hgo,ek]))
    clear hgo mX MN hk2
    go_wp2_with (first
     | (go_at_call 38;refine oF.o.mono ?_;rintro e9 w6 ⟨rfl,hb6⟩;have uJ:=hb6.alloc hb6.size (.cells #[.int .u16 d.flag,.int .i64 d.kind,.bool d.cross,.int .i64 d.first,.int .i64 d.count] 99);have kC:=hid (uH.o.below uJ);have sj:=hid (uI.o.trans (uJ.mono uI.o.size));have z7:=kC.o.r0;have s7:=kC.o.f3;clear hb6 uJ)
     | (go_at_call 46;refine (aY i.rb r.line _ _ _ (by decide) kC.o.r2).mono ?_;rintro e9 w9 ⟨⟨-,rfl⟩ | ⟨hx,-⟩,rfl⟩))
    go_roundw
    case rel=>exact⟨q+1,by omega,by go_num,sj,Gc⟩
    case measure=>simp [intOf];omega
   have ek:(d.kind==2)=false:=by rw [beq_eq_false_iff_ne];exact hk2
   have HE:=hid (mX.o (by rw [hgo,ek]))
   clear hgo mX MN hk2
   go_wp2_with (go_at_call 38;refine oF.o.mono ?_;rintro e9 w6 ⟨rfl,hb6⟩;have uJ:=hb6.alloc hb6.size (.cells #[.int .u16 d.flag,.int .i64 d.kind,.bool d.cross,.int .i64 d.first,.int .i64 d.count] 99);have kC:=hid (uH.o.below uJ);have sj:=hid (uI.o.trans (uJ.mono uI.o.size));have z7:=kC.o.r0;have s7:=kC.o.f3;clear hb6 uJ)
   refine (aY i.rb r.line _ _ _ (by decide) kC.o.r2).mono ?_
   rintro e9 w9 ⟨⟨hx,-⟩ | ⟨-,rfl⟩,rfl⟩
   ·exact absurd hx (by simp)
   refine⟨rfl,?_⟩
   unfold MI;rw [HE.o]
   exact⟨FY.o.trans (aZ.of_below sj.o),rfl⟩
  obtain rfl:q=r.next.length:=by omega
  have HA:Hid (r.next.all (j4 S.fl)=true):=hid (by have:=FD.o;rwa [List.take_of_length_le (Nat.le_refl _)] at this)
  go_wp2_with fail
  go_roundw
  case rel=>exact⟨m+1,_,by omega,by go_num,hid (sW.o.below uI.o),hid (FY.o.trans (aZ.of_below uI.o)),hid (jr.o.step hlt2 (by rw [HR.o];exact HA.o))⟩
  case measure=>simp [intOf];omega
 obtain rfl:m=n:=by omega
 have HE:=hid (xS.none_ (by rw [HN.o];exact jr.o))
 go_wp2_with fail
 go_end0
 unfold MI;rw [HE.o]
 exact⟨Ai.o,rfl,l,tu.o⟩
def yX:Value→Option (DataW Unit×List MemPlace)
 | .agg ⟨[.int .i64 n,.func (.func k) ⟨[]⟩ ⟨[]⟩]⟩=>some (.agg [.lit (.int .i64 n),.lit (.int .i64 (k:Nat))],[])
 | .agg ⟨[.int .i64 n,.nilFunc]⟩=>some (.agg [.lit (.int .i64 n)],[])
 | _=>none
def hdF (n:Nat):Nat:=[75,76,77,78,78,78,78,78,79,80,81,82,82].getD n 0
def Vo (n:Nat):Value:=.agg #[.int .i64 (gL n:Nat),.func (.func (hdF n)) #[] #[]]
def Uu:Value:=.agg #[.int .i64 0,.nilFunc]
def X4 (n:Nat):DataW Unit:=.agg [.lit (.int .i64 (gL n:Nat)),.lit (.int .i64 (hdF n:Nat))]
theorem OB (n:Nat):yX (Vo n)=some (X4 n,[]):=rfl
theorem QO:yX Uu=some (.agg [.lit (.int .i64 0)],[]):=rfl
theorem K3 {v:Value} {n:Nat} {ps:List MemPlace} (h:yX v=some (X4 n,ps)):v=Vo n:=by
 unfold yX X4 at h
 split at h
 ·rename_i a k
  simp at h;obtain⟨⟨h1,h2⟩,-⟩:=h;have h3:k=hdF n:=Int.ofNat.inj h2
  subst h3
  first | rfl | (subst h1;rfl)
 ·simp at h
 cases h
theorem H9 {v:Value} {ps:List MemPlace} (h:yX v=some (.agg [.lit (.int .i64 0)],ps)):v=Uu:=by
 unfold yX at h
 split at h
 ·simp at h
 ·simp at h
  obtain⟨h1,-⟩:=h
  subst h1
  rfl
 cases h
theorem E5 {s:ByteArray} {m:Nat} (hm:m < 13):uM s=uM (h_ m)↔bV s=m:=by
 rw [sV s m hm]
 constructor
 ·intro e
  injection e with e
  obtain⟨⟨a⟩⟩:=s;obtain⟨⟨b⟩,hb⟩:∃b,h_ m=⟨b⟩:=⟨_,rfl⟩;rw [hb] at e ⊢;simp at e;rw [e]
 rintro rfl;rfl
theorem K4 {m:Nat} (hm:m < 13):(h_ m).size≤maxLen:=by
 have h:∀m,m < 13→(h_ m).size≤16:=by decide
 have:=h m hm
 unfold maxLen;omega
def DI (w:World) (b m:Nat):Prop:=∃D:DataW Unit,w.ownsMap Tryz.prog 9 yX b m D∧∀s:ByteArray,Maps.has D (uM s)=decide (bV s < m)∧∀z,D.atKey (uM s) z=if bV s < m then X4 (bV s) else z
theorem DI.made (w:World):DI (w.alloc (.map #[] 0)) w.heap.size 0:=⟨_,World.ownsMap_made _ _ _ _,fun s=>⟨rfl,fun z=>rfl⟩⟩
theorem DI.keep {w w':World} {E:List Nat} {b n:Nat} (h:DI w b n) (hk:Kept E w w') (hb:b∉E):DI w' b n:=by
 obtain⟨D,⟨es,clock,hm,F,hs,hD⟩,h2⟩:=h
 exact⟨D,⟨es,clock,hk.at hm hb,F,hs,hD⟩,h2⟩
theorem DI.store {w:World} {b m:Nat} (h:DI w b m) (hm:m < 13):∃w',(Instr.mapUpdate 121 (.map (some b)) (.string (h_ m)) (Vo m)).run Tryz.prog w=.ok () w'∧DI w' b (m+1)∧Kept [b] w w':=by
 obtain⟨D,hD,h2⟩:=h
 obtain⟨w',hrun,hD',hg⟩:=hD.update jM Tryz.underlying121 (by unfold maxLen;omega) (keyOf_string_mk Tryz.underlying9 (s:=h_ m) (K4 hm)) (OB m)
 refine⟨w',hrun,⟨_,hD',fun s=>?_⟩,l5 hg⟩
 by_cases hs:bV s=m
 ·have e:=(E5 hm).2 hs
  rw [e]
  refine⟨?_,fun z=>?_⟩
  ·rw [Maps.has_put_same hD.isMap (by trivial),eq_comm,decide_eq_true_iff];omega
  rw [Maps.atKey_put_same hD.isMap (by trivial),if_pos (by omega),hs]
 have e:uM s≠uM (h_ m):=fun e=>hs ((E5 hm).1 e)
 refine⟨?_,fun z=>?_⟩
 ·rw [Maps.has_put_other e,(h2 s).1,decide_eq_decide];omega
 rw [Maps.atKey_put_other e,(h2 s).2 z]
 by_cases hl:bV s < m
 ·rw [if_pos hl,if_pos (by omega)]
 rw [if_neg hl,if_neg (by omega)]
theorem DI.look {w:World} {b:Nat} (h:DI w b 13) (s:ByteArray) (hs:s.size≤maxLen) (hz:(zeroValue 126).run Tryz.prog w=.ok Uu w) :
  (Instr.lookup 121 (.map (some b)) (.string s) true).run Tryz.prog w=.ok (.tuple #[if bV s < 13 then Vo (bV s) else Uu,.bool (decide (bV s < 13))]) w:=by
 obtain⟨D,hD,h2⟩:=h
 obtain⟨v,ps,hrun,hv⟩:=hD.look_ok jM Tryz.underlying121 hz QO (keyOf_string_mk Tryz.underlying9 hs);rw [(h2 s).2] at hv;have h1:Maps.has D (uM s)=decide (bV s < 13):=(h2 s).1;rw [hrun,h1]
 by_cases hl:bV s < 13
 ·rw [if_pos hl] at hv ⊢
  rw [K3 hv]
 rw [if_neg hl] at hv ⊢;rw [H9 hv]
theorem JV (w:World):(zeroValue 126).run Tryz.prog w=.ok Uu w:=by kernel_rfl
theorem DL (w:World):Calls Tryz.prog 44 #[] w fun e w'=>e=.returned (.map (some w.heap.size))∧DI w' w.heap.size 13∧Below w.heap.size w w':=by
 obtain⟨w1,e1,h1,k1⟩:=(DI.made w).store (m:=0) (by decide)
 obtain⟨w2,e2,h2,k2⟩:=(h1).store (m:=1) (by decide)
 obtain⟨w3,e3,h3,k3⟩:=(h2).store (m:=2) (by decide)
 obtain⟨w4,e4,h4,k4⟩:=(h3).store (m:=3) (by decide)
 obtain⟨w5,e5,h5,k5⟩:=(h4).store (m:=4) (by decide)
 obtain⟨w6,e6,h6,k6⟩:=(h5).store (m:=5) (by decide)
 obtain⟨w7,e7,h7,k7⟩:=(h6).store (m:=6) (by decide)
 obtain⟨w8,e8,h8,k8⟩:=(h7).store (m:=7) (by decide)
 obtain⟨w9,e9,h9,k9⟩:=(h8).store (m:=8) (by decide)
 obtain⟨Gi,e10,h10,k10⟩:=(h9).store (m:=9) (by decide)
 obtain⟨Fv,e11,h11,k11⟩:=(h10).store (m:=10) (by decide)
 obtain⟨zo,e12,h12,k12⟩:=(h11).store (m:=11) (by decide)
 obtain⟨V5,e13,uD,k13⟩:=(h12).store (m:=12) (by decide)
 have HK:=hid (((((((((((((k1).trans k2).trans k3).trans k4).trans k5).trans k6).trans k7).trans k8).trans k9).trans k10).trans k11).trans k12).trans k13);have H13:=hid uD;clear k1 k2 k3 k4 k5 k6 k7 k8 k9 k10 k11 k12 k13 h1 h2 h3 h4 h5 h6 h7 h8 h9 h10 h11 h12 uD;have e0:(Instr.makeMap 121 none).run Tryz.prog w=.ok (.map (some w.heap.size)) (w.alloc (.map #[] 0)):=run_makeMap _ _;have d1:(Instr.mapUpdate 121 (.map (some w.heap.size)) (.string ⟨#[70,76,65,71]⟩) (.agg #[.int .i64 2,.func (.func 75) #[] #[]])).run Tryz.prog (w.alloc (.map #[] 0))=.ok () w1:=e1;have d2:(Instr.mapUpdate 121 (.map (some w.heap.size)) (.string ⟨#[83,69,84]⟩) (.agg #[.int .i64 2,.func (.func 76) #[] #[]])).run Tryz.prog w1=.ok () w2:=e2;have d3:(Instr.mapUpdate 121 (.map (some w.heap.size)) (.string ⟨#[84,82,89]⟩) (.agg #[.int .i64 2,.func (.func 77) #[] #[]])).run Tryz.prog w2=.ok () w3:=e3;have d4:(Instr.mapUpdate 121 (.map (some w.heap.size)) (.string ⟨#[78,69,69,68,65,70,70,73,88]⟩) (.agg #[.int .i64 2,.func (.func 78) #[] #[]])).run Tryz.prog w3=.ok () w4:=e4;have d5:(Instr.mapUpdate 121 (.map (some w.heap.size)) (.string ⟨#[70,79,82,66,73,68,68,69,78,87,79,82,68]⟩) (.agg #[.int .i64 2,.func (.func 78) #[] #[]])).run Tryz.prog w4=.ok () w5:=e5;have d6:(Instr.mapUpdate 121 (.map (some w.heap.size)) (.string ⟨#[75,69,69,80,67,65,83,69]⟩) (.agg #[.int .i64 2,.func (.func 78) #[] #[]])).run Tryz.prog w5=.ok () w6:=e6;have d7:(Instr.mapUpdate 121 (.map (some w.heap.size)) (.string ⟨#[67,79,77,80,79,85,78,68,70,76,65,71]⟩) (.agg #[.int .i64 2,.func (.func 78) #[] #[]])).run Tryz.prog w6=.ok () w7:=e7;have d8:(Instr.mapUpdate 121 (.map (some w.heap.size)) (.string ⟨#[78,79,83,85,71,71,69,83,84]⟩) (.agg #[.int .i64 2,.func (.func 78) #[] #[]])).run Tryz.prog w7=.ok () w8:=e8;have d9:(Instr.mapUpdate 121 (.map (some w.heap.size)) (.string ⟨#[67,79,77,80,79,85,78,68,77,73,78]⟩) (.agg #[.int .i64 2,.func (.func 79) #[] #[]])).run Tryz.prog w8=.ok () w9:=e9;have Xr:(Instr.mapUpdate 121 (.map (some w.heap.size)) (.string ⟨#[82,69,80]⟩) (.agg #[.int .i64 2,.func (.func 80) #[] #[]])).run Tryz.prog w9=.ok () Gi:=e10;have d11:(Instr.mapUpdate 121 (.map (some w.heap.size)) (.string ⟨#[65,70]⟩) (.agg #[.int .i64 2,.func (.func 81) #[] #[]])).run Tryz.prog Gi=.ok () Fv:=e11;have Uy:(Instr.mapUpdate 121 (.map (some w.heap.size)) (.string ⟨#[80,70,88]⟩) (.agg #[.int .i64 4,.func (.func 82) #[] #[]])).run Tryz.prog Fv=.ok () zo:=e12;have d13:(Instr.mapUpdate 121 (.map (some w.heap.size)) (.string ⟨#[83,70,88]⟩) (.agg #[.int .i64 4,.func (.func 82) #[] #[]])).run Tryz.prog zo=.ok () V5:=e13;clear e1 e2 e3 e4 e5 e6 e7 e8 e9 e10 e11 e12 e13
 go_enter Tryz.func44,Tryz.ntmps44
 go_wp2_with fail
 go_ret
 refine⟨rfl,H13.o,?_⟩
 exact ((Below.refl _ _).alloc (Nat.le_refl _) _).trans (HK.o.below (by simp) (by intro x hx;simp at hx;omega))
theorem H_:(Tryz.prog.info? 60).map (·.zero)=some (some (.agg #[.int .i64 0,.int .i64 0,.int .i64 0])):=by kernel_rfl
theorem Ia (xT:TypeId) (v:Value) (w:World):(Instr.typeAssert (.iface 60 v) xT 60 true).run Tryz.prog w=.ok (.tuple #[v,.bool true]) w:=by
 simp [Instr.typeAssert,run_underlying Tryz.underlying60,go_sem,Result.andThen]
theorem E8 (xT:TypeId) (w:World):(Instr.typeAssert .nilIface xT 60 true).run Tryz.prog w=.ok (.tuple #[.agg #[.int .i64 0,.int .i64 0,.int .i64 0],.bool false]) w:=by
 obtain⟨i,hi,hz⟩:=Option.map_eq_some_iff.1 H_
 simp [Instr.typeAssert,run_underlying Tryz.underlying60,go_sem,Result.andThen,typeInfo,zeroValue,hi,hz]
theorem tY (w:World) (k:Nat):w.drew.heap[k]?=w.heap[k]?:=rfl
theorem K5 (fb eb:Nat) (x y0 y1 y2:Value) (line c:Int) (older:List PanicEntry) (w:World) (hb:w.heap[fb]?=some (.cells #[x] 57 (0,0))) (he:w.heap[eb]?=some (.cells #[y0,y1,y2] 60 (0,0))) (hne:fb≠eb) :
  CallsD Tryz.prog 43 #[.pointer (some ⟨fb,0,none⟩),.pointer (some ⟨eb,0,none⟩)] (.panicking (F5 line c::older)) w fun e u' w' =>
   e=.returned (.tuple #[])∧u'=.panicking ({ v:=.iface 60 (.agg #[.int .i64 1,.int .i64 line,.int .i64 c]),recovered:=true }::older)∧Kept [fb,eb] w w' ∧
   w'.heap[fb]?=some (.cells #[.pointer none] 57 (0,0))∧w'.heap[eb]?=some (.cells #[.int .i64 1,.int .i64 line,.int .i64 c] 60 (0,0)):=by
 have b0:w.cell? ⟨fb,0,none⟩=some x:=by rw [cell_of_heap hb];rfl
 have bf:∀i,w.frozen? ⟨fb,i,none⟩=false:=frozen_of_heap hb
 have e0:w.cell? ⟨eb,0,none⟩=some y0:=by rw [cell_of_heap he];rfl
 have e1:w.cell? ⟨eb,1,none⟩=some y1:=by rw [cell_of_heap he];rfl
 have e2:w.cell? ⟨eb,2,none⟩=some y2:=by rw [cell_of_heap he];rfl
 have ef:∀i,w.frozen? ⟨eb,i,none⟩=false:=frozen_of_heap he;have hne':=Ne.symm hne;have hbl:=block_lt hb;have hel:=block_lt he
 refine callsD_of_wpS Tryz.func43 rfl fun c₀ cs hu=>?_
 apply wpS_seq
 apply wpS_region
 simp [wpOpsS,go_sem,recoverD,hu,F5,Ia,Tryz.ntmps43,Exit.thenS]
 apply wpS_seq
 apply wpS_region
 simp [wpOpsS,go_sem,Exit.thenS]
 refine wpS_cond (t:=true) (by simp [Act.eval,Array.replicate]) ?_
 simp only [if_true]
 refine wpS_of_wp ?_
 simp only [Array.replicate,List.replicate,List.setIfInBounds_toArray,List.set_cons_zero,List.set_cons_succ,List.append_toArray]
 go_wp2_with fail
 go_region
 all_goals go_wp2_with fail
 all_goals
  refine⟨rfl,_,rfl,.tuple #[],by simp [results,Tryz.results43],rfl,rfl,?_,?_,?_⟩
  ·exact ((((((Kept.refl [fb,eb] w).set _ _ _ (.inl (by simp))).set _ _ _ (.inl (by simp))).set _ _ _ (.inl (by simp))).set _ _ _ (.inl (by simp))).alloc _).drew
  ·rw [tY,Below.heap_alloc _ _ _ (by simp [World.setCell];omega)]
   rw [heap_setCell_other _ ⟨eb,2,none⟩ fb _ hne,heap_setCell_other _ ⟨eb,1,none⟩ fb _ hne,heap_setCell_other _ ⟨eb,0,none⟩ fb _ hne]
   exact heap_setCell_same w fb 0 _ _ _ hb
  rw [tY,Below.heap_alloc _ _ _ (by simp [World.setCell];omega)]
  have h1:=heap_setCell_same _ eb 0 _ _ (Value.int .i64 1) ((heap_setCell_other w ⟨fb,0,none⟩ eb (.pointer none) hne').trans he);have h2:=heap_setCell_same _ eb 1 _ _ (Value.int .i64 line) h1
  exact heap_setCell_same _ eb 2 _ _ (Value.int .i64 c) h2
theorem K6 (fb eb:Nat) (w:World) :
  CallsD Tryz.prog 43 #[.pointer (some ⟨fb,0,none⟩),.pointer (some ⟨eb,0,none⟩)] .returning w fun e u' w'=>e=.returned (.tuple #[])∧u'=.returning∧Below w.heap.size w w':=by
 refine callsD_of_wpS Tryz.func43 rfl fun c₀ cs hu=>?_
 apply wpS_seq
 apply wpS_region
 simp [wpOpsS,go_sem,recoverD,hu,E8,Tryz.ntmps43,Exit.thenS]
 apply wpS_seq
 apply wpS_region
 simp [wpOpsS,go_sem,Exit.thenS]
 refine wpS_cond (t:=false) (by simp [Act.eval,Array.replicate]) ?_
 simp only [Bool.false_eq_true,if_false]
 refine wpS_of_wp (wp_skip ?_)
 cases c₀
 simp_all [bodyPostS,results,Tryz.results43]
 exact (Below.refl _ _).alloc (Nat.le_refl _) _
theorem qh:∀(l:List UInt8) (c:Option (List UInt8)),∀f∈lN l c,f.length≤l.length+(c.getD []).length
 | [],none,f,hf=>by simp [lN] at hf
 | [],some d,f,hf=>by simp [lN] at hf;subst hf;simp
 | b::l,none,f,hf=>by
   rw [lN] at hf
   split at hf
   ·have:=qh l none f hf;simp at this ⊢;omega
   ·have:=qh l (some [b]) f hf;simp at this ⊢;omega
 | b::l,some d,f,hf=>by
   rw [lN] at hf
   split at hf
   ·rcases List.mem_cons.1 hf with rfl | h
    ·simp
    ·have:=qh l none f h;simp at this ⊢;omega
   ·have:=qh l (some (d++[b])) f hf;simp at this ⊢;omega
theorem E9 (s:ByteArray):∀f∈aH s,f.size≤s.size:=by
 intro f hf
 unfold aH at hf;obtain⟨m,hm,rfl⟩:=List.mem_map.1 hf;rw [aG]
 have:=qh _ none m hm
 rw [ak] at this
 simpa using this
theorem Ib (s:ByteArray):(aH s).length≤s.size:=by
 unfold aH fieldsOf
 rw [List.length_map]
 have:=qj s.data.toList none
 rw [ak] at this
 simpa using this
theorem OC {n:Int} {l:ByteArray} (h:l.size≤65536):∀r∈rowOf n l,r.2≠[]∧r.2.length≤65536∧(∀f∈r.2,f.size≤65536)∧r.1=n:=by
 intro r hr
 unfold rowOf at hr
 split at hr
 ·cases hr
 rename_i hne
 simp at hr
 subst hr
 have hs:(mK (aH l)).Sublist (aH l):=List.takeWhile_sublist _
 exact⟨hne,Nat.le_trans hs.length_le (Nat.le_trans (Ib l) h),fun f hf=>Nat.le_trans (E9 l f (hs.subset hf)) h,rfl⟩
theorem vP:∀(n:Nat) (L:List (List UInt8)),∀x∈numbered n L,(n:Int)≤x.1∧x.1 < (n:Int)+L.length
 | _,[],x,hx=>by cases hx
 | n,l::L,x,hx=>by
   rcases List.mem_cons.1 hx with rfl | h
   ·rw [List.length_cons];dsimp only;omega
   ·have:=vP (n+1) L x h
    rw [List.length_cons];omega
theorem QS (l:List UInt8):∀x∈aC l,0≤x.1∧x.1≤65536:=by
 intro x hx
 have hl:=gZ l;unfold aC at hx hl
 split at hx
 ·cases hx
 rename_i h
 rw [if_neg h,iq] at hl
 have:=vP 1 _ x hx
 omega
theorem Ce (l:List UInt8):∀r∈rowsOf (aC l),r.2≠[]∧r.2.length≤65536∧(∀f∈r.2,f.size≤65536)∧0≤r.1∧r.1≤65536:=by
 intro r hr
 unfold rowsOf at hr;obtain⟨x,hx,hr⟩:=List.mem_flatMap.1 hr;obtain⟨h1,h2,h3,h4⟩:=OC (EA x.2) r hr
 have:=QS l x hx
 exact⟨h1,h2,h3,by rw [h4];exact this.1,by rw [h4];exact this.2⟩
theorem wL (l:List UInt8):(rowsOf (aC l)).length≤65536:=Nat.le_trans (nL _) (gZ l)
theorem Bd.start (l:List UInt8):Bd 0 0 ⟨wK,rowsOf (aC l),[],0⟩:=by
 have h:=wL l
 refine⟨Ce l,?_,?_,?_,?_,?_,?_,?_,?_,?_,?_,?_,?_⟩
 ·show 0+(rowsOf (aC l)).length+0≤65536;omega
 ·intro h hh;cases hh
 ·show 0+(rowsOf (aC l)).length+0≤65536;omega
 ·show 0+(rowsOf (aC l)).length+0≤65536;omega
 ·show 0+(rowsOf (aC l)).length+0≤65536;omega
 ·show 0+(rowsOf (aC l)).length+0≤65536;omega
 ·intro c hc;cases hc
 ·intro c hc;cases hc
 ·intro c hc;cases hc
 ·exact⟨show (1:Int)≤1 by decide,show (1:Int)≤3 by decide⟩
 ·intro n
  have:dX wK n=0:=by unfold dX wK;split<;>rfl
  rw [this];decide
 exact⟨show (0:Int)≤0 by decide,show (0:Int)≤65537 by decide⟩
theorem mW.made (w:World):mW (w.alloc (.map #[] 0)) w.heap.size 0 (fun _=>0):=⟨_,World.ownsMap_made _ _ _ _,fun s=>rfl⟩
theorem ow.made (w:World):ow (w.alloc (.map #[] 0)) w.heap.size 0 (fun _=>0):=⟨_,World.ownsMap_made _ _ _ _,fun s=>rfl⟩
theorem xP.made (w:World):xP (w.alloc (.map #[] 0)) w.heap.size 0 (fun _=>none):=⟨_,World.ownsMap_made _ _ _ _,fun s=>⟨rfl,rfl⟩⟩
theorem TV {F:Fl} (h:F.s0=0∧F.s1=0∧F.s2=0∧F.s3=0∧F.s4=0∧F.cls=[]):cB F=fun _=>0:=by
 funext t
 obtain⟨h0,h1,h2,h3,h4,h5⟩:=h;unfold cB
 split
 ·rfl
 rename_i ht
 have e:((0:Int)==t)=false:=by rw [beq_eq_false_iff_ne];exact Ne.symm ht
 unfold aM iF;rw [h0,h1,h2,h3,h4,h5,e]
 rfl
def Yy:Fl:=⟨0,⟨#[]⟩,⟨#[]⟩,0,0,0,0,0,0,[],[],[],[]⟩
def vR (n:Nat):Ids:=⟨n+4,n+1,n,n+2,n+3⟩
def Xj (rv:Value):Vs:=⟨rv,.slice none 0 0,.slice none 0 0,.slice none 0 0,.slice none 0 0,.slice none 0 0⟩
def rJ (n:Nat):List Nat:=[n,n+1,n+2,n+3,n+4]
def F8 (w:World) (rv:Value) (E:Int):World :=
 ((((w.alloc (.map #[] 0)).alloc (.cells #[.int .i64 0,.string ⟨#[]⟩,.string ⟨#[]⟩,.int .u16 0,.int .u16 0,.int .u16 0,.int .u16 0,.int .u16 0,.int .i64 0,.slice none 0 0,.slice none 0 0,.slice none 0 0,.slice none 0 0,.map (some w.heap.size)] 116)).alloc (.map #[] 0)).alloc (.map #[] 0)).alloc
   (.cells #[.pointer (some ⟨w.heap.size+1,0,none⟩),rv,.int .i64 0,.int .i64 E,.map (some (w.heap.size+1+1)),.map (some (w.heap.size+1+1+1)),.slice none 0 0] 119)
theorem bR.start (w:World) (rv:Value) (E:Int) (rows:List Row) (hr:gB w rv rows):bR w (F8 w rv E) (rJ w.heap.size) (vR w.heap.size) (Xj rv) E ⟨Yy,rows,[],0⟩ [] (fun _=>0) 0 (fun _=>none) 0:=by
 unfold F8
 obtain⟨w1,hw1⟩:∃W,w.alloc (.map #[] 0)=W:=⟨_,rfl⟩
 have s1:w1.heap.size=w.heap.size+1:=by rw [←hw1];simp
 obtain⟨w2,hw2⟩:∃W,w1.alloc (.cells #[.int .i64 0,.string ⟨#[]⟩,.string ⟨#[]⟩,.int .u16 0,.int .u16 0,.int .u16 0,.int .u16 0,.int .u16 0,.int .i64 0,.slice none 0 0,.slice none 0 0,.slice none 0 0,.slice none 0 0,.map (some w.heap.size)] 116)=W:=⟨_,rfl⟩
 have s2:w2.heap.size=w.heap.size+1+1:=by rw [←hw2];simp [s1]
 obtain⟨w3,hw3⟩:∃W,w2.alloc (.map #[] 0)=W:=⟨_,rfl⟩
 have s3:w3.heap.size=w.heap.size+1+1+1:=by rw [←hw3];simp [s2]
 obtain⟨w4,hw4⟩:∃W,w3.alloc (.map #[] 0)=W:=⟨_,rfl⟩
 have s4:w4.heap.size=w.heap.size+1+1+1+1:=by rw [←hw4];simp [s3]
 obtain⟨w5,Ui⟩:∃W,w4.alloc (.cells #[.pointer (some ⟨w.heap.size+1,0,none⟩),rv,.int .i64 0,.int .i64 E,.map (some (w.heap.size+1+1)),.map (some (w.heap.size+1+1+1)),.slice none 0 0] 119)=W:=⟨_,rfl⟩
 have s5:w5.heap.size=w.heap.size+1+1+1+1+1:=by rw [←Ui];simp [s4]
 rw [hw1,hw2,hw3,hw4,Ui]
 have b1:Below w.heap.size w w1:=by rw [←hw1];exact (Below.refl _ _).alloc (Nat.le_refl _) _
 have b2:Below w1.heap.size w1 w2:=by rw [←hw2];exact (Below.refl _ _).alloc (Nat.le_refl _) _
 have b3:Below w2.heap.size w2 w3:=by rw [←hw3];exact (Below.refl _ _).alloc (Nat.le_refl _) _
 have b4:Below w3.heap.size w3 w4:=by rw [←hw4];exact (Below.refl _ _).alloc (Nat.le_refl _) _
 have b5:Below w4.heap.size w4 w5:=by rw [←Ui];exact (Below.refl _ _).alloc (Nat.le_refl _) _
 have b45:Below w3.heap.size w3 w5:=b4.trans (b5.mono (by omega))
 have b35:Below w2.heap.size w2 w5:=b3.trans (b45.mono (by omega))
 have b25:Below w1.heap.size w1 w5:=b2.trans (b35.mono (by omega))
 have WY:w5.heap[w.heap.size+1]?=some (.cells #[.int .i64 0,.string ⟨#[]⟩,.string ⟨#[]⟩,.int .u16 0,.int .u16 0,.int .u16 0,.int .u16 0,.int .u16 0,.int .i64 0,.slice none 0 0,.slice none 0 0,.slice none 0 0,.slice none 0 0,.map (some w.heap.size)] 116 (0,0)):=by
  rw [b35.block _ (by omega),←hw2,←s1];exact heap_alloc_new w1 _
 have Z4:w5.heap[w.heap.size+4]?=some (.cells #[.pointer (some ⟨w.heap.size+1,0,none⟩),rv,.int .i64 0,.int .i64 E,.map (some (w.heap.size+1+1)),.map (some (w.heap.size+1+1+1)),.slice none 0 0] 119 (0,0)):=by
  rw [←Ui,show w.heap.size+4=w4.heap.size by omega];exact heap_alloc_new w4 _
 have hm1:xP w5 w.heap.size 0 (fun _=>none):=(show xP w1 w.heap.size 0 (fun _=>none) by rw [←hw1];exact xP.made w).below b25
 have hm2:mW w5 (w.heap.size+2) 0 (fun _=>0):=(show mW w3 (w.heap.size+2) 0 (fun _=>0) by rw [←hw3,show w.heap.size+2=w2.heap.size by omega];exact mW.made w2).keep (E:=[]) (Kept.of_below b45) (by simp)
 have uS:ow w5 (w.heap.size+3) 0 (fun _=>0):=(show ow w4 (w.heap.size+3) 0 (fun _=>0) by rw [←hw4,show w.heap.size+3=w3.heap.size by omega];exact ow.made w3).keep (E:=[]) (Kept.of_below b5) (by simp)
 refine⟨b1.trans (b25.mono (by omega)),?_,by simp [rJ,vR],by simp [rJ,vR],by simp [rJ,vR],by simp [rJ,vR],by simp [rJ,vR],?_,Z4,WY,hr,hm2,uS,hm1,eX.fP _ _ _ _,⟨[],eX.fP _ _ _ _,rfl,fun k u a hu=>by simp at hu⟩,eX.fP _ _ _ _,⟨[],rfl,eX.fP _ _ _ _,fun r hr=>by cases hr⟩,eX.fP _ _ _ _⟩
 ·intro x hx;simp [rJ] at hx;omega
 simp only [vR];omega
theorem RM.start {w W:World} {rv:Value} {E:Int} (l:List UInt8) (h:bR w W (rJ w.heap.size) (vR w.heap.size) (Xj rv) E ⟨wK,rowsOf (aC l),[],0⟩ [] (fun _=>0) 0 (fun _=>none) 0):RM w W (rJ w.heap.size) (vR w.heap.size) E 0 0 ⟨wK,rowsOf (aC l),[],0⟩:=by
 refine⟨Bd.start l,Xj rv,?_⟩
 show bR w W _ _ _ E _ [] (cB wK) 0 (eH []) 0
 rw [TV ⟨rfl,rfl,rfl,rfl,rfl,rfl⟩]
 exact h
end Go.Proofs.YtfkblpjfknfgbaaGreatDoor
